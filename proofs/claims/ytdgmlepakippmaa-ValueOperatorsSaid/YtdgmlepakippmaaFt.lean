/- The functions, lowered. Printed by a program (wip/tools/pl.py). -/
import Derived.Test.YtdgmlepakippmaaChecked
import Derived.Test.YtdgmlepakippmaaAx4
namespace Go.Proofs.Ytdgmlepakippmaa
open Go Go.Ax
set_option maxRecDepth 100000

/-- assessor_assessorref08.Few -/
def L24 : LFn := ⟨20, [(.tmp 2)], (.seq (.ops [⟨(some 2), none, (.mv (.c (.v (.bool false))))⟩])
    (.seq (.seq (.ops [⟨(some 3), none, (.mv (.c (.v (.int .i64 0))))⟩])
    (.block 0 (.loop (.seq (.seq (.ops [⟨(some 4), none, (.mv (.t 3))⟩,
      ⟨(some 5), none, (.mv (.t 0))⟩,
      ⟨(some 6), none, (.len .slc (.t 5))⟩,
      ⟨(some 7), none, (.bin .int .lss (.t 4) (.t 6))⟩])
    (.cond (.t 7)
    .skip
    (.exit 0)))
    (.seq (.block 1 (.seq (.ops [⟨(some 10), none, (.mv (.t 0))⟩,
      ⟨(some 11), none, (.mv (.t 3))⟩,
      ⟨(some 12), none, (.iaddr 2 (.t 10) (.t 11))⟩,
      ⟨(some 13), none, (.faddr 1 (.t 12))⟩,
      ⟨(some 14), none, (.load false 1 (.t 13))⟩,
      ⟨(some 15), none, (.len .slc (.t 14))⟩,
      ⟨(some 16), none, (.bin .int .gtr (.t 15) (.c (.v (.int .i64 20))))⟩])
    (.cond (.t 16)
    (.seq (.ops [⟨(some 2), none, (.mv (.c (.v (.bool false))))⟩])
    .ret)
    .skip)))
    (.ops [⟨(some 8), none, (.mv (.t 3))⟩,
      ⟨(some 9), none, (.bin .int .add (.t 8) (.c (.v (.int .i64 1))))⟩,
      ⟨(some 3), none, (.mv (.t 9))⟩]))))))
    (.seq (.ops [⟨(some 17), none, (.mv (.t 0))⟩,
      ⟨(some 18), none, (.len .slc (.t 17))⟩,
      ⟨(some 19), none, (.bin .int .leq (.t 18) (.c (.v (.int .i64 20))))⟩,
      ⟨(some 2), none, (.mv (.t 19))⟩])
    .ret)))⟩
theorem L24_ok : lowFn Try.prog Try.f24 [] = some L24 := by kernel_rfl

/-- assessor_types.Valid -/
def L44 : LFn := ⟨22, [(.tmp 4)], (.seq (.ops [⟨(some 2), none, (.box false (.t 0))⟩,
      ⟨(some 4), none, (.mv (.c (.v (.bool false))))⟩])
    (.seq (.draw [⟨(some 8), none, (.call (.c (.fn (.func 76) [] [])) [])⟩,
      ⟨(some 9), none, (.faddr 0 (.t 2))⟩,
      ⟨(some 10), none, (.load false 1 (.t 9))⟩,
      ⟨(some 11), none, (.look .int (.agg [(.v .nilFunc), (.v .nilFunc)]) true (.t 8) (.t 10))⟩,
      ⟨(some 7), none, (.mv (.t 11))⟩,
      ⟨(some 12), none, (.ext (.t 7) 0)⟩,
      ⟨(some 13), none, (.ext (.t 7) 1)⟩] [⟨(some 5), none, (.alloc [(.v .nilFunc), (.v .nilFunc)])⟩,
      ⟨none, none, (.store 2 (.t 5) (.t 12))⟩,
      ⟨(some 6), none, (.mv (.t 13))⟩])
    (.seq (.ops [⟨(some 14), none, (.mv (.t 6))⟩,
      ⟨(some 15), none, (.mv (.t 14))⟩,
      ⟨(some 16), (some (15, true)), (.faddr 0 (.t 5))⟩,
      ⟨(some 17), (some (15, true)), (.load false 1 (.t 16))⟩,
      ⟨(some 18), (some (15, true)), (.load true 3 (.t 2))⟩,
      ⟨(some 19), (some (15, true)), (.mv (.t 1))⟩,
      ⟨(some 20), (some (15, true)), (.call (.t 17) [(.t 18), (.t 19)])⟩,
      ⟨(some 21), none, (.pick (.t 15) (.t 20) (.c (.v (.bool false))))⟩,
      ⟨(some 4), none, (.mv (.t 21))⟩])
    .ret)))⟩
theorem L44_ok : lowFn Try.prog Try.f44 [⟨1, 7, .tail⟩] = some L44 := by kernel_rfl

/-- assessor_types.Scalars -/
def L45 : LFn := ⟨30, [(.tmp 4)], (.seq (.ops [⟨(some 4), none, (.mv (.c (.v (.slice none 0 0))))⟩])
    (.seq (.ops [⟨(some 5), none, (.mv (.c (.v (.slice none 0 0))))⟩,
      ⟨(some 5), none, (.own 3 (.t 5))⟩])
    (.seq (.seq (.ops [⟨(some 8), none, (.mv (.t 1))⟩,
      ⟨(some 9), none, (.len .slc (.t 8))⟩,
      ⟨(some 10), none, (.mv (.c (.v (.int .i64 0))))⟩])
    (.block 0 (.loop (.seq (.ops [⟨(some 11), none, (.bin .int .lss (.t 10) (.t 9))⟩])
    (.seq (.cond (.t 11)
    .skip
    (.exit 0))
    (.seq (.block 1 (.seq (.ops [⟨(some 12), none, (.iaddr 3 (.t 8) (.t 10))⟩,
      ⟨(some 13), none, (.load true 3 (.t 12))⟩,
      ⟨(some 7), none, (.alloc [(.v (.int .i64 0)), (.v (.int .i64 0)), (.v (.string (mkS [])))])⟩,
      ⟨none, none, (.store 3 (.t 7) (.t 13))⟩])
    (.seq (.seq (.ops [⟨(some 14), none, (.load true 3 (.t 7))⟩,
      ⟨(some 15), none, (.mv (.t 0))⟩,
      ⟨(some 16), none, (.call (.c (.fn (.func 44) [] [])) [(.t 14), (.t 15)])⟩,
      ⟨(some 17), none, (.not (.t 16))⟩])
    (.cond (.t 17)
    (.seq (.ops [⟨(some 4), none, (.mv (.c (.v (.slice none 0 0))))⟩])
    .ret)
    .skip))
    (.draw [⟨(some 18), none, (.mv (.t 5))⟩,
      ⟨(some 19), none, (.call (.c (.fn (.func 76) [] [])) [])⟩,
      ⟨(some 20), none, (.faddr 0 (.t 7))⟩,
      ⟨(some 21), none, (.load false 1 (.t 20))⟩,
      ⟨(some 22), none, (.look .int (.agg [(.v .nilFunc), (.v .nilFunc)]) false (.t 19) (.t 21))⟩,
      ⟨(some 23), none, (.fld false 1 1 (.t 22))⟩,
      ⟨(some 24), none, (.load true 3 (.t 7))⟩,
      ⟨(some 25), none, (.mv (.t 0))⟩,
      ⟨(some 26), none, (.call (.t 23) [(.t 24), (.t 25)])⟩] [⟨(some 27), none, (.append 3 32 (.t 18) (.t 26))⟩,
      ⟨(some 5), none, (.mv (.t 27))⟩]))))
    (.ops [⟨(some 28), none, (.bin .int .add (.t 10) (.c (.v (.int .i64 1))))⟩,
      ⟨(some 10), none, (.mv (.t 28))⟩])))))))
    (.seq (.ops [⟨(some 29), none, (.mv (.t 5))⟩,
      ⟨(some 4), none, (.mv (.t 29))⟩,
      ⟨(some 4), none, (.frz (.t 4))⟩])
    .ret))))⟩
theorem L45_ok : lowFn Try.prog Try.f45 [⟨9, 2, (.pre 4 (.frz (.t 4)))⟩, ⟨1, 1, (.pre 5 (.own 3 (.t 5)))⟩, ⟨7, 9, .tail⟩] = some L45 := by kernel_rfl

/-- assessor_types.shapes -/
def L76 : LFn := ⟨13, [(.tmp 0)], (.seq (.ops [⟨(some 0), none, (.mv (.c (.v (.map none))))⟩])
    (.seq (.ops [⟨(some 1), none, (.mv (.c (.fn (.func 90) [] [])))⟩])
    (.seq (.ops [⟨(some 2), none, (.mv (.c (.fn (.func 91) [] [])))⟩])
    (.seq (.ops [⟨(some 3), none, .mkmap⟩,
      ⟨(some 4), none, (.mv (.t 1))⟩,
      ⟨(some 5), none, (.mv (.t 2))⟩,
      ⟨(some 6), none, (.build [(.v .nilFunc), (.v .nilFunc)] [(0, (1, (.t 4))), (1, (1, (.t 5)))])⟩,
      ⟨none, none, (.ins .int (.t 3) (.c (.v (.int .i64 1))) (.t 6))⟩,
      ⟨(some 7), none, (.mv (.t 1))⟩,
      ⟨(some 8), none, (.mv (.t 2))⟩,
      ⟨(some 9), none, (.build [(.v .nilFunc), (.v .nilFunc)] [(0, (1, (.t 7))), (1, (1, (.t 8)))])⟩,
      ⟨none, none, (.ins .int (.t 3) (.c (.v (.int .i64 2))) (.t 9))⟩,
      ⟨(some 10), none, (.build [(.v .nilFunc), (.v .nilFunc)] [(0, (1, (.c (.fn (.func 92) [] [])))), (1, (1, (.c (.fn (.func 93) [] []))))])⟩,
      ⟨none, none, (.ins .int (.t 3) (.c (.v (.int .i64 3))) (.t 10))⟩,
      ⟨(some 11), none, (.build [(.v .nilFunc), (.v .nilFunc)] [(0, (1, (.c (.fn (.func 95) [] [])))), (1, (1, (.c (.fn (.func 97) [] []))))])⟩,
      ⟨none, none, (.ins .int (.t 3) (.c (.v (.int .i64 4))) (.t 11))⟩,
      ⟨(some 12), none, (.mv (.t 3))⟩,
      ⟨(some 0), none, (.mv (.t 12))⟩,
      ⟨(some 0), none, (.frz (.t 0))⟩])
    .ret))))⟩
theorem L76_ok : lowFn Try.prog Try.f76 [⟨3, 15, (.pre 0 (.frz (.t 0)))⟩] = some L76 := by kernel_rfl

/-- assessor_types.shapes$1 -/
def L90 : LFn := ⟨13, [(.tmp 4)], (.seq (.ops [⟨(some 2), none, (.box false (.t 0))⟩,
      ⟨(some 4), none, (.mv (.c (.v (.bool false))))⟩])
    (.seq (.ops [⟨(some 5), none, (.faddr 1 (.t 2))⟩,
      ⟨(some 6), none, (.load false 1 (.t 5))⟩,
      ⟨(some 7), none, (.bin .int .eql (.t 6) (.c (.v (.int .i64 0))))⟩,
      ⟨(some 8), none, (.mv (.t 7))⟩,
      ⟨(some 9), (some (8, true)), (.faddr 2 (.t 2))⟩,
      ⟨(some 10), (some (8, true)), (.load false 1 (.t 9))⟩,
      ⟨(some 11), (some (8, true)), (.bin .str .eql (.t 10) (.c (.v (.string (mkS [])))))⟩,
      ⟨(some 12), none, (.pick (.t 8) (.t 11) (.c (.v (.bool false))))⟩,
      ⟨(some 4), none, (.mv (.t 12))⟩])
    .ret))⟩
theorem L90_ok : lowFn Try.prog Try.f90 [] = some L90 := by kernel_rfl

/-- assessor_types.shapes$2 -/
def L91 : LFn := ⟨9, [(.tmp 4)], (.seq (.ops [⟨(some 2), none, (.box false (.t 0))⟩,
      ⟨(some 4), none, (.mv (.c (.v (.slice none 0 0))))⟩])
    (.seq (.ops [⟨(some 5), none, (.faddr 0 (.t 2))⟩,
      ⟨(some 6), none, (.load false 1 (.t 5))⟩,
      ⟨(some 7), none, (.build [(.v (.int .i64 0)), (.v (.int .i64 0)), (.v (.string (mkS [])))] [(0, (1, (.t 6)))])⟩,
      ⟨(some 8), none, (.bsl false 3 1 [(.v (.int .i64 0)), (.v (.int .i64 0)), (.v (.string (mkS [])))] [(0, (.t 7))])⟩,
      ⟨(some 4), none, (.mv (.t 8))⟩,
      ⟨(some 4), none, (.frz (.t 4))⟩])
    .ret))⟩
theorem L91_ok : lowFn Try.prog Try.f91 [⟨1, 5, (.pre 4 (.frz (.t 4)))⟩] = some L91 := by kernel_rfl

/-- assessor_types.shapes$3 -/
def L92 : LFn := ⟨18, [(.tmp 4)], (.seq (.ops [⟨(some 2), none, (.box false (.t 0))⟩,
      ⟨(some 4), none, (.mv (.c (.v (.bool false))))⟩])
    (.seq (.ops [⟨(some 5), none, (.faddr 1 (.t 2))⟩,
      ⟨(some 6), none, (.load false 1 (.t 5))⟩,
      ⟨(some 7), none, (.bin .int .geq (.t 6) (.c (.v (.int .i64 1))))⟩,
      ⟨(some 8), none, (.mv (.t 7))⟩,
      ⟨(some 9), (some (8, true)), (.faddr 1 (.t 2))⟩,
      ⟨(some 10), (some (8, true)), (.load false 1 (.t 9))⟩,
      ⟨(some 11), (some (8, true)), (.bin .int .leq (.t 10) (.c (.v (.int .i64 8))))⟩,
      ⟨(some 12), none, (.pick (.t 8) (.t 11) (.c (.v (.bool false))))⟩,
      ⟨(some 13), none, (.mv (.t 12))⟩,
      ⟨(some 14), (some (13, true)), (.faddr 2 (.t 2))⟩,
      ⟨(some 15), (some (13, true)), (.load false 1 (.t 14))⟩,
      ⟨(some 16), (some (13, true)), (.bin .str .eql (.t 15) (.c (.v (.string (mkS [])))))⟩,
      ⟨(some 17), none, (.pick (.t 13) (.t 16) (.c (.v (.bool false))))⟩,
      ⟨(some 4), none, (.mv (.t 17))⟩])
    .ret))⟩
theorem L92_ok : lowFn Try.prog Try.f92 [] = some L92 := by kernel_rfl

/-- assessor_types.shapes$4 -/
def L93 : LFn := ⟨10, [(.tmp 4)], (.seq (.ops [⟨(some 2), none, (.box false (.t 0))⟩,
      ⟨(some 4), none, (.mv (.c (.v (.slice none 0 0))))⟩])
    (.seq (.ops [⟨(some 5), none, (.build [(.v (.int .i64 0)), (.v (.int .i64 0)), (.v (.string (mkS [])))] [(0, (1, (.c (.v (.int .i64 1)))))])⟩,
      ⟨(some 6), none, (.bsl true 3 1 [(.v (.int .i64 0)), (.v (.int .i64 0)), (.v (.string (mkS [])))] [(0, (.t 5))])⟩,
      ⟨(some 7), none, (.faddr 1 (.t 2))⟩,
      ⟨(some 8), none, (.load false 1 (.t 7))⟩,
      ⟨(some 9), none, (.call (.c (.fn (.func 94) [] [])) [(.t 6), (.t 8)])⟩,
      ⟨(some 4), none, (.mv (.t 9))⟩,
      ⟨(some 4), none, (.frz (.t 4))⟩])
    .ret))⟩
theorem L93_ok : lowFn Try.prog Try.f93 [⟨1, 1, .imm⟩, ⟨1, 6, (.pre 4 (.frz (.t 4)))⟩] = some L93 := by kernel_rfl

/-- slices.Repeat___assessor_api.Type_assessor_api.Type_ -/
def L94 : LFn := ⟨48, [(.tmp 4)], (.seq (.ops [⟨(some 4), none, (.mv (.c (.v (.slice none 0 0))))⟩])
    (.seq (.seq (.ops [⟨(some 9), none, (.mv (.t 1))⟩,
      ⟨(some 10), none, (.bin .int .lss (.t 9) (.c (.v (.int .i64 0))))⟩])
    (.cond (.t 10)
    (.ops [⟨(some 11), none, .bad⟩,
      ⟨none, none, .bad⟩])
    .skip))
    (.seq (.ops [⟨(some 13), none, (.mv (.t 0))⟩,
      ⟨(some 14), none, (.len .slc (.t 13))⟩,
      ⟨(some 15), none, (.conv (.toInt .u64) (.t 14))⟩,
      ⟨(some 16), none, (.mv (.t 1))⟩,
      ⟨(some 17), none, (.conv (.toInt .u64) (.t 16))⟩,
      ⟨(some 18), none, (.call (.c (.fn (.func 111) [] [])) [(.t 15), (.t 17)])⟩,
      ⟨(some 12), none, (.mv (.t 18))⟩,
      ⟨(some 19), none, (.ext (.t 12) 0)⟩,
      ⟨(some 20), none, (.ext (.t 12) 1)⟩,
      ⟨(some 5), none, (.mv (.t 19))⟩,
      ⟨(some 6), none, (.mv (.t 20))⟩])
    (.seq (.seq (.ops [⟨(some 21), none, (.mv (.t 5))⟩,
      ⟨(some 22), none, (.bin .int .gtr (.t 21) (.c (.v (.int .u64 0))))⟩,
      ⟨(some 23), none, (.mv (.t 22))⟩,
      ⟨(some 24), (some (23, false)), (.mv (.t 6))⟩,
      ⟨(some 25), (some (23, false)), (.bin .int .gtr (.t 24) (.c (.v (.int .u64 9223372036854775807))))⟩,
      ⟨(some 26), none, (.pick (.t 23) (.c (.v (.bool true))) (.t 25))⟩])
    (.cond (.t 26)
    (.ops [⟨(some 27), none, .bad⟩,
      ⟨none, none, .bad⟩])
    .skip))
    (.seq (.ops [⟨(some 28), none, (.mv (.t 6))⟩,
      ⟨(some 29), none, (.conv (.toInt .i64) (.t 28))⟩,
      ⟨(some 30), none, (.msl 3 32 [(.v (.int .i64 0)), (.v (.int .i64 0)), (.v (.string (mkS [])))] (.t 29) (.t 29))⟩,
      ⟨(some 7), none, (.mv (.t 30))⟩])
    (.seq (.ops [⟨(some 31), none, (.mv (.t 7))⟩,
      ⟨(some 32), none, (.mv (.t 0))⟩,
      ⟨(some 33), none, (.copy 3 (.t 31) (.t 32))⟩,
      ⟨(some 8), none, (.mv (.t 33))⟩])
    (.seq (.block 0 (.loop (.seq (.seq (.ops [⟨(some 34), none, (.mv (.t 8))⟩,
      ⟨(some 35), none, (.mv (.t 7))⟩,
      ⟨(some 36), none, (.len .slc (.t 35))⟩,
      ⟨(some 37), none, (.bin .int .lss (.t 34) (.t 36))⟩])
    (.cond (.t 37)
    .skip
    (.exit 0)))
    (.block 1 (.draw [⟨(some 38), none, (.mv (.t 8))⟩,
      ⟨(some 39), none, (.mv (.t 7))⟩,
      ⟨(some 40), none, (.mv (.t 8))⟩,
      ⟨(some 41), none, (.slice .slc 3 (.t 39) (some (.t 40)) none)⟩,
      ⟨(some 42), none, (.mv (.t 7))⟩,
      ⟨(some 43), none, (.mv (.t 8))⟩,
      ⟨(some 44), none, (.slice .slc 3 (.t 42) none (some (.t 43)))⟩] [⟨(some 45), none, (.copy 3 (.t 41) (.t 44))⟩,
      ⟨(some 46), none, (.bin .int .add (.t 38) (.t 45))⟩,
      ⟨(some 8), none, (.mv (.t 46))⟩])))))
    (.seq (.ops [⟨(some 47), none, (.mv (.t 7))⟩,
      ⟨(some 4), none, (.mv (.t 47))⟩,
      ⟨(some 4), none, (.frz (.t 4))⟩])
    .ret))))))))⟩
theorem L94_ok : lowFn Try.prog Try.f94 [⟨10, 2, (.pre 4 (.frz (.t 4)))⟩, ⟨9, 7, .tail⟩] = some L94 := by kernel_rfl

/-- assessor_types.shapes$5 -/
def L95 : LFn := ⟨20, [(.tmp 4)], (.seq (.ops [⟨(some 2), none, (.box false (.t 0))⟩,
      ⟨(some 4), none, (.mv (.c (.v (.bool false))))⟩])
    (.seq (.ops [⟨(some 8), none, (.mv (.t 1))⟩,
      ⟨(some 9), none, (.faddr 2 (.t 2))⟩,
      ⟨(some 10), none, (.load false 1 (.t 9))⟩,
      ⟨(some 11), none, (.call (.c (.fn (.func 96) [] [])) [(.t 8), (.t 10)])⟩,
      ⟨(some 7), none, (.mv (.t 11))⟩,
      ⟨(some 12), none, (.ext (.t 7) 0)⟩,
      ⟨(some 13), none, (.ext (.t 7) 1)⟩,
      ⟨(some 5), none, (.alloc [(.v (.string (mkS []))), (.v (.slice none 0 0))])⟩,
      ⟨none, none, (.store 2 (.t 5) (.t 12))⟩,
      ⟨(some 6), none, (.mv (.t 13))⟩])
    (.seq (.ops [⟨(some 14), none, (.faddr 1 (.t 2))⟩,
      ⟨(some 15), none, (.load false 1 (.t 14))⟩,
      ⟨(some 16), none, (.bin .int .eql (.t 15) (.c (.v (.int .i64 0))))⟩,
      ⟨(some 17), none, (.mv (.t 16))⟩,
      ⟨(some 18), (some (17, true)), (.mv (.t 6))⟩,
      ⟨(some 19), none, (.pick (.t 17) (.t 18) (.c (.v (.bool false))))⟩,
      ⟨(some 4), none, (.mv (.t 19))⟩])
    .ret)))⟩
theorem L95_ok : lowFn Try.prog Try.f95 [] = some L95 := by kernel_rfl

/-- assessor_types.record -/
def L96 : LFn := ⟨17, [(.cell 4 true 2), (.tmp 5)], (.seq (.ops [⟨(some 3), none, (.box false (.t 1))⟩,
      ⟨(some 4), none, (.alloc [(.v (.string (mkS []))), (.v (.slice none 0 0))])⟩,
      ⟨(some 5), none, (.mv (.c (.v (.bool false))))⟩])
    (.seq (.ops [⟨(some 7), none, (.mv (.t 0))⟩,
      ⟨(some 8), none, (.mkfn (.func 113) [] [(.t 3)])⟩,
      ⟨(some 9), none, (.call (.c (.fn (.func 112) [] [])) [(.t 7), (.t 8)])⟩,
      ⟨(some 6), none, (.mv (.t 9))⟩])
    (.seq (.seq (.ops [⟨(some 10), none, (.mv (.t 6))⟩,
      ⟨(some 11), none, (.bin .int .lss (.t 10) (.c (.v (.int .i64 0))))⟩])
    (.cond (.t 11)
    (.seq (.ops [⟨(some 12), none, (.build [(.v (.string (mkS []))), (.v (.slice none 0 0))] [])⟩,
      ⟨none, none, (.store 2 (.t 4) (.t 12))⟩,
      ⟨(some 5), none, (.mv (.c (.v (.bool false))))⟩])
    .ret)
    .skip))
    (.seq (.ops [⟨(some 13), none, (.mv (.t 0))⟩,
      ⟨(some 14), none, (.mv (.t 6))⟩,
      ⟨(some 15), none, (.iaddr 2 (.t 13) (.t 14))⟩,
      ⟨(some 16), none, (.load true 2 (.t 15))⟩,
      ⟨none, none, (.store 2 (.t 4) (.t 16))⟩,
      ⟨(some 5), none, (.mv (.c (.v (.bool true))))⟩])
    .ret))))⟩
theorem L96_ok : lowFn Try.prog Try.f96 [] = some L96 := by kernel_rfl

/-- assessor_types.shapes$6 -/
def L97 : LFn := ⟨32, [(.tmp 4)], (.seq (.ops [⟨(some 2), none, (.box false (.t 0))⟩,
      ⟨(some 4), none, (.mv (.c (.v (.slice none 0 0))))⟩])
    (.seq (.ops [⟨(some 5), none, (.mv (.c (.v (.slice none 0 0))))⟩,
      ⟨(some 5), none, (.own 3 (.t 5))⟩])
    (.seq (.ops [⟨(some 11), none, (.mv (.t 1))⟩,
      ⟨(some 12), none, (.faddr 2 (.t 2))⟩,
      ⟨(some 13), none, (.load false 1 (.t 12))⟩,
      ⟨(some 14), none, (.call (.c (.fn (.func 96) [] [])) [(.t 11), (.t 13)])⟩,
      ⟨(some 10), none, (.mv (.t 14))⟩,
      ⟨(some 15), none, (.ext (.t 10) 0)⟩,
      ⟨(some 16), none, (.ext (.t 10) 1)⟩,
      ⟨(some 6), none, (.alloc [(.v (.string (mkS []))), (.v (.slice none 0 0))])⟩,
      ⟨none, none, (.store 2 (.t 6) (.t 15))⟩,
      ⟨(some 7), none, (.mv (.t 16))⟩])
    (.seq (.seq (.ops [⟨(some 17), none, (.faddr 1 (.t 6))⟩,
      ⟨(some 18), none, (.load false 1 (.t 17))⟩,
      ⟨(some 19), none, (.len .slc (.t 18))⟩,
      ⟨(some 20), none, (.mv (.c (.v (.int .i64 0))))⟩])
    (.block 0 (.loop (.seq (.ops [⟨(some 21), none, (.bin .int .lss (.t 20) (.t 19))⟩])
    (.seq (.cond (.t 21)
    .skip
    (.exit 0))
    (.seq (.block 1 (.seq (.ops [⟨(some 22), none, (.iaddr 4 (.t 18) (.t 20))⟩,
      ⟨(some 23), none, (.load true 4 (.t 22))⟩,
      ⟨(some 9), none, (.alloc [(.v (.string (mkS []))), (.v (.int .i64 0)), (.v (.int .i64 0)), (.v (.string (mkS [])))])⟩,
      ⟨none, none, (.store 4 (.t 9) (.t 23))⟩])
    (.ops [⟨(some 24), none, (.mv (.t 5))⟩,
      ⟨(some 25), none, (.faddr 1 (.t 9))⟩,
      ⟨(some 26), none, (.load true 3 (.t 25))⟩,
      ⟨(some 27), none, (.call (.c (.fn (.func 98) [] [])) [(.t 26)])⟩,
      ⟨(some 28), none, (.bsl true 3 1 [(.v (.int .i64 0)), (.v (.int .i64 0)), (.v (.string (mkS [])))] [(0, (.t 27))])⟩,
      ⟨(some 29), none, (.append 3 32 (.t 24) (.t 28))⟩,
      ⟨(some 5), none, (.mv (.t 29))⟩])))
    (.ops [⟨(some 30), none, (.bin .int .add (.t 20) (.c (.v (.int .i64 1))))⟩,
      ⟨(some 20), none, (.mv (.t 30))⟩])))))))
    (.seq (.ops [⟨(some 31), none, (.mv (.t 5))⟩,
      ⟨(some 4), none, (.mv (.t 31))⟩,
      ⟨(some 4), none, (.frz (.t 4))⟩])
    .ret)))))⟩
theorem L97_ok : lowFn Try.prog Try.f97 [⟨6, 4, .imm⟩, ⟨8, 2, (.pre 4 (.frz (.t 4)))⟩, ⟨1, 1, (.pre 5 (.own 3 (.t 5)))⟩] = some L97 := by kernel_rfl

/-- assessor_types.scalar -/
def L98 : LFn := ⟨8, [(.cell 2 true 3)], (.seq (.ops [⟨(some 1), none, (.box false (.t 0))⟩,
      ⟨(some 2), none, (.alloc [(.v (.int .i64 0)), (.v (.int .i64 0)), (.v (.string (mkS [])))])⟩])
    (.seq (.seq (.ops [⟨(some 3), none, (.faddr 0 (.t 1))⟩,
      ⟨(some 4), none, (.load false 1 (.t 3))⟩,
      ⟨(some 5), none, (.bin .int .eql (.t 4) (.c (.v (.int .i64 2))))⟩])
    (.cond (.t 5)
    (.seq (.ops [⟨(some 6), none, (.build [(.v (.int .i64 0)), (.v (.int .i64 0)), (.v (.string (mkS [])))] [(0, (1, (.c (.v (.int .i64 2)))))])⟩,
      ⟨none, none, (.store 3 (.t 2) (.t 6))⟩])
    .ret)
    .skip))
    (.seq (.ops [⟨(some 7), none, (.build [(.v (.int .i64 0)), (.v (.int .i64 0)), (.v (.string (mkS [])))] [(0, (1, (.c (.v (.int .i64 1)))))])⟩,
      ⟨none, none, (.store 3 (.t 2) (.t 7))⟩])
    .ret)))⟩
theorem L98_ok : lowFn Try.prog Try.f98 [] = some L98 := by kernel_rfl

/-- math_bits.Mul -/
def L111 : LFn := ⟨30, [(.tmp 4), (.tmp 5)], (.seq (.ops [⟨(some 4), none, (.mv (.c (.v (.int .u64 0))))⟩,
      ⟨(some 5), none, (.mv (.c (.v (.int .u64 0))))⟩])
    (.seq (.cond (.c (.v (.bool false)))
    (.seq (.ops [⟨(some 11), none, (.mv (.t 0))⟩,
      ⟨(some 12), none, (.conv (.toInt .u32) (.t 11))⟩,
      ⟨(some 13), none, (.mv (.t 1))⟩,
      ⟨(some 14), none, (.conv (.toInt .u32) (.t 13))⟩,
      ⟨(some 15), none, (.call (.c (.fn (.func 117) [] [])) [(.t 12), (.t 14)])⟩,
      ⟨(some 10), none, (.mv (.t 15))⟩,
      ⟨(some 16), none, (.ext (.t 10) 0)⟩,
      ⟨(some 17), none, (.ext (.t 10) 1)⟩,
      ⟨(some 6), none, (.mv (.t 16))⟩,
      ⟨(some 7), none, (.mv (.t 17))⟩])
    (.seq (.ops [⟨(some 18), none, (.mv (.t 6))⟩,
      ⟨(some 19), none, (.conv (.toInt .u64) (.t 18))⟩,
      ⟨(some 20), none, (.mv (.t 7))⟩,
      ⟨(some 21), none, (.conv (.toInt .u64) (.t 20))⟩,
      ⟨(some 4), none, (.mv (.t 19))⟩,
      ⟨(some 5), none, (.mv (.t 21))⟩])
    .ret))
    .skip)
    (.seq (.ops [⟨(some 23), none, (.mv (.t 0))⟩,
      ⟨(some 24), none, (.mv (.t 1))⟩,
      ⟨(some 25), none, (.call (.c (.fn (.func 118) [] [])) [(.t 23), (.t 24)])⟩,
      ⟨(some 22), none, (.mv (.t 25))⟩,
      ⟨(some 26), none, (.ext (.t 22) 0)⟩,
      ⟨(some 27), none, (.ext (.t 22) 1)⟩,
      ⟨(some 8), none, (.mv (.t 26))⟩,
      ⟨(some 9), none, (.mv (.t 27))⟩])
    (.seq (.ops [⟨(some 28), none, (.mv (.t 8))⟩,
      ⟨(some 29), none, (.mv (.t 9))⟩,
      ⟨(some 4), none, (.mv (.t 28))⟩,
      ⟨(some 5), none, (.mv (.t 29))⟩])
    .ret))))⟩
theorem L111_ok : lowFn Try.prog Try.f111 [] = some L111 := by kernel_rfl

/-- slices.IndexFunc___assessor_api.Record_assessor_api.Record_ -/
def L112 : LFn := ⟨19, [(.tmp 4)], (.seq (.ops [⟨(some 4), none, (.mv (.c (.v (.int .i64 0))))⟩])
    (.seq (.seq (.ops [⟨(some 6), none, (.mv (.t 0))⟩,
      ⟨(some 7), none, (.len .slc (.t 6))⟩,
      ⟨(some 8), none, (.mv (.c (.v (.int .i64 0))))⟩])
    (.block 0 (.loop (.seq (.ops [⟨(some 9), none, (.bin .int .lss (.t 8) (.t 7))⟩])
    (.seq (.cond (.t 9)
    .skip
    (.exit 0))
    (.seq (.block 1 (.seq (.ops [⟨(some 10), none, (.mv (.t 8))⟩,
      ⟨(some 5), none, (.mv (.t 10))⟩])
    (.seq (.ops [⟨(some 11), none, (.mv (.t 1))⟩,
      ⟨(some 12), none, (.mv (.t 0))⟩,
      ⟨(some 13), none, (.mv (.t 5))⟩,
      ⟨(some 14), none, (.iaddr 2 (.t 12) (.t 13))⟩,
      ⟨(some 15), none, (.load true 2 (.t 14))⟩,
      ⟨(some 16), none, (.call (.t 11) [(.t 15)])⟩])
    (.cond (.t 16)
    (.seq (.ops [⟨(some 17), none, (.mv (.t 5))⟩,
      ⟨(some 4), none, (.mv (.t 17))⟩])
    .ret)
    .skip))))
    (.ops [⟨(some 18), none, (.bin .int .add (.t 8) (.c (.v (.int .i64 1))))⟩,
      ⟨(some 8), none, (.mv (.t 18))⟩])))))))
    (.seq (.ops [⟨(some 4), none, (.mv (.c (.v (.int .i64 (-1)))))⟩])
    .ret)))⟩
theorem L112_ok : lowFn Try.prog Try.f112 [] = some L112 := by kernel_rfl

/-- assessor_types.record$1 -/
def L113 : LFn := ⟨8, [(.tmp 3)], (.seq (.ops [⟨(some 2), none, (.box false (.t 0))⟩,
      ⟨(some 3), none, (.mv (.c (.v (.bool false))))⟩])
    (.seq (.ops [⟨(some 4), none, (.faddr 0 (.t 2))⟩,
      ⟨(some 5), none, (.load false 1 (.t 4))⟩,
      ⟨(some 6), none, (.load false 1 (.t 1))⟩,
      ⟨(some 7), none, (.bin .str .eql (.t 5) (.t 6))⟩,
      ⟨(some 3), none, (.mv (.t 7))⟩])
    .ret))⟩
theorem L113_ok : lowFn Try.prog Try.f113 [] = some L113 := by kernel_rfl

/-- math_bits.Mul32 -/
def L117 : LFn := ⟨17, [(.tmp 4), (.tmp 5)], (.seq (.ops [⟨(some 4), none, (.mv (.c (.v (.int .u32 0))))⟩,
      ⟨(some 5), none, (.mv (.c (.v (.int .u32 0))))⟩])
    (.seq (.ops [⟨(some 7), none, (.mv (.t 0))⟩,
      ⟨(some 8), none, (.conv (.toInt .u64) (.t 7))⟩,
      ⟨(some 9), none, (.mv (.t 1))⟩,
      ⟨(some 10), none, (.conv (.toInt .u64) (.t 9))⟩,
      ⟨(some 11), none, (.bin .int .mul (.t 8) (.t 10))⟩,
      ⟨(some 6), none, (.mv (.t 11))⟩])
    (.seq (.ops [⟨(some 12), none, (.mv (.t 6))⟩,
      ⟨(some 13), none, (.bin .int .shr (.t 12) (.c (.v (.int .u64 32))))⟩,
      ⟨(some 14), none, (.conv (.toInt .u32) (.t 13))⟩,
      ⟨(some 15), none, (.mv (.t 6))⟩,
      ⟨(some 16), none, (.conv (.toInt .u32) (.t 15))⟩,
      ⟨(some 4), none, (.mv (.t 14))⟩,
      ⟨(some 5), none, (.mv (.t 16))⟩])
    .ret)))⟩
theorem L117_ok : lowFn Try.prog Try.f117 [] = some L117 := by kernel_rfl

/-- math_bits.Mul64 -/
def L118 : LFn := ⟨51, [(.tmp 4), (.tmp 5)], (.seq (.ops [⟨(some 4), none, (.mv (.c (.v (.int .u64 0))))⟩,
      ⟨(some 5), none, (.mv (.c (.v (.int .u64 0))))⟩])
    (.seq (.ops [⟨(some 14), none, (.mv (.t 0))⟩,
      ⟨(some 15), none, (.bin .int .and (.t 14) (.c (.v (.int .u64 4294967295))))⟩,
      ⟨(some 6), none, (.mv (.t 15))⟩])
    (.seq (.ops [⟨(some 16), none, (.mv (.t 0))⟩,
      ⟨(some 17), none, (.bin .int .shr (.t 16) (.c (.v (.int .u64 32))))⟩,
      ⟨(some 7), none, (.mv (.t 17))⟩])
    (.seq (.ops [⟨(some 18), none, (.mv (.t 1))⟩,
      ⟨(some 19), none, (.bin .int .and (.t 18) (.c (.v (.int .u64 4294967295))))⟩,
      ⟨(some 8), none, (.mv (.t 19))⟩])
    (.seq (.ops [⟨(some 20), none, (.mv (.t 1))⟩,
      ⟨(some 21), none, (.bin .int .shr (.t 20) (.c (.v (.int .u64 32))))⟩,
      ⟨(some 9), none, (.mv (.t 21))⟩])
    (.seq (.ops [⟨(some 22), none, (.mv (.t 6))⟩,
      ⟨(some 23), none, (.mv (.t 8))⟩,
      ⟨(some 24), none, (.bin .int .mul (.t 22) (.t 23))⟩,
      ⟨(some 10), none, (.mv (.t 24))⟩])
    (.seq (.ops [⟨(some 25), none, (.mv (.t 7))⟩,
      ⟨(some 26), none, (.mv (.t 8))⟩,
      ⟨(some 27), none, (.bin .int .mul (.t 25) (.t 26))⟩,
      ⟨(some 28), none, (.mv (.t 10))⟩,
      ⟨(some 29), none, (.bin .int .shr (.t 28) (.c (.v (.int .u64 32))))⟩,
      ⟨(some 30), none, (.bin .int .add (.t 27) (.t 29))⟩,
      ⟨(some 11), none, (.mv (.t 30))⟩])
    (.seq (.ops [⟨(some 31), none, (.mv (.t 11))⟩,
      ⟨(some 32), none, (.bin .int .and (.t 31) (.c (.v (.int .u64 4294967295))))⟩,
      ⟨(some 12), none, (.mv (.t 32))⟩])
    (.seq (.ops [⟨(some 33), none, (.mv (.t 11))⟩,
      ⟨(some 34), none, (.bin .int .shr (.t 33) (.c (.v (.int .u64 32))))⟩,
      ⟨(some 13), none, (.mv (.t 34))⟩])
    (.seq (.ops [⟨(some 35), none, (.mv (.t 12))⟩,
      ⟨(some 36), none, (.mv (.t 6))⟩,
      ⟨(some 37), none, (.mv (.t 9))⟩,
      ⟨(some 38), none, (.bin .int .mul (.t 36) (.t 37))⟩,
      ⟨(some 39), none, (.bin .int .add (.t 35) (.t 38))⟩,
      ⟨(some 12), none, (.mv (.t 39))⟩])
    (.seq (.ops [⟨(some 40), none, (.mv (.t 7))⟩,
      ⟨(some 41), none, (.mv (.t 9))⟩,
      ⟨(some 42), none, (.bin .int .mul (.t 40) (.t 41))⟩,
      ⟨(some 43), none, (.mv (.t 13))⟩,
      ⟨(some 44), none, (.bin .int .add (.t 42) (.t 43))⟩,
      ⟨(some 45), none, (.mv (.t 12))⟩,
      ⟨(some 46), none, (.bin .int .shr (.t 45) (.c (.v (.int .u64 32))))⟩,
      ⟨(some 47), none, (.bin .int .add (.t 44) (.t 46))⟩,
      ⟨(some 4), none, (.mv (.t 47))⟩])
    (.seq (.ops [⟨(some 48), none, (.mv (.t 0))⟩,
      ⟨(some 49), none, (.mv (.t 1))⟩,
      ⟨(some 50), none, (.bin .int .mul (.t 48) (.t 49))⟩,
      ⟨(some 5), none, (.mv (.t 50))⟩])
    .ret))))))))))))⟩
theorem L118_ok : lowFn Try.prog Try.f118 [] = some L118 := by kernel_rfl

end Go.Proofs.Ytdgmlepakippmaa
