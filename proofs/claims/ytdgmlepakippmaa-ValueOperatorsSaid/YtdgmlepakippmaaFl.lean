/- The functions, lowered. Printed by a program (wip/tools/pl.py). -/
import Derived.Test.YtdgmlepakippmaaChecked
import Derived.Test.YtdgmlepakippmaaAx4
namespace Go.Proofs.Ytdgmlepakippmaa
open Go Go.Ax
set_option maxRecDepth 100000

/-- assessor_assessorref02.Name -/
def L26 : LFn := ⟨32, [(.tmp 2)], (.seq (.ops [⟨(some 2), none, (.mv (.c (.v (.bool false))))⟩])
    (.seq (.seq (.ops [⟨(some 5), none, (.mv (.t 0))⟩,
      ⟨(some 6), none, (.len .str (.t 5))⟩,
      ⟨(some 7), none, (.bin .int .lss (.t 6) (.c (.v (.int .i64 1))))⟩,
      ⟨(some 8), none, (.mv (.t 7))⟩,
      ⟨(some 9), (some (8, false)), (.mv (.t 0))⟩,
      ⟨(some 10), (some (8, false)), (.len .str (.t 9))⟩,
      ⟨(some 11), (some (8, false)), (.bin .int .gtr (.t 10) (.c (.v (.int .i64 16))))⟩,
      ⟨(some 12), none, (.pick (.t 8) (.c (.v (.bool true))) (.t 11))⟩,
      ⟨(some 13), none, (.mv (.t 12))⟩,
      ⟨(some 14), (some (13, false)), (.mv (.t 0))⟩,
      ⟨(some 15), (some (13, false)), (.idx (.t 14) (.c (.v (.int .i64 0))))⟩,
      ⟨(some 16), (some (13, false)), (.call (.c (.fn (.func 46) [] [])) [(.t 15)])⟩,
      ⟨(some 17), (some (13, false)), (.not (.t 16))⟩,
      ⟨(some 18), none, (.pick (.t 13) (.c (.v (.bool true))) (.t 17))⟩,
      ⟨(some 19), none, (.mv (.t 18))⟩,
      ⟨(some 20), (some (19, false)), (.mv (.t 0))⟩,
      ⟨(some 21), (some (19, false)), (.call (.c (.fn (.func 47) [] [])) [(.t 20)])⟩,
      ⟨(some 22), none, (.pick (.t 19) (.c (.v (.bool true))) (.t 21))⟩])
    (.cond (.t 22)
    (.seq (.ops [⟨(some 2), none, (.mv (.c (.v (.bool false))))⟩])
    .ret)
    .skip))
    (.seq (.ops [⟨(some 24), none, (.mv (.t 0))⟩,
      ⟨(some 25), none, (.call (.c (.fn (.func 48) [] [])) [(.t 24), (.c (.v (.int .i64 0)))])⟩,
      ⟨(some 23), none, (.mv (.t 25))⟩,
      ⟨(some 26), none, (.ext (.t 23) 0)⟩,
      ⟨(some 27), none, (.ext (.t 23) 1)⟩,
      ⟨(some 3), none, (.mv (.t 26))⟩,
      ⟨(some 4), none, (.mv (.t 27))⟩])
    (.seq (.ops [⟨(some 28), none, (.mv (.t 4))⟩,
      ⟨(some 29), none, (.mv (.t 0))⟩,
      ⟨(some 30), none, (.len .str (.t 29))⟩,
      ⟨(some 31), none, (.bin .int .eql (.t 28) (.t 30))⟩,
      ⟨(some 2), none, (.mv (.t 31))⟩])
    .ret))))⟩
theorem L26_ok : lowFn Try.prog Try.f26 [] = some L26 := by kernel_rfl

/-- assessor_assessorref02.Scan -/
def L29 : LFn := ⟨42, [(.tmp 2), (.tmp 3)], (.seq (.ops [⟨(some 2), none, (.mv (.c (.v (.slice none 0 0))))⟩,
      ⟨(some 3), none, (.mv (.c (.v (.int .i64 0))))⟩])
    (.seq (.seq (.ops [⟨(some 9), none, (.mv (.t 0))⟩,
      ⟨(some 10), none, (.len .str (.t 9))⟩,
      ⟨(some 11), none, (.bin .int .gtr (.t 10) (.c (.v (.int .i64 4096))))⟩])
    (.cond (.t 11)
    (.seq (.ops [⟨(some 2), none, (.mv (.c (.v (.slice none 0 0))))⟩,
      ⟨(some 3), none, (.mv (.c (.v (.int .i64 8))))⟩])
    .ret)
    .skip))
    (.seq (.ops [⟨(some 12), none, (.bsl false 4 0 [(.v (.int .i64 0)), (.v (.int .i64 0)), (.v (.int .i64 0)), (.v (.int .i64 0))] [])⟩,
      ⟨(some 4), none, (.mv (.t 12))⟩])
    (.seq (.ops [⟨(some 5), none, (.mv (.c (.v (.int .i64 0))))⟩])
    (.block 0 (.loop (.block 1 (.seq (.ops [⟨(some 13), none, (.mv (.t 0))⟩,
      ⟨(some 14), none, (.mv (.t 5))⟩,
      ⟨(some 15), none, (.call (.c (.fn (.func 55) [] [])) [(.t 13), (.t 14)])⟩,
      ⟨(some 6), none, (.mv (.t 15))⟩])
    (.seq (.seq (.ops [⟨(some 16), none, (.mv (.t 6))⟩,
      ⟨(some 17), none, (.mv (.t 0))⟩,
      ⟨(some 18), none, (.len .str (.t 17))⟩,
      ⟨(some 19), none, (.bin .int .eql (.t 16) (.t 18))⟩])
    (.cond (.t 19)
    (.seq (.ops [⟨(some 20), none, (.mv (.t 4))⟩,
      ⟨(some 21), none, (.mv (.t 5))⟩,
      ⟨(some 22), none, (.mv (.t 6))⟩,
      ⟨(some 23), none, (.mv (.t 6))⟩,
      ⟨(some 24), none, (.build [(.v (.int .i64 0)), (.v (.int .i64 0)), (.v (.int .i64 0)), (.v (.int .i64 0))] [(0, (1, (.c (.v (.int .i64 5))))), (1, (1, (.t 21))), (2, (1, (.t 22))), (3, (1, (.t 23)))])⟩,
      ⟨(some 25), none, (.bsl true 4 1 [(.v (.int .i64 0)), (.v (.int .i64 0)), (.v (.int .i64 0)), (.v (.int .i64 0))] [(0, (.t 24))])⟩,
      ⟨(some 26), none, (.append 4 32 (.t 20) (.t 25))⟩,
      ⟨(some 2), none, (.mv (.t 26))⟩,
      ⟨(some 3), none, (.mv (.c (.v (.int .i64 0))))⟩,
      ⟨(some 2), none, (.frz (.t 2))⟩])
    .ret)
    .skip))
    (.seq (.ops [⟨(some 28), none, (.mv (.t 0))⟩,
      ⟨(some 29), none, (.mv (.t 6))⟩,
      ⟨(some 30), none, (.call (.c (.fn (.func 48) [] [])) [(.t 28), (.t 29)])⟩,
      ⟨(some 27), none, (.mv (.t 30))⟩,
      ⟨(some 31), none, (.ext (.t 27) 0)⟩,
      ⟨(some 32), none, (.ext (.t 27) 1)⟩,
      ⟨(some 7), none, (.mv (.t 31))⟩,
      ⟨(some 8), none, (.mv (.t 32))⟩])
    (.ops [⟨(some 33), none, (.mv (.t 4))⟩,
      ⟨(some 34), none, (.mv (.t 7))⟩,
      ⟨(some 35), none, (.mv (.t 5))⟩,
      ⟨(some 36), none, (.mv (.t 6))⟩,
      ⟨(some 37), none, (.mv (.t 8))⟩,
      ⟨(some 38), none, (.build [(.v (.int .i64 0)), (.v (.int .i64 0)), (.v (.int .i64 0)), (.v (.int .i64 0))] [(0, (1, (.t 34))), (1, (1, (.t 35))), (2, (1, (.t 36))), (3, (1, (.t 37)))])⟩,
      ⟨(some 39), none, (.bsl true 4 1 [(.v (.int .i64 0)), (.v (.int .i64 0)), (.v (.int .i64 0)), (.v (.int .i64 0))] [(0, (.t 38))])⟩,
      ⟨(some 40), none, (.append 4 32 (.t 33) (.t 39))⟩,
      ⟨(some 41), none, (.mv (.t 8))⟩,
      ⟨(some 4), none, (.mv (.t 40))⟩,
      ⟨(some 5), none, (.mv (.t 41))⟩])))))))))))⟩
theorem L29_ok : lowFn Try.prog Try.f29 [⟨7, 5, .imm⟩, ⟨7, 9, (.pre 2 (.frz (.t 2)))⟩, ⟨9, 6, .imm⟩] = some L29 := by kernel_rfl

/-- assessor_assessorref02.Words -/
def L31 : LFn := ⟨34, [(.tmp 4)], (.seq (.ops [⟨(some 4), none, (.mv (.c (.v (.slice none 0 0))))⟩])
    (.seq (.seq (.ops [⟨(some 7), none, (.mv (.t 0))⟩,
      ⟨(some 8), none, (.mv (.t 1))⟩,
      ⟨(some 9), none, (.call (.c (.fn (.func 59) [] [])) [(.t 7), (.t 8)])⟩,
      ⟨(some 10), none, (.not (.t 9))⟩])
    (.cond (.t 10)
    (.seq (.ops [⟨(some 4), none, (.mv (.c (.v (.slice none 0 0))))⟩])
    .ret)
    .skip))
    (.seq (.ops [⟨(some 11), none, (.bsl false 1 0 [(.v (.string (mkS [])))] [])⟩,
      ⟨(some 5), none, (.mv (.t 11))⟩])
    (.seq (.seq (.ops [⟨(some 6), none, (.mv (.c (.v (.int .i64 0))))⟩])
    (.block 0 (.loop (.seq (.seq (.ops [⟨(some 12), none, (.mv (.t 6))⟩,
      ⟨(some 13), none, (.mv (.t 1))⟩,
      ⟨(some 14), none, (.len .slc (.t 13))⟩,
      ⟨(some 15), none, (.bin .int .lss (.t 12) (.t 14))⟩])
    (.cond (.t 15)
    .skip
    (.exit 0)))
    (.seq (.block 1 (.draw [⟨(some 18), none, (.mv (.t 5))⟩,
      ⟨(some 19), none, (.mv (.t 0))⟩,
      ⟨(some 20), none, (.mv (.t 1))⟩,
      ⟨(some 21), none, (.mv (.t 6))⟩,
      ⟨(some 22), none, (.iaddr 4 (.t 20) (.t 21))⟩,
      ⟨(some 23), none, (.faddr 2 (.t 22))⟩,
      ⟨(some 24), none, (.load false 1 (.t 23))⟩,
      ⟨(some 25), none, (.mv (.t 1))⟩,
      ⟨(some 26), none, (.mv (.t 6))⟩,
      ⟨(some 27), none, (.iaddr 4 (.t 25) (.t 26))⟩,
      ⟨(some 28), none, (.faddr 3 (.t 27))⟩,
      ⟨(some 29), none, (.load false 1 (.t 28))⟩,
      ⟨(some 30), none, (.slice .str 1 (.t 19) (some (.t 24)) (some (.t 29)))⟩,
      ⟨(some 31), none, (.bsl true 1 1 [(.v (.string (mkS [])))] [(0, (.t 30))])⟩] [⟨(some 32), none, (.append 1 16 (.t 18) (.t 31))⟩,
      ⟨(some 5), none, (.mv (.t 32))⟩]))
    (.ops [⟨(some 16), none, (.mv (.t 6))⟩,
      ⟨(some 17), none, (.bin .int .add (.t 16) (.c (.v (.int .i64 1))))⟩,
      ⟨(some 6), none, (.mv (.t 17))⟩]))))))
    (.seq (.ops [⟨(some 33), none, (.mv (.t 5))⟩,
      ⟨(some 4), none, (.mv (.t 33))⟩,
      ⟨(some 4), none, (.frz (.t 4))⟩])
    .ret)))))⟩
theorem L31_ok : lowFn Try.prog Try.f31 [⟨7, 13, .imm⟩, ⟨8, 2, (.pre 4 (.frz (.t 4)))⟩, ⟨7, 14, .tail⟩] = some L31 := by kernel_rfl

/-- assessor_assessorref02.Has -/
def L38 : LFn := ⟨18, [(.tmp 4)], (.seq (.ops [⟨(some 4), none, (.mv (.c (.v (.bool false))))⟩])
    (.seq (.seq (.ops [⟨(some 5), none, (.mv (.c (.v (.int .i64 0))))⟩])
    (.block 0 (.loop (.seq (.seq (.ops [⟨(some 6), none, (.mv (.t 5))⟩,
      ⟨(some 7), none, (.mv (.t 0))⟩,
      ⟨(some 8), none, (.len .slc (.t 7))⟩,
      ⟨(some 9), none, (.bin .int .lss (.t 6) (.t 8))⟩])
    (.cond (.t 9)
    .skip
    (.exit 0)))
    (.seq (.block 1 (.seq (.ops [⟨(some 12), none, (.mv (.t 0))⟩,
      ⟨(some 13), none, (.mv (.t 5))⟩,
      ⟨(some 14), none, (.iaddr 1 (.t 12) (.t 13))⟩,
      ⟨(some 15), none, (.load false 1 (.t 14))⟩,
      ⟨(some 16), none, (.mv (.t 1))⟩,
      ⟨(some 17), none, (.bin .str .eql (.t 15) (.t 16))⟩])
    (.cond (.t 17)
    (.seq (.ops [⟨(some 4), none, (.mv (.c (.v (.bool true))))⟩])
    .ret)
    .skip)))
    (.ops [⟨(some 10), none, (.mv (.t 5))⟩,
      ⟨(some 11), none, (.bin .int .add (.t 10) (.c (.v (.int .i64 1))))⟩,
      ⟨(some 5), none, (.mv (.t 11))⟩]))))))
    (.seq (.ops [⟨(some 4), none, (.mv (.c (.v (.bool false))))⟩])
    .ret)))⟩
theorem L38_ok : lowFn Try.prog Try.f38 [] = some L38 := by kernel_rfl

/-- assessor_assessorref02.letter -/
def L46 : LFn := ⟨9, [(.tmp 2)], (.seq (.ops [⟨(some 2), none, (.mv (.c (.v (.bool false))))⟩])
    (.seq (.ops [⟨(some 3), none, (.mv (.t 0))⟩,
      ⟨(some 4), none, (.bin .int .geq (.t 3) (.c (.v (.int .u8 97))))⟩,
      ⟨(some 5), none, (.mv (.t 4))⟩,
      ⟨(some 6), (some (5, true)), (.mv (.t 0))⟩,
      ⟨(some 7), (some (5, true)), (.bin .int .leq (.t 6) (.c (.v (.int .u8 122))))⟩,
      ⟨(some 8), none, (.pick (.t 5) (.t 7) (.c (.v (.bool false))))⟩,
      ⟨(some 2), none, (.mv (.t 8))⟩])
    .ret))⟩
theorem L46_ok : lowFn Try.prog Try.f46 [] = some L46 := by kernel_rfl

/-- assessor_assessorref02.Keyword -/
def L47 : LFn := ⟨6, [(.tmp 2)], (.seq (.ops [⟨(some 2), none, (.mv (.c (.v (.bool false))))⟩])
    (.seq (.ops [⟨(some 3), none, (.bsl true 1 18 [(.v (.string (mkS [])))] [(0, (.c (.v (.string (mkS [114, 101, 99, 111, 114, 100]))))), (1, (.c (.v (.string (mkS [112, 114, 111, 99]))))), (2, (.c (.v (.string (mkS [118, 97, 114]))))), (3, (.c (.v (.string (mkS [105, 102]))))), (4, (.c (.v (.string (mkS [101, 108, 115, 101]))))), (5, (.c (.v (.string (mkS [119, 104, 105, 108, 101]))))), (6, (.c (.v (.string (mkS [102, 111, 114]))))), (7, (.c (.v (.string (mkS [116, 111]))))), (8, (.c (.v (.string (mkS [114, 101, 116, 117, 114, 110]))))), (9, (.c (.v (.string (mkS [97, 115, 115, 101, 114, 116]))))), (10, (.c (.v (.string (mkS [97, 110, 100]))))), (11, (.c (.v (.string (mkS [111, 114]))))), (12, (.c (.v (.string (mkS [110, 111, 116]))))), (13, (.c (.v (.string (mkS [116, 114, 117, 101]))))), (14, (.c (.v (.string (mkS [102, 97, 108, 115, 101]))))), (15, (.c (.v (.string (mkS [105, 110, 116]))))), (16, (.c (.v (.string (mkS [98, 111, 111, 108]))))), (17, (.c (.v (.string (mkS [108, 101, 110])))))])⟩,
      ⟨(some 4), none, (.mv (.t 0))⟩,
      ⟨(some 5), none, (.call (.c (.fn (.func 38) [] [])) [(.t 3), (.t 4)])⟩,
      ⟨(some 2), none, (.mv (.t 5))⟩])
    .ret))⟩
theorem L47_ok : lowFn Try.prog Try.f47 [⟨1, 0, .imm⟩] = some L47 := by kernel_rfl

/-- assessor_assessorref02.token -/
def L48 : LFn := ⟨98, [(.tmp 4), (.tmp 5)], (.seq (.ops [⟨(some 4), none, (.mv (.c (.v (.int .i64 0))))⟩,
      ⟨(some 5), none, (.mv (.c (.v (.int .i64 0))))⟩])
    (.seq (.ops [⟨(some 7), none, (.mv (.t 1))⟩,
      ⟨(some 6), none, (.mv (.t 7))⟩])
    (.seq (.block 0 (.seq (.ops [⟨(some 9), none, (.mv (.t 0))⟩,
      ⟨(some 10), none, (.mv (.t 1))⟩,
      ⟨(some 11), none, (.idx (.t 9) (.t 10))⟩,
      ⟨(some 12), none, (.call (.c (.fn (.func 46) [] [])) [(.t 11)])⟩,
      ⟨(some 8), none, (.mv (.t 12))⟩])
    (.cond (.t 8)
    (.seq (.block 1 (.loop (.seq (.seq (.ops [⟨(some 13), none, (.mv (.t 6))⟩,
      ⟨(some 14), none, (.mv (.t 0))⟩,
      ⟨(some 15), none, (.len .str (.t 14))⟩,
      ⟨(some 16), none, (.bin .int .lss (.t 13) (.t 15))⟩,
      ⟨(some 17), none, (.mv (.t 16))⟩,
      ⟨(some 18), (some (17, true)), (.mv (.t 0))⟩,
      ⟨(some 19), (some (17, true)), (.mv (.t 6))⟩,
      ⟨(some 20), (some (17, true)), (.idx (.t 18) (.t 19))⟩,
      ⟨(some 21), (some (17, true)), (.call (.c (.fn (.func 46) [] [])) [(.t 20)])⟩,
      ⟨(some 22), (some (17, true)), (.mv (.t 21))⟩,
      ⟨(some 23), (some (22, false)), (.mv (.t 0))⟩,
      ⟨(some 24), (some (22, false)), (.mv (.t 6))⟩,
      ⟨(some 25), (some (22, false)), (.idx (.t 23) (.t 24))⟩,
      ⟨(some 26), (some (22, false)), (.call (.c (.fn (.func 77) [] [])) [(.t 25)])⟩,
      ⟨(some 27), (some (17, true)), (.pick (.t 22) (.c (.v (.bool true))) (.t 26))⟩,
      ⟨(some 28), (some (17, true)), (.mv (.t 27))⟩,
      ⟨(some 29), (some (28, false)), (.mv (.t 0))⟩,
      ⟨(some 30), (some (28, false)), (.mv (.t 6))⟩,
      ⟨(some 31), (some (28, false)), (.idx (.t 29) (.t 30))⟩,
      ⟨(some 32), (some (28, false)), (.bin .int .eql (.t 31) (.c (.v (.int .u8 95))))⟩,
      ⟨(some 33), (some (17, true)), (.pick (.t 28) (.c (.v (.bool true))) (.t 32))⟩,
      ⟨(some 34), none, (.pick (.t 17) (.t 33) (.c (.v (.bool false))))⟩])
    (.cond (.t 34)
    .skip
    (.exit 1)))
    (.block 2 (.ops [⟨(some 35), none, (.mv (.t 6))⟩,
      ⟨(some 36), none, (.bin .int .add (.t 35) (.c (.v (.int .i64 1))))⟩,
      ⟨(some 6), none, (.mv (.t 36))⟩])))))
    (.seq (.seq (.ops [⟨(some 37), none, (.mv (.t 0))⟩,
      ⟨(some 38), none, (.mv (.t 1))⟩,
      ⟨(some 39), none, (.mv (.t 6))⟩,
      ⟨(some 40), none, (.slice .str 1 (.t 37) (some (.t 38)) (some (.t 39)))⟩,
      ⟨(some 41), none, (.call (.c (.fn (.func 47) [] [])) [(.t 40)])⟩])
    (.cond (.t 41)
    (.seq (.ops [⟨(some 42), none, (.mv (.t 6))⟩,
      ⟨(some 4), none, (.mv (.c (.v (.int .i64 1))))⟩,
      ⟨(some 5), none, (.mv (.t 42))⟩])
    .ret)
    .skip))
    (.seq (.ops [⟨(some 43), none, (.mv (.t 6))⟩,
      ⟨(some 4), none, (.mv (.c (.v (.int .i64 0))))⟩,
      ⟨(some 5), none, (.mv (.t 43))⟩])
    .ret)))
    (.seq (.ops [⟨(some 45), none, (.mv (.t 0))⟩,
      ⟨(some 46), none, (.mv (.t 1))⟩,
      ⟨(some 47), none, (.idx (.t 45) (.t 46))⟩,
      ⟨(some 48), none, (.call (.c (.fn (.func 77) [] [])) [(.t 47)])⟩,
      ⟨(some 44), none, (.mv (.t 48))⟩])
    (.cond (.t 44)
    (.seq (.block 3 (.loop (.seq (.seq (.ops [⟨(some 49), none, (.mv (.t 6))⟩,
      ⟨(some 50), none, (.mv (.t 0))⟩,
      ⟨(some 51), none, (.len .str (.t 50))⟩,
      ⟨(some 52), none, (.bin .int .lss (.t 49) (.t 51))⟩,
      ⟨(some 53), none, (.mv (.t 52))⟩,
      ⟨(some 54), (some (53, true)), (.mv (.t 0))⟩,
      ⟨(some 55), (some (53, true)), (.mv (.t 6))⟩,
      ⟨(some 56), (some (53, true)), (.idx (.t 54) (.t 55))⟩,
      ⟨(some 57), (some (53, true)), (.call (.c (.fn (.func 77) [] [])) [(.t 56)])⟩,
      ⟨(some 58), none, (.pick (.t 53) (.t 57) (.c (.v (.bool false))))⟩])
    (.cond (.t 58)
    .skip
    (.exit 3)))
    (.block 4 (.ops [⟨(some 59), none, (.mv (.t 6))⟩,
      ⟨(some 60), none, (.bin .int .add (.t 59) (.c (.v (.int .i64 1))))⟩,
      ⟨(some 6), none, (.mv (.t 60))⟩])))))
    (.seq (.ops [⟨(some 61), none, (.mv (.t 6))⟩,
      ⟨(some 4), none, (.mv (.c (.v (.int .i64 2))))⟩,
      ⟨(some 5), none, (.mv (.t 61))⟩])
    .ret))
    (.seq (.ops [⟨(some 63), none, (.mv (.t 0))⟩,
      ⟨(some 64), none, (.mv (.t 1))⟩,
      ⟨(some 65), none, (.call (.c (.fn (.func 78) [] [])) [(.t 63), (.t 64)])⟩,
      ⟨(some 66), none, (.bin .int .gtr (.t 65) (.c (.v (.int .i64 0))))⟩,
      ⟨(some 62), none, (.mv (.t 66))⟩])
    (.cond (.t 62)
    (.seq (.ops [⟨(some 67), none, (.mv (.t 1))⟩,
      ⟨(some 68), none, (.mv (.t 0))⟩,
      ⟨(some 69), none, (.mv (.t 1))⟩,
      ⟨(some 70), none, (.call (.c (.fn (.func 78) [] [])) [(.t 68), (.t 69)])⟩,
      ⟨(some 71), none, (.bin .int .add (.t 67) (.t 70))⟩,
      ⟨(some 4), none, (.mv (.c (.v (.int .i64 3))))⟩,
      ⟨(some 5), none, (.mv (.t 71))⟩])
    .ret)
    .skip)))))))
    (.seq (.block 5 (.loop (.seq (.seq (.ops [⟨(some 72), none, (.mv (.t 6))⟩,
      ⟨(some 73), none, (.mv (.t 0))⟩,
      ⟨(some 74), none, (.len .str (.t 73))⟩,
      ⟨(some 75), none, (.bin .int .lss (.t 72) (.t 74))⟩,
      ⟨(some 76), none, (.mv (.t 75))⟩,
      ⟨(some 77), (some (76, true)), (.mv (.t 0))⟩,
      ⟨(some 78), (some (76, true)), (.mv (.t 6))⟩,
      ⟨(some 79), (some (76, true)), (.idx (.t 77) (.t 78))⟩,
      ⟨(some 80), (some (76, true)), (.call (.c (.fn (.func 79) [] [])) [(.t 79)])⟩,
      ⟨(some 81), (some (76, true)), (.not (.t 80))⟩,
      ⟨(some 82), none, (.pick (.t 76) (.t 81) (.c (.v (.bool false))))⟩,
      ⟨(some 83), none, (.mv (.t 82))⟩,
      ⟨(some 84), (some (83, true)), (.mv (.t 0))⟩,
      ⟨(some 85), (some (83, true)), (.mv (.t 6))⟩,
      ⟨(some 86), (some (83, true)), (.idx (.t 84) (.t 85))⟩,
      ⟨(some 87), (some (83, true)), (.bin .int .neq (.t 86) (.c (.v (.int .u8 35))))⟩,
      ⟨(some 88), none, (.pick (.t 83) (.t 87) (.c (.v (.bool false))))⟩,
      ⟨(some 89), none, (.mv (.t 88))⟩,
      ⟨(some 90), (some (89, true)), (.mv (.t 0))⟩,
      ⟨(some 91), (some (89, true)), (.mv (.t 6))⟩,
      ⟨(some 92), (some (89, true)), (.call (.c (.fn (.func 80) [] [])) [(.t 90), (.t 91)])⟩,
      ⟨(some 93), (some (89, true)), (.not (.t 92))⟩,
      ⟨(some 94), none, (.pick (.t 89) (.t 93) (.c (.v (.bool false))))⟩])
    (.cond (.t 94)
    .skip
    (.exit 5)))
    (.block 6 (.ops [⟨(some 95), none, (.mv (.t 6))⟩,
      ⟨(some 96), none, (.bin .int .add (.t 95) (.c (.v (.int .i64 1))))⟩,
      ⟨(some 6), none, (.mv (.t 96))⟩])))))
    (.seq (.ops [⟨(some 97), none, (.mv (.t 6))⟩,
      ⟨(some 4), none, (.mv (.c (.v (.int .i64 4))))⟩,
      ⟨(some 5), none, (.mv (.t 97))⟩])
    .ret)))))⟩
theorem L48_ok : lowFn Try.prog Try.f48 [] = some L48 := by kernel_rfl

/-- assessor_lexer.Scan -/
def L50 : LFn := ⟨41, [(.tmp 2), (.tmp 3)], (.seq (.ops [⟨(some 2), none, (.mv (.c (.v (.slice none 0 0))))⟩,
      ⟨(some 3), none, (.mv (.c (.v (.int .i64 0))))⟩])
    (.seq (.seq (.ops [⟨(some 9), none, (.mv (.t 0))⟩,
      ⟨(some 10), none, (.len .str (.t 9))⟩,
      ⟨(some 11), none, (.bin .int .gtr (.t 10) (.c (.v (.int .i64 4096))))⟩])
    (.cond (.t 11)
    (.seq (.ops [⟨(some 2), none, (.mv (.c (.v (.slice none 0 0))))⟩,
      ⟨(some 3), none, (.mv (.c (.v (.int .i64 8))))⟩])
    .ret)
    .skip))
    (.seq (.ops [⟨(some 4), none, (.mv (.c (.v (.slice none 0 0))))⟩,
      ⟨(some 4), none, (.own 4 (.t 4))⟩])
    (.seq (.ops [⟨(some 5), none, (.mv (.c (.v (.int .i64 0))))⟩])
    (.block 0 (.loop (.block 1 (.seq (.ops [⟨(some 12), none, (.mv (.t 0))⟩,
      ⟨(some 13), none, (.mv (.t 5))⟩,
      ⟨(some 14), none, (.call (.c (.fn (.func 82) [] [])) [(.t 12), (.t 13)])⟩,
      ⟨(some 6), none, (.mv (.t 14))⟩])
    (.seq (.seq (.ops [⟨(some 15), none, (.mv (.t 6))⟩,
      ⟨(some 16), none, (.mv (.t 0))⟩,
      ⟨(some 17), none, (.len .str (.t 16))⟩,
      ⟨(some 18), none, (.bin .int .eql (.t 15) (.t 17))⟩])
    (.cond (.t 18)
    (.seq (.ops [⟨(some 19), none, (.mv (.t 4))⟩,
      ⟨(some 20), none, (.mv (.t 5))⟩,
      ⟨(some 21), none, (.mv (.t 6))⟩,
      ⟨(some 22), none, (.mv (.t 6))⟩,
      ⟨(some 23), none, (.build [(.v (.int .i64 0)), (.v (.int .i64 0)), (.v (.int .i64 0)), (.v (.int .i64 0))] [(0, (1, (.c (.v (.int .i64 5))))), (1, (1, (.t 20))), (2, (1, (.t 21))), (3, (1, (.t 22)))])⟩,
      ⟨(some 24), none, (.bsl true 4 1 [(.v (.int .i64 0)), (.v (.int .i64 0)), (.v (.int .i64 0)), (.v (.int .i64 0))] [(0, (.t 23))])⟩,
      ⟨(some 25), none, (.append 4 32 (.t 19) (.t 24))⟩,
      ⟨(some 2), none, (.mv (.t 25))⟩,
      ⟨(some 3), none, (.mv (.c (.v (.int .i64 0))))⟩,
      ⟨(some 2), none, (.frz (.t 2))⟩])
    .ret)
    .skip))
    (.seq (.ops [⟨(some 27), none, (.mv (.t 0))⟩,
      ⟨(some 28), none, (.mv (.t 6))⟩,
      ⟨(some 29), none, (.call (.c (.fn (.func 83) [] [])) [(.t 27), (.t 28)])⟩,
      ⟨(some 26), none, (.mv (.t 29))⟩,
      ⟨(some 30), none, (.ext (.t 26) 0)⟩,
      ⟨(some 31), none, (.ext (.t 26) 1)⟩,
      ⟨(some 7), none, (.mv (.t 30))⟩,
      ⟨(some 8), none, (.mv (.t 31))⟩])
    (.seq (.ops [⟨(some 32), none, (.mv (.t 4))⟩,
      ⟨(some 33), none, (.mv (.t 7))⟩,
      ⟨(some 34), none, (.mv (.t 5))⟩,
      ⟨(some 35), none, (.mv (.t 6))⟩,
      ⟨(some 36), none, (.mv (.t 8))⟩,
      ⟨(some 37), none, (.build [(.v (.int .i64 0)), (.v (.int .i64 0)), (.v (.int .i64 0)), (.v (.int .i64 0))] [(0, (1, (.t 33))), (1, (1, (.t 34))), (2, (1, (.t 35))), (3, (1, (.t 36)))])⟩,
      ⟨(some 38), none, (.bsl true 4 1 [(.v (.int .i64 0)), (.v (.int .i64 0)), (.v (.int .i64 0)), (.v (.int .i64 0))] [(0, (.t 37))])⟩,
      ⟨(some 39), none, (.append 4 32 (.t 32) (.t 38))⟩,
      ⟨(some 4), none, (.mv (.t 39))⟩])
    (.ops [⟨(some 40), none, (.mv (.t 8))⟩,
      ⟨(some 5), none, (.mv (.t 40))⟩]))))))))))))⟩
theorem L50_ok : lowFn Try.prog Try.f50 [⟨7, 5, .imm⟩, ⟨7, 9, (.pre 2 (.frz (.t 2)))⟩, ⟨9, 6, .imm⟩, ⟨3, 1, (.pre 4 (.own 4 (.t 4)))⟩] = some L50 := by kernel_rfl

/-- assessor_lexer.Words -/
def L51 : LFn := ⟨29, [(.tmp 4)], (.seq (.ops [⟨(some 4), none, (.mv (.c (.v (.slice none 0 0))))⟩])
    (.seq (.seq (.ops [⟨(some 8), none, (.mv (.t 0))⟩,
      ⟨(some 9), none, (.mv (.t 1))⟩,
      ⟨(some 10), none, (.call (.c (.fn (.func 84) [] [])) [(.t 8), (.t 9)])⟩,
      ⟨(some 11), none, (.not (.t 10))⟩])
    (.cond (.t 11)
    (.seq (.ops [⟨(some 4), none, (.mv (.c (.v (.slice none 0 0))))⟩])
    .ret)
    .skip))
    (.seq (.ops [⟨(some 5), none, (.mv (.c (.v (.slice none 0 0))))⟩,
      ⟨(some 5), none, (.own 1 (.t 5))⟩])
    (.seq (.seq (.ops [⟨(some 12), none, (.mv (.t 1))⟩,
      ⟨(some 13), none, (.len .slc (.t 12))⟩,
      ⟨(some 14), none, (.mv (.c (.v (.int .i64 0))))⟩])
    (.block 0 (.loop (.seq (.ops [⟨(some 15), none, (.bin .int .lss (.t 14) (.t 13))⟩])
    (.seq (.cond (.t 15)
    .skip
    (.exit 0))
    (.seq (.block 1 (.seq (.ops [⟨(some 16), none, (.iaddr 4 (.t 12) (.t 14))⟩,
      ⟨(some 17), none, (.load true 4 (.t 16))⟩,
      ⟨(some 7), none, (.alloc [(.v (.int .i64 0)), (.v (.int .i64 0)), (.v (.int .i64 0)), (.v (.int .i64 0))])⟩,
      ⟨none, none, (.store 4 (.t 7) (.t 17))⟩])
    (.ops [⟨(some 18), none, (.mv (.t 5))⟩,
      ⟨(some 19), none, (.mv (.t 0))⟩,
      ⟨(some 20), none, (.faddr 2 (.t 7))⟩,
      ⟨(some 21), none, (.load false 1 (.t 20))⟩,
      ⟨(some 22), none, (.faddr 3 (.t 7))⟩,
      ⟨(some 23), none, (.load false 1 (.t 22))⟩,
      ⟨(some 24), none, (.slice .str 1 (.t 19) (some (.t 21)) (some (.t 23)))⟩,
      ⟨(some 25), none, (.bsl true 1 1 [(.v (.string (mkS [])))] [(0, (.t 24))])⟩,
      ⟨(some 26), none, (.append 1 16 (.t 18) (.t 25))⟩,
      ⟨(some 5), none, (.mv (.t 26))⟩])))
    (.ops [⟨(some 27), none, (.bin .int .add (.t 14) (.c (.v (.int .i64 1))))⟩,
      ⟨(some 14), none, (.mv (.t 27))⟩])))))))
    (.seq (.ops [⟨(some 28), none, (.mv (.t 5))⟩,
      ⟨(some 4), none, (.mv (.t 28))⟩,
      ⟨(some 4), none, (.frz (.t 4))⟩])
    .ret)))))⟩
theorem L51_ok : lowFn Try.prog Try.f51 [⟨7, 7, .imm⟩, ⟨9, 2, (.pre 4 (.frz (.t 4)))⟩, ⟨3, 1, (.pre 5 (.own 1 (.t 5)))⟩] = some L51 := by kernel_rfl

/-- assessor_lexer.Number -/
def L54 : LFn := ⟨36, [(.tmp 2), (.tmp 3)], (.seq (.ops [⟨(some 2), none, (.mv (.c (.v (.int .i64 0))))⟩,
      ⟨(some 3), none, (.mv (.c (.v (.bool false))))⟩])
    (.seq (.seq (.ops [⟨(some 7), none, (.mv (.t 0))⟩,
      ⟨(some 8), none, (.bin .str .eql (.t 7) (.c (.v (.string (mkS [])))))⟩,
      ⟨(some 9), none, (.mv (.t 8))⟩,
      ⟨(some 10), (some (9, false)), (.mv (.t 0))⟩,
      ⟨(some 11), (some (9, false)), (.len .str (.t 10))⟩,
      ⟨(some 12), (some (9, false)), (.bin .int .gtr (.t 11) (.c (.v (.int .i64 9))))⟩,
      ⟨(some 13), none, (.pick (.t 9) (.c (.v (.bool true))) (.t 12))⟩,
      ⟨(some 14), none, (.mv (.t 13))⟩,
      ⟨(some 15), (some (14, false)), (.mv (.t 0))⟩,
      ⟨(some 16), (some (14, false)), (.call (.c (.fn (.func 85) [] [])) [(.t 15), (.c (.v (.int .i64 0))), (.c (.fn (.func 86) [] []))])⟩,
      ⟨(some 17), (some (14, false)), (.mv (.t 0))⟩,
      ⟨(some 18), (some (14, false)), (.len .str (.t 17))⟩,
      ⟨(some 19), (some (14, false)), (.bin .int .lss (.t 16) (.t 18))⟩,
      ⟨(some 20), none, (.pick (.t 14) (.c (.v (.bool true))) (.t 19))⟩])
    (.cond (.t 20)
    (.seq (.ops [⟨(some 2), none, (.mv (.c (.v (.int .i64 0))))⟩,
      ⟨(some 3), none, (.mv (.c (.v (.bool false))))⟩])
    .ret)
    .skip))
    (.seq (.ops [⟨(some 4), none, (.mv (.c (.v (.int .i64 0))))⟩])
    (.seq (.seq (.ops [⟨(some 21), none, (.mv (.t 0))⟩,
      ⟨(some 22), none, (.conv .strBytes (.t 21))⟩,
      ⟨(some 23), none, (.len .slc (.t 22))⟩,
      ⟨(some 24), none, (.mv (.c (.v (.int .i64 0))))⟩])
    (.block 0 (.loop (.seq (.ops [⟨(some 25), none, (.bin .int .lss (.t 24) (.t 23))⟩])
    (.seq (.cond (.t 25)
    .skip
    (.exit 0))
    (.seq (.block 1 (.seq (.ops [⟨(some 26), none, (.iaddr 1 (.t 22) (.t 24))⟩,
      ⟨(some 27), none, (.load false 1 (.t 26))⟩,
      ⟨(some 6), none, (.mv (.t 27))⟩])
    (.ops [⟨(some 28), none, (.mv (.t 4))⟩,
      ⟨(some 29), none, (.bin .int .mul (.c (.v (.int .i64 10))) (.t 28))⟩,
      ⟨(some 30), none, (.mv (.t 6))⟩,
      ⟨(some 31), none, (.bin .int .sub (.t 30) (.c (.v (.int .u8 48))))⟩,
      ⟨(some 32), none, (.conv (.toInt .i64) (.t 31))⟩,
      ⟨(some 33), none, (.bin .int .add (.t 29) (.t 32))⟩,
      ⟨(some 4), none, (.mv (.t 33))⟩])))
    (.ops [⟨(some 34), none, (.bin .int .add (.t 24) (.c (.v (.int .i64 1))))⟩,
      ⟨(some 24), none, (.mv (.t 34))⟩])))))))
    (.seq (.ops [⟨(some 35), none, (.mv (.t 4))⟩,
      ⟨(some 2), none, (.mv (.t 35))⟩,
      ⟨(some 3), none, (.mv (.c (.v (.bool true))))⟩])
    .ret)))))⟩
theorem L54_ok : lowFn Try.prog Try.f54 [] = some L54 := by kernel_rfl

/-- assessor_assessorref02.skip -/
def L55 : LFn := ⟨40, [(.tmp 4)], (.seq (.ops [⟨(some 4), none, (.mv (.c (.v (.int .i64 0))))⟩])
    (.seq (.block 0 (.loop (.seq (.seq (.ops [⟨(some 5), none, (.mv (.t 1))⟩,
      ⟨(some 6), none, (.mv (.t 0))⟩,
      ⟨(some 7), none, (.len .str (.t 6))⟩,
      ⟨(some 8), none, (.bin .int .lss (.t 5) (.t 7))⟩,
      ⟨(some 9), none, (.mv (.t 8))⟩,
      ⟨(some 10), (some (9, true)), (.mv (.t 0))⟩,
      ⟨(some 11), (some (9, true)), (.mv (.t 1))⟩,
      ⟨(some 12), (some (9, true)), (.idx (.t 10) (.t 11))⟩,
      ⟨(some 13), (some (9, true)), (.call (.c (.fn (.func 79) [] [])) [(.t 12)])⟩,
      ⟨(some 14), (some (9, true)), (.mv (.t 13))⟩,
      ⟨(some 15), (some (14, false)), (.mv (.t 0))⟩,
      ⟨(some 16), (some (14, false)), (.mv (.t 1))⟩,
      ⟨(some 17), (some (14, false)), (.idx (.t 15) (.t 16))⟩,
      ⟨(some 18), (some (14, false)), (.bin .int .eql (.t 17) (.c (.v (.int .u8 35))))⟩,
      ⟨(some 19), (some (9, true)), (.pick (.t 14) (.c (.v (.bool true))) (.t 18))⟩,
      ⟨(some 20), none, (.pick (.t 9) (.t 19) (.c (.v (.bool false))))⟩])
    (.cond (.t 20)
    .skip
    (.exit 0)))
    (.block 1 (.seq (.seq (.ops [⟨(some 21), none, (.mv (.t 0))⟩,
      ⟨(some 22), none, (.mv (.t 1))⟩,
      ⟨(some 23), none, (.idx (.t 21) (.t 22))⟩,
      ⟨(some 24), none, (.bin .int .eql (.t 23) (.c (.v (.int .u8 35))))⟩])
    (.cond (.t 24)
    (.seq (.block 2 (.loop (.seq (.seq (.ops [⟨(some 25), none, (.mv (.t 1))⟩,
      ⟨(some 26), none, (.mv (.t 0))⟩,
      ⟨(some 27), none, (.len .str (.t 26))⟩,
      ⟨(some 28), none, (.bin .int .lss (.t 25) (.t 27))⟩,
      ⟨(some 29), none, (.mv (.t 28))⟩,
      ⟨(some 30), (some (29, true)), (.mv (.t 0))⟩,
      ⟨(some 31), (some (29, true)), (.mv (.t 1))⟩,
      ⟨(some 32), (some (29, true)), (.idx (.t 30) (.t 31))⟩,
      ⟨(some 33), (some (29, true)), (.bin .int .neq (.t 32) (.c (.v (.int .u8 10))))⟩,
      ⟨(some 34), none, (.pick (.t 29) (.t 33) (.c (.v (.bool false))))⟩])
    (.cond (.t 34)
    .skip
    (.exit 2)))
    (.block 3 (.ops [⟨(some 35), none, (.mv (.t 1))⟩,
      ⟨(some 36), none, (.bin .int .add (.t 35) (.c (.v (.int .i64 1))))⟩,
      ⟨(some 1), none, (.mv (.t 36))⟩])))))
    (.exit 1))
    .skip))
    (.ops [⟨(some 37), none, (.mv (.t 1))⟩,
      ⟨(some 38), none, (.bin .int .add (.t 37) (.c (.v (.int .i64 1))))⟩,
      ⟨(some 1), none, (.mv (.t 38))⟩]))))))
    (.seq (.ops [⟨(some 39), none, (.mv (.t 1))⟩,
      ⟨(some 4), none, (.mv (.t 39))⟩])
    .ret)))⟩
theorem L55_ok : lowFn Try.prog Try.f55 [] = some L55 := by kernel_rfl

/-- assessor_assessorref02.fits -/
def L59 : LFn := ⟨57, [(.tmp 4)], (.seq (.ops [⟨(some 4), none, (.mv (.c (.v (.bool false))))⟩])
    (.seq (.seq (.ops [⟨(some 5), none, (.mv (.c (.v (.int .i64 0))))⟩])
    (.block 0 (.loop (.seq (.seq (.ops [⟨(some 6), none, (.mv (.t 5))⟩,
      ⟨(some 7), none, (.mv (.t 1))⟩,
      ⟨(some 8), none, (.len .slc (.t 7))⟩,
      ⟨(some 9), none, (.bin .int .lss (.t 6) (.t 8))⟩])
    (.cond (.t 9)
    .skip
    (.exit 0)))
    (.seq (.block 1 (.seq (.draw [⟨(some 12), none, (.mv (.t 1))⟩,
      ⟨(some 13), none, (.mv (.t 5))⟩,
      ⟨(some 14), none, (.iaddr 4 (.t 12) (.t 13))⟩,
      ⟨(some 15), none, (.faddr 1 (.t 14))⟩,
      ⟨(some 16), none, (.load false 1 (.t 15))⟩,
      ⟨(some 17), none, (.bin .int .lss (.t 16) (.c (.v (.int .i64 0))))⟩,
      ⟨(some 18), none, (.mv (.t 17))⟩,
      ⟨(some 19), (some (18, false)), (.mv (.t 1))⟩,
      ⟨(some 20), (some (18, false)), (.mv (.t 5))⟩,
      ⟨(some 21), (some (18, false)), (.iaddr 4 (.t 19) (.t 20))⟩,
      ⟨(some 22), (some (18, false)), (.faddr 2 (.t 21))⟩,
      ⟨(some 23), (some (18, false)), (.load false 1 (.t 22))⟩,
      ⟨(some 24), (some (18, false)), (.mv (.t 1))⟩,
      ⟨(some 25), (some (18, false)), (.mv (.t 5))⟩,
      ⟨(some 26), (some (18, false)), (.iaddr 4 (.t 24) (.t 25))⟩,
      ⟨(some 27), (some (18, false)), (.faddr 1 (.t 26))⟩,
      ⟨(some 28), (some (18, false)), (.load false 1 (.t 27))⟩,
      ⟨(some 29), (some (18, false)), (.bin .int .lss (.t 23) (.t 28))⟩,
      ⟨(some 30), none, (.pick (.t 18) (.c (.v (.bool true))) (.t 29))⟩,
      ⟨(some 31), none, (.mv (.t 30))⟩,
      ⟨(some 32), (some (31, false)), (.mv (.t 1))⟩,
      ⟨(some 33), (some (31, false)), (.mv (.t 5))⟩,
      ⟨(some 34), (some (31, false)), (.iaddr 4 (.t 32) (.t 33))⟩,
      ⟨(some 35), (some (31, false)), (.faddr 3 (.t 34))⟩,
      ⟨(some 36), (some (31, false)), (.load false 1 (.t 35))⟩,
      ⟨(some 37), (some (31, false)), (.mv (.t 1))⟩,
      ⟨(some 38), (some (31, false)), (.mv (.t 5))⟩,
      ⟨(some 39), (some (31, false)), (.iaddr 4 (.t 37) (.t 38))⟩,
      ⟨(some 40), (some (31, false)), (.faddr 2 (.t 39))⟩,
      ⟨(some 41), (some (31, false)), (.load false 1 (.t 40))⟩,
      ⟨(some 42), (some (31, false)), (.bin .int .lss (.t 36) (.t 41))⟩,
      ⟨(some 43), none, (.pick (.t 31) (.c (.v (.bool true))) (.t 42))⟩,
      ⟨(some 44), none, (.mv (.t 43))⟩,
      ⟨(some 45), (some (44, false)), (.mv (.t 1))⟩,
      ⟨(some 46), (some (44, false)), (.mv (.t 5))⟩,
      ⟨(some 47), (some (44, false)), (.iaddr 4 (.t 45) (.t 46))⟩,
      ⟨(some 48), (some (44, false)), (.faddr 3 (.t 47))⟩,
      ⟨(some 49), (some (44, false)), (.load false 1 (.t 48))⟩,
      ⟨(some 50), (some (44, false)), (.mv (.t 0))⟩,
      ⟨(some 51), (some (44, false)), (.len .str (.t 50))⟩,
      ⟨(some 52), (some (44, false)), (.bin .int .gtr (.t 49) (.t 51))⟩,
      ⟨(some 53), none, (.pick (.t 44) (.c (.v (.bool true))) (.t 52))⟩] [])
    (.cond (.t 53)
    (.seq (.ops [⟨(some 4), none, (.mv (.c (.v (.bool false))))⟩])
    .ret)
    .skip)))
    (.ops [⟨(some 10), none, (.mv (.t 5))⟩,
      ⟨(some 11), none, (.bin .int .add (.t 10) (.c (.v (.int .i64 1))))⟩,
      ⟨(some 5), none, (.mv (.t 11))⟩]))))))
    (.seq (.ops [⟨(some 54), none, (.mv (.t 1))⟩,
      ⟨(some 55), none, (.len .slc (.t 54))⟩,
      ⟨(some 56), none, (.bin .int .leq (.t 55) (.c (.v (.int .i64 4097))))⟩,
      ⟨(some 4), none, (.mv (.t 56))⟩])
    .ret)))⟩
theorem L59_ok : lowFn Try.prog Try.f59 [] = some L59 := by kernel_rfl

/-- assessor_assessorref02.digit -/
def L77 : LFn := ⟨9, [(.tmp 2)], (.seq (.ops [⟨(some 2), none, (.mv (.c (.v (.bool false))))⟩])
    (.seq (.ops [⟨(some 3), none, (.mv (.t 0))⟩,
      ⟨(some 4), none, (.bin .int .geq (.t 3) (.c (.v (.int .u8 48))))⟩,
      ⟨(some 5), none, (.mv (.t 4))⟩,
      ⟨(some 6), (some (5, true)), (.mv (.t 0))⟩,
      ⟨(some 7), (some (5, true)), (.bin .int .leq (.t 6) (.c (.v (.int .u8 57))))⟩,
      ⟨(some 8), none, (.pick (.t 5) (.t 7) (.c (.v (.bool false))))⟩,
      ⟨(some 2), none, (.mv (.t 8))⟩])
    .ret))⟩
theorem L77_ok : lowFn Try.prog Try.f77 [] = some L77 := by kernel_rfl

/-- assessor_assessorref02.symbol -/
def L78 : LFn := ⟨26, [(.tmp 4)], (.seq (.ops [⟨(some 4), none, (.mv (.c (.v (.int .i64 0))))⟩])
    (.seq (.seq (.ops [⟨(some 5), none, (.mv (.t 1))⟩,
      ⟨(some 6), none, (.bin .int .add (.t 5) (.c (.v (.int .i64 2))))⟩,
      ⟨(some 7), none, (.mv (.t 0))⟩,
      ⟨(some 8), none, (.len .str (.t 7))⟩,
      ⟨(some 9), none, (.bin .int .leq (.t 6) (.t 8))⟩,
      ⟨(some 10), none, (.mv (.t 9))⟩,
      ⟨(some 11), (some (10, true)), (.bsl true 1 4 [(.v (.string (mkS [])))] [(0, (.c (.v (.string (mkS [61, 61]))))), (1, (.c (.v (.string (mkS [33, 61]))))), (2, (.c (.v (.string (mkS [60, 61]))))), (3, (.c (.v (.string (mkS [62, 61])))))])⟩,
      ⟨(some 12), (some (10, true)), (.mv (.t 0))⟩,
      ⟨(some 13), (some (10, true)), (.mv (.t 1))⟩,
      ⟨(some 14), (some (10, true)), (.mv (.t 1))⟩,
      ⟨(some 15), (some (10, true)), (.bin .int .add (.t 14) (.c (.v (.int .i64 2))))⟩,
      ⟨(some 16), (some (10, true)), (.slice .str 1 (.t 12) (some (.t 13)) (some (.t 15)))⟩,
      ⟨(some 17), (some (10, true)), (.call (.c (.fn (.func 38) [] [])) [(.t 11), (.t 16)])⟩,
      ⟨(some 18), none, (.pick (.t 10) (.t 17) (.c (.v (.bool false))))⟩])
    (.cond (.t 18)
    (.seq (.ops [⟨(some 4), none, (.mv (.c (.v (.int .i64 2))))⟩])
    .ret)
    .skip))
    (.seq (.seq (.ops [⟨(some 19), none, (.bsl true 1 18 [(.v (.string (mkS [])))] [(0, (.c (.v (.string (mkS [60]))))), (1, (.c (.v (.string (mkS [62]))))), (2, (.c (.v (.string (mkS [61]))))), (3, (.c (.v (.string (mkS [43]))))), (4, (.c (.v (.string (mkS [45]))))), (5, (.c (.v (.string (mkS [42]))))), (6, (.c (.v (.string (mkS [47]))))), (7, (.c (.v (.string (mkS [37]))))), (8, (.c (.v (.string (mkS [40]))))), (9, (.c (.v (.string (mkS [41]))))), (10, (.c (.v (.string (mkS [123]))))), (11, (.c (.v (.string (mkS [125]))))), (12, (.c (.v (.string (mkS [91]))))), (13, (.c (.v (.string (mkS [93]))))), (14, (.c (.v (.string (mkS [44]))))), (15, (.c (.v (.string (mkS [59]))))), (16, (.c (.v (.string (mkS [58]))))), (17, (.c (.v (.string (mkS [46])))))])⟩,
      ⟨(some 20), none, (.mv (.t 0))⟩,
      ⟨(some 21), none, (.mv (.t 1))⟩,
      ⟨(some 22), none, (.mv (.t 1))⟩,
      ⟨(some 23), none, (.bin .int .add (.t 22) (.c (.v (.int .i64 1))))⟩,
      ⟨(some 24), none, (.slice .str 1 (.t 20) (some (.t 21)) (some (.t 23)))⟩,
      ⟨(some 25), none, (.call (.c (.fn (.func 38) [] [])) [(.t 19), (.t 24)])⟩])
    (.cond (.t 25)
    (.seq (.ops [⟨(some 4), none, (.mv (.c (.v (.int .i64 1))))⟩])
    .ret)
    .skip))
    (.seq (.ops [⟨(some 4), none, (.mv (.c (.v (.int .i64 0))))⟩])
    .ret))))⟩
theorem L78_ok : lowFn Try.prog Try.f78 [⟨1, 6, .imm⟩, ⟨3, 0, .imm⟩] = some L78 := by kernel_rfl

/-- assessor_assessorref02.blank -/
def L79 : LFn := ⟨17, [(.tmp 2)], (.seq (.ops [⟨(some 2), none, (.mv (.c (.v (.bool false))))⟩])
    (.seq (.ops [⟨(some 3), none, (.mv (.t 0))⟩,
      ⟨(some 4), none, (.bin .int .eql (.t 3) (.c (.v (.int .u8 9))))⟩,
      ⟨(some 5), none, (.mv (.t 4))⟩,
      ⟨(some 6), (some (5, false)), (.mv (.t 0))⟩,
      ⟨(some 7), (some (5, false)), (.bin .int .eql (.t 6) (.c (.v (.int .u8 10))))⟩,
      ⟨(some 8), none, (.pick (.t 5) (.c (.v (.bool true))) (.t 7))⟩,
      ⟨(some 9), none, (.mv (.t 8))⟩,
      ⟨(some 10), (some (9, false)), (.mv (.t 0))⟩,
      ⟨(some 11), (some (9, false)), (.bin .int .eql (.t 10) (.c (.v (.int .u8 13))))⟩,
      ⟨(some 12), none, (.pick (.t 9) (.c (.v (.bool true))) (.t 11))⟩,
      ⟨(some 13), none, (.mv (.t 12))⟩,
      ⟨(some 14), (some (13, false)), (.mv (.t 0))⟩,
      ⟨(some 15), (some (13, false)), (.bin .int .eql (.t 14) (.c (.v (.int .u8 32))))⟩,
      ⟨(some 16), none, (.pick (.t 13) (.c (.v (.bool true))) (.t 15))⟩,
      ⟨(some 2), none, (.mv (.t 16))⟩])
    .ret))⟩
theorem L79_ok : lowFn Try.prog Try.f79 [] = some L79 := by kernel_rfl

/-- assessor_assessorref02.begins -/
def L80 : LFn := ⟨21, [(.tmp 4)], (.seq (.ops [⟨(some 4), none, (.mv (.c (.v (.bool false))))⟩])
    (.seq (.ops [⟨(some 5), none, (.mv (.t 0))⟩,
      ⟨(some 6), none, (.mv (.t 1))⟩,
      ⟨(some 7), none, (.idx (.t 5) (.t 6))⟩,
      ⟨(some 8), none, (.call (.c (.fn (.func 46) [] [])) [(.t 7)])⟩,
      ⟨(some 9), none, (.mv (.t 8))⟩,
      ⟨(some 10), (some (9, false)), (.mv (.t 0))⟩,
      ⟨(some 11), (some (9, false)), (.mv (.t 1))⟩,
      ⟨(some 12), (some (9, false)), (.idx (.t 10) (.t 11))⟩,
      ⟨(some 13), (some (9, false)), (.call (.c (.fn (.func 77) [] [])) [(.t 12)])⟩,
      ⟨(some 14), none, (.pick (.t 9) (.c (.v (.bool true))) (.t 13))⟩,
      ⟨(some 15), none, (.mv (.t 14))⟩,
      ⟨(some 16), (some (15, false)), (.mv (.t 0))⟩,
      ⟨(some 17), (some (15, false)), (.mv (.t 1))⟩,
      ⟨(some 18), (some (15, false)), (.call (.c (.fn (.func 78) [] [])) [(.t 16), (.t 17)])⟩,
      ⟨(some 19), (some (15, false)), (.bin .int .gtr (.t 18) (.c (.v (.int .i64 0))))⟩,
      ⟨(some 20), none, (.pick (.t 15) (.c (.v (.bool true))) (.t 19))⟩,
      ⟨(some 4), none, (.mv (.t 20))⟩])
    .ret))⟩
theorem L80_ok : lowFn Try.prog Try.f80 [] = some L80 := by kernel_rfl

/-- assessor_lexer.skip -/
def L82 : LFn := ⟨26, [(.tmp 4)], (.seq (.ops [⟨(some 4), none, (.mv (.c (.v (.int .i64 0))))⟩])
    (.seq (.block 0 (.loop (.seq (.seq (.ops [⟨(some 5), none, (.mv (.t 1))⟩,
      ⟨(some 6), none, (.mv (.t 0))⟩,
      ⟨(some 7), none, (.len .str (.t 6))⟩,
      ⟨(some 8), none, (.bin .int .lss (.t 5) (.t 7))⟩])
    (.cond (.t 8)
    .skip
    (.exit 0)))
    (.block 1 (.block 2 (.seq (.ops [⟨(some 11), none, (.mv (.t 0))⟩,
      ⟨(some 12), none, (.mv (.t 1))⟩,
      ⟨(some 13), none, (.idx (.t 11) (.t 12))⟩,
      ⟨(some 14), none, (.call (.c (.fn (.func 99) [] [])) [(.t 13)])⟩,
      ⟨(some 10), none, (.mv (.t 14))⟩])
    (.cond (.t 10)
    (.ops [⟨(some 15), none, (.mv (.t 1))⟩,
      ⟨(some 16), none, (.bin .int .add (.t 15) (.c (.v (.int .i64 1))))⟩,
      ⟨(some 1), none, (.mv (.t 16))⟩])
    (.seq (.ops [⟨(some 18), none, (.mv (.t 0))⟩,
      ⟨(some 19), none, (.mv (.t 1))⟩,
      ⟨(some 20), none, (.idx (.t 18) (.t 19))⟩,
      ⟨(some 21), none, (.bin .int .eql (.t 20) (.c (.v (.int .u8 35))))⟩,
      ⟨(some 17), none, (.mv (.t 21))⟩])
    (.cond (.t 17)
    (.ops [⟨(some 22), none, (.mv (.t 0))⟩,
      ⟨(some 23), none, (.mv (.t 1))⟩,
      ⟨(some 24), none, (.call (.c (.fn (.func 85) [] [])) [(.t 22), (.t 23), (.c (.fn (.func 100) [] []))])⟩,
      ⟨(some 1), none, (.mv (.t 24))⟩])
    (.seq (.ops [⟨(some 9), none, (.mv (.t 1))⟩,
      ⟨(some 4), none, (.mv (.t 9))⟩])
    .ret))))))))))
    (.seq (.ops [⟨(some 25), none, (.mv (.t 1))⟩,
      ⟨(some 4), none, (.mv (.t 25))⟩])
    .ret)))⟩
theorem L82_ok : lowFn Try.prog Try.f82 [] = some L82 := by kernel_rfl

/-- assessor_lexer.token -/
def L83 : LFn := ⟨82, [(.tmp 4), (.tmp 5)], (.seq (.ops [⟨(some 4), none, (.mv (.c (.v (.int .i64 0))))⟩,
      ⟨(some 5), none, (.mv (.c (.v (.int .i64 0))))⟩])
    (.seq (.block 0 (.seq (.ops [⟨(some 10), none, (.mv (.t 0))⟩,
      ⟨(some 11), none, (.mv (.t 1))⟩,
      ⟨(some 12), none, (.idx (.t 10) (.t 11))⟩,
      ⟨(some 13), none, (.call (.c (.fn (.func 101) [] [])) [(.t 12)])⟩,
      ⟨(some 9), none, (.mv (.t 13))⟩])
    (.cond (.t 9)
    (.seq (.ops [⟨(some 14), none, (.mv (.t 0))⟩,
      ⟨(some 15), none, (.mv (.t 1))⟩,
      ⟨(some 16), none, (.call (.c (.fn (.func 85) [] [])) [(.t 14), (.t 15), (.c (.fn (.func 102) [] []))])⟩,
      ⟨(some 6), none, (.mv (.t 16))⟩])
    (.seq (.seq (.ops [⟨(some 17), none, (.mv (.t 0))⟩,
      ⟨(some 18), none, (.mv (.t 1))⟩,
      ⟨(some 19), none, (.mv (.t 6))⟩,
      ⟨(some 20), none, (.slice .str 1 (.t 17) (some (.t 18)) (some (.t 19)))⟩,
      ⟨(some 21), none, (.call (.c (.fn (.func 103) [] [])) [(.t 20)])⟩])
    (.cond (.t 21)
    (.seq (.ops [⟨(some 22), none, (.mv (.t 6))⟩,
      ⟨(some 4), none, (.mv (.c (.v (.int .i64 1))))⟩,
      ⟨(some 5), none, (.mv (.t 22))⟩])
    .ret)
    .skip))
    (.seq (.ops [⟨(some 23), none, (.mv (.t 6))⟩,
      ⟨(some 4), none, (.mv (.c (.v (.int .i64 0))))⟩,
      ⟨(some 5), none, (.mv (.t 23))⟩])
    .ret)))
    (.seq (.ops [⟨(some 25), none, (.mv (.t 0))⟩,
      ⟨(some 26), none, (.mv (.t 1))⟩,
      ⟨(some 27), none, (.idx (.t 25) (.t 26))⟩,
      ⟨(some 28), none, (.call (.c (.fn (.func 86) [] [])) [(.t 27)])⟩,
      ⟨(some 24), none, (.mv (.t 28))⟩])
    (.cond (.t 24)
    (.seq (.ops [⟨(some 29), none, (.mv (.t 0))⟩,
      ⟨(some 30), none, (.mv (.t 1))⟩,
      ⟨(some 31), none, (.call (.c (.fn (.func 85) [] [])) [(.t 29), (.t 30), (.c (.fn (.func 86) [] []))])⟩,
      ⟨(some 4), none, (.mv (.c (.v (.int .i64 2))))⟩,
      ⟨(some 5), none, (.mv (.t 31))⟩])
    .ret)
    .skip)))))
    (.seq (.seq (.ops [⟨(some 32), none, (.mv (.t 0))⟩,
      ⟨(some 33), none, (.mv (.t 1))⟩,
      ⟨(some 34), none, (.call (.c (.fn (.func 104) [] [])) [(.t 32), (.t 33)])⟩,
      ⟨(some 7), none, (.mv (.t 34))⟩])
    (.seq (.ops [⟨(some 35), none, (.mv (.t 7))⟩,
      ⟨(some 36), none, (.bin .int .gtr (.t 35) (.c (.v (.int .i64 0))))⟩])
    (.cond (.t 36)
    (.seq (.ops [⟨(some 37), none, (.mv (.t 1))⟩,
      ⟨(some 38), none, (.mv (.t 7))⟩,
      ⟨(some 39), none, (.bin .int .add (.t 37) (.t 38))⟩,
      ⟨(some 4), none, (.mv (.c (.v (.int .i64 3))))⟩,
      ⟨(some 5), none, (.mv (.t 39))⟩])
    .ret)
    .skip)))
    (.seq (.ops [⟨(some 40), none, (.mv (.t 1))⟩,
      ⟨(some 41), none, (.bin .int .add (.t 40) (.c (.v (.int .i64 1))))⟩,
      ⟨(some 8), none, (.mv (.t 41))⟩])
    (.seq (.block 1 (.loop (.seq (.seq (.ops [⟨(some 42), none, (.mv (.t 8))⟩,
      ⟨(some 43), none, (.mv (.t 0))⟩,
      ⟨(some 44), none, (.len .str (.t 43))⟩,
      ⟨(some 45), none, (.bin .int .lss (.t 42) (.t 44))⟩,
      ⟨(some 46), none, (.mv (.t 45))⟩,
      ⟨(some 47), (some (46, true)), (.mv (.t 0))⟩,
      ⟨(some 48), (some (46, true)), (.mv (.t 8))⟩,
      ⟨(some 49), (some (46, true)), (.idx (.t 47) (.t 48))⟩,
      ⟨(some 50), (some (46, true)), (.call (.c (.fn (.func 99) [] [])) [(.t 49)])⟩,
      ⟨(some 51), (some (46, true)), (.not (.t 50))⟩,
      ⟨(some 52), none, (.pick (.t 46) (.t 51) (.c (.v (.bool false))))⟩,
      ⟨(some 53), none, (.mv (.t 52))⟩,
      ⟨(some 54), (some (53, true)), (.mv (.t 0))⟩,
      ⟨(some 55), (some (53, true)), (.mv (.t 8))⟩,
      ⟨(some 56), (some (53, true)), (.idx (.t 54) (.t 55))⟩,
      ⟨(some 57), (some (53, true)), (.bin .int .neq (.t 56) (.c (.v (.int .u8 35))))⟩,
      ⟨(some 58), none, (.pick (.t 53) (.t 57) (.c (.v (.bool false))))⟩,
      ⟨(some 59), none, (.mv (.t 58))⟩,
      ⟨(some 60), (some (59, true)), (.mv (.t 0))⟩,
      ⟨(some 61), (some (59, true)), (.mv (.t 8))⟩,
      ⟨(some 62), (some (59, true)), (.idx (.t 60) (.t 61))⟩,
      ⟨(some 63), (some (59, true)), (.call (.c (.fn (.func 101) [] [])) [(.t 62)])⟩,
      ⟨(some 64), (some (59, true)), (.not (.t 63))⟩,
      ⟨(some 65), none, (.pick (.t 59) (.t 64) (.c (.v (.bool false))))⟩,
      ⟨(some 66), none, (.mv (.t 65))⟩,
      ⟨(some 67), (some (66, true)), (.mv (.t 0))⟩,
      ⟨(some 68), (some (66, true)), (.mv (.t 8))⟩,
      ⟨(some 69), (some (66, true)), (.idx (.t 67) (.t 68))⟩,
      ⟨(some 70), (some (66, true)), (.call (.c (.fn (.func 86) [] [])) [(.t 69)])⟩,
      ⟨(some 71), (some (66, true)), (.not (.t 70))⟩,
      ⟨(some 72), none, (.pick (.t 66) (.t 71) (.c (.v (.bool false))))⟩,
      ⟨(some 73), none, (.mv (.t 72))⟩,
      ⟨(some 74), (some (73, true)), (.mv (.t 0))⟩,
      ⟨(some 75), (some (73, true)), (.mv (.t 8))⟩,
      ⟨(some 76), (some (73, true)), (.call (.c (.fn (.func 104) [] [])) [(.t 74), (.t 75)])⟩,
      ⟨(some 77), (some (73, true)), (.bin .int .eql (.t 76) (.c (.v (.int .i64 0))))⟩,
      ⟨(some 78), none, (.pick (.t 73) (.t 77) (.c (.v (.bool false))))⟩])
    (.cond (.t 78)
    .skip
    (.exit 1)))
    (.block 2 (.ops [⟨(some 79), none, (.mv (.t 8))⟩,
      ⟨(some 80), none, (.bin .int .add (.t 79) (.c (.v (.int .i64 1))))⟩,
      ⟨(some 8), none, (.mv (.t 80))⟩])))))
    (.seq (.ops [⟨(some 81), none, (.mv (.t 8))⟩,
      ⟨(some 4), none, (.mv (.c (.v (.int .i64 4))))⟩,
      ⟨(some 5), none, (.mv (.t 81))⟩])
    .ret))))))⟩
theorem L83_ok : lowFn Try.prog Try.f83 [] = some L83 := by kernel_rfl

/-- assessor_lexer.fit -/
def L84 : LFn := ⟨41, [(.tmp 4)], (.seq (.ops [⟨(some 4), none, (.mv (.c (.v (.bool false))))⟩])
    (.seq (.seq (.ops [⟨(some 7), none, (.mv (.t 1))⟩,
      ⟨(some 8), none, (.len .slc (.t 7))⟩,
      ⟨(some 9), none, (.mv (.c (.v (.int .i64 0))))⟩])
    (.block 0 (.loop (.seq (.ops [⟨(some 10), none, (.bin .int .lss (.t 9) (.t 8))⟩])
    (.seq (.cond (.t 10)
    .skip
    (.exit 0))
    (.seq (.block 1 (.seq (.ops [⟨(some 11), none, (.iaddr 4 (.t 7) (.t 9))⟩,
      ⟨(some 12), none, (.load true 4 (.t 11))⟩,
      ⟨(some 6), none, (.alloc [(.v (.int .i64 0)), (.v (.int .i64 0)), (.v (.int .i64 0)), (.v (.int .i64 0))])⟩,
      ⟨none, none, (.store 4 (.t 6) (.t 12))⟩])
    (.seq (.ops [⟨(some 13), none, (.faddr 1 (.t 6))⟩,
      ⟨(some 14), none, (.load false 1 (.t 13))⟩,
      ⟨(some 15), none, (.bin .int .lss (.t 14) (.c (.v (.int .i64 0))))⟩,
      ⟨(some 16), none, (.mv (.t 15))⟩,
      ⟨(some 17), (some (16, false)), (.faddr 2 (.t 6))⟩,
      ⟨(some 18), (some (16, false)), (.load false 1 (.t 17))⟩,
      ⟨(some 19), (some (16, false)), (.faddr 1 (.t 6))⟩,
      ⟨(some 20), (some (16, false)), (.load false 1 (.t 19))⟩,
      ⟨(some 21), (some (16, false)), (.bin .int .lss (.t 18) (.t 20))⟩,
      ⟨(some 22), none, (.pick (.t 16) (.c (.v (.bool true))) (.t 21))⟩,
      ⟨(some 23), none, (.mv (.t 22))⟩,
      ⟨(some 24), (some (23, false)), (.faddr 3 (.t 6))⟩,
      ⟨(some 25), (some (23, false)), (.load false 1 (.t 24))⟩,
      ⟨(some 26), (some (23, false)), (.faddr 2 (.t 6))⟩,
      ⟨(some 27), (some (23, false)), (.load false 1 (.t 26))⟩,
      ⟨(some 28), (some (23, false)), (.bin .int .lss (.t 25) (.t 27))⟩,
      ⟨(some 29), none, (.pick (.t 23) (.c (.v (.bool true))) (.t 28))⟩,
      ⟨(some 30), none, (.mv (.t 29))⟩,
      ⟨(some 31), (some (30, false)), (.faddr 3 (.t 6))⟩,
      ⟨(some 32), (some (30, false)), (.load false 1 (.t 31))⟩,
      ⟨(some 33), (some (30, false)), (.mv (.t 0))⟩,
      ⟨(some 34), (some (30, false)), (.len .str (.t 33))⟩,
      ⟨(some 35), (some (30, false)), (.bin .int .gtr (.t 32) (.t 34))⟩,
      ⟨(some 36), none, (.pick (.t 30) (.c (.v (.bool true))) (.t 35))⟩])
    (.cond (.t 36)
    (.seq (.ops [⟨(some 4), none, (.mv (.c (.v (.bool false))))⟩])
    .ret)
    .skip))))
    (.ops [⟨(some 37), none, (.bin .int .add (.t 9) (.c (.v (.int .i64 1))))⟩,
      ⟨(some 9), none, (.mv (.t 37))⟩])))))))
    (.seq (.ops [⟨(some 38), none, (.mv (.t 1))⟩,
      ⟨(some 39), none, (.len .slc (.t 38))⟩,
      ⟨(some 40), none, (.bin .int .leq (.t 39) (.c (.v (.int .i64 4097))))⟩,
      ⟨(some 4), none, (.mv (.t 40))⟩])
    .ret)))⟩
theorem L84_ok : lowFn Try.prog Try.f84 [] = some L84 := by kernel_rfl

/-- assessor_lexer.run -/
def L85 : LFn := ⟨21, [(.tmp 6)], (.seq (.ops [⟨(some 6), none, (.mv (.c (.v (.int .i64 0))))⟩])
    (.seq (.block 0 (.loop (.seq (.seq (.ops [⟨(some 7), none, (.mv (.t 1))⟩,
      ⟨(some 8), none, (.mv (.t 0))⟩,
      ⟨(some 9), none, (.len .str (.t 8))⟩,
      ⟨(some 10), none, (.bin .int .lss (.t 7) (.t 9))⟩,
      ⟨(some 11), none, (.mv (.t 10))⟩,
      ⟨(some 12), (some (11, true)), (.mv (.t 2))⟩,
      ⟨(some 13), (some (11, true)), (.mv (.t 0))⟩,
      ⟨(some 14), (some (11, true)), (.mv (.t 1))⟩,
      ⟨(some 15), (some (11, true)), (.idx (.t 13) (.t 14))⟩,
      ⟨(some 16), (some (11, true)), (.call (.t 12) [(.t 15)])⟩,
      ⟨(some 17), none, (.pick (.t 11) (.t 16) (.c (.v (.bool false))))⟩])
    (.cond (.t 17)
    .skip
    (.exit 0)))
    (.block 1 (.ops [⟨(some 18), none, (.mv (.t 1))⟩,
      ⟨(some 19), none, (.bin .int .add (.t 18) (.c (.v (.int .i64 1))))⟩,
      ⟨(some 1), none, (.mv (.t 19))⟩])))))
    (.seq (.ops [⟨(some 20), none, (.mv (.t 1))⟩,
      ⟨(some 6), none, (.mv (.t 20))⟩])
    .ret)))⟩
theorem L85_ok : lowFn Try.prog Try.f85 [] = some L85 := by kernel_rfl

/-- assessor_lexer.digit -/
def L86 : LFn := ⟨9, [(.tmp 2)], (.seq (.ops [⟨(some 2), none, (.mv (.c (.v (.bool false))))⟩])
    (.seq (.ops [⟨(some 3), none, (.mv (.t 0))⟩,
      ⟨(some 4), none, (.bin .int .geq (.t 3) (.c (.v (.int .u8 48))))⟩,
      ⟨(some 5), none, (.mv (.t 4))⟩,
      ⟨(some 6), (some (5, true)), (.mv (.t 0))⟩,
      ⟨(some 7), (some (5, true)), (.bin .int .leq (.t 6) (.c (.v (.int .u8 57))))⟩,
      ⟨(some 8), none, (.pick (.t 5) (.t 7) (.c (.v (.bool false))))⟩,
      ⟨(some 2), none, (.mv (.t 8))⟩])
    .ret))⟩
theorem L86_ok : lowFn Try.prog Try.f86 [] = some L86 := by kernel_rfl

/-- assessor_lexer.white -/
def L99 : LFn := ⟨17, [(.tmp 2)], (.seq (.ops [⟨(some 2), none, (.mv (.c (.v (.bool false))))⟩])
    (.seq (.ops [⟨(some 3), none, (.mv (.t 0))⟩,
      ⟨(some 4), none, (.bin .int .eql (.t 3) (.c (.v (.int .u8 9))))⟩,
      ⟨(some 5), none, (.mv (.t 4))⟩,
      ⟨(some 6), (some (5, false)), (.mv (.t 0))⟩,
      ⟨(some 7), (some (5, false)), (.bin .int .eql (.t 6) (.c (.v (.int .u8 10))))⟩,
      ⟨(some 8), none, (.pick (.t 5) (.c (.v (.bool true))) (.t 7))⟩,
      ⟨(some 9), none, (.mv (.t 8))⟩,
      ⟨(some 10), (some (9, false)), (.mv (.t 0))⟩,
      ⟨(some 11), (some (9, false)), (.bin .int .eql (.t 10) (.c (.v (.int .u8 13))))⟩,
      ⟨(some 12), none, (.pick (.t 9) (.c (.v (.bool true))) (.t 11))⟩,
      ⟨(some 13), none, (.mv (.t 12))⟩,
      ⟨(some 14), (some (13, false)), (.mv (.t 0))⟩,
      ⟨(some 15), (some (13, false)), (.bin .int .eql (.t 14) (.c (.v (.int .u8 32))))⟩,
      ⟨(some 16), none, (.pick (.t 13) (.c (.v (.bool true))) (.t 15))⟩,
      ⟨(some 2), none, (.mv (.t 16))⟩])
    .ret))⟩
theorem L99_ok : lowFn Try.prog Try.f99 [] = some L99 := by kernel_rfl

/-- assessor_lexer.skip$1 -/
def L100 : LFn := ⟨5, [(.tmp 2)], (.seq (.ops [⟨(some 2), none, (.mv (.c (.v (.bool false))))⟩])
    (.seq (.ops [⟨(some 3), none, (.mv (.t 0))⟩,
      ⟨(some 4), none, (.bin .int .neq (.t 3) (.c (.v (.int .u8 10))))⟩,
      ⟨(some 2), none, (.mv (.t 4))⟩])
    .ret))⟩
theorem L100_ok : lowFn Try.prog Try.f100 [] = some L100 := by kernel_rfl

/-- assessor_lexer.letter -/
def L101 : LFn := ⟨9, [(.tmp 2)], (.seq (.ops [⟨(some 2), none, (.mv (.c (.v (.bool false))))⟩])
    (.seq (.ops [⟨(some 3), none, (.mv (.t 0))⟩,
      ⟨(some 4), none, (.bin .int .geq (.t 3) (.c (.v (.int .u8 97))))⟩,
      ⟨(some 5), none, (.mv (.t 4))⟩,
      ⟨(some 6), (some (5, true)), (.mv (.t 0))⟩,
      ⟨(some 7), (some (5, true)), (.bin .int .leq (.t 6) (.c (.v (.int .u8 122))))⟩,
      ⟨(some 8), none, (.pick (.t 5) (.t 7) (.c (.v (.bool false))))⟩,
      ⟨(some 2), none, (.mv (.t 8))⟩])
    .ret))⟩
theorem L101_ok : lowFn Try.prog Try.f101 [] = some L101 := by kernel_rfl

/-- assessor_lexer.token$1 -/
def L102 : LFn := ⟨13, [(.tmp 2)], (.seq (.ops [⟨(some 2), none, (.mv (.c (.v (.bool false))))⟩])
    (.seq (.ops [⟨(some 3), none, (.mv (.t 0))⟩,
      ⟨(some 4), none, (.call (.c (.fn (.func 101) [] [])) [(.t 3)])⟩,
      ⟨(some 5), none, (.mv (.t 4))⟩,
      ⟨(some 6), (some (5, false)), (.mv (.t 0))⟩,
      ⟨(some 7), (some (5, false)), (.call (.c (.fn (.func 86) [] [])) [(.t 6)])⟩,
      ⟨(some 8), none, (.pick (.t 5) (.c (.v (.bool true))) (.t 7))⟩,
      ⟨(some 9), none, (.mv (.t 8))⟩,
      ⟨(some 10), (some (9, false)), (.mv (.t 0))⟩,
      ⟨(some 11), (some (9, false)), (.bin .int .eql (.t 10) (.c (.v (.int .u8 95))))⟩,
      ⟨(some 12), none, (.pick (.t 9) (.c (.v (.bool true))) (.t 11))⟩,
      ⟨(some 2), none, (.mv (.t 12))⟩])
    .ret))⟩
theorem L102_ok : lowFn Try.prog Try.f102 [] = some L102 := by kernel_rfl

/-- assessor_lexer.Keyword -/
def L103 : LFn := ⟨6, [(.tmp 2)], (.seq (.ops [⟨(some 2), none, (.mv (.c (.v (.bool false))))⟩])
    (.seq (.ops [⟨(some 3), none, (.call (.c (.fn (.func 114) [] [])) [])⟩,
      ⟨(some 4), none, (.mv (.t 0))⟩,
      ⟨(some 5), none, (.look .str (.v (.bool false)) false (.t 3) (.t 4))⟩,
      ⟨(some 2), none, (.mv (.t 5))⟩])
    .ret))⟩
theorem L103_ok : lowFn Try.prog Try.f103 [] = some L103 := by kernel_rfl

/-- assessor_lexer.symbol -/
def L104 : LFn := ⟨56, [(.tmp 4)], (.seq (.ops [⟨(some 4), none, (.mv (.c (.v (.int .i64 0))))⟩])
    (.seq (.seq (.ops [⟨(some 7), none, (.mv (.t 1))⟩,
      ⟨(some 8), none, (.bin .int .add (.t 7) (.c (.v (.int .i64 1))))⟩,
      ⟨(some 9), none, (.mv (.t 0))⟩,
      ⟨(some 10), none, (.len .str (.t 9))⟩,
      ⟨(some 11), none, (.bin .int .lss (.t 8) (.t 10))⟩,
      ⟨(some 12), none, (.mv (.t 11))⟩,
      ⟨(some 13), (some (12, true)), (.mv (.t 0))⟩,
      ⟨(some 14), (some (12, true)), (.mv (.t 1))⟩,
      ⟨(some 15), (some (12, true)), (.bin .int .add (.t 14) (.c (.v (.int .i64 1))))⟩,
      ⟨(some 16), (some (12, true)), (.idx (.t 13) (.t 15))⟩,
      ⟨(some 17), (some (12, true)), (.bin .int .eql (.t 16) (.c (.v (.int .u8 61))))⟩,
      ⟨(some 18), none, (.pick (.t 12) (.t 17) (.c (.v (.bool false))))⟩,
      ⟨(some 19), none, (.mv (.t 18))⟩,
      ⟨(some 20), (some (19, true)), (.mv (.t 0))⟩,
      ⟨(some 21), (some (19, true)), (.mv (.t 1))⟩,
      ⟨(some 22), (some (19, true)), (.idx (.t 20) (.t 21))⟩,
      ⟨(some 23), (some (19, true)), (.bin .int .eql (.t 22) (.c (.v (.int .u8 61))))⟩,
      ⟨(some 24), (some (19, true)), (.mv (.t 23))⟩,
      ⟨(some 25), (some (24, false)), (.mv (.t 0))⟩,
      ⟨(some 26), (some (24, false)), (.mv (.t 1))⟩,
      ⟨(some 27), (some (24, false)), (.idx (.t 25) (.t 26))⟩,
      ⟨(some 28), (some (24, false)), (.bin .int .eql (.t 27) (.c (.v (.int .u8 33))))⟩,
      ⟨(some 29), (some (19, true)), (.pick (.t 24) (.c (.v (.bool true))) (.t 28))⟩,
      ⟨(some 30), (some (19, true)), (.mv (.t 29))⟩,
      ⟨(some 31), (some (30, false)), (.mv (.t 0))⟩,
      ⟨(some 32), (some (30, false)), (.mv (.t 1))⟩,
      ⟨(some 33), (some (30, false)), (.idx (.t 31) (.t 32))⟩,
      ⟨(some 34), (some (30, false)), (.bin .int .eql (.t 33) (.c (.v (.int .u8 60))))⟩,
      ⟨(some 35), (some (19, true)), (.pick (.t 30) (.c (.v (.bool true))) (.t 34))⟩,
      ⟨(some 36), (some (19, true)), (.mv (.t 35))⟩,
      ⟨(some 37), (some (36, false)), (.mv (.t 0))⟩,
      ⟨(some 38), (some (36, false)), (.mv (.t 1))⟩,
      ⟨(some 39), (some (36, false)), (.idx (.t 37) (.t 38))⟩,
      ⟨(some 40), (some (36, false)), (.bin .int .eql (.t 39) (.c (.v (.int .u8 62))))⟩,
      ⟨(some 41), (some (19, true)), (.pick (.t 36) (.c (.v (.bool true))) (.t 40))⟩,
      ⟨(some 42), none, (.pick (.t 19) (.t 41) (.c (.v (.bool false))))⟩])
    (.cond (.t 42)
    (.seq (.ops [⟨(some 4), none, (.mv (.c (.v (.int .i64 2))))⟩])
    .ret)
    .skip))
    (.seq (.seq (.ops [⟨(some 43), none, (.bsl false 1 18 [(.v (.int .u8 0))] [(0, (.c (.v (.int .u8 60)))), (1, (.c (.v (.int .u8 62)))), (2, (.c (.v (.int .u8 61)))), (3, (.c (.v (.int .u8 43)))), (4, (.c (.v (.int .u8 45)))), (5, (.c (.v (.int .u8 42)))), (6, (.c (.v (.int .u8 47)))), (7, (.c (.v (.int .u8 37)))), (8, (.c (.v (.int .u8 40)))), (9, (.c (.v (.int .u8 41)))), (10, (.c (.v (.int .u8 123)))), (11, (.c (.v (.int .u8 125)))), (12, (.c (.v (.int .u8 91)))), (13, (.c (.v (.int .u8 93)))), (14, (.c (.v (.int .u8 44)))), (15, (.c (.v (.int .u8 59)))), (16, (.c (.v (.int .u8 58)))), (17, (.c (.v (.int .u8 46))))])⟩,
      ⟨(some 44), none, (.conv .sameB (.t 43))⟩,
      ⟨(some 45), none, (.len .slc (.t 44))⟩,
      ⟨(some 46), none, (.mv (.c (.v (.int .i64 0))))⟩])
    (.block 0 (.loop (.seq (.ops [⟨(some 47), none, (.bin .int .lss (.t 46) (.t 45))⟩])
    (.seq (.cond (.t 47)
    .skip
    (.exit 0))
    (.seq (.block 1 (.seq (.ops [⟨(some 48), none, (.iaddr 1 (.t 44) (.t 46))⟩,
      ⟨(some 49), none, (.load false 1 (.t 48))⟩,
      ⟨(some 6), none, (.mv (.t 49))⟩])
    (.seq (.ops [⟨(some 50), none, (.mv (.t 0))⟩,
      ⟨(some 51), none, (.mv (.t 1))⟩,
      ⟨(some 52), none, (.idx (.t 50) (.t 51))⟩,
      ⟨(some 53), none, (.mv (.t 6))⟩,
      ⟨(some 54), none, (.bin .int .eql (.t 52) (.t 53))⟩])
    (.cond (.t 54)
    (.seq (.ops [⟨(some 4), none, (.mv (.c (.v (.int .i64 1))))⟩])
    .ret)
    .skip))))
    (.ops [⟨(some 55), none, (.bin .int .add (.t 46) (.c (.v (.int .i64 1))))⟩,
      ⟨(some 46), none, (.mv (.t 55))⟩])))))))
    (.seq (.ops [⟨(some 4), none, (.mv (.c (.v (.int .i64 0))))⟩])
    .ret))))⟩
theorem L104_ok : lowFn Try.prog Try.f104 [] = some L104 := by kernel_rfl

/-- assessor_lexer.keywords -/
def L114 : LFn := ⟨3, [(.tmp 0)], (.seq (.ops [⟨(some 0), none, (.mv (.c (.v (.map none))))⟩])
    (.seq (.ops [⟨(some 1), none, .mkmap⟩,
      ⟨none, none, (.ins .str (.t 1) (.c (.v (.string (mkS [114, 101, 99, 111, 114, 100])))) (.c (.v (.bool true))))⟩,
      ⟨none, none, (.ins .str (.t 1) (.c (.v (.string (mkS [112, 114, 111, 99])))) (.c (.v (.bool true))))⟩,
      ⟨none, none, (.ins .str (.t 1) (.c (.v (.string (mkS [118, 97, 114])))) (.c (.v (.bool true))))⟩,
      ⟨none, none, (.ins .str (.t 1) (.c (.v (.string (mkS [105, 102])))) (.c (.v (.bool true))))⟩,
      ⟨none, none, (.ins .str (.t 1) (.c (.v (.string (mkS [101, 108, 115, 101])))) (.c (.v (.bool true))))⟩,
      ⟨none, none, (.ins .str (.t 1) (.c (.v (.string (mkS [119, 104, 105, 108, 101])))) (.c (.v (.bool true))))⟩,
      ⟨none, none, (.ins .str (.t 1) (.c (.v (.string (mkS [102, 111, 114])))) (.c (.v (.bool true))))⟩,
      ⟨none, none, (.ins .str (.t 1) (.c (.v (.string (mkS [116, 111])))) (.c (.v (.bool true))))⟩,
      ⟨none, none, (.ins .str (.t 1) (.c (.v (.string (mkS [114, 101, 116, 117, 114, 110])))) (.c (.v (.bool true))))⟩,
      ⟨none, none, (.ins .str (.t 1) (.c (.v (.string (mkS [97, 115, 115, 101, 114, 116])))) (.c (.v (.bool true))))⟩,
      ⟨none, none, (.ins .str (.t 1) (.c (.v (.string (mkS [97, 110, 100])))) (.c (.v (.bool true))))⟩,
      ⟨none, none, (.ins .str (.t 1) (.c (.v (.string (mkS [111, 114])))) (.c (.v (.bool true))))⟩,
      ⟨none, none, (.ins .str (.t 1) (.c (.v (.string (mkS [110, 111, 116])))) (.c (.v (.bool true))))⟩,
      ⟨none, none, (.ins .str (.t 1) (.c (.v (.string (mkS [116, 114, 117, 101])))) (.c (.v (.bool true))))⟩,
      ⟨none, none, (.ins .str (.t 1) (.c (.v (.string (mkS [102, 97, 108, 115, 101])))) (.c (.v (.bool true))))⟩,
      ⟨none, none, (.ins .str (.t 1) (.c (.v (.string (mkS [105, 110, 116])))) (.c (.v (.bool true))))⟩,
      ⟨none, none, (.ins .str (.t 1) (.c (.v (.string (mkS [98, 111, 111, 108])))) (.c (.v (.bool true))))⟩,
      ⟨none, none, (.ins .str (.t 1) (.c (.v (.string (mkS [108, 101, 110])))) (.c (.v (.bool true))))⟩,
      ⟨(some 2), none, (.mv (.t 1))⟩,
      ⟨(some 0), none, (.mv (.t 2))⟩,
      ⟨(some 0), none, (.frz (.t 0))⟩])
    .ret))⟩
theorem L114_ok : lowFn Try.prog Try.f114 [⟨1, 21, (.pre 0 (.frz (.t 0)))⟩] = some L114 := by kernel_rfl


end Go.Proofs.Ytdgmlepakippmaa
