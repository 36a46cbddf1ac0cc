/- Parts, merged by a program (wip/tools/merge.py): Fl Lx1 Lx2 Tr1 Tr2 Tr3 Lx3 Lx4 Lx5 Lx6 Tr4 Tr5 Tr6 Tr7 Ax28 Tr8 Tr9 Tr10 Tr11 Tr12 Tr13 Ax29 Tr14 Tr15 Tr16 Tr17 Fz Tr18. -/
import Derived.Test.YtnbdogodcjhfiaaM3
import Derived.Test.YtnbdogodcjhfiaaChecked
/- The functions, lowered. Printed by a program (wip/tools/pl.py). -/
namespace Go.Proofs.Ytnbdogodcjhfiaa
open Go Go.Ax
set_option maxRecDepth 100000

/-- assessor_lexer.Number -/
def L70 : LFn := ⟨36, [(.tmp 2), (.tmp 3)], (.seq (.ops [⟨(some 2), none, (.mv (.c (.v (.int .i64 0))))⟩,
      ⟨(some 3), none, (.mv (.c (.v (.bool false))))⟩])
    (.seq (.seq (.ops [⟨(some 7), none, (.mv (.t 0))⟩,
      ⟨(some 8), none, (.bin .str .eql (.t 7) (.c (.v (.string (mkS [])))))⟩,
      ⟨(some 9), none, (.mv (.t 8))⟩,
      ⟨(some 10), (some (9, false)), (.mv (.t 0))⟩,
      ⟨(some 11), (some (9, false)), (.len .str (.t 10))⟩,
      ⟨(some 12), (some (9, false)), (.bin .int .gtr (.t 11) (.c (.v (.int .i64 9))))⟩,
      ⟨(some 13), none, (.pick (.t 9) (.c (.v (.bool true))) (.t 12))⟩,
      ⟨(some 14), none, (.mv (.t 13))⟩,
      ⟨(some 15), (some (14, false)), (.mv (.t 0))⟩,
      ⟨(some 16), (some (14, false)), (.call (.c (.fn (.func 98) [] [])) [(.t 15), (.c (.v (.int .i64 0))), (.c (.fn (.func 99) [] []))])⟩,
      ⟨(some 17), (some (14, false)), (.mv (.t 0))⟩,
      ⟨(some 18), (some (14, false)), (.len .str (.t 17))⟩,
      ⟨(some 19), (some (14, false)), (.bin .int .lss (.t 16) (.t 18))⟩,
      ⟨(some 20), none, (.pick (.t 14) (.c (.v (.bool true))) (.t 19))⟩])
    (.cond (.t 20)
    (.seq (.ops [⟨(some 2), none, (.mv (.c (.v (.int .i64 0))))⟩,
      ⟨(some 3), none, (.mv (.c (.v (.bool false))))⟩])
    .ret)
    .skip))
    (.seq (.ops [⟨(some 4), none, (.mv (.c (.v (.int .i64 0))))⟩])
    (.seq (.seq (.ops [⟨(some 21), none, (.mv (.t 0))⟩,
      ⟨(some 22), none, (.conv .strBytes (.t 21))⟩,
      ⟨(some 23), none, (.len .slc (.t 22))⟩,
      ⟨(some 24), none, (.mv (.c (.v (.int .i64 0))))⟩])
    (.block 0 (.loop (.seq (.ops [⟨(some 25), none, (.bin .int .lss (.t 24) (.t 23))⟩])
    (.seq (.cond (.t 25)
    .skip
    (.exit 0))
    (.seq (.block 1 (.seq (.ops [⟨(some 26), none, (.iaddr 1 (.t 22) (.t 24))⟩,
      ⟨(some 27), none, (.load false 1 (.t 26))⟩,
      ⟨(some 6), none, (.mv (.t 27))⟩])
    (.ops [⟨(some 28), none, (.mv (.t 4))⟩,
      ⟨(some 29), none, (.bin .int .mul (.c (.v (.int .i64 10))) (.t 28))⟩,
      ⟨(some 30), none, (.mv (.t 6))⟩,
      ⟨(some 31), none, (.bin .int .sub (.t 30) (.c (.v (.int .u8 48))))⟩,
      ⟨(some 32), none, (.conv (.toInt .i64) (.t 31))⟩,
      ⟨(some 33), none, (.bin .int .add (.t 29) (.t 32))⟩,
      ⟨(some 4), none, (.mv (.t 33))⟩])))
    (.ops [⟨(some 34), none, (.bin .int .add (.t 24) (.c (.v (.int .i64 1))))⟩,
      ⟨(some 24), none, (.mv (.t 34))⟩])))))))
    (.seq (.ops [⟨(some 35), none, (.mv (.t 4))⟩,
      ⟨(some 2), none, (.mv (.t 35))⟩,
      ⟨(some 3), none, (.mv (.c (.v (.bool true))))⟩])
    .ret)))))⟩
theorem L70_ok : lowFn Try.prog Try.f70 [] = some L70 := by kernel_rfl

/-- assessor_assessorref02.Number -/
def L73 : LFn := ⟨34, [(.tmp 2), (.tmp 3)], (.seq (.ops [⟨(some 2), none, (.mv (.c (.v (.int .i64 0))))⟩,
      ⟨(some 3), none, (.mv (.c (.v (.bool false))))⟩])
    (.seq (.seq (.ops [⟨(some 6), none, (.mv (.t 0))⟩,
      ⟨(some 7), none, (.len .str (.t 6))⟩,
      ⟨(some 8), none, (.bin .int .lss (.t 7) (.c (.v (.int .i64 1))))⟩,
      ⟨(some 9), none, (.mv (.t 8))⟩,
      ⟨(some 10), (some (9, false)), (.mv (.t 0))⟩,
      ⟨(some 11), (some (9, false)), (.len .str (.t 10))⟩,
      ⟨(some 12), (some (9, false)), (.bin .int .gtr (.t 11) (.c (.v (.int .i64 9))))⟩,
      ⟨(some 13), none, (.pick (.t 9) (.c (.v (.bool true))) (.t 12))⟩])
    (.cond (.t 13)
    (.seq (.ops [⟨(some 2), none, (.mv (.c (.v (.int .i64 0))))⟩,
      ⟨(some 3), none, (.mv (.c (.v (.bool false))))⟩])
    .ret)
    .skip))
    (.seq (.ops [⟨(some 4), none, (.mv (.c (.v (.int .i64 0))))⟩])
    (.seq (.seq (.ops [⟨(some 5), none, (.mv (.c (.v (.int .i64 0))))⟩])
    (.block 0 (.loop (.seq (.seq (.ops [⟨(some 14), none, (.mv (.t 5))⟩,
      ⟨(some 15), none, (.mv (.t 0))⟩,
      ⟨(some 16), none, (.len .str (.t 15))⟩,
      ⟨(some 17), none, (.bin .int .lss (.t 14) (.t 16))⟩])
    (.cond (.t 17)
    .skip
    (.exit 0)))
    (.seq (.block 1 (.seq (.seq (.ops [⟨(some 20), none, (.mv (.t 0))⟩,
      ⟨(some 21), none, (.mv (.t 5))⟩,
      ⟨(some 22), none, (.idx (.t 20) (.t 21))⟩,
      ⟨(some 23), none, (.call (.c (.fn (.func 100) [] [])) [(.t 22)])⟩,
      ⟨(some 24), none, (.not (.t 23))⟩])
    (.cond (.t 24)
    (.seq (.ops [⟨(some 2), none, (.mv (.c (.v (.int .i64 0))))⟩,
      ⟨(some 3), none, (.mv (.c (.v (.bool false))))⟩])
    .ret)
    .skip))
    (.ops [⟨(some 25), none, (.mv (.t 4))⟩,
      ⟨(some 26), none, (.bin .int .mul (.c (.v (.int .i64 10))) (.t 25))⟩,
      ⟨(some 27), none, (.mv (.t 0))⟩,
      ⟨(some 28), none, (.mv (.t 5))⟩,
      ⟨(some 29), none, (.idx (.t 27) (.t 28))⟩,
      ⟨(some 30), none, (.bin .int .sub (.t 29) (.c (.v (.int .u8 48))))⟩,
      ⟨(some 31), none, (.conv (.toInt .i64) (.t 30))⟩,
      ⟨(some 32), none, (.bin .int .add (.t 26) (.t 31))⟩,
      ⟨(some 4), none, (.mv (.t 32))⟩])))
    (.ops [⟨(some 18), none, (.mv (.t 5))⟩,
      ⟨(some 19), none, (.bin .int .add (.t 18) (.c (.v (.int .i64 1))))⟩,
      ⟨(some 5), none, (.mv (.t 19))⟩]))))))
    (.seq (.ops [⟨(some 33), none, (.mv (.t 4))⟩,
      ⟨(some 2), none, (.mv (.t 33))⟩,
      ⟨(some 3), none, (.mv (.c (.v (.bool true))))⟩])
    .ret)))))⟩
theorem L73_ok : lowFn Try.prog Try.f73 [] = some L73 := by kernel_rfl

/-- assessor_lexer.Name -/
def L79 : LFn := ⟨25, [(.tmp 2)], (.seq (.ops [⟨(some 2), none, (.mv (.c (.v (.bool false))))⟩])
    (.seq (.seq (.ops [⟨(some 3), none, (.mv (.t 0))⟩,
      ⟨(some 4), none, (.bin .str .eql (.t 3) (.c (.v (.string (mkS [])))))⟩,
      ⟨(some 5), none, (.mv (.t 4))⟩,
      ⟨(some 6), (some (5, false)), (.mv (.t 0))⟩,
      ⟨(some 7), (some (5, false)), (.len .str (.t 6))⟩,
      ⟨(some 8), (some (5, false)), (.bin .int .gtr (.t 7) (.c (.v (.int .i64 16))))⟩,
      ⟨(some 9), none, (.pick (.t 5) (.c (.v (.bool true))) (.t 8))⟩,
      ⟨(some 10), none, (.mv (.t 9))⟩,
      ⟨(some 11), (some (10, false)), (.mv (.t 0))⟩,
      ⟨(some 12), (some (10, false)), (.idx (.t 11) (.c (.v (.int .i64 0))))⟩,
      ⟨(some 13), (some (10, false)), (.call (.c (.fn (.func 107) [] [])) [(.t 12)])⟩,
      ⟨(some 14), (some (10, false)), (.not (.t 13))⟩,
      ⟨(some 15), none, (.pick (.t 10) (.c (.v (.bool true))) (.t 14))⟩,
      ⟨(some 16), none, (.mv (.t 15))⟩,
      ⟨(some 17), (some (16, false)), (.mv (.t 0))⟩,
      ⟨(some 18), (some (16, false)), (.call (.c (.fn (.func 108) [] [])) [(.t 17)])⟩,
      ⟨(some 19), none, (.pick (.t 16) (.c (.v (.bool true))) (.t 18))⟩])
    (.cond (.t 19)
    (.seq (.ops [⟨(some 2), none, (.mv (.c (.v (.bool false))))⟩])
    .ret)
    .skip))
    (.seq (.ops [⟨(some 20), none, (.mv (.t 0))⟩,
      ⟨(some 21), none, (.call (.c (.fn (.func 98) [] [])) [(.t 20), (.c (.v (.int .i64 0))), (.c (.fn (.func 109) [] []))])⟩,
      ⟨(some 22), none, (.mv (.t 0))⟩,
      ⟨(some 23), none, (.len .str (.t 22))⟩,
      ⟨(some 24), none, (.bin .int .eql (.t 21) (.t 23))⟩,
      ⟨(some 2), none, (.mv (.t 24))⟩])
    .ret)))⟩
theorem L79_ok : lowFn Try.prog Try.f79 [] = some L79 := by kernel_rfl

/-- assessor_lexer.run -/
def L98 : LFn := ⟨21, [(.tmp 6)], (.seq (.ops [⟨(some 6), none, (.mv (.c (.v (.int .i64 0))))⟩])
    (.seq (.block 0 (.loop (.seq (.seq (.ops [⟨(some 7), none, (.mv (.t 1))⟩,
      ⟨(some 8), none, (.mv (.t 0))⟩,
      ⟨(some 9), none, (.len .str (.t 8))⟩,
      ⟨(some 10), none, (.bin .int .lss (.t 7) (.t 9))⟩,
      ⟨(some 11), none, (.mv (.t 10))⟩,
      ⟨(some 12), (some (11, true)), (.mv (.t 2))⟩,
      ⟨(some 13), (some (11, true)), (.mv (.t 0))⟩,
      ⟨(some 14), (some (11, true)), (.mv (.t 1))⟩,
      ⟨(some 15), (some (11, true)), (.idx (.t 13) (.t 14))⟩,
      ⟨(some 16), (some (11, true)), (.call (.t 12) [(.t 15)])⟩,
      ⟨(some 17), none, (.pick (.t 11) (.t 16) (.c (.v (.bool false))))⟩])
    (.cond (.t 17)
    .skip
    (.exit 0)))
    (.block 1 (.ops [⟨(some 18), none, (.mv (.t 1))⟩,
      ⟨(some 19), none, (.bin .int .add (.t 18) (.c (.v (.int .i64 1))))⟩,
      ⟨(some 1), none, (.mv (.t 19))⟩])))))
    (.seq (.ops [⟨(some 20), none, (.mv (.t 1))⟩,
      ⟨(some 6), none, (.mv (.t 20))⟩])
    .ret)))⟩
theorem L98_ok : lowFn Try.prog Try.f98 [] = some L98 := by kernel_rfl

/-- assessor_lexer.digit -/
def L99 : LFn := ⟨9, [(.tmp 2)], (.seq (.ops [⟨(some 2), none, (.mv (.c (.v (.bool false))))⟩])
    (.seq (.ops [⟨(some 3), none, (.mv (.t 0))⟩,
      ⟨(some 4), none, (.bin .int .geq (.t 3) (.c (.v (.int .u8 48))))⟩,
      ⟨(some 5), none, (.mv (.t 4))⟩,
      ⟨(some 6), (some (5, true)), (.mv (.t 0))⟩,
      ⟨(some 7), (some (5, true)), (.bin .int .leq (.t 6) (.c (.v (.int .u8 57))))⟩,
      ⟨(some 8), none, (.pick (.t 5) (.t 7) (.c (.v (.bool false))))⟩,
      ⟨(some 2), none, (.mv (.t 8))⟩])
    .ret))⟩
theorem L99_ok : lowFn Try.prog Try.f99 [] = some L99 := by kernel_rfl

/-- assessor_assessorref02.digit -/
def L100 : LFn := ⟨9, [(.tmp 2)], (.seq (.ops [⟨(some 2), none, (.mv (.c (.v (.bool false))))⟩])
    (.seq (.ops [⟨(some 3), none, (.mv (.t 0))⟩,
      ⟨(some 4), none, (.bin .int .geq (.t 3) (.c (.v (.int .u8 48))))⟩,
      ⟨(some 5), none, (.mv (.t 4))⟩,
      ⟨(some 6), (some (5, true)), (.mv (.t 0))⟩,
      ⟨(some 7), (some (5, true)), (.bin .int .leq (.t 6) (.c (.v (.int .u8 57))))⟩,
      ⟨(some 8), none, (.pick (.t 5) (.t 7) (.c (.v (.bool false))))⟩,
      ⟨(some 2), none, (.mv (.t 8))⟩])
    .ret))⟩
theorem L100_ok : lowFn Try.prog Try.f100 [] = some L100 := by kernel_rfl

/-- assessor_assessorref02.Name -/
def L102 : LFn := ⟨32, [(.tmp 2)], (.seq (.ops [⟨(some 2), none, (.mv (.c (.v (.bool false))))⟩])
    (.seq (.seq (.ops [⟨(some 5), none, (.mv (.t 0))⟩,
      ⟨(some 6), none, (.len .str (.t 5))⟩,
      ⟨(some 7), none, (.bin .int .lss (.t 6) (.c (.v (.int .i64 1))))⟩,
      ⟨(some 8), none, (.mv (.t 7))⟩,
      ⟨(some 9), (some (8, false)), (.mv (.t 0))⟩,
      ⟨(some 10), (some (8, false)), (.len .str (.t 9))⟩,
      ⟨(some 11), (some (8, false)), (.bin .int .gtr (.t 10) (.c (.v (.int .i64 16))))⟩,
      ⟨(some 12), none, (.pick (.t 8) (.c (.v (.bool true))) (.t 11))⟩,
      ⟨(some 13), none, (.mv (.t 12))⟩,
      ⟨(some 14), (some (13, false)), (.mv (.t 0))⟩,
      ⟨(some 15), (some (13, false)), (.idx (.t 14) (.c (.v (.int .i64 0))))⟩,
      ⟨(some 16), (some (13, false)), (.call (.c (.fn (.func 126) [] [])) [(.t 15)])⟩,
      ⟨(some 17), (some (13, false)), (.not (.t 16))⟩,
      ⟨(some 18), none, (.pick (.t 13) (.c (.v (.bool true))) (.t 17))⟩,
      ⟨(some 19), none, (.mv (.t 18))⟩,
      ⟨(some 20), (some (19, false)), (.mv (.t 0))⟩,
      ⟨(some 21), (some (19, false)), (.call (.c (.fn (.func 127) [] [])) [(.t 20)])⟩,
      ⟨(some 22), none, (.pick (.t 19) (.c (.v (.bool true))) (.t 21))⟩])
    (.cond (.t 22)
    (.seq (.ops [⟨(some 2), none, (.mv (.c (.v (.bool false))))⟩])
    .ret)
    .skip))
    (.seq (.ops [⟨(some 24), none, (.mv (.t 0))⟩,
      ⟨(some 25), none, (.call (.c (.fn (.func 128) [] [])) [(.t 24), (.c (.v (.int .i64 0)))])⟩,
      ⟨(some 23), none, (.mv (.t 25))⟩,
      ⟨(some 26), none, (.ext (.t 23) 0)⟩,
      ⟨(some 27), none, (.ext (.t 23) 1)⟩,
      ⟨(some 3), none, (.mv (.t 26))⟩,
      ⟨(some 4), none, (.mv (.t 27))⟩])
    (.seq (.ops [⟨(some 28), none, (.mv (.t 4))⟩,
      ⟨(some 29), none, (.mv (.t 0))⟩,
      ⟨(some 30), none, (.len .str (.t 29))⟩,
      ⟨(some 31), none, (.bin .int .eql (.t 28) (.t 30))⟩,
      ⟨(some 2), none, (.mv (.t 31))⟩])
    .ret))))⟩
theorem L102_ok : lowFn Try.prog Try.f102 [] = some L102 := by kernel_rfl

/-- assessor_assessorref02.Has -/
def L104 : LFn := ⟨18, [(.tmp 4)], (.seq (.ops [⟨(some 4), none, (.mv (.c (.v (.bool false))))⟩])
    (.seq (.seq (.ops [⟨(some 5), none, (.mv (.c (.v (.int .i64 0))))⟩])
    (.block 0 (.loop (.seq (.seq (.ops [⟨(some 6), none, (.mv (.t 5))⟩,
      ⟨(some 7), none, (.mv (.t 0))⟩,
      ⟨(some 8), none, (.len .slc (.t 7))⟩,
      ⟨(some 9), none, (.bin .int .lss (.t 6) (.t 8))⟩])
    (.cond (.t 9)
    .skip
    (.exit 0)))
    (.seq (.block 1 (.seq (.ops [⟨(some 12), none, (.mv (.t 0))⟩,
      ⟨(some 13), none, (.mv (.t 5))⟩,
      ⟨(some 14), none, (.iaddr 1 (.t 12) (.t 13))⟩,
      ⟨(some 15), none, (.load false 1 (.t 14))⟩,
      ⟨(some 16), none, (.mv (.t 1))⟩,
      ⟨(some 17), none, (.bin .str .eql (.t 15) (.t 16))⟩])
    (.cond (.t 17)
    (.seq (.ops [⟨(some 4), none, (.mv (.c (.v (.bool true))))⟩])
    .ret)
    .skip)))
    (.ops [⟨(some 10), none, (.mv (.t 5))⟩,
      ⟨(some 11), none, (.bin .int .add (.t 10) (.c (.v (.int .i64 1))))⟩,
      ⟨(some 5), none, (.mv (.t 11))⟩]))))))
    (.seq (.ops [⟨(some 4), none, (.mv (.c (.v (.bool false))))⟩])
    .ret)))⟩
theorem L104_ok : lowFn Try.prog Try.f104 [] = some L104 := by kernel_rfl

/-- assessor_lexer.letter -/
def L107 : LFn := ⟨9, [(.tmp 2)], (.seq (.ops [⟨(some 2), none, (.mv (.c (.v (.bool false))))⟩])
    (.seq (.ops [⟨(some 3), none, (.mv (.t 0))⟩,
      ⟨(some 4), none, (.bin .int .geq (.t 3) (.c (.v (.int .u8 97))))⟩,
      ⟨(some 5), none, (.mv (.t 4))⟩,
      ⟨(some 6), (some (5, true)), (.mv (.t 0))⟩,
      ⟨(some 7), (some (5, true)), (.bin .int .leq (.t 6) (.c (.v (.int .u8 122))))⟩,
      ⟨(some 8), none, (.pick (.t 5) (.t 7) (.c (.v (.bool false))))⟩,
      ⟨(some 2), none, (.mv (.t 8))⟩])
    .ret))⟩
theorem L107_ok : lowFn Try.prog Try.f107 [] = some L107 := by kernel_rfl

/-- assessor_lexer.Keyword -/
def L108 : LFn := ⟨6, [(.tmp 2)], (.seq (.ops [⟨(some 2), none, (.mv (.c (.v (.bool false))))⟩])
    (.seq (.ops [⟨(some 3), none, (.call (.c (.fn (.func 129) [] [])) [])⟩,
      ⟨(some 4), none, (.mv (.t 0))⟩,
      ⟨(some 5), none, (.look .str (.v (.bool false)) false (.t 3) (.t 4))⟩,
      ⟨(some 2), none, (.mv (.t 5))⟩])
    .ret))⟩
theorem L108_ok : lowFn Try.prog Try.f108 [] = some L108 := by kernel_rfl

/-- assessor_lexer.Name$1 -/
def L109 : LFn := ⟨13, [(.tmp 2)], (.seq (.ops [⟨(some 2), none, (.mv (.c (.v (.bool false))))⟩])
    (.seq (.ops [⟨(some 3), none, (.mv (.t 0))⟩,
      ⟨(some 4), none, (.call (.c (.fn (.func 107) [] [])) [(.t 3)])⟩,
      ⟨(some 5), none, (.mv (.t 4))⟩,
      ⟨(some 6), (some (5, false)), (.mv (.t 0))⟩,
      ⟨(some 7), (some (5, false)), (.call (.c (.fn (.func 99) [] [])) [(.t 6)])⟩,
      ⟨(some 8), none, (.pick (.t 5) (.c (.v (.bool true))) (.t 7))⟩,
      ⟨(some 9), none, (.mv (.t 8))⟩,
      ⟨(some 10), (some (9, false)), (.mv (.t 0))⟩,
      ⟨(some 11), (some (9, false)), (.bin .int .eql (.t 10) (.c (.v (.int .u8 95))))⟩,
      ⟨(some 12), none, (.pick (.t 9) (.c (.v (.bool true))) (.t 11))⟩,
      ⟨(some 2), none, (.mv (.t 12))⟩])
    .ret))⟩
theorem L109_ok : lowFn Try.prog Try.f109 [] = some L109 := by kernel_rfl

/-- assessor_assessorref02.letter -/
def L126 : LFn := ⟨9, [(.tmp 2)], (.seq (.ops [⟨(some 2), none, (.mv (.c (.v (.bool false))))⟩])
    (.seq (.ops [⟨(some 3), none, (.mv (.t 0))⟩,
      ⟨(some 4), none, (.bin .int .geq (.t 3) (.c (.v (.int .u8 97))))⟩,
      ⟨(some 5), none, (.mv (.t 4))⟩,
      ⟨(some 6), (some (5, true)), (.mv (.t 0))⟩,
      ⟨(some 7), (some (5, true)), (.bin .int .leq (.t 6) (.c (.v (.int .u8 122))))⟩,
      ⟨(some 8), none, (.pick (.t 5) (.t 7) (.c (.v (.bool false))))⟩,
      ⟨(some 2), none, (.mv (.t 8))⟩])
    .ret))⟩
theorem L126_ok : lowFn Try.prog Try.f126 [] = some L126 := by kernel_rfl

/-- assessor_assessorref02.Keyword -/
def L127 : LFn := ⟨6, [(.tmp 2)], (.seq (.ops [⟨(some 2), none, (.mv (.c (.v (.bool false))))⟩])
    (.seq (.ops [⟨(some 3), none, (.bsl true 1 18 [(.v (.string (mkS [])))] [(0, (.c (.v (.string (mkS [114, 101, 99, 111, 114, 100]))))), (1, (.c (.v (.string (mkS [112, 114, 111, 99]))))), (2, (.c (.v (.string (mkS [118, 97, 114]))))), (3, (.c (.v (.string (mkS [105, 102]))))), (4, (.c (.v (.string (mkS [101, 108, 115, 101]))))), (5, (.c (.v (.string (mkS [119, 104, 105, 108, 101]))))), (6, (.c (.v (.string (mkS [102, 111, 114]))))), (7, (.c (.v (.string (mkS [116, 111]))))), (8, (.c (.v (.string (mkS [114, 101, 116, 117, 114, 110]))))), (9, (.c (.v (.string (mkS [97, 115, 115, 101, 114, 116]))))), (10, (.c (.v (.string (mkS [97, 110, 100]))))), (11, (.c (.v (.string (mkS [111, 114]))))), (12, (.c (.v (.string (mkS [110, 111, 116]))))), (13, (.c (.v (.string (mkS [116, 114, 117, 101]))))), (14, (.c (.v (.string (mkS [102, 97, 108, 115, 101]))))), (15, (.c (.v (.string (mkS [105, 110, 116]))))), (16, (.c (.v (.string (mkS [98, 111, 111, 108]))))), (17, (.c (.v (.string (mkS [108, 101, 110])))))])⟩,
      ⟨(some 4), none, (.mv (.t 0))⟩,
      ⟨(some 5), none, (.call (.c (.fn (.func 104) [] [])) [(.t 3), (.t 4)])⟩,
      ⟨(some 2), none, (.mv (.t 5))⟩])
    .ret))⟩
theorem L127_ok : lowFn Try.prog Try.f127 [⟨1, 0, .imm⟩] = some L127 := by kernel_rfl

/-- assessor_assessorref02.token -/
def L128 : LFn := ⟨98, [(.tmp 4), (.tmp 5)], (.seq (.ops [⟨(some 4), none, (.mv (.c (.v (.int .i64 0))))⟩,
      ⟨(some 5), none, (.mv (.c (.v (.int .i64 0))))⟩])
    (.seq (.ops [⟨(some 7), none, (.mv (.t 1))⟩,
      ⟨(some 6), none, (.mv (.t 7))⟩])
    (.seq (.block 0 (.seq (.ops [⟨(some 9), none, (.mv (.t 0))⟩,
      ⟨(some 10), none, (.mv (.t 1))⟩,
      ⟨(some 11), none, (.idx (.t 9) (.t 10))⟩,
      ⟨(some 12), none, (.call (.c (.fn (.func 126) [] [])) [(.t 11)])⟩,
      ⟨(some 8), none, (.mv (.t 12))⟩])
    (.cond (.t 8)
    (.seq (.block 1 (.loop (.seq (.seq (.ops [⟨(some 13), none, (.mv (.t 6))⟩,
      ⟨(some 14), none, (.mv (.t 0))⟩,
      ⟨(some 15), none, (.len .str (.t 14))⟩,
      ⟨(some 16), none, (.bin .int .lss (.t 13) (.t 15))⟩,
      ⟨(some 17), none, (.mv (.t 16))⟩,
      ⟨(some 18), (some (17, true)), (.mv (.t 0))⟩,
      ⟨(some 19), (some (17, true)), (.mv (.t 6))⟩,
      ⟨(some 20), (some (17, true)), (.idx (.t 18) (.t 19))⟩,
      ⟨(some 21), (some (17, true)), (.call (.c (.fn (.func 126) [] [])) [(.t 20)])⟩,
      ⟨(some 22), (some (17, true)), (.mv (.t 21))⟩,
      ⟨(some 23), (some (22, false)), (.mv (.t 0))⟩,
      ⟨(some 24), (some (22, false)), (.mv (.t 6))⟩,
      ⟨(some 25), (some (22, false)), (.idx (.t 23) (.t 24))⟩,
      ⟨(some 26), (some (22, false)), (.call (.c (.fn (.func 100) [] [])) [(.t 25)])⟩,
      ⟨(some 27), (some (17, true)), (.pick (.t 22) (.c (.v (.bool true))) (.t 26))⟩,
      ⟨(some 28), (some (17, true)), (.mv (.t 27))⟩,
      ⟨(some 29), (some (28, false)), (.mv (.t 0))⟩,
      ⟨(some 30), (some (28, false)), (.mv (.t 6))⟩,
      ⟨(some 31), (some (28, false)), (.idx (.t 29) (.t 30))⟩,
      ⟨(some 32), (some (28, false)), (.bin .int .eql (.t 31) (.c (.v (.int .u8 95))))⟩,
      ⟨(some 33), (some (17, true)), (.pick (.t 28) (.c (.v (.bool true))) (.t 32))⟩,
      ⟨(some 34), none, (.pick (.t 17) (.t 33) (.c (.v (.bool false))))⟩])
    (.cond (.t 34)
    .skip
    (.exit 1)))
    (.block 2 (.ops [⟨(some 35), none, (.mv (.t 6))⟩,
      ⟨(some 36), none, (.bin .int .add (.t 35) (.c (.v (.int .i64 1))))⟩,
      ⟨(some 6), none, (.mv (.t 36))⟩])))))
    (.seq (.seq (.ops [⟨(some 37), none, (.mv (.t 0))⟩,
      ⟨(some 38), none, (.mv (.t 1))⟩,
      ⟨(some 39), none, (.mv (.t 6))⟩,
      ⟨(some 40), none, (.slice .str 1 (.t 37) (some (.t 38)) (some (.t 39)))⟩,
      ⟨(some 41), none, (.call (.c (.fn (.func 127) [] [])) [(.t 40)])⟩])
    (.cond (.t 41)
    (.seq (.ops [⟨(some 42), none, (.mv (.t 6))⟩,
      ⟨(some 4), none, (.mv (.c (.v (.int .i64 1))))⟩,
      ⟨(some 5), none, (.mv (.t 42))⟩])
    .ret)
    .skip))
    (.seq (.ops [⟨(some 43), none, (.mv (.t 6))⟩,
      ⟨(some 4), none, (.mv (.c (.v (.int .i64 0))))⟩,
      ⟨(some 5), none, (.mv (.t 43))⟩])
    .ret)))
    (.seq (.ops [⟨(some 45), none, (.mv (.t 0))⟩,
      ⟨(some 46), none, (.mv (.t 1))⟩,
      ⟨(some 47), none, (.idx (.t 45) (.t 46))⟩,
      ⟨(some 48), none, (.call (.c (.fn (.func 100) [] [])) [(.t 47)])⟩,
      ⟨(some 44), none, (.mv (.t 48))⟩])
    (.cond (.t 44)
    (.seq (.block 3 (.loop (.seq (.seq (.ops [⟨(some 49), none, (.mv (.t 6))⟩,
      ⟨(some 50), none, (.mv (.t 0))⟩,
      ⟨(some 51), none, (.len .str (.t 50))⟩,
      ⟨(some 52), none, (.bin .int .lss (.t 49) (.t 51))⟩,
      ⟨(some 53), none, (.mv (.t 52))⟩,
      ⟨(some 54), (some (53, true)), (.mv (.t 0))⟩,
      ⟨(some 55), (some (53, true)), (.mv (.t 6))⟩,
      ⟨(some 56), (some (53, true)), (.idx (.t 54) (.t 55))⟩,
      ⟨(some 57), (some (53, true)), (.call (.c (.fn (.func 100) [] [])) [(.t 56)])⟩,
      ⟨(some 58), none, (.pick (.t 53) (.t 57) (.c (.v (.bool false))))⟩])
    (.cond (.t 58)
    .skip
    (.exit 3)))
    (.block 4 (.ops [⟨(some 59), none, (.mv (.t 6))⟩,
      ⟨(some 60), none, (.bin .int .add (.t 59) (.c (.v (.int .i64 1))))⟩,
      ⟨(some 6), none, (.mv (.t 60))⟩])))))
    (.seq (.ops [⟨(some 61), none, (.mv (.t 6))⟩,
      ⟨(some 4), none, (.mv (.c (.v (.int .i64 2))))⟩,
      ⟨(some 5), none, (.mv (.t 61))⟩])
    .ret))
    (.seq (.ops [⟨(some 63), none, (.mv (.t 0))⟩,
      ⟨(some 64), none, (.mv (.t 1))⟩,
      ⟨(some 65), none, (.call (.c (.fn (.func 135) [] [])) [(.t 63), (.t 64)])⟩,
      ⟨(some 66), none, (.bin .int .gtr (.t 65) (.c (.v (.int .i64 0))))⟩,
      ⟨(some 62), none, (.mv (.t 66))⟩])
    (.cond (.t 62)
    (.seq (.ops [⟨(some 67), none, (.mv (.t 1))⟩,
      ⟨(some 68), none, (.mv (.t 0))⟩,
      ⟨(some 69), none, (.mv (.t 1))⟩,
      ⟨(some 70), none, (.call (.c (.fn (.func 135) [] [])) [(.t 68), (.t 69)])⟩,
      ⟨(some 71), none, (.bin .int .add (.t 67) (.t 70))⟩,
      ⟨(some 4), none, (.mv (.c (.v (.int .i64 3))))⟩,
      ⟨(some 5), none, (.mv (.t 71))⟩])
    .ret)
    .skip)))))))
    (.seq (.block 5 (.loop (.seq (.seq (.ops [⟨(some 72), none, (.mv (.t 6))⟩,
      ⟨(some 73), none, (.mv (.t 0))⟩,
      ⟨(some 74), none, (.len .str (.t 73))⟩,
      ⟨(some 75), none, (.bin .int .lss (.t 72) (.t 74))⟩,
      ⟨(some 76), none, (.mv (.t 75))⟩,
      ⟨(some 77), (some (76, true)), (.mv (.t 0))⟩,
      ⟨(some 78), (some (76, true)), (.mv (.t 6))⟩,
      ⟨(some 79), (some (76, true)), (.idx (.t 77) (.t 78))⟩,
      ⟨(some 80), (some (76, true)), (.call (.c (.fn (.func 136) [] [])) [(.t 79)])⟩,
      ⟨(some 81), (some (76, true)), (.not (.t 80))⟩,
      ⟨(some 82), none, (.pick (.t 76) (.t 81) (.c (.v (.bool false))))⟩,
      ⟨(some 83), none, (.mv (.t 82))⟩,
      ⟨(some 84), (some (83, true)), (.mv (.t 0))⟩,
      ⟨(some 85), (some (83, true)), (.mv (.t 6))⟩,
      ⟨(some 86), (some (83, true)), (.idx (.t 84) (.t 85))⟩,
      ⟨(some 87), (some (83, true)), (.bin .int .neq (.t 86) (.c (.v (.int .u8 35))))⟩,
      ⟨(some 88), none, (.pick (.t 83) (.t 87) (.c (.v (.bool false))))⟩,
      ⟨(some 89), none, (.mv (.t 88))⟩,
      ⟨(some 90), (some (89, true)), (.mv (.t 0))⟩,
      ⟨(some 91), (some (89, true)), (.mv (.t 6))⟩,
      ⟨(some 92), (some (89, true)), (.call (.c (.fn (.func 137) [] [])) [(.t 90), (.t 91)])⟩,
      ⟨(some 93), (some (89, true)), (.not (.t 92))⟩,
      ⟨(some 94), none, (.pick (.t 89) (.t 93) (.c (.v (.bool false))))⟩])
    (.cond (.t 94)
    .skip
    (.exit 5)))
    (.block 6 (.ops [⟨(some 95), none, (.mv (.t 6))⟩,
      ⟨(some 96), none, (.bin .int .add (.t 95) (.c (.v (.int .i64 1))))⟩,
      ⟨(some 6), none, (.mv (.t 96))⟩])))))
    (.seq (.ops [⟨(some 97), none, (.mv (.t 6))⟩,
      ⟨(some 4), none, (.mv (.c (.v (.int .i64 4))))⟩,
      ⟨(some 5), none, (.mv (.t 97))⟩])
    .ret)))))⟩
theorem L128_ok : lowFn Try.prog Try.f128 [] = some L128 := by kernel_rfl

/-- assessor_lexer.keywords -/
def L129 : LFn := ⟨3, [(.tmp 0)], (.seq (.ops [⟨(some 0), none, (.mv (.c (.v (.map none))))⟩])
    (.seq (.ops [⟨(some 1), none, .mkmap⟩,
      ⟨none, none, (.ins .str (.t 1) (.c (.v (.string (mkS [114, 101, 99, 111, 114, 100])))) (.c (.v (.bool true))))⟩,
      ⟨none, none, (.ins .str (.t 1) (.c (.v (.string (mkS [112, 114, 111, 99])))) (.c (.v (.bool true))))⟩,
      ⟨none, none, (.ins .str (.t 1) (.c (.v (.string (mkS [118, 97, 114])))) (.c (.v (.bool true))))⟩,
      ⟨none, none, (.ins .str (.t 1) (.c (.v (.string (mkS [105, 102])))) (.c (.v (.bool true))))⟩,
      ⟨none, none, (.ins .str (.t 1) (.c (.v (.string (mkS [101, 108, 115, 101])))) (.c (.v (.bool true))))⟩,
      ⟨none, none, (.ins .str (.t 1) (.c (.v (.string (mkS [119, 104, 105, 108, 101])))) (.c (.v (.bool true))))⟩,
      ⟨none, none, (.ins .str (.t 1) (.c (.v (.string (mkS [102, 111, 114])))) (.c (.v (.bool true))))⟩,
      ⟨none, none, (.ins .str (.t 1) (.c (.v (.string (mkS [116, 111])))) (.c (.v (.bool true))))⟩,
      ⟨none, none, (.ins .str (.t 1) (.c (.v (.string (mkS [114, 101, 116, 117, 114, 110])))) (.c (.v (.bool true))))⟩,
      ⟨none, none, (.ins .str (.t 1) (.c (.v (.string (mkS [97, 115, 115, 101, 114, 116])))) (.c (.v (.bool true))))⟩,
      ⟨none, none, (.ins .str (.t 1) (.c (.v (.string (mkS [97, 110, 100])))) (.c (.v (.bool true))))⟩,
      ⟨none, none, (.ins .str (.t 1) (.c (.v (.string (mkS [111, 114])))) (.c (.v (.bool true))))⟩,
      ⟨none, none, (.ins .str (.t 1) (.c (.v (.string (mkS [110, 111, 116])))) (.c (.v (.bool true))))⟩,
      ⟨none, none, (.ins .str (.t 1) (.c (.v (.string (mkS [116, 114, 117, 101])))) (.c (.v (.bool true))))⟩,
      ⟨none, none, (.ins .str (.t 1) (.c (.v (.string (mkS [102, 97, 108, 115, 101])))) (.c (.v (.bool true))))⟩,
      ⟨none, none, (.ins .str (.t 1) (.c (.v (.string (mkS [105, 110, 116])))) (.c (.v (.bool true))))⟩,
      ⟨none, none, (.ins .str (.t 1) (.c (.v (.string (mkS [98, 111, 111, 108])))) (.c (.v (.bool true))))⟩,
      ⟨none, none, (.ins .str (.t 1) (.c (.v (.string (mkS [108, 101, 110])))) (.c (.v (.bool true))))⟩,
      ⟨(some 2), none, (.mv (.t 1))⟩,
      ⟨(some 0), none, (.mv (.t 2))⟩,
      ⟨(some 0), none, (.frz (.t 0))⟩])
    .ret))⟩
theorem L129_ok : lowFn Try.prog Try.f129 [⟨1, 21, (.pre 0 (.frz (.t 0)))⟩] = some L129 := by kernel_rfl

/-- assessor_assessorref02.symbol -/
def L135 : LFn := ⟨26, [(.tmp 4)], (.seq (.ops [⟨(some 4), none, (.mv (.c (.v (.int .i64 0))))⟩])
    (.seq (.seq (.ops [⟨(some 5), none, (.mv (.t 1))⟩,
      ⟨(some 6), none, (.bin .int .add (.t 5) (.c (.v (.int .i64 2))))⟩,
      ⟨(some 7), none, (.mv (.t 0))⟩,
      ⟨(some 8), none, (.len .str (.t 7))⟩,
      ⟨(some 9), none, (.bin .int .leq (.t 6) (.t 8))⟩,
      ⟨(some 10), none, (.mv (.t 9))⟩,
      ⟨(some 11), (some (10, true)), (.bsl true 1 4 [(.v (.string (mkS [])))] [(0, (.c (.v (.string (mkS [61, 61]))))), (1, (.c (.v (.string (mkS [33, 61]))))), (2, (.c (.v (.string (mkS [60, 61]))))), (3, (.c (.v (.string (mkS [62, 61])))))])⟩,
      ⟨(some 12), (some (10, true)), (.mv (.t 0))⟩,
      ⟨(some 13), (some (10, true)), (.mv (.t 1))⟩,
      ⟨(some 14), (some (10, true)), (.mv (.t 1))⟩,
      ⟨(some 15), (some (10, true)), (.bin .int .add (.t 14) (.c (.v (.int .i64 2))))⟩,
      ⟨(some 16), (some (10, true)), (.slice .str 1 (.t 12) (some (.t 13)) (some (.t 15)))⟩,
      ⟨(some 17), (some (10, true)), (.call (.c (.fn (.func 104) [] [])) [(.t 11), (.t 16)])⟩,
      ⟨(some 18), none, (.pick (.t 10) (.t 17) (.c (.v (.bool false))))⟩])
    (.cond (.t 18)
    (.seq (.ops [⟨(some 4), none, (.mv (.c (.v (.int .i64 2))))⟩])
    .ret)
    .skip))
    (.seq (.seq (.ops [⟨(some 19), none, (.bsl true 1 18 [(.v (.string (mkS [])))] [(0, (.c (.v (.string (mkS [60]))))), (1, (.c (.v (.string (mkS [62]))))), (2, (.c (.v (.string (mkS [61]))))), (3, (.c (.v (.string (mkS [43]))))), (4, (.c (.v (.string (mkS [45]))))), (5, (.c (.v (.string (mkS [42]))))), (6, (.c (.v (.string (mkS [47]))))), (7, (.c (.v (.string (mkS [37]))))), (8, (.c (.v (.string (mkS [40]))))), (9, (.c (.v (.string (mkS [41]))))), (10, (.c (.v (.string (mkS [123]))))), (11, (.c (.v (.string (mkS [125]))))), (12, (.c (.v (.string (mkS [91]))))), (13, (.c (.v (.string (mkS [93]))))), (14, (.c (.v (.string (mkS [44]))))), (15, (.c (.v (.string (mkS [59]))))), (16, (.c (.v (.string (mkS [58]))))), (17, (.c (.v (.string (mkS [46])))))])⟩,
      ⟨(some 20), none, (.mv (.t 0))⟩,
      ⟨(some 21), none, (.mv (.t 1))⟩,
      ⟨(some 22), none, (.mv (.t 1))⟩,
      ⟨(some 23), none, (.bin .int .add (.t 22) (.c (.v (.int .i64 1))))⟩,
      ⟨(some 24), none, (.slice .str 1 (.t 20) (some (.t 21)) (some (.t 23)))⟩,
      ⟨(some 25), none, (.call (.c (.fn (.func 104) [] [])) [(.t 19), (.t 24)])⟩])
    (.cond (.t 25)
    (.seq (.ops [⟨(some 4), none, (.mv (.c (.v (.int .i64 1))))⟩])
    .ret)
    .skip))
    (.seq (.ops [⟨(some 4), none, (.mv (.c (.v (.int .i64 0))))⟩])
    .ret))))⟩
theorem L135_ok : lowFn Try.prog Try.f135 [⟨1, 6, .imm⟩, ⟨3, 0, .imm⟩] = some L135 := by kernel_rfl

/-- assessor_assessorref02.blank -/
def L136 : LFn := ⟨17, [(.tmp 2)], (.seq (.ops [⟨(some 2), none, (.mv (.c (.v (.bool false))))⟩])
    (.seq (.ops [⟨(some 3), none, (.mv (.t 0))⟩,
      ⟨(some 4), none, (.bin .int .eql (.t 3) (.c (.v (.int .u8 9))))⟩,
      ⟨(some 5), none, (.mv (.t 4))⟩,
      ⟨(some 6), (some (5, false)), (.mv (.t 0))⟩,
      ⟨(some 7), (some (5, false)), (.bin .int .eql (.t 6) (.c (.v (.int .u8 10))))⟩,
      ⟨(some 8), none, (.pick (.t 5) (.c (.v (.bool true))) (.t 7))⟩,
      ⟨(some 9), none, (.mv (.t 8))⟩,
      ⟨(some 10), (some (9, false)), (.mv (.t 0))⟩,
      ⟨(some 11), (some (9, false)), (.bin .int .eql (.t 10) (.c (.v (.int .u8 13))))⟩,
      ⟨(some 12), none, (.pick (.t 9) (.c (.v (.bool true))) (.t 11))⟩,
      ⟨(some 13), none, (.mv (.t 12))⟩,
      ⟨(some 14), (some (13, false)), (.mv (.t 0))⟩,
      ⟨(some 15), (some (13, false)), (.bin .int .eql (.t 14) (.c (.v (.int .u8 32))))⟩,
      ⟨(some 16), none, (.pick (.t 13) (.c (.v (.bool true))) (.t 15))⟩,
      ⟨(some 2), none, (.mv (.t 16))⟩])
    .ret))⟩
theorem L136_ok : lowFn Try.prog Try.f136 [] = some L136 := by kernel_rfl

/-- assessor_assessorref02.begins -/
def L137 : LFn := ⟨21, [(.tmp 4)], (.seq (.ops [⟨(some 4), none, (.mv (.c (.v (.bool false))))⟩])
    (.seq (.ops [⟨(some 5), none, (.mv (.t 0))⟩,
      ⟨(some 6), none, (.mv (.t 1))⟩,
      ⟨(some 7), none, (.idx (.t 5) (.t 6))⟩,
      ⟨(some 8), none, (.call (.c (.fn (.func 126) [] [])) [(.t 7)])⟩,
      ⟨(some 9), none, (.mv (.t 8))⟩,
      ⟨(some 10), (some (9, false)), (.mv (.t 0))⟩,
      ⟨(some 11), (some (9, false)), (.mv (.t 1))⟩,
      ⟨(some 12), (some (9, false)), (.idx (.t 10) (.t 11))⟩,
      ⟨(some 13), (some (9, false)), (.call (.c (.fn (.func 100) [] [])) [(.t 12)])⟩,
      ⟨(some 14), none, (.pick (.t 9) (.c (.v (.bool true))) (.t 13))⟩,
      ⟨(some 15), none, (.mv (.t 14))⟩,
      ⟨(some 16), (some (15, false)), (.mv (.t 0))⟩,
      ⟨(some 17), (some (15, false)), (.mv (.t 1))⟩,
      ⟨(some 18), (some (15, false)), (.call (.c (.fn (.func 135) [] [])) [(.t 16), (.t 17)])⟩,
      ⟨(some 19), (some (15, false)), (.bin .int .gtr (.t 18) (.c (.v (.int .i64 0))))⟩,
      ⟨(some 20), none, (.pick (.t 15) (.c (.v (.bool true))) (.t 19))⟩,
      ⟨(some 4), none, (.mv (.t 20))⟩])
    .ret))⟩
theorem L137_ok : lowFn Try.prog Try.f137 [] = some L137 := by kernel_rfl


end Go.Proofs.Ytnbdogodcjhfiaa

/- The lexer's functions, and those of its reference: what each computes. Part 1: bytes, strings. -/
namespace Go.Proofs.Ytnbdogodcjhfiaa
open Go Go.Ax
set_option maxRecDepth 100000
set_option linter.unusedSimpArgs false
set_option linter.unusedVariables false

/-- A byte as the program sees it. -/
abbrev by8 (c : UInt8) : AV := u8 c.toNat
def isL (c : UInt8) : Bool := decide (97 ≤ c.toNat) && decide (c.toNat ≤ 122)
def isD (c : UInt8) : Bool := decide (48 ≤ c.toNat) && decide (c.toNat ≤ 57)
def isW (c : UInt8) : Bool := decide (c.toNat = 9) || decide (c.toNat = 10) || decide (c.toNat = 13) || decide (c.toNat = 32)
def isN (c : UInt8) : Bool := isL c || isD c || decide (c.toNat = 95)
abbrev Comp (k : FuncId) (args : List AV) (H : AHeap) (x : AV) : Prop := ACall Try.prog k args H fun y H' => y = x ∧ H' = H

theorem letter (c : UInt8) (H : AHeap) : Comp 107 [by8 c] H (bool (isL c)) := by
  refine enter Try.func107 L107_ok (Nat.le_of_ble_eq_true rfl) ?_
  repeat' (first | (refine And.intro (by omega) ?_) | simp -implicitDefEqProofs (disch := omega) only [L107, push_cast, ↓reduceIte, Nat.reduceEqDiff, reduceCtorEq, Nat.reduceAdd, Nat.reduceSub, Nat.reduceMul, Nat.reduceLeDiff, Nat.reduceLT, Nat.reduceMod, Nat.reduceDiv, Int.reduceToNat, Int.reduceLT, Int.reduceLE, Int.reduceEq, Int.reduceAdd, Int.reduceSub, Int.reduceNeg, Int.reduceMul, Bool.and_self] | split)
  all_goals (refine bool_eq ?_; simp [isL] <;> omega)
theorem letterR (c : UInt8) (H : AHeap) : Comp 126 [by8 c] H (bool (isL c)) := by
  refine enter Try.func126 L126_ok (Nat.le_of_ble_eq_true rfl) ?_
  repeat' (first | (refine And.intro (by omega) ?_) | simp -implicitDefEqProofs (disch := omega) only [L126, push_cast, ↓reduceIte, Nat.reduceEqDiff, reduceCtorEq, Nat.reduceAdd, Nat.reduceSub, Nat.reduceMul, Nat.reduceLeDiff, Nat.reduceLT, Nat.reduceMod, Nat.reduceDiv, Int.reduceToNat, Int.reduceLT, Int.reduceLE, Int.reduceEq, Int.reduceAdd, Int.reduceSub, Int.reduceNeg, Int.reduceMul, Bool.and_self] | split)
  all_goals (refine bool_eq ?_; simp [isL] <;> omega)
theorem digit (c : UInt8) (H : AHeap) : Comp 99 [by8 c] H (bool (isD c)) := by
  refine enter Try.func99 L99_ok (Nat.le_of_ble_eq_true rfl) ?_
  repeat' (first | (refine And.intro (by omega) ?_) | simp -implicitDefEqProofs (disch := omega) only [L99, push_cast, ↓reduceIte, Nat.reduceEqDiff, reduceCtorEq, Nat.reduceAdd, Nat.reduceSub, Nat.reduceMul, Nat.reduceLeDiff, Nat.reduceLT, Nat.reduceMod, Nat.reduceDiv, Int.reduceToNat, Int.reduceLT, Int.reduceLE, Int.reduceEq, Int.reduceAdd, Int.reduceSub, Int.reduceNeg, Int.reduceMul, Bool.and_self] | split)
  all_goals (refine bool_eq ?_; simp [isD] <;> omega)
theorem digitR (c : UInt8) (H : AHeap) : Comp 100 [by8 c] H (bool (isD c)) := by
  refine enter Try.func100 L100_ok (Nat.le_of_ble_eq_true rfl) ?_
  repeat' (first | (refine And.intro (by omega) ?_) | simp -implicitDefEqProofs (disch := omega) only [L100, push_cast, ↓reduceIte, Nat.reduceEqDiff, reduceCtorEq, Nat.reduceAdd, Nat.reduceSub, Nat.reduceMul, Nat.reduceLeDiff, Nat.reduceLT, Nat.reduceMod, Nat.reduceDiv, Int.reduceToNat, Int.reduceLT, Int.reduceLE, Int.reduceEq, Int.reduceAdd, Int.reduceSub, Int.reduceNeg, Int.reduceMul, Bool.and_self] | split)
  all_goals (refine bool_eq ?_; simp [isD] <;> omega)
theorem blankR (c : UInt8) (H : AHeap) : Comp 136 [by8 c] H (bool (isW c)) := by
  refine enter Try.func136 L136_ok (Nat.le_of_ble_eq_true rfl) ?_
  repeat' (first | (refine And.intro (by omega) ?_) | simp -implicitDefEqProofs (disch := omega) only [L136, push_cast, ↓reduceIte, Nat.reduceEqDiff, reduceCtorEq, Nat.reduceAdd, Nat.reduceSub, Nat.reduceMul, Nat.reduceLeDiff, Nat.reduceLT, Nat.reduceMod, Nat.reduceDiv, Int.reduceToNat, Int.reduceLT, Int.reduceLE, Int.reduceEq, Int.reduceAdd, Int.reduceSub, Int.reduceNeg, Int.reduceMul, Bool.and_self] | split)
  all_goals (refine bool_eq ?_; simp [isW] <;> omega)
theorem nameC (c : UInt8) (H : AHeap) : Comp 109 [by8 c] H (bool (isN c)) := by
  refine enter Try.func109 L109_ok (Nat.le_of_ble_eq_true rfl) ?_
  repeat' (first | (refine And.intro (by omega) ?_) | (refine callF_pure (letter _ _) ?_) | (refine callF_pure (digit _ _) ?_) | (refine callQF_pure (letter _ _) (by first | rfl | simp only [L109, push_cast]) ?_) | (refine callQF_pure (digit _ _) (by first | rfl | simp only [L109, push_cast]) ?_) | simp -implicitDefEqProofs (disch := omega) only [L109, push_cast, ↓reduceIte, Nat.reduceEqDiff, reduceCtorEq, Nat.reduceAdd, Nat.reduceSub, Nat.reduceMul, Nat.reduceLeDiff, Nat.reduceLT, Nat.reduceMod, Nat.reduceDiv, Int.reduceToNat, Int.reduceLT, Int.reduceLE, Int.reduceEq, Int.reduceAdd, Int.reduceSub, Int.reduceNeg, Int.reduceMul, Bool.and_self] | split)
  all_goals (refine bool_eq ?_; simp_all [isN] <;> omega)
/-- The place behind bytes with a property. -/
def runF (p : UInt8 → Bool) (l : List UInt8) (i : Nat) : Nat := i + ((l.drop i).takeWhile p).length
theorem runF_step {p : UInt8 → Bool} {l : List UInt8} {i : Nat} (h : i < l.length) (hp : p (l.getD i 0) = true) : runF p l (i + 1) = runF p l i := by
  simp only [runF]
  rw [List.drop_eq_getElem_cons h, List.takeWhile_cons]
  simp [List.getD, h] at hp
  simp [hp]; omega
theorem runF_stop {p : UInt8 → Bool} {l : List UInt8} {i : Nat} (h : i < l.length → p (l.getD i 0) = false) : runF p l i = i := by
  simp only [runF]
  by_cases hi : i < l.length
  · have := h hi
    rw [List.drop_eq_getElem_cons hi, List.takeWhile_cons]
    simp [List.getD, hi] at this
    simp [this]
  · simp [List.drop_eq_nil_of_le (Nat.le_of_not_lt hi)]
theorem runF_le {p : UInt8 → Bool} {l : List UInt8} {i : Nat} (h : i ≤ l.length) : runF p l i ≤ l.length := by
  simp only [runF]
  have := (List.takeWhile_sublist p (l := l.drop i)).length_le
  simp at this
  omega

theorem run (l : List UInt8) (i : Nat) (p : UInt8 → Bool) (f : FuncId) (H : AHeap) (hl : (l.length : Int) < 9223372036854775807) (hi : i ≤ l.length)
    (hp : ∀ c : UInt8, Comp f [by8 c] H (bool (p c))) :
    Comp 98 [str l, int i, .fn (.func f) [] []] H (int (runF p l i)) := by
  refine enter Try.func98 L98_ok (Nat.le_of_ble_eq_true rfl) ?_
  simp -implicitDefEqProofs (disch := omega) only [L98, push_cast, ↓reduceIte, Nat.reduceEqDiff, reduceCtorEq, Nat.reduceAdd, Nat.reduceSub, Nat.reduceMul, Nat.reduceLeDiff, Nat.reduceLT, Nat.reduceMod, Nat.reduceDiv, Int.reduceToNat, Int.reduceLT, Int.reduceLE, Int.reduceEq, Int.reduceAdd, Int.reduceSub, Int.reduceNeg, Int.reduceMul, Bool.and_self]
  refine rk_loop (fun e' H' => ∃ j : Nat, e' 0 = str l ∧ e' 1 = int j ∧ e' 2 = .fn (.func f) [] [] ∧ H' = H ∧ j ≤ l.length ∧ runF p l j = runF p l i) (fun e' _ => match e' 1 with | .v (.int _ n) => l.length - n.toNat | _ => 0) ⟨i, by simp -implicitDefEqProofs (disch := omega) only [push_cast, ↓reduceIte, Nat.reduceEqDiff, reduceCtorEq, Nat.reduceAdd, Nat.reduceSub, Nat.reduceMul, Nat.reduceLeDiff, Nat.reduceLT, Nat.reduceMod, Nat.reduceDiv, Int.reduceToNat, Int.reduceLT, Int.reduceLE, Int.reduceEq, Int.reduceAdd, Int.reduceSub, Int.reduceNeg, Int.reduceMul, Bool.and_self], by simp -implicitDefEqProofs (disch := omega) only [push_cast, ↓reduceIte, Nat.reduceEqDiff, reduceCtorEq, Nat.reduceAdd, Nat.reduceSub, Nat.reduceMul, Nat.reduceLeDiff, Nat.reduceLT, Nat.reduceMod, Nat.reduceDiv, Int.reduceToNat, Int.reduceLT, Int.reduceLE, Int.reduceEq, Int.reduceAdd, Int.reduceSub, Int.reduceNeg, Int.reduceMul, Bool.and_self], by simp -implicitDefEqProofs (disch := omega) only [push_cast, ↓reduceIte, Nat.reduceEqDiff, reduceCtorEq, Nat.reduceAdd, Nat.reduceSub, Nat.reduceMul, Nat.reduceLeDiff, Nat.reduceLT, Nat.reduceMod, Nat.reduceDiv, Int.reduceToNat, Int.reduceLT, Int.reduceLE, Int.reduceEq, Int.reduceAdd, Int.reduceSub, Int.reduceNeg, Int.reduceMul, Bool.and_self], rfl, hi, rfl⟩ ?_
  rintro e' H' ⟨j, h0, h1, h2, rfl, hj, hr⟩
  repeat' (first | (refine And.intro (by omega) ?_) | (refine callF_pure (hp _) ?_) | (refine callQF_pure (hp _) (by first | rfl | simp only [h0, h1, h2, push_cast]) ?_) | simp -implicitDefEqProofs (disch := omega) only [h0, h1, h2, push_cast, ↓reduceIte, Nat.reduceEqDiff, reduceCtorEq, Nat.reduceAdd, Nat.reduceSub, Nat.reduceMul, Nat.reduceLeDiff, Nat.reduceLT, Nat.reduceMod, Nat.reduceDiv, Int.reduceToNat, Int.reduceLT, Int.reduceLE, Int.reduceEq, Int.reduceAdd, Int.reduceSub, Int.reduceNeg, Int.reduceMul, Bool.and_self] | split)
  · exact ⟨⟨j + 1, by simp, by omega, by rw [runF_step (by omega) ‹_›]; exact hr⟩, by omega⟩
  · rename_i h3
    rw [← hr, runF_stop fun _ => Bool.eq_false_iff.2 h3]
  · rw [← hr, runF_stop fun _ => by omega]
end Go.Proofs.Ytnbdogodcjhfiaa

/- The lexer's functions, and those of its reference: what each computes. Part 2: keywords. -/
namespace Go.Proofs.Ytnbdogodcjhfiaa
open Go Go.Ax
set_option maxRecDepth 100000
set_option linter.unusedSimpArgs false
set_option linter.unusedVariables false

def strs (ls : List (List UInt8)) : List (List AV) := ls.map fun s => [str s]
theorem strs_getD {ls : List (List UInt8)} {j : Nat} (h : j < ls.length) : (strs ls).getD j [] = [str (ls.getD j [])] := by
  simp [strs, List.getD_eq_getElem?_getD, h]
theorem strs_len (ls : List (List UInt8)) : (strs ls).length = ls.length := by simp [strs]
theorem take_mem {α : Type} {ls : List α} {s : α} {j : Nat} (hj : j < ls.length) (h : s ∉ ls.take j) (hne : ls[j] ≠ s) : s ∉ ls.take (j + 1) := by
  rw [List.take_succ_eq_append_getElem hj]
  simp only [List.mem_append, List.mem_singleton, not_or]
  exact ⟨h, fun h => hne h.symm⟩

/-- 'Has'. -/
theorem hasR (ls : List (List UInt8)) (s : List UInt8) (H : AHeap) (hl : (ls.length : Int) < 9223372036854775807) : Comp 104 [.sl 1 (strs ls), str s] H (bool (decide (s ∈ ls))) := by
  refine enter Try.func104 L104_ok (Nat.le_of_ble_eq_true rfl) ?_
  simp -implicitDefEqProofs (disch := omega) only [L104, push_cast, ↓reduceIte, Nat.reduceEqDiff, reduceCtorEq, Nat.reduceAdd, Nat.reduceSub, Nat.reduceMul, Nat.reduceLeDiff, Nat.reduceLT, Nat.reduceMod, Nat.reduceDiv, Int.reduceToNat, Int.reduceLT, Int.reduceLE, Int.reduceEq, Int.reduceAdd, Int.reduceSub, Int.reduceNeg, Int.reduceMul, Bool.and_self]
  refine rk_loop (fun e' H' => ∃ j : Nat, e' 0 = .sl 1 (strs ls) ∧ e' 1 = str s ∧ e' 5 = int j ∧ H' = H ∧ j ≤ ls.length ∧ s ∉ ls.take j) (fun e' _ => match e' 5 with | .v (.int _ n) => ls.length - n.toNat | _ => 0) ⟨0, by simp -implicitDefEqProofs (disch := omega) only [push_cast, ↓reduceIte, Nat.reduceEqDiff, reduceCtorEq, Nat.reduceAdd, Nat.reduceSub, Nat.reduceMul, Nat.reduceLeDiff, Nat.reduceLT, Nat.reduceMod, Nat.reduceDiv, Int.reduceToNat, Int.reduceLT, Int.reduceLE, Int.reduceEq, Int.reduceAdd, Int.reduceSub, Int.reduceNeg, Int.reduceMul, Bool.and_self], by simp -implicitDefEqProofs (disch := omega) only [push_cast, ↓reduceIte, Nat.reduceEqDiff, reduceCtorEq, Nat.reduceAdd, Nat.reduceSub, Nat.reduceMul, Nat.reduceLeDiff, Nat.reduceLT, Nat.reduceMod, Nat.reduceDiv, Int.reduceToNat, Int.reduceLT, Int.reduceLE, Int.reduceEq, Int.reduceAdd, Int.reduceSub, Int.reduceNeg, Int.reduceMul, Bool.and_self], by simp -implicitDefEqProofs (disch := omega) only [Int.natCast_zero, push_cast, ↓reduceIte, Nat.reduceEqDiff, reduceCtorEq, Nat.reduceAdd, Nat.reduceSub, Nat.reduceMul, Nat.reduceLeDiff, Nat.reduceLT, Nat.reduceMod, Nat.reduceDiv, Int.reduceToNat, Int.reduceLT, Int.reduceLE, Int.reduceEq, Int.reduceAdd, Int.reduceSub, Int.reduceNeg, Int.reduceMul, Bool.and_self], rfl, Nat.zero_le _, by simp⟩ ?_
  rintro e' H' ⟨j, h0, h1, h2, rfl, hj, hr⟩
  repeat' (first | (refine And.intro (by omega) ?_) | simp -implicitDefEqProofs (disch := omega) only [h0, h1, h2, strs_len, strs_getD, push_cast, ↓reduceIte, Nat.reduceEqDiff, reduceCtorEq, Nat.reduceAdd, Nat.reduceSub, Nat.reduceMul, Nat.reduceLeDiff, Nat.reduceLT, Nat.reduceMod, Nat.reduceDiv, Int.reduceToNat, Int.reduceLT, Int.reduceLE, Int.reduceEq, Int.reduceAdd, Int.reduceSub, Int.reduceNeg, Int.reduceMul, Bool.and_self] | split)
  · rename_i h3 h4
    refine bool_eq ⟨fun _ => decide_eq_true ?_, fun _ => rfl⟩
    rw [← h4]
    simp [List.getD_eq_getElem?_getD, show j < ls.length by omega]
  · rename_i h3 h4
    have hlt : j < ls.length := by omega
    refine ⟨⟨j + 1, by simp, by omega, take_mem hlt hr ?_⟩, by omega⟩
    simpa [List.getD_eq_getElem?_getD, hlt] using h4
  · rename_i h3
    rw [List.take_of_length_le (by omega)] at hr
    simp [hr]
def kwL : List (List UInt8) := [[114, 101, 99, 111, 114, 100], [112, 114, 111, 99], [118, 97, 114], [105, 102], [101, 108, 115, 101], [119, 104, 105, 108, 101], [102, 111, 114], [116, 111], [114, 101, 116, 117, 114, 110], [97, 115, 115, 101, 114, 116], [97, 110, 100], [111, 114], [110, 111, 116], [116, 114, 117, 101], [102, 97, 108, 115, 101], [105, 110, 116], [98, 111, 111, 108], [108, 101, 110]]
def isK (s : List UInt8) : Bool := decide (s ∈ kwL)

theorem keywordR (s : List UInt8) (H : AHeap) : Comp 127 [str s] H (bool (isK s)) := by
  refine enter Try.func127 L127_ok (Nat.le_of_ble_eq_true rfl) ?_
  simp -implicitDefEqProofs (disch := omega) only [L127, push_cast, ↓reduceIte, Nat.reduceEqDiff, reduceCtorEq, Nat.reduceAdd, Nat.reduceSub, Nat.reduceMul, Nat.reduceLeDiff, Nat.reduceLT, Nat.reduceMod, Nat.reduceDiv, Int.reduceToNat, Int.reduceLT, Int.reduceLE, Int.reduceEq, Int.reduceAdd, Int.reduceSub, Int.reduceNeg, Int.reduceMul, Bool.and_self]
  refine callF_pure (hasR kwL s H (by decide)) ?_
  simp -implicitDefEqProofs (disch := omega) only [isK, push_cast, ↓reduceIte, Nat.reduceEqDiff, reduceCtorEq, Nat.reduceAdd, Nat.reduceSub, Nat.reduceMul, Nat.reduceLeDiff, Nat.reduceLT, Nat.reduceMod, Nat.reduceDiv, Int.reduceToNat, Int.reduceLT, Int.reduceLE, Int.reduceEq, Int.reduceAdd, Int.reduceSub, Int.reduceNeg, Int.reduceMul, Bool.and_self]

theorem keywords (H : AHeap) : Comp 129 [] H (.mp (kwL.map fun s => .string (mkS s)) (kwL.map fun _ => bool true)) := by
  refine (ACall.drop (R := fun x => x = .mp (kwL.map fun s => .string (mkS s)) (kwL.map fun _ => bool true)) ?_)
  refine enter Try.func129 L129_ok (Nat.le_of_ble_eq_true rfl) ?_
  simp -implicitDefEqProofs (disch := omega) only [L129, push_cast, ↓reduceIte, Nat.reduceEqDiff, reduceCtorEq, Nat.reduceAdd, Nat.reduceSub, Nat.reduceMul, Nat.reduceLeDiff, Nat.reduceLT, Nat.reduceMod, Nat.reduceDiv, Int.reduceToNat, Int.reduceLT, Int.reduceLE, Int.reduceEq, Int.reduceAdd, Int.reduceSub, Int.reduceNeg, Int.reduceMul, Bool.and_self]
  simp [kEq, bs_mkS, kwL]

theorem mget_strs (s : List UInt8) : ∀ ls : List (List UInt8), mget (.string (mkS s)) (ls.map fun s => .string (mkS s)) (ls.map fun _ => bool true) = if s ∈ ls then some (bool true) else none
  | [] => by simp [mget]
  | x :: l => by
    simp only [List.map_cons, mget, kEq, bs_mkS, beq_iff_eq, List.mem_cons]
    by_cases h : s = x
    · simp [h]
    · simp [h, mget_strs s l]

theorem keyword (s : List UInt8) (H : AHeap) : Comp 108 [str s] H (bool (isK s)) := by
  refine enter Try.func108 L108_ok (Nat.le_of_ble_eq_true rfl) ?_
  simp -implicitDefEqProofs (disch := omega) only [L108, push_cast, ↓reduceIte, Nat.reduceEqDiff, reduceCtorEq, Nat.reduceAdd, Nat.reduceSub, Nat.reduceMul, Nat.reduceLeDiff, Nat.reduceLT, Nat.reduceMod, Nat.reduceDiv, Int.reduceToNat, Int.reduceLT, Int.reduceLE, Int.reduceEq, Int.reduceAdd, Int.reduceSub, Int.reduceNeg, Int.reduceMul, Bool.and_self]
  refine callF_pure (keywords H) ?_
  simp -implicitDefEqProofs (disch := omega) only [mget_strs, push_cast, ↓reduceIte, Nat.reduceEqDiff, reduceCtorEq, Nat.reduceAdd, Nat.reduceSub, Nat.reduceMul, Nat.reduceLeDiff, Nat.reduceLT, Nat.reduceMod, Nat.reduceDiv, Int.reduceToNat, Int.reduceLT, Int.reduceLE, Int.reduceEq, Int.reduceAdd, Int.reduceSub, Int.reduceNeg, Int.reduceMul, Bool.and_self]
  refine ⟨fun k hk => ?_, ?_⟩
  · obtain ⟨x, _, rfl⟩ := List.mem_map.1 hk; rfl
  · unfold isK
    by_cases h : s ∈ kwL <;> simp [h, lookV]

end Go.Proofs.Ytnbdogodcjhfiaa

/- Trees: what they are; what an argument that is one comes to. -/
namespace Go.Proofs.Ytnbdogodcjhfiaa
open Go Go.Ax
set_option maxRecDepth 100000
set_option linter.unusedSimpArgs false
set_option linter.unusedVariables false

inductive Nd where
  | mk (kind : Int) (text : List UInt8) (a e : Int) (kids : List Nd)
instance : Inhabited Nd := ⟨.mk 0 [] 0 0 []⟩
def Nd.kind : Nd → Int | .mk k _ _ _ _ => k
def Nd.text : Nd → List UInt8 | .mk _ t _ _ _ => t
def Nd.a : Nd → Int | .mk _ _ a _ _ => a
def Nd.e : Nd → Int | .mk _ _ _ e _ => e
def Nd.kids : Nd → List Nd | .mk _ _ _ _ ks => ks
mutual
def ndR : Nd → List AV
  | .mk k t a e ks => [int k, str t, int a, int e, .sl 5 (ndRs ks)]
def ndRs : List Nd → List (List AV)
  | [] => []
  | x :: l => ndR x :: ndRs l
end
theorem ndRs_map : ∀ l : List Nd, ndRs l = l.map ndR
  | [] => rfl
  | x :: l => by simp [ndRs, ndRs_map l]
theorem ndR_eq (n : Nd) : ndR n = [int n.kind, str n.text, int n.a, int n.e, .sl 5 (n.kids.map ndR)] := by
  cases n; simp [ndR, ndRs_map, Nd.kind, Nd.text, Nd.a, Nd.e, Nd.kids]
mutual
/-- How many nodes. -/
def cnt : Nd → Nat
  | .mk _ _ _ _ ks => cnts ks + 1
def cnts : List Nd → Nat
  | [] => 0
  | x :: l => cnt x + cnts l
end
mutual
/-- All nodes, in the order of their numbers. -/
def nds : Nd → List Nd
  | .mk k t a e ks => .mk k t a e ks :: ndss ks
def ndss : List Nd → List Nd
  | [] => []
  | x :: l => nds x ++ ndss l
end
theorem cnt_eq (n : Nd) : cnt n = cnts n.kids + 1 := by cases n; rfl
theorem nds_eq (n : Nd) : nds n = n :: ndss n.kids := by cases n; rfl
theorem cnts_append : ∀ a b : List Nd, cnts (a ++ b) = cnts a + cnts b
  | [], b => by simp [cnts]
  | x :: a, b => by simp only [List.cons_append, cnts, cnts_append a b]; omega
theorem ndss_append : ∀ a b : List Nd, ndss (a ++ b) = ndss a ++ ndss b
  | [], b => by simp [ndss]
  | x :: a, b => by simp [ndss, ndss_append a b]
theorem cnt_pos (n : Nd) : 0 < cnt n := by rw [cnt_eq]; omega
theorem cnts_mem {x : Nd} : ∀ {l : List Nd}, x ∈ l → cnt x ≤ cnts l
  | y :: l, h => by
    simp only [cnts]
    rcases List.mem_cons.1 h with rfl | h
    · omega
    · have := cnts_mem h; omega
theorem cnt_kid {n k : Nd} (h : k ∈ n.kids) : cnt k < cnt n := by
  have := cnts_mem h
  rw [cnt_eq n]
  omega
theorem cnts_len : ∀ l : List Nd, l.length ≤ cnts l
  | [] => by simp
  | x :: l => by have := cnts_len l; have := cnt_pos x; simp only [cnts, List.length_cons]; omega
mutual
theorem nds_len : ∀ n : Nd, (nds n).length = cnt n
  | .mk k t a e ks => by simp [nds, cnt, ndss_len ks]
theorem ndss_len : ∀ l : List Nd, (ndss l).length = cnts l
  | [] => rfl
  | x :: l => by simp [ndss, cnts, nds_len x, ndss_len l]
end
/-- What holds of a node if it holds of its kids, holds of all. -/
theorem Nd.ind {p : Nd → Prop} (h : ∀ n, (∀ k ∈ n.kids, p k) → p n) (n : Nd) : p n := by
  have aux : ∀ (c : Nat) (n : Nd), cnt n ≤ c → p n := by
    intro c
    induction c with
    | zero => intro n hn; have := cnt_pos n; omega
    | succ c ih => intro n hn; exact h n fun k hk => ih k (by have := cnt_kid hk; omega)
  exact aux _ n (Nat.le_refl _)

/-! ### The bound -/
theorem bulkRR_mem {r : List AV} : ∀ {l : List (List AV)}, r ∈ l → bulkR r ≤ bulkRR l
  | x :: l, h => by
    simp only [bulkRR]
    rcases List.mem_cons.1 h with rfl | h
    · omega
    · have := bulkRR_mem h; omega
theorem bulk_int (i : Int) : AV.bulk (int i) = 1 := by simp [AV.bulk]
theorem bulk_str (l : List UInt8) : AV.bulk (str l) = l.length + 1 := by simp [AV.bulk, mkS, ByteArray.size]
theorem bulk_sl (k : Nat) (rows : List (List AV)) : AV.bulk (.sl k rows) = bulkRR rows + 1 := by simp [AV.bulk]
theorem bulk_nd (n : Nd) : bulkR (ndR n) = n.text.length + bulkRR (n.kids.map ndR) + 5 := by
  rw [ndR_eq]
  simp only [bulkR, bulk_int, bulk_str, bulk_sl]
  omega
mutual
theorem cnt_bulk : ∀ n : Nd, cnt n ≤ bulkR (ndR n)
  | .mk k t a e ks => by
    rw [bulk_nd]
    have := cnts_bulk ks
    simp only [cnt, Nd.kids]
    omega
theorem cnts_bulk : ∀ l : List Nd, cnts l ≤ bulkRR (l.map ndR)
  | [] => Nat.le_refl _
  | x :: l => by
    simp only [cnts, List.map_cons, bulkRR]
    have := cnt_bulk x
    have := cnts_bulk l
    omega
end
/-- Numbers that are numbers, all over. -/
inductive Nd.Ok : Nd → Prop
  | mk {n : Nd} : i64R n.kind → i64R n.a → i64R n.e → (∀ k ∈ n.kids, Nd.Ok k) → n.Ok
theorem c_nd : Try.prog.cellsOf 24 = 5 := by kernel_rfl
theorem c_nds : Try.prog.cellsOf 22 = 1 := by kernel_rfl
theorem open_nd : ∀ (b : Nat) {xs : List AV}, bulkR xs ≤ b → Val Try.prog 24 xs → ∃ n : Nd, xs = ndR n ∧ n.Ok := by
  intro b
  induction b with
  | zero =>
    intro xs hb h
    obtain ⟨hl, hf⟩ := val_st Try.underlying24 c_nd h
    match xs, hl with
    | x :: l, _ =>
      simp only [bulkR] at hb
      cases x with
      | v v => cases v <;> simp [AV.bulk] at hb
      | _ => simp [AV.bulk] at hb
  | succ b ih =>
    intro xs hb h
    obtain ⟨hl, hf⟩ := val_st Try.underlying24 c_nd h
    obtain ⟨x0, x1, x2, x3, x4, rfl⟩ : ∃ a b c d e, xs = [a, b, c, d, e] := by
      match xs, hl with
      | [a, b, c, d, e], _ => exact ⟨a, b, c, d, e, rfl⟩
    obtain ⟨x, hx, hx'⟩ := val_int Try.underlying3 (val_fld hf 0 3 0 1 rfl c_int)
    obtain ⟨y, hy, hy'⟩ := val_str Try.underlying9 (val_fld hf 1 9 1 1 rfl c_str)
    obtain ⟨z, hz, hz'⟩ := val_int Try.underlying3 (val_fld hf 2 3 2 1 rfl c_int)
    obtain ⟨u, hu, hu'⟩ := val_int Try.underlying3 (val_fld hf 3 3 3 1 rfl c_int)
    obtain ⟨rows, hr, hr', hrows⟩ := val_sl Try.underlying22 c_nd (val_fld hf 4 22 4 1 rfl c_nds)
    simp only [List.drop_succ_cons, List.drop_zero, List.take_succ_cons, List.take_zero, List.cons.injEq, and_true] at hx hy hz hu hr
    subst hx; subst hy; subst hz; subst hu; subst hr
    have hbr : bulkRR rows ≤ b := by simp only [bulkR, bulk_int, bulk_str, bulk_sl] at hb; omega
    have hall : ∀ r ∈ rows, ∃ n : Nd, r = ndR n ∧ n.Ok := fun r hr => ih (Nat.le_trans (bulkRR_mem hr) hbr) (hrows r hr)
    obtain ⟨l, hl2, hok⟩ : ∃ l : List Nd, rows = l.map ndR ∧ ∀ a ∈ l, a.Ok := by
      clear hrows hbr hb ih hf hl h hr'
      induction rows with
      | nil => exact ⟨[], rfl, by simp⟩
      | cons x rows ih =>
        obtain ⟨a, rfl, ha⟩ := hall x (by simp)
        obtain ⟨l, rfl, hl⟩ := ih fun y hy => hall y (by simp [hy])
        exact ⟨a :: l, rfl, by simp only [List.mem_cons, forall_eq_or_imp]; exact ⟨ha, hl⟩⟩
    subst hl2
    exact ⟨.mk x y z u l, by simp [ndR, ndRs_map], .mk hx' hz' hu' hok⟩
end Go.Proofs.Ytnbdogodcjhfiaa

/- Trees: the walk over all nodes; how many there are. -/
namespace Go.Proofs.Ytnbdogodcjhfiaa
open Go Go.Ax
set_option maxRecDepth 100000
set_option linter.unusedSimpArgs false
set_option linter.unusedVariables false

/-- Not too many nodes. -/
abbrev Sml (n : Nd) : Prop := bulkR (ndR n) ≤ 1048576
theorem sml_kid {n k : Nd} (h : Sml n) (hk : k ∈ n.kids) : Sml k := by
  have h1 := bulkRR_mem (List.mem_map_of_mem (f := ndR) hk)
  have h2 := bulk_nd n
  unfold Sml at *
  omega
theorem sml_len {n : Nd} (h : Sml n) : n.kids.length ≤ 1048576 := by
  have h1 := cnt_bulk n
  have h2 := cnts_len n.kids
  rw [cnt_eq] at h1
  unfold Sml at h
  omega
theorem sml_cnt {n : Nd} (h : Sml n) : cnt n ≤ 1048576 := Nat.le_trans (cnt_bulk n) h
theorem sml_kids {n : Nd} (h : Sml n) (j : Nat) : cnts (n.kids.take j) ≤ 1048576 := by
  have h1 := sml_cnt h
  rw [cnt_eq] at h1
  have h2 := cnts_append (n.kids.take j) (n.kids.drop j)
  rw [List.take_append_drop] at h2
  omega
theorem nd_len (n : Nd) : (ndR n).length = 5 := by rw [ndR_eq]; rfl
theorem nd_take (n : Nd) : (ndR n).take 5 = ndR n := by rw [ndR_eq]; rfl
theorem nd_drop4 (n : Nd) : (ndR n).drop 4 = [.sl 5 (n.kids.map ndR)] := by rw [ndR_eq]; rfl
theorem nd_c1s (n : Nd) : c1s (ndR n) = true := by rw [ndR_eq]; rfl
theorem nd_clL (n : Nd) : clL (ndR n) = true := by rw [ndR_eq]; simp [clL, AV.cl]
theorem cells_agg (cs : List AV) : cellsOf (.agg cs) = cs := rfl

theorem visitC (c : Nat) (Hs : List Nd → AHeap) (hlen : ∀ p, (Hs p).length = c) (l : Nat)
    (hy : ∀ p m rest, Sml m → AYield Try.prog l [.agg (ndR m)] (Hs p ++ rest) fun x H' => x = bool true ∧ ∃ ext, H' = Hs (p ++ [m]) ++ (rest ++ ext)) (n : Nd) :
    ∀ (p : List Nd) (rest : AHeap), Sml n → ACall Try.prog 89 [.agg (ndR n), .v (.func (.yield l) #[] #[])] (Hs p ++ rest) fun x H' => x = bool true ∧ ∃ ext, H' = Hs (p ++ nds n) ++ (rest ++ ext) := by
  induction n using Nd.ind with
  | h n ih =>
  intro p rest hs
  refine enter Try.func89 L89_ok (Nat.le_of_ble_eq_true rfl) ?_
  have hg : ∀ q cs ext, (Hs q ++ (rest ++ HO.box cs :: ext))[c + rest.length]? = some (HO.box cs) := fun q cs ext => by
    rw [← hlen q, ← List.append_assoc, show (Hs q).length + rest.length = (Hs q ++ rest).length by simp, get_len]
  have hg2 : ∀ q (ext : AHeap) cs l, (Hs q ++ (rest ++ (ext ++ HO.box cs :: l)))[c + (rest.length + ext.length)]? = some (HO.box cs) := fun q ext cs l => by
    rw [← hlen q, ← List.append_assoc, ← List.append_assoc, show (Hs q).length + (rest.length + ext.length) = (Hs q ++ rest ++ ext).length by simp [Nat.add_assoc], get_len]
  have hs2 : ∀ q (ext : AHeap) x o l, (Hs q ++ (rest ++ (ext ++ x :: l))).set (c + (rest.length + ext.length)) o = Hs q ++ (rest ++ (ext ++ o :: l)) := fun q ext x o l => by
    rw [← hlen q, ← List.append_assoc, ← List.append_assoc, show (Hs q).length + (rest.length + ext.length) = (Hs q ++ rest ++ ext).length by simp [Nat.add_assoc], set_len]
    simp
  simp -implicitDefEqProofs (disch := omega) only [L89, cells_agg, nd_c1s, nd_clL, nd_len, nd_take, hlen, hg, dT_lt, dF_lt, dT_le, dF_le, dT_eq, dF_eq, push_cast, ↓reduceIte, Nat.reduceEqDiff, reduceCtorEq, Nat.reduceAdd, Nat.reduceSub, Nat.reduceMul, Nat.reduceLeDiff, Nat.reduceLT, Nat.reduceMod, Nat.reduceDiv, Int.reduceToNat, Int.reduceLT, Int.reduceLE, Int.reduceEq, Int.reduceAdd, Int.reduceSub, Int.reduceNeg, Int.reduceMul, Bool.and_self]
  refine callY_mono (hy p n _ hs) ?_
  rintro y H' ⟨rfl, ext, rfl⟩
  simp -implicitDefEqProofs (disch := omega) only [hlen, hg, nd_len, nd_drop4, dT_lt, dF_lt, dT_le, dF_le, dT_eq, dF_eq, push_cast, ↓reduceIte, Nat.reduceEqDiff, reduceCtorEq, Nat.reduceAdd, Nat.reduceSub, Nat.reduceMul, Nat.reduceLeDiff, Nat.reduceLT, Nat.reduceMod, Nat.reduceDiv, Int.reduceToNat, Int.reduceLT, Int.reduceLE, Int.reduceEq, Int.reduceAdd, Int.reduceSub, Int.reduceNeg, Int.reduceMul, Bool.and_self]
  have hln := sml_len hs
  refine rk_loopS (fun (st : Nat × AHeap) e' H' => e' 1 = .v (.func (.yield l) #[] #[]) ∧ e' 12 = .sl 5 (n.kids.map ndR) ∧ e' 13 = int n.kids.length ∧ e' 14 = int st.1 ∧ H' = Hs (p ++ n :: ndss (n.kids.take st.1)) ++ (rest ++ st.2) ∧ st.1 ≤ n.kids.length) (fun st => n.kids.length - st.1) (0, HO.box (ndR n) :: ext) ?_ ?_
  · exact ⟨rfl, rfl, rfl, rfl, by simp [ndss], Nat.zero_le _⟩
  rintro ⟨j, ext⟩ e' H' ⟨h1, h12, h13, h14, rfl, hj⟩
  simp only at h14 hj
  by_cases hlt : j < n.kids.length
  · have hk := getD_mem' hlt
    simp -implicitDefEqProofs (disch := omega) only [h1, h12, h13, h14, rows_getD, nd_len, nd_take, nd_c1s, nd_clL, cells_agg, hlen, hg2, hs2, splice, dT_lt, dF_lt, dT_le, dF_le, dT_eq, dF_eq, push_cast, ↓reduceIte, Nat.reduceEqDiff, reduceCtorEq, Nat.reduceAdd, Nat.reduceSub, Nat.reduceMul, Nat.reduceLeDiff, Nat.reduceLT, Nat.reduceMod, Nat.reduceDiv, Int.reduceToNat, Int.reduceLT, Int.reduceLE, Int.reduceEq, Int.reduceAdd, Int.reduceSub, Int.reduceNeg, Int.reduceMul, Bool.and_self]
    refine And.intro (by omega) ?_
    refine callF_mono (ih _ hk (p ++ n :: ndss (n.kids.take j)) (rest ++ (ext ++ [HO.box (ndR (n.kids.getD j default))])) (sml_kid hs hk)) ?_
    rintro y H' ⟨rfl, ext', rfl⟩
    simp -implicitDefEqProofs (disch := omega) only [h1, h12, h13, h14, dT_lt, dF_lt, dT_le, dF_le, dT_eq, dF_eq, push_cast, ↓reduceIte, Nat.reduceEqDiff, reduceCtorEq, Nat.reduceAdd, Nat.reduceSub, Nat.reduceMul, Nat.reduceLeDiff, Nat.reduceLT, Nat.reduceMod, Nat.reduceDiv, Int.reduceToNat, Int.reduceLT, Int.reduceLE, Int.reduceEq, Int.reduceAdd, Int.reduceSub, Int.reduceNeg, Int.reduceMul, Bool.and_self]
    exact .mk (j + 1, ext ++ HO.box (ndR (n.kids.getD j default)) :: ext') ⟨h1, h12, h13, rfl, by rw [take_snoc hlt, ndss_append]; simp [ndss], hlt⟩ (by simp; omega)
  · have e : j = n.kids.length := by omega
    subst e
    simp -implicitDefEqProofs (disch := omega) only [h1, h12, h13, h14, dT_lt, dF_lt, dT_le, dF_le, dT_eq, dF_eq, push_cast, ↓reduceIte, Nat.reduceEqDiff, reduceCtorEq, Nat.reduceAdd, Nat.reduceSub, Nat.reduceMul, Nat.reduceLeDiff, Nat.reduceLT, Nat.reduceMod, Nat.reduceDiv, Int.reduceToNat, Int.reduceLT, Int.reduceLE, Int.reduceEq, Int.reduceAdd, Int.reduceSub, Int.reduceNeg, Int.reduceMul, Bool.and_self]
    exact ⟨ext, by rw [List.take_length, nds_eq]⟩

theorem nodesC (n : Nd) (H : AHeap) : ACall Try.prog 58 [.agg (ndR n)] H fun x H' => x = .fn (.func 88) [] [.ptr H.length 0 0] ∧ H' = H ++ [.box (ndR n)] := by
  refine enter Try.func58 L58_ok (Nat.le_of_ble_eq_true rfl) ?_
  simp -implicitDefEqProofs (disch := omega) only [L58, cells_agg, nd_c1s, dT_lt, dF_lt, dT_le, dF_le, dT_eq, dF_eq, push_cast, ↓reduceIte, Nat.reduceEqDiff, reduceCtorEq, Nat.reduceAdd, Nat.reduceSub, Nat.reduceMul, Nat.reduceLeDiff, Nat.reduceLT, Nat.reduceMod, Nat.reduceDiv, Int.reduceToNat, Int.reduceLT, Int.reduceLE, Int.reduceEq, Int.reduceAdd, Int.reduceSub, Int.reduceNeg, Int.reduceMul, Bool.and_self]
theorem nodes1C (c : Nat) (Hs : List Nd → AHeap) (hlen : ∀ p, (Hs p).length = c) (l : Nat)
    (hy : ∀ p m rest, Sml m → AYield Try.prog l [.agg (ndR m)] (Hs p ++ rest) fun x H' => x = bool true ∧ ∃ ext, H' = Hs (p ++ [m]) ++ (rest ++ ext)) (n : Nd) (hs : Sml n) (p : List Nd) (rest : AHeap) (r : Nat) (hr : (Hs p ++ rest)[r]? = some (.box (ndR n))) :
    ACall Try.prog 88 [.v (.func (.yield l) #[] #[]), .ptr r 0 0] (Hs p ++ rest) fun x H' => ∃ ext, H' = Hs (p ++ nds n) ++ (rest ++ ext) := by
  refine enter Try.func88 L88_ok (Nat.le_of_ble_eq_true rfl) ?_
  simp -implicitDefEqProofs (disch := omega) only [L88, hr, nd_len, nd_take, dT_lt, dF_lt, dT_le, dF_le, dT_eq, dF_eq, push_cast, ↓reduceIte, Nat.reduceEqDiff, reduceCtorEq, Nat.reduceAdd, Nat.reduceSub, Nat.reduceMul, Nat.reduceLeDiff, Nat.reduceLT, Nat.reduceMod, Nat.reduceDiv, Int.reduceToNat, Int.reduceLT, Int.reduceLE, Int.reduceEq, Int.reduceAdd, Int.reduceSub, Int.reduceNeg, Int.reduceMul, Bool.and_self]
  refine callF_mono (visitC c Hs hlen l hy n p rest hs) ?_
  rintro y H' ⟨rfl, ext, rfl⟩
  simp -implicitDefEqProofs (disch := omega) only [dT_lt, dF_lt, dT_le, dF_le, dT_eq, dF_eq, push_cast, ↓reduceIte, Nat.reduceEqDiff, reduceCtorEq, Nat.reduceAdd, Nat.reduceSub, Nat.reduceMul, Nat.reduceLeDiff, Nat.reduceLT, Nat.reduceMod, Nat.reduceDiv, Int.reduceToNat, Int.reduceLT, Int.reduceLE, Int.reduceEq, Int.reduceAdd, Int.reduceSub, Int.reduceNeg, Int.reduceMul, Bool.and_self]
  refine ⟨by simp [resVs], ext, rfl⟩

theorem rk_rangeE {P : Program} {k : List Ax.Item} {Q : Out → Env → AHeap → Prop} {e : Env} {H : AHeap} {g : LX} {ps : List Nat} {la lb : LCode} {f : FuncId} {first caps : List AV} (hg : ev e g = .fn (.func f) first caps)
    (h : ∀ E : Env, (∀ t, E t = e t) → ∀ l lr, Rounds P l lr E ps la lb → ACall P f (first ++ [.v (.func (.yield l) #[] #[])] ++ caps) (H ++ [.lp l lr E .ready]) fun _ H' => ∃ st, H'[H.length]? = some (.lp l lr E st) ∧ lpOut st fun o => runK P k Q o E (H'.set H.length .dead)) :
    runK P (.code (.range g ps la lb) :: k) Q .normal e H := rk_range hg (h e fun _ => rfl)
end Go.Proofs.Ytnbdogodcjhfiaa

/- Trees: the reference's Count and Nodes, levels, small trees. -/
namespace Go.Proofs.Ytnbdogodcjhfiaa
open Go Go.Ax
set_option maxRecDepth 100000
set_option linter.unusedSimpArgs false
set_option linter.unusedVariables false

theorem cnts_snoc {n : Nd} {j : Nat} (h : j < n.kids.length) : cnts (n.kids.take (j + 1)) = cnts (n.kids.take j) + cnt (n.kids.getD j default) := by
  rw [take_snoc h, cnts_append]
  simp [cnts]
theorem ndss_snoc {n : Nd} {j : Nat} (h : j < n.kids.length) : ndss (n.kids.take (j + 1)) = ndss (n.kids.take j) ++ nds (n.kids.getD j default) := by
  rw [take_snoc h, ndss_append]
  simp [ndss]

theorem nodesR (n : Nd) : Sml n → ∀ H, Comp' 24 [.agg (ndR n)] H (.sl 5 ((nds n).map ndR)) := by
  induction n using Nd.ind with
  | h n ih =>
  intro hs H
  refine ACall.drop (R := fun x => x = .sl 5 ((nds n).map ndR)) ?_
  refine enter Try.func24 L24_ok (Nat.le_of_ble_eq_true rfl) ?_
  have hln := sml_len hs
  repeat' (first | (refine And.intro (by omega) ?_) | simp -implicitDefEqProofs (disch := omega) only [L24, cells_agg, nd_c1s, nd_clL, nd_len, nd_take, dT_lt, dF_lt, dT_le, dF_le, dT_eq, dF_eq, push_cast, ↓reduceIte, Nat.reduceEqDiff, reduceCtorEq, Nat.reduceAdd, Nat.reduceSub, Nat.reduceMul, Nat.reduceLeDiff, Nat.reduceLT, Nat.reduceMod, Nat.reduceDiv, Int.reduceToNat, Int.reduceLT, Int.reduceLE, Int.reduceEq, Int.reduceAdd, Int.reduceSub, Int.reduceNeg, Int.reduceMul, Bool.and_self] | split)
  refine rk_loopS (fun (st : Nat × Nat) e' H' => e' 1 = .ptr H.length 0 0 ∧ e' 3 = .os (H.length + 1) st.2 0 (1 + cnts (n.kids.take st.1)) ∧ e' 4 = int st.1 ∧ H' = H ++ [.box (ndR n), .arr st.2 5 ((n :: ndss (n.kids.take st.1)).map ndR)] ∧ st.1 ≤ n.kids.length) (fun st => n.kids.length - st.1) (0, 0) ?_ ?_
  · exact ⟨rfl, rfl, rfl, rfl, Nat.zero_le _⟩
  rintro ⟨j, v⟩ e' H' ⟨h1, h3, h4, rfl, hj⟩
  simp only at h3 h4 hj
  by_cases hlt : j < n.kids.length
  · have hk := getD_mem' hlt
    have hb := sml_kids hs (j + 1)
    rw [cnts_snoc hlt, ← nds_len] at hb
    have hlen : (ndss (n.kids.take j)).length = cnts (n.kids.take j) := ndss_len _
    repeat' (first | (refine And.intro (by omega) ?_) | (refine callF_pure (ih _ hk (sml_kid hs hk) _) ?_) | (refine callQF_pure (ih _ hk (sml_kid hs hk) _) (by first | rfl | simp only [h1, h3, h4, nd_drop4, nd_len, rows_getD, nd_take, push_cast]) ?_) | simp -implicitDefEqProofs (disch := omega) only [h1, h3, h4, nd_drop4, nd_len, rows_getD, nd_take, dT_lt, dF_lt, dT_le, dF_le, dT_eq, dF_eq, push_cast, ↓reduceIte, Nat.reduceEqDiff, reduceCtorEq, Nat.reduceAdd, Nat.reduceSub, Nat.reduceMul, Nat.reduceLeDiff, Nat.reduceLT, Nat.reduceMod, Nat.reduceDiv, Int.reduceToNat, Int.reduceLT, Int.reduceLE, Int.reduceEq, Int.reduceAdd, Int.reduceSub, Int.reduceNeg, Int.reduceMul, Bool.and_self] | split)
    have ht : (ndR n :: (ndss (n.kids.take j)).map ndR).take (1 + cnts (n.kids.take j)) = ndR n :: (ndss (n.kids.take j)).map ndR := all_take _ (by simp [hlen]; omega)
    refine .mk (j + 1, v + 1) ⟨h1, ?_, rfl, ?_, hlt⟩ (by omega)
    · show AV.os (H.length + 1) (v + 1) 0 (1 + cnts (n.kids.take j) + (nds (n.kids.getD j default)).length) = _
      rw [cnts_snoc hlt, nds_len, Nat.add_assoc]
    · rw [ndss_snoc hlt]
      simp only [List.map_cons, List.map_append, ht, List.cons_append]
  · have e : j = n.kids.length := by omega
    subst e
    have hlen : (ndss n.kids).length = cnts n.kids := ndss_len _
    rw [List.take_length] at h3
    repeat' (first | (refine And.intro (by omega) ?_) | simp -implicitDefEqProofs (disch := omega) only [h1, h3, h4, nd_drop4, nd_len, List.take_length, dT_lt, dF_lt, dT_le, dF_le, dT_eq, dF_eq, push_cast, ↓reduceIte, Nat.reduceEqDiff, reduceCtorEq, Nat.reduceAdd, Nat.reduceSub, Nat.reduceMul, Nat.reduceLeDiff, Nat.reduceLT, Nat.reduceMod, Nat.reduceDiv, Int.reduceToNat, Int.reduceLT, Int.reduceLE, Int.reduceEq, Int.reduceAdd, Int.reduceSub, Int.reduceNeg, Int.reduceMul, Bool.and_self] | split)
    refine ⟨?_, _, rfl⟩
    rw [nds_eq, all_take _ (by simp [hlen]; omega)]
    rfl

/-- At most so many nodes, with short texts. -/
def smallF (n : Nd) (m : Int) : Bool := ((nds n).all fun x => decide (x.text.length ≤ 60)) && decide ((cnt n : Int) ≤ m)
theorem smallR (n : Nd) (m : Int) (hs : Sml n) (H : AHeap) : Comp' 11 [.agg (ndR n), int m] H (bool (smallF n m)) := by
  refine ACall.drop (R := fun x => x = bool (smallF n m)) ?_
  refine enter Try.func11 L11_ok (Nat.le_of_ble_eq_true rfl) ?_
  have hc := sml_cnt hs
  have hnl := nds_len n
  repeat' (first | (refine And.intro (by omega) ?_) | (refine callF_pure (nodesR n hs _) ?_) | (refine callQF_pure (nodesR n hs _) (by first | rfl | simp only [L11, cells_agg, nd_c1s, nd_len, nd_take, push_cast]) ?_) | simp -implicitDefEqProofs (disch := omega) only [L11, cells_agg, nd_c1s, nd_len, nd_take, dT_lt, dF_lt, dT_le, dF_le, dT_eq, dF_eq, push_cast, ↓reduceIte, Nat.reduceEqDiff, reduceCtorEq, Nat.reduceAdd, Nat.reduceSub, Nat.reduceMul, Nat.reduceLeDiff, Nat.reduceLT, Nat.reduceMod, Nat.reduceDiv, Int.reduceToNat, Int.reduceLT, Int.reduceLE, Int.reduceEq, Int.reduceAdd, Int.reduceSub, Int.reduceNeg, Int.reduceMul, Bool.and_self] | split)
  refine rk_loopS (fun (j : Nat) e' H' => e' 1 = int m ∧ e' 5 = .sl 5 ((nds n).map ndR) ∧ e' 6 = int j ∧ H' = H ++ [.box (ndR n)] ∧ j ≤ (nds n).length ∧ ∀ i, i < j → ((nds n).getD i default).text.length ≤ 60) (fun j => (nds n).length - j) 0 ?_ ?_
  · exact ⟨rfl, rfl, rfl, rfl, Nat.zero_le _, by simp⟩
  rintro j e' H' ⟨h1, h5, h6, rfl, hj, hr⟩
  have ht : ∀ x : Nd, (ndR x).drop 1 = [str x.text, int x.a, int x.e, .sl 5 (x.kids.map ndR)] := fun x => by rw [ndR_eq]; rfl
  by_cases hlt : j < (nds n).length
  · by_cases hs60 : ((nds n).getD j default).text.length ≤ 60
    · repeat' (first | (refine And.intro (by omega) ?_) | simp -implicitDefEqProofs (disch := omega) only [h1, h5, h6, rows_getD, nd_len, ht, dT_lt, dF_lt, dT_le, dF_le, dT_eq, dF_eq, push_cast, ↓reduceIte, Nat.reduceEqDiff, reduceCtorEq, Nat.reduceAdd, Nat.reduceSub, Nat.reduceMul, Nat.reduceLeDiff, Nat.reduceLT, Nat.reduceMod, Nat.reduceDiv, Int.reduceToNat, Int.reduceLT, Int.reduceLE, Int.reduceEq, Int.reduceAdd, Int.reduceSub, Int.reduceNeg, Int.reduceMul, Bool.and_self] | split)
      exact .mk (j + 1) ⟨h1, h5, rfl, rfl, hlt, upto_succ hr hs60⟩ (by omega)
    · have hf : smallF n m = false := by
        unfold smallF
        rw [Bool.and_eq_false_iff]
        refine .inl ?_
        rw [List.all_eq_false]
        exact ⟨_, getD_mem' hlt, by simpa using hs60⟩
      rw [hf]
      repeat' (first | (refine And.intro (by omega) ?_) | simp -implicitDefEqProofs (disch := omega) only [h1, h5, h6, rows_getD, nd_len, ht, dT_lt, dF_lt, dT_le, dF_le, dT_eq, dF_eq, push_cast, ↓reduceIte, Nat.reduceEqDiff, reduceCtorEq, Nat.reduceAdd, Nat.reduceSub, Nat.reduceMul, Nat.reduceLeDiff, Nat.reduceLT, Nat.reduceMod, Nat.reduceDiv, Int.reduceToNat, Int.reduceLT, Int.reduceLE, Int.reduceEq, Int.reduceAdd, Int.reduceSub, Int.reduceNeg, Int.reduceMul, Bool.and_self] | split)
      exact ⟨_, rfl⟩
  · have hall : ((nds n).all fun x => decide (x.text.length ≤ 60)) = true := by
      rw [List.all_eq_true]
      intro x hx
      obtain ⟨i, hi, rfl⟩ := List.mem_iff_getElem.1 hx
      have := hr i (by omega)
      simpa [List.getD_eq_getElem?_getD, hi] using this
    have hf : smallF n m = decide ((cnt n : Int) ≤ m) := by unfold smallF; rw [hall]; rfl
    rw [hf]
    repeat' (first | (refine And.intro (by omega) ?_) | simp -implicitDefEqProofs (disch := omega) only [h1, h5, h6, hnl, dT_lt, dF_lt, dT_le, dF_le, dT_eq, dF_eq, push_cast, ↓reduceIte, Nat.reduceEqDiff, reduceCtorEq, Nat.reduceAdd, Nat.reduceSub, Nat.reduceMul, Nat.reduceLeDiff, Nat.reduceLT, Nat.reduceMod, Nat.reduceDiv, Int.reduceToNat, Int.reduceLT, Int.reduceLE, Int.reduceEq, Int.reduceAdd, Int.reduceSub, Int.reduceNeg, Int.reduceMul, Bool.and_self] | split)
    exact ⟨_, rfl⟩
end Go.Proofs.Ytnbdogodcjhfiaa

/- The lexer's functions, and those of its reference: what each computes. Part 3: symbols. -/
namespace Go.Proofs.Ytnbdogodcjhfiaa
open Go Go.Ax
set_option maxRecDepth 100000
set_option linter.unusedSimpArgs false
set_option linter.unusedVariables false

/-- The size of the symbol at a place, or 0. -/
def symL : List UInt8 := [60, 62, 61, 43, 45, 42, 47, 37, 40, 41, 123, 125, 91, 93, 44, 59, 58, 46]
def is2 (c : UInt8) : Bool := decide (c.toNat = 61) || decide (c.toNat = 33) || decide (c.toNat = 60) || decide (c.toNat = 62)
def symF (s : List UInt8) (i : Nat) : Nat :=
  if i + 1 < s.length ∧ (s.getD (i + 1) 0).toNat = 61 ∧ is2 (s.getD i 0) = true then 2 else if s.getD i 0 ∈ symL then 1 else 0

theorem sub2 {s : List UInt8} {i : Nat} (h : i + 1 < s.length) : ((s.drop i).take 2) = [s.getD i 0, s.getD (i + 1) 0] := by
  rw [List.drop_eq_getElem_cons (by omega), List.drop_eq_getElem_cons h, List.take_succ_cons, List.take_succ_cons, List.take_zero]
  simp [List.getD_eq_getElem?_getD, h, show i < s.length by omega]
theorem sub1 {s : List UInt8} {i : Nat} (h : i < s.length) : ((s.drop i).take 1) = [s.getD i 0] := by
  rw [List.drop_eq_getElem_cons h, List.take_succ_cons, List.take_zero]
  simp [List.getD_eq_getElem?_getD, h]
theorem symF_is {s : List UInt8} {i : Nat} (h : i + 1 < s.length) : symF s i = if [s.getD i 0, s.getD (i + 1) 0] ∈ [[61, 61], [33, 61], [60, 61], [(62 : UInt8), 61]] then 2 else if s.getD i 0 ∈ symL then 1 else 0 := by
  unfold symF
  have e : (i + 1 < s.length ∧ (s.getD (i + 1) 0).toNat = 61 ∧ is2 (s.getD i 0) = true) = ([s.getD i 0, s.getD (i + 1) 0] ∈ [[61, 61], [33, 61], [60, 61], [(62 : UInt8), 61]]) := by
    generalize s.getD (i + 1) 0 = b
    generalize s.getD i 0 = a
    simp [is2, h, ← UInt8.toNat_inj]
    omega
  simp only [e]

theorem symbolR (s : List UInt8) (i : Nat) (H : AHeap) (hl : (s.length : Int) < 9223372036854775806) (hi : i < s.length) : Comp 135 [str s, int i] H (int (symF s i)) := by
  refine enter Try.func135 L135_ok (Nat.le_of_ble_eq_true rfl) ?_
  simp -implicitDefEqProofs (disch := omega) only [L135, push_cast, ↓reduceIte, Nat.reduceEqDiff, reduceCtorEq, Nat.reduceAdd, Nat.reduceSub, Nat.reduceMul, Nat.reduceLeDiff, Nat.reduceLT, Nat.reduceMod, Nat.reduceDiv, Int.reduceToNat, Int.reduceLT, Int.reduceLE, Int.reduceEq, Int.reduceAdd, Int.reduceSub, Int.reduceNeg, Int.reduceMul, Bool.and_self]
  have hm : ∀ c : UInt8, ([c] ∈ symL.map fun c => [c]) ↔ c ∈ symL := fun c => by simp
  split
  · rename_i h1
    have h1' : i + 1 < s.length := by omega
    refine ⟨by omega, callF_pure (hasR [[61, 61], [33, 61], [60, 61], [62, 61]] _ _ (by decide)) ?_⟩
    simp -implicitDefEqProofs (disch := omega) only [push_cast, ↓reduceIte, Nat.reduceEqDiff, reduceCtorEq, Nat.reduceAdd, Nat.reduceSub, Nat.reduceMul, Nat.reduceLeDiff, Nat.reduceLT, Nat.reduceMod, Nat.reduceDiv, Int.reduceToNat, Int.reduceLT, Int.reduceLE, Int.reduceEq, Int.reduceAdd, Int.reduceSub, Int.reduceNeg, Int.reduceMul, Bool.and_self]
    rw [sub2 h1']
    split
    · rename_i h2
      rw [symF_is h1', if_pos (by simpa using h2)]
      rfl
    · rename_i h2
      refine ⟨by omega, callF_pure (hasR (symL.map fun c => [c]) _ _ (by decide)) ?_⟩
      simp -implicitDefEqProofs (disch := omega) only [push_cast, ↓reduceIte, Nat.reduceEqDiff, reduceCtorEq, Nat.reduceAdd, Nat.reduceSub, Nat.reduceMul, Nat.reduceLeDiff, Nat.reduceLT, Nat.reduceMod, Nat.reduceDiv, Int.reduceToNat, Int.reduceLT, Int.reduceLE, Int.reduceEq, Int.reduceAdd, Int.reduceSub, Int.reduceNeg, Int.reduceMul, Bool.and_self]
      have e := symF_is h1'
      rw [if_neg (show ¬ _ from by simpa using h2)] at e
      rw [sub1 hi, e]
      simp only [hm]
      split <;> rfl
  · rename_i h1
    refine ⟨by omega, callF_pure (hasR (symL.map fun c => [c]) _ _ (by decide)) ?_⟩
    simp -implicitDefEqProofs (disch := omega) only [push_cast, ↓reduceIte, Nat.reduceEqDiff, reduceCtorEq, Nat.reduceAdd, Nat.reduceSub, Nat.reduceMul, Nat.reduceLeDiff, Nat.reduceLT, Nat.reduceMod, Nat.reduceDiv, Int.reduceToNat, Int.reduceLT, Int.reduceLE, Int.reduceEq, Int.reduceAdd, Int.reduceSub, Int.reduceNeg, Int.reduceMul, Bool.and_self]
    unfold symF
    have e : symF s i = if s.getD i 0 ∈ symL then 1 else 0 := if_neg (by omega)
    rw [sub1 hi]
    simp only [hm]
    rw [show (if i + 1 < s.length ∧ (s.getD (i + 1) 0).toNat = 61 ∧ is2 (s.getD i 0) = true then 2 else if s.getD i 0 ∈ symL then 1 else 0) = _ from e]
    split <;> rfl

theorem bytes_getD {rows : List UInt8} {j : Nat} (h : j < rows.length) : (rows.map byteRow).getD (0 + j) [] = [by8 (rows.getD j 0)] := by
  simp [byteRow, List.getD_eq_getElem?_getD, h]
end Go.Proofs.Ytnbdogodcjhfiaa

/- The lexer's functions, and those of its reference: what each computes. Part 4: white space, one token. -/
namespace Go.Proofs.Ytnbdogodcjhfiaa
open Go Go.Ax
set_option maxRecDepth 100000
set_option linter.unusedSimpArgs false
set_option linter.unusedVariables false

theorem runF_ge {p : UInt8 → Bool} {l : List UInt8} {i : Nat} : i ≤ runF p l i := by simp [runF]
theorem beginsR (s : List UInt8) (i : Nat) (H : AHeap) (hl : (s.length : Int) < 9223372036854775806) (hi : i < s.length) : Comp 137 [str s, int i] H (bool (isL (s.getD i 0) || isD (s.getD i 0) || decide (0 < symF s i))) := by
  refine enter Try.func137 L137_ok (Nat.le_of_ble_eq_true rfl) ?_
  repeat' (first | (refine And.intro (by omega) ?_) | (refine callF_pure (letterR _ _) ?_) | (refine callF_pure (digitR _ _) ?_) | (refine callF_pure (symbolR _ _ _ hl hi) ?_) | (refine callQF_pure (letterR _ _) (by first | rfl | simp only [L137, push_cast]) ?_) | (refine callQF_pure (digitR _ _) (by first | rfl | simp only [L137, push_cast]) ?_) | (refine callQF_pure (symbolR _ _ _ hl hi) (by first | rfl | simp only [L137, push_cast]) ?_) | simp -implicitDefEqProofs (disch := omega) only [L137, push_cast, ↓reduceIte, Nat.reduceEqDiff, reduceCtorEq, Nat.reduceAdd, Nat.reduceSub, Nat.reduceMul, Nat.reduceLeDiff, Nat.reduceLT, Nat.reduceMod, Nat.reduceDiv, Int.reduceToNat, Int.reduceLT, Int.reduceLE, Int.reduceEq, Int.reduceAdd, Int.reduceSub, Int.reduceNeg, Int.reduceMul, Bool.and_self] | split)
  all_goals (refine bool_eq ?_; simp_all <;> omega)

/-- A byte that goes on with a wrong token. -/
def stays (s : List UInt8) (k : Nat) : Bool := !isW (s.getD k 0) && !decide ((s.getD k 0).toNat = 35) && !isL (s.getD k 0) && !isD (s.getD k 0) && decide (symF s k = 0)
def badN (s : List UInt8) : Nat → Nat → Nat
  | 0, k => k
  | n + 1, k => if stays s k = true then badN s n (k + 1) else k
def badF (s : List UInt8) (k : Nat) : Nat := badN s (s.length - k) k
theorem badF_step {s : List UInt8} {k : Nat} (h : k < s.length) (hs : stays s k = true) : badF s (k + 1) = badF s k := by
  unfold badF
  rw [show s.length - k = (s.length - (k + 1)) + 1 by omega]
  simp [badN, hs]
theorem badF_stop {s : List UInt8} {k : Nat} (h : k < s.length → stays s k = false) : badF s k = k := by
  unfold badF
  by_cases hk : k < s.length
  · rw [show s.length - k = (s.length - (k + 1)) + 1 by omega]
    simp [badN, h hk]
  · rw [show s.length - k = 0 by omega]; rfl
/-- The kind and the end of the token at a place. -/
def tokF (s : List UInt8) (i : Nat) : Nat × Nat :=
  if isL (s.getD i 0) = true then (if isK ((s.drop i).take (runF isN s i - i)) = true then 1 else 0, runF isN s i)
  else if isD (s.getD i 0) = true then (2, runF isD s i)
  else if 0 < symF s i then (3, i + symF s i)
  else (4, badF s (i + 1))
theorem symF_lt {s : List UInt8} {i : Nat} (h : i < s.length) : i + symF s i ≤ s.length := by
  unfold symF; split
  · omega
  · split <;> omega
abbrev tokV (p : Nat × Nat) : AV := .tup [int p.1, int p.2]

theorem tokF_L {s : List UInt8} {i : Nat} (h : isL (s.getD i 0) = true) : tokF s i = (if isK ((s.drop i).take (runF isN s i - i)) = true then 1 else 0, runF isN s i) := if_pos h
theorem tokF_D {s : List UInt8} {i : Nat} (h : ¬ isL (s.getD i 0) = true) (h2 : isD (s.getD i 0) = true) : tokF s i = (2, runF isD s i) := (if_neg h).trans (if_pos h2)
theorem tokF_S {s : List UInt8} {i : Nat} (h : ¬ isL (s.getD i 0) = true) (h2 : ¬ isD (s.getD i 0) = true) (h3 : 0 < symF s i) : tokF s i = (3, i + symF s i) := (if_neg h).trans ((if_neg h2).trans (if_pos h3))
theorem tokF_W {s : List UInt8} {i : Nat} (h : ¬ isL (s.getD i 0) = true) (h2 : ¬ isD (s.getD i 0) = true) (h3 : ¬ 0 < symF s i) : tokF s i = (4, badF s (i + 1)) := (if_neg h).trans ((if_neg h2).trans (if_neg h3))
theorem stays_iff {s : List UInt8} {k : Nat} : stays s k = true ↔ isW (s.getD k 0) = false ∧ ¬ (s.getD k 0).toNat = 35 ∧ isL (s.getD k 0) = false ∧ isD (s.getD k 0) = false ∧ symF s k = 0 := by
  simp only [stays, Bool.and_eq_true, Bool.not_eq_true', decide_eq_false_iff_not, decide_eq_true_eq, and_assoc]

theorem isN_iff {c : UInt8} : isN c = true ↔ isL c = true ∨ isD c = true ∨ c.toNat = 95 := by simp [isN, or_assoc]

theorem tokenR (s : List UInt8) (i : Nat) (H : AHeap) (hl : (s.length : Int) < 9223372036854775806) (hi : i < s.length) (hw : isL (s.getD i 0) = true ∨ (isW (s.getD i 0) = false ∧ ¬ (s.getD i 0).toNat = 35)) : Comp 128 [str s, int i] H (tokV (tokF s i)) := by
  refine enter Try.func128 L128_ok (Nat.le_of_ble_eq_true rfl) ?_
  have hr : i ≤ runF isN s i ∧ runF isN s i ≤ s.length := ⟨runF_ge, runF_le (by omega)⟩
  have hs := symF_lt hi
  repeat' (first | (refine And.intro (by omega) ?_) | (refine callF_pure (letterR _ _) ?_) | (refine callF_pure (digitR _ _) ?_) | (refine callF_pure (symbolR _ _ _ hl hi) ?_) | (refine callQF_pure (letterR _ _) (by first | rfl | simp only [L128, push_cast]) ?_) | (refine callQF_pure (digitR _ _) (by first | rfl | simp only [L128, push_cast]) ?_) | (refine callQF_pure (symbolR _ _ _ hl hi) (by first | rfl | simp only [L128, push_cast]) ?_) | simp -implicitDefEqProofs (disch := omega) only [L128, push_cast, ↓reduceIte, Nat.reduceEqDiff, reduceCtorEq, Nat.reduceAdd, Nat.reduceSub, Nat.reduceMul, Nat.reduceLeDiff, Nat.reduceLT, Nat.reduceMod, Nat.reduceDiv, Int.reduceToNat, Int.reduceLT, Int.reduceLE, Int.reduceEq, Int.reduceAdd, Int.reduceSub, Int.reduceNeg, Int.reduceMul, Bool.and_self] | split)
  all_goals first
    | (rw [tokF_S (by assumption) (by assumption) (by omega)]; rfl)
    | skip
  · refine rk_loopS (fun (k : Nat) e' H' => e' 0 = str s ∧ e' 1 = int i ∧ e' 6 = int k ∧ H = H' ∧ i ≤ k ∧ k ≤ s.length ∧ runF isN s k = runF isN s i) (fun k => s.length - k) i ⟨rfl, rfl, rfl, rfl, by omega, by omega, rfl⟩ ?_
    rintro k e' H' ⟨h0, h1, h2, rfl, hk0, hk, hr2⟩
    repeat' (first | (refine And.intro (by omega) ?_) | (refine callF_pure (letterR _ _) ?_) | (refine callF_pure (digitR _ _) ?_) | (refine callF_pure (keywordR _ _) ?_) | (refine callQF_pure (letterR _ _) (by first | rfl | simp only [h0, h1, h2, push_cast]) ?_) | (refine callQF_pure (digitR _ _) (by first | rfl | simp only [h0, h1, h2, push_cast]) ?_) | (refine callQF_pure (keywordR _ _) (by first | rfl | simp only [h0, h1, h2, push_cast]) ?_) | simp -implicitDefEqProofs (disch := omega) only [h0, h1, h2, push_cast, ↓reduceIte, Nat.reduceEqDiff, reduceCtorEq, Nat.reduceAdd, Nat.reduceSub, Nat.reduceMul, Nat.reduceLeDiff, Nat.reduceLT, Nat.reduceMod, Nat.reduceDiv, Int.reduceToNat, Int.reduceLT, Int.reduceLE, Int.reduceEq, Int.reduceAdd, Int.reduceSub, Int.reduceNeg, Int.reduceMul, Bool.and_self] | split)
    all_goals first
      | exact .mk (k + 1) ⟨h0, h1, rfl, rfl, by omega, by omega, by rw [runF_step (p := isN) (l := s) (i := k) (by omega) (isN_iff.2 (by first | exact .inl (by assumption) | exact .inr (.inl (by assumption)) | exact .inr (.inr (by omega))))]; exact hr2⟩ (by omega)
      | skip
    all_goals
      have hk3 : runF isN s k = k := runF_stop fun _ => Bool.eq_false_iff.2 fun hh => by rw [isN_iff] at hh; first | omega | (rcases hh with hh | hh | hh <;> first | exact absurd hh (by assumption) | omega)
      rw [hr2] at hk3
      rw [tokF_L (by assumption), hk3]
      first
        | (rw [if_pos (by assumption)]; rfl)
        | (rw [if_neg (by assumption)]; rfl)
  · refine rk_loopS (fun (k : Nat) e' H' => e' 0 = str s ∧ e' 1 = int i ∧ e' 6 = int k ∧ H = H' ∧ i ≤ k ∧ k ≤ s.length ∧ runF isD s k = runF isD s i) (fun k => s.length - k) i ⟨rfl, rfl, rfl, rfl, by omega, by omega, rfl⟩ ?_
    rintro k e' H' ⟨h0, h1, h2, rfl, hk0, hk, hr2⟩
    repeat' (first | (refine And.intro (by omega) ?_) | (refine callF_pure (digitR _ _) ?_) | (refine callQF_pure (digitR _ _) (by first | rfl | simp only [h0, h1, h2, push_cast]) ?_) | simp -implicitDefEqProofs (disch := omega) only [h0, h1, h2, push_cast, ↓reduceIte, Nat.reduceEqDiff, reduceCtorEq, Nat.reduceAdd, Nat.reduceSub, Nat.reduceMul, Nat.reduceLeDiff, Nat.reduceLT, Nat.reduceMod, Nat.reduceDiv, Int.reduceToNat, Int.reduceLT, Int.reduceLE, Int.reduceEq, Int.reduceAdd, Int.reduceSub, Int.reduceNeg, Int.reduceMul, Bool.and_self] | split)
    all_goals first
      | exact .mk (k + 1) ⟨h0, h1, rfl, rfl, by omega, by omega, by rw [runF_step (p := isD) (l := s) (i := k) (by omega) (by assumption)]; exact hr2⟩ (by omega)
      | skip
    all_goals
      have hk3 : runF isD s k = k := runF_stop fun _ => Bool.eq_false_iff.2 (by first | assumption | omega)
      rw [hr2] at hk3
      rw [tokF_D (by assumption) (by assumption), hk3]; rfl
  · have hw' : isW (s.getD i 0) = false ∧ ¬ (s.getD i 0).toNat = 35 := hw.resolve_left (by assumption)
    have hb : badF s (i + 1) = badF s i := badF_step hi (stays_iff.2 ⟨hw'.1, hw'.2, Bool.eq_false_iff.2 (by assumption), Bool.eq_false_iff.2 (by assumption), by omega⟩)
    rw [tokF_W (by assumption) (by assumption) (by omega), hb]
    refine rk_loopS (fun (k : Nat) e' H' => e' 0 = str s ∧ e' 6 = int k ∧ H = H' ∧ k ≤ s.length ∧ badF s k = badF s i) (fun k => s.length - k) i ⟨rfl, rfl, rfl, by omega, rfl⟩ ?_
    rintro k e' H' ⟨h0, h1, rfl, hk, hr⟩
    repeat' (first | (refine And.intro (by omega) ?_) | (refine callF_pure (blankR _ _) ?_) | (refine callF_pure (beginsR _ _ _ hl (by omega)) ?_) | (refine callQF_pure (blankR _ _) (by first | rfl | simp only [h0, h1, push_cast]) ?_) | (refine callQF_pure (beginsR _ _ _ hl (by omega)) (by first | rfl | simp only [h0, h1, push_cast]) ?_) | simp -implicitDefEqProofs (disch := omega) only [h0, h1, push_cast, ↓reduceIte, Nat.reduceEqDiff, reduceCtorEq, Nat.reduceAdd, Nat.reduceSub, Nat.reduceMul, Nat.reduceLeDiff, Nat.reduceLT, Nat.reduceMod, Nat.reduceDiv, Int.reduceToNat, Int.reduceLT, Int.reduceLE, Int.reduceEq, Int.reduceAdd, Int.reduceSub, Int.reduceNeg, Int.reduceMul, Bool.and_self] | split)
    all_goals first
      | exact .mk (k + 1) ⟨h0, rfl, rfl, by omega, by rw [badF_step (by omega) (stays_iff.2 (by simp_all; omega))]; exact hr⟩ (by omega)
      | (rw [← hr, badF_stop fun _ => Bool.eq_false_iff.2 fun hh => by rw [stays_iff] at hh; obtain ⟨g1, g2, g3, g4, g5⟩ := hh; first | omega | (simp_all; done)]; rfl)
end Go.Proofs.Ytnbdogodcjhfiaa

/- The lexer's functions, and those of its reference: what each computes. Part 5: all tokens, words. -/
namespace Go.Proofs.Ytnbdogodcjhfiaa
open Go Go.Ax
set_option maxRecDepth 100000
set_option linter.unusedSimpArgs false
set_option linter.unusedVariables false

structure Tok where
  kind : Nat
  fr : Nat
  at_ : Nat
  en : Nat
theorem getD_mem {α : Type} {l : List α} {j : Nat} (h : j < l.length) (d : α) : l.getD j d ∈ l := by
  simp [List.getD_eq_getElem?_getD, h]

end Go.Proofs.Ytnbdogodcjhfiaa

/- The lexer's functions, and those of its reference: what each computes. Part 6: names, numbers, spaces. -/
namespace Go.Proofs.Ytnbdogodcjhfiaa
open Go Go.Ax
set_option maxRecDepth 100000
set_option linter.unusedSimpArgs false
set_option linter.unusedVariables false

/-- The number that digits are. -/
def numN (n : Nat) (l : List UInt8) : Nat := l.foldl (fun n c => 10 * n + (c.toNat - 48)) n
def isNum (s : List UInt8) : Bool := decide (1 ≤ s.length) && decide (s.length ≤ 9) && s.all isD
def numV (s : List UInt8) : AV := if isNum s = true then .tup [int (numN 0 s), bool true] else .tup [int 0, bool false]
theorem isNum_iff {s : List UInt8} : isNum s = true ↔ 1 ≤ s.length ∧ s.length ≤ 9 ∧ ∀ j, j < s.length → isD (s.getD j 0) = true := by
  simp only [isNum, Bool.and_eq_true, decide_eq_true_eq, List.all_eq_true, and_assoc]
  refine and_congr_right fun _ => and_congr_right fun _ => ⟨fun h j hj => h _ (getD_mem hj 0), fun h x hx => ?_⟩
  obtain ⟨j, hj, rfl⟩ := List.mem_iff_getElem.1 hx
  have := h j hj
  simpa [List.getD_eq_getElem?_getD, hj] using this
theorem numV_no {s : List UInt8} (h : ¬ isNum s = true) : numV s = .tup [int 0, bool false] := if_neg h
theorem numV_yes {s : List UInt8} (h : isNum s = true) : numV s = .tup [int (numN 0 s), bool true] := if_pos h
theorem runF_all {p : UInt8 → Bool} : ∀ {s : List UInt8}, s.length ≤ runF p s 0 → ∀ j, j < s.length → p (s.getD j 0) = true
  | [], _, j, hj => by simp at hj
  | c :: l, h, j, hj => by
    simp only [runF, List.drop_zero, Nat.zero_add, List.takeWhile_cons] at h
    by_cases hc : p c = true
    · rw [if_pos hc] at h
      cases j with
      | zero => simpa using hc
      | succ j => rw [List.getD_cons_succ]; exact runF_all (by simpa [runF] using h) j (by simpa using hj)
    · rw [if_neg hc] at h; simp at h
theorem all_runF {p : UInt8 → Bool} : ∀ {s : List UInt8}, (∀ j, j < s.length → p (s.getD j 0) = true) → runF p s 0 = s.length
  | [], _ => by simp [runF]
  | c :: l, h => by
    have hc : p c = true := h 0 (by simp)
    have := all_runF (s := l) fun j hj => by have := h (j + 1) (by simpa using hj); rwa [List.getD_cons_succ] at this
    simp only [runF, List.drop_zero, Nat.zero_add] at this
    simp [runF, List.takeWhile_cons, hc, this]
theorem numN_cons (n : Nat) (c : UInt8) (l : List UInt8) : numN n (c :: l) = numN (10 * n + (c.toNat - 48)) l := by unfold numN; rw [List.foldl_cons]
theorem numN_step {s : List UInt8} {n j : Nat} (h : j < s.length) : numN (10 * n + ((s.getD j 0).toNat - 48)) (s.drop (j + 1)) = numN n (s.drop j) := by
  have e : s.getD j 0 = s[j] := by simp [List.getD_eq_getElem?_getD, h]
  have e2 : s.drop j = s[j] :: s.drop (j + 1) := List.drop_eq_getElem_cons h
  rw [e, e2, numN_cons]
theorem pow_bound {n j : Nat} (h : n < 10 ^ j) (hj : j ≤ 9) : n < 1000000000 := by
  have h1 : 10 ^ j ≤ 10 ^ 9 := Nat.pow_le_pow_right (by decide) hj
  have h2 : (10 : Nat) ^ 9 = 1000000000 := by simp
  rw [h2] at h1
  exact Nat.lt_of_lt_of_le h h1
theorem int_c {x : AV} {a : Int} {b : Nat} (h : x = int a) (h2 : a = b) : x = int b := h.trans (by rw [h2])
theorem isD_iff {c : UInt8} : isD c = true ↔ 48 ≤ c.toNat ∧ c.toNat ≤ 57 := by simp [isD]

theorem number (s : List UInt8) (H : AHeap) (hs : (s.length : Int) < 9223372036854775807) : Comp 70 [str s] H (numV s) := by
  refine enter Try.func70 L70_ok (Nat.le_of_ble_eq_true rfl) ?_
  repeat' (first | (refine And.intro (by omega) ?_) | (refine callF_pure (run s 0 isD 99 _ (by omega) (by omega) fun c => digit c _) ?_) | (refine callQF_pure (run s 0 isD 99 _ (by omega) (by omega) fun c => digit c _) (by first | rfl | simp only [L70, push_cast]) ?_) | simp -implicitDefEqProofs (disch := omega) only [L70, push_cast, ↓reduceIte, Nat.reduceEqDiff, reduceCtorEq, Nat.reduceAdd, Nat.reduceSub, Nat.reduceMul, Nat.reduceLeDiff, Nat.reduceLT, Nat.reduceMod, Nat.reduceDiv, Int.reduceToNat, Int.reduceLT, Int.reduceLE, Int.reduceEq, Int.reduceAdd, Int.reduceSub, Int.reduceNeg, Int.reduceMul, Bool.and_self] | split)
  · rw [numV_no]; simp_all [isNum]
  · rw [numV_no]; rw [isNum_iff]; omega
  · rw [numV_no]; rw [isNum_iff]; rintro ⟨_, _, h⟩; have := all_runF h; omega
  · rename_i h1 h2 h3
    have hd : ∀ j, j < s.length → isD (s.getD j 0) = true := runF_all (by omega)
    have hpos : 1 ≤ s.length := by cases s with | nil => exact absurd rfl h1 | cons a l => simp
    rw [numV_yes (isNum_iff.2 ⟨hpos, by omega, hd⟩)]
    refine rk_loopS (fun (p : Nat × Nat) e' H' => e' 4 = int p.2 ∧ e' 22 = .sl 1 (s.map byteRow) ∧ e' 23 = int s.length ∧ e' 24 = int p.1 ∧ H = H' ∧ p.1 ≤ s.length ∧ p.2 < 10 ^ p.1 ∧ numN p.2 (s.drop p.1) = numN 0 s) (fun p => s.length - p.1) (0, 0) ?_ ?_
    · exact ⟨rfl, rfl, rfl, rfl, rfl, Nat.zero_le _, by simp, rfl⟩
    rintro ⟨j, n⟩ e' H' ⟨g4, g22, g23, g24, rfl, hj, hp, hr⟩
    simp only at g4 g22 g23 g24 hj hp hr
    by_cases hlt : j < s.length
    · have hn := pow_bound hp (by omega)
      have hc := isD_iff.1 (hd j hlt)
      have hb := bytes_getD hlt
      rw [Nat.zero_add] at hb
      have hp' : 10 * n + ((s.getD j 0).toNat - 48) < 10 ^ (j + 1) := by rw [Nat.pow_succ]; omega
      repeat' (first | (refine And.intro (by omega) ?_) | simp -implicitDefEqProofs (disch := omega) only [g4, g22, g23, g24, hb, push_cast, ↓reduceIte, Nat.reduceEqDiff, reduceCtorEq, Nat.reduceAdd, Nat.reduceSub, Nat.reduceMul, Nat.reduceLeDiff, Nat.reduceLT, Nat.reduceMod, Nat.reduceDiv, Int.reduceToNat, Int.reduceLT, Int.reduceLE, Int.reduceEq, Int.reduceAdd, Int.reduceSub, Int.reduceNeg, Int.reduceMul, Bool.and_self] | split)
      · exact .mk (j + 1, 10 * n + ((s.getD j 0).toNat - 48)) ⟨int_c rfl (by omega), g22, g23, rfl, rfl, hlt, hp', by simp only; rw [numN_step hlt]; exact hr⟩ (by simp only; omega)
      · omega
    · repeat' (first | (refine And.intro (by omega) ?_) | simp -implicitDefEqProofs (disch := omega) only [g4, g22, g23, g24, push_cast, ↓reduceIte, Nat.reduceEqDiff, reduceCtorEq, Nat.reduceAdd, Nat.reduceSub, Nat.reduceMul, Nat.reduceLeDiff, Nat.reduceLT, Nat.reduceMod, Nat.reduceDiv, Int.reduceToNat, Int.reduceLT, Int.reduceLE, Int.reduceEq, Int.reduceAdd, Int.reduceSub, Int.reduceNeg, Int.reduceMul, Bool.and_self] | split)
      · omega
      · rw [List.drop_eq_nil_of_le (by omega)] at hr
        rw [← hr]; rfl

theorem numberR (s : List UInt8) (H : AHeap) (hs : (s.length : Int) < 9223372036854775807) : Comp 73 [str s] H (numV s) := by
  refine enter Try.func73 L73_ok (Nat.le_of_ble_eq_true rfl) ?_
  repeat' (first | (refine And.intro (by omega) ?_) | simp -implicitDefEqProofs (disch := omega) only [L73, push_cast, ↓reduceIte, Nat.reduceEqDiff, reduceCtorEq, Nat.reduceAdd, Nat.reduceSub, Nat.reduceMul, Nat.reduceLeDiff, Nat.reduceLT, Nat.reduceMod, Nat.reduceDiv, Int.reduceToNat, Int.reduceLT, Int.reduceLE, Int.reduceEq, Int.reduceAdd, Int.reduceSub, Int.reduceNeg, Int.reduceMul, Bool.and_self] | split)
  · rw [numV_no]; rw [isNum_iff]; omega
  · rw [numV_no]; rw [isNum_iff]; omega
  · rename_i h1 h2
    refine rk_loopS (fun (p : Nat × Nat) e' H' => e' 0 = str s ∧ e' 4 = int p.2 ∧ e' 5 = int p.1 ∧ H = H' ∧ p.1 ≤ s.length ∧ p.2 < 10 ^ p.1 ∧ numN p.2 (s.drop p.1) = numN 0 s ∧ ∀ j, j < p.1 → isD (s.getD j 0) = true) (fun p => s.length - p.1) (0, 0) ?_ ?_
    · exact ⟨rfl, rfl, rfl, rfl, Nat.zero_le _, by simp, rfl, by simp⟩
    rintro ⟨j, n⟩ e' H' ⟨g0, g4, g5, rfl, hj, hp, hr, hd⟩
    simp only at g0 g4 g5 hj hp hr hd
    by_cases hlt : j < s.length
    · have hn := pow_bound hp (by omega)
      have hc := isD_iff (c := s.getD j 0)
      by_cases hdj : isD (s.getD j 0) = true
      · rw [hdj] at hc
        have hc' := hc.1 rfl
        have hp' : 10 * n + ((s.getD j 0).toNat - 48) < 10 ^ (j + 1) := by rw [Nat.pow_succ]; omega
        repeat' (first | (refine And.intro (by omega) ?_) | (refine callF_pure (digitR _ _) ?_) | (refine callQF_pure (digitR _ _) (by first | rfl | simp only [g0, g4, g5, hdj, push_cast]) ?_) | simp -implicitDefEqProofs (disch := omega) only [g0, g4, g5, hdj, push_cast, ↓reduceIte, Nat.reduceEqDiff, reduceCtorEq, Nat.reduceAdd, Nat.reduceSub, Nat.reduceMul, Nat.reduceLeDiff, Nat.reduceLT, Nat.reduceMod, Nat.reduceDiv, Int.reduceToNat, Int.reduceLT, Int.reduceLE, Int.reduceEq, Int.reduceAdd, Int.reduceSub, Int.reduceNeg, Int.reduceMul, Bool.and_self] | split)
        · refine .mk (j + 1, 10 * n + ((s.getD j 0).toNat - 48)) ⟨g0, int_c rfl (by omega), rfl, rfl, hlt, hp', by simp only; rw [numN_step hlt]; exact hr, fun k hk => ?_⟩ (by simp only; omega)
          by_cases h : k = j
          · rw [h]; exact hdj
          · exact hd k (by simp only at hk; omega)
        · omega
      · have hdj' := Bool.eq_false_iff.2 hdj
        repeat' (first | (refine And.intro (by omega) ?_) | (refine callF_pure (digitR _ _) ?_) | (refine callQF_pure (digitR _ _) (by first | rfl | simp only [g0, g4, g5, hdj', push_cast]) ?_) | simp -implicitDefEqProofs (disch := omega) only [g0, g4, g5, hdj', push_cast, ↓reduceIte, Nat.reduceEqDiff, reduceCtorEq, Nat.reduceAdd, Nat.reduceSub, Nat.reduceMul, Nat.reduceLeDiff, Nat.reduceLT, Nat.reduceMod, Nat.reduceDiv, Int.reduceToNat, Int.reduceLT, Int.reduceLE, Int.reduceEq, Int.reduceAdd, Int.reduceSub, Int.reduceNeg, Int.reduceMul, Bool.and_self] | split)
        · rw [numV_no]; rw [isNum_iff]; rintro ⟨_, _, h⟩; exact hdj (h j hlt)
        · omega
    · repeat' (first | (refine And.intro (by omega) ?_) | simp -implicitDefEqProofs (disch := omega) only [g0, g4, g5, push_cast, ↓reduceIte, Nat.reduceEqDiff, reduceCtorEq, Nat.reduceAdd, Nat.reduceSub, Nat.reduceMul, Nat.reduceLeDiff, Nat.reduceLT, Nat.reduceMod, Nat.reduceDiv, Int.reduceToNat, Int.reduceLT, Int.reduceLE, Int.reduceEq, Int.reduceAdd, Int.reduceSub, Int.reduceNeg, Int.reduceMul, Bool.and_self] | split)
      · omega
      · rw [List.drop_eq_nil_of_le (by omega)] at hr
        rw [numV_yes (isNum_iff.2 ⟨by omega, by omega, fun k hk => hd k (by omega)⟩), ← hr]; rfl

def isName (s : List UInt8) : Bool := decide (1 ≤ s.length) && decide (s.length ≤ 16) && isL (s.getD 0 0) && !isK s && decide (runF isN s 0 = s.length)
theorem isName_iff {s : List UInt8} : isName s = true ↔ 1 ≤ s.length ∧ s.length ≤ 16 ∧ isL (s.getD 0 0) = true ∧ isK s = false ∧ runF isN s 0 = s.length := by
  simp only [isName, Bool.and_eq_true, decide_eq_true_eq, Bool.not_eq_true', and_assoc]
theorem noName {s : List UInt8} (h : 1 ≤ s.length → s.length ≤ 16 → isL (s.getD 0 0) = true → isK s = false → False) : AV.v (.bool false) = bool (isName s) := by
  rw [show isName s = false from Bool.eq_false_iff.2 fun hh => by rw [isName_iff] at hh; exact h hh.1 hh.2.1 hh.2.2.1 hh.2.2.2.1]

theorem name (s : List UInt8) (H : AHeap) (hs : (s.length : Int) < 9223372036854775806) : Comp 79 [str s] H (bool (isName s)) := by
  refine enter Try.func79 L79_ok (Nat.le_of_ble_eq_true rfl) ?_
  have hne : s = [] ↔ s.length = 0 := by simp
  repeat' (first | (refine And.intro (by omega) ?_) | (refine callF_pure (run s 0 isN 109 _ (by omega) (by omega) fun c => nameC c _) ?_) | (refine callF_pure (letter _ _) ?_) | (refine callF_pure (keyword _ _) ?_) | (refine callQF_pure (run s 0 isN 109 _ (by omega) (by omega) fun c => nameC c _) (by first | rfl | simp only [L79, hne, push_cast]) ?_) | (refine callQF_pure (letter _ _) (by first | rfl | simp only [L79, hne, push_cast]) ?_) | (refine callQF_pure (keyword _ _) (by first | rfl | simp only [L79, hne, push_cast]) ?_) | simp -implicitDefEqProofs (disch := omega) only [L79, hne, push_cast, ↓reduceIte, Nat.reduceEqDiff, reduceCtorEq, Nat.reduceAdd, Nat.reduceSub, Nat.reduceMul, Nat.reduceLeDiff, Nat.reduceLT, Nat.reduceMod, Nat.reduceDiv, Int.reduceToNat, Int.reduceLT, Int.reduceLE, Int.reduceEq, Int.reduceAdd, Int.reduceSub, Int.reduceNeg, Int.reduceMul, Bool.and_self] | split)
  all_goals first
    | exact noName fun h1 h2 h3 h4 => by first | omega | (simp_all; done)
    | skip
  refine bool_eq ?_
  rw [isName_iff, decide_eq_true_eq]
  exact ⟨fun h => ⟨by omega, by omega, by simpa using ‹¬ isL _ = false›, by simpa using ‹¬ isK _ = true›, by omega⟩, fun h => by omega⟩

theorem nameR (s : List UInt8) (H : AHeap) (hs : (s.length : Int) < 9223372036854775806) : Comp 102 [str s] H (bool (isName s)) := by
  refine enter Try.func102 L102_ok (Nat.le_of_ble_eq_true rfl) ?_
  by_cases h1 : 1 ≤ s.length
  · by_cases hL : isL (s.getD 0 0) = true
    · repeat' (first | (refine And.intro (by omega) ?_) | (refine callF_pure (tokenR s 0 _ (by omega) h1 (.inl hL)) ?_) | (refine callF_pure (letterR _ _) ?_) | (refine callF_pure (keywordR _ _) ?_) | (refine callQF_pure (tokenR s 0 _ (by omega) h1 (.inl hL)) (by first | rfl | simp only [L102, hL, push_cast]) ?_) | (refine callQF_pure (letterR _ _) (by first | rfl | simp only [L102, hL, push_cast]) ?_) | (refine callQF_pure (keywordR _ _) (by first | rfl | simp only [L102, hL, push_cast]) ?_) | simp -implicitDefEqProofs (disch := omega) only [L102, hL, push_cast, ↓reduceIte, Nat.reduceEqDiff, reduceCtorEq, Nat.reduceAdd, Nat.reduceSub, Nat.reduceMul, Nat.reduceLeDiff, Nat.reduceLT, Nat.reduceMod, Nat.reduceDiv, Int.reduceToNat, Int.reduceLT, Int.reduceLE, Int.reduceEq, Int.reduceAdd, Int.reduceSub, Int.reduceNeg, Int.reduceMul, Bool.and_self] | split)
      all_goals first
        | exact noName fun h1 h2 h3 h4 => by first | omega | (simp_all; done)
        | skip
      refine bool_eq ?_
      rw [isName_iff, decide_eq_true_eq, tokF_L hL]
      exact ⟨fun h => ⟨by omega, by omega, hL, by simpa using ‹¬ isK _ = true›, by simp only at h; omega⟩, fun h => by simp only; omega⟩
    · have hL' := Bool.eq_false_iff.2 hL
      repeat' (first | (refine And.intro (by omega) ?_) | (refine callF_pure (letterR _ _) ?_) | (refine callF_pure (keywordR _ _) ?_) | (refine callQF_pure (letterR _ _) (by first | rfl | simp only [L102, hL', push_cast]) ?_) | (refine callQF_pure (keywordR _ _) (by first | rfl | simp only [L102, hL', push_cast]) ?_) | simp -implicitDefEqProofs (disch := omega) only [L102, hL', push_cast, ↓reduceIte, Nat.reduceEqDiff, reduceCtorEq, Nat.reduceAdd, Nat.reduceSub, Nat.reduceMul, Nat.reduceLeDiff, Nat.reduceLT, Nat.reduceMod, Nat.reduceDiv, Int.reduceToNat, Int.reduceLT, Int.reduceLE, Int.reduceEq, Int.reduceAdd, Int.reduceSub, Int.reduceNeg, Int.reduceMul, Bool.and_self] | split)
      all_goals exact noName fun h1 h2 h3 h4 => by first | omega | (simp_all; done)
  · repeat' (first | (refine And.intro (by omega) ?_) | (refine callF_pure (letterR _ _) ?_) | (refine callF_pure (keywordR _ _) ?_) | (refine callQF_pure (letterR _ _) (by first | rfl | simp only [L102, push_cast]) ?_) | (refine callQF_pure (keywordR _ _) (by first | rfl | simp only [L102, push_cast]) ?_) | simp -implicitDefEqProofs (disch := omega) only [L102, push_cast, ↓reduceIte, Nat.reduceEqDiff, reduceCtorEq, Nat.reduceAdd, Nat.reduceSub, Nat.reduceMul, Nat.reduceLeDiff, Nat.reduceLT, Nat.reduceMod, Nat.reduceDiv, Int.reduceToNat, Int.reduceLT, Int.reduceLE, Int.reduceEq, Int.reduceAdd, Int.reduceSub, Int.reduceNeg, Int.reduceMul, Bool.and_self] | split)
    · exact noName fun h1 h2 h3 h4 => by omega
    · omega

end Go.Proofs.Ytnbdogodcjhfiaa

/- Trees: the tests that shapes are made of. -/
namespace Go.Proofs.Ytnbdogodcjhfiaa
open Go Go.Ax
set_option maxRecDepth 100000
set_option linter.unusedSimpArgs false
set_option linter.unusedVariables false

abbrev intR (i : Int) : List AV := [int i]
theorem indexI (l : List Int) (i : Int) (hl : (l.length : Int) < 9223372036854775807) (H : AHeap) : Comp' 130 [.sl 1 (l.map intR), int i] H (int (idxI (l.findIdx? fun x => decide (i = x)))) := by
  refine enter Try.func130 L130_ok (Nat.le_of_ble_eq_true rfl) ?_
  repeat' (first | (refine And.intro (by omega) ?_) | simp -implicitDefEqProofs (disch := omega) only [L130, dT_lt, dF_lt, dT_le, dF_le, dT_eq, dF_eq, push_cast, ↓reduceIte, Nat.reduceEqDiff, reduceCtorEq, Nat.reduceAdd, Nat.reduceSub, Nat.reduceMul, Nat.reduceLeDiff, Nat.reduceLT, Nat.reduceMod, Nat.reduceDiv, Int.reduceToNat, Int.reduceLT, Int.reduceLE, Int.reduceEq, Int.reduceAdd, Int.reduceSub, Int.reduceNeg, Int.reduceMul, Bool.and_self] | split)
  refine rk_loopS (fun (j : Nat) e' H' => e' 0 = .sl 1 (l.map intR) ∧ e' 1 = int i ∧ e' 7 = int l.length ∧ e' 8 = int j ∧ H = H' ∧ j ≤ l.length ∧ ∀ k, k < j → ¬ i = l.getD k default) (fun j => l.length - j) 0 ?_ ?_
  · exact ⟨rfl, rfl, rfl, rfl, rfl, Nat.zero_le _, by simp⟩
  rintro j e' H' ⟨h0, h1, h7, h8, rfl, hj, hr⟩
  by_cases hlt : j < l.length
  · by_cases hf : i = l.getD j default
    · repeat' (first | (refine And.intro (by omega) ?_) | simp -implicitDefEqProofs (disch := omega) only [h0, h1, h7, h8, rows_getD, dT_lt, dF_lt, dT_le, dF_le, dT_eq, dF_eq, push_cast, ↓reduceIte, Nat.reduceEqDiff, reduceCtorEq, Nat.reduceAdd, Nat.reduceSub, Nat.reduceMul, Nat.reduceLeDiff, Nat.reduceLT, Nat.reduceMod, Nat.reduceDiv, Int.reduceToNat, Int.reduceLT, Int.reduceLE, Int.reduceEq, Int.reduceAdd, Int.reduceSub, Int.reduceNeg, Int.reduceMul, Bool.and_self] | split)
      rw [show l.findIdx? (fun x => decide (i = x)) = some j from find_some hlt (by simpa using hf) fun k hk => by simpa using hr k hk]; rfl
    · repeat' (first | (refine And.intro (by omega) ?_) | simp -implicitDefEqProofs (disch := omega) only [h0, h1, h7, h8, rows_getD, dT_lt, dF_lt, dT_le, dF_le, dT_eq, dF_eq, push_cast, ↓reduceIte, Nat.reduceEqDiff, reduceCtorEq, Nat.reduceAdd, Nat.reduceSub, Nat.reduceMul, Nat.reduceLeDiff, Nat.reduceLT, Nat.reduceMod, Nat.reduceDiv, Int.reduceToNat, Int.reduceLT, Int.reduceLE, Int.reduceEq, Int.reduceAdd, Int.reduceSub, Int.reduceNeg, Int.reduceMul, Bool.and_self] | split)
      exact .mk (j + 1) ⟨h0, h1, h7, rfl, rfl, hlt, upto_succ hr hf⟩ (by omega)
  · repeat' (first | (refine And.intro (by omega) ?_) | simp -implicitDefEqProofs (disch := omega) only [h0, h1, h7, h8, dT_lt, dF_lt, dT_le, dF_le, dT_eq, dF_eq, push_cast, ↓reduceIte, Nat.reduceEqDiff, reduceCtorEq, Nat.reduceAdd, Nat.reduceSub, Nat.reduceMul, Nat.reduceLeDiff, Nat.reduceLT, Nat.reduceMod, Nat.reduceDiv, Int.reduceToNat, Int.reduceLT, Int.reduceLE, Int.reduceEq, Int.reduceAdd, Int.reduceSub, Int.reduceNeg, Int.reduceMul, Bool.and_self] | split)
    rw [show l.findIdx? (fun x => decide (i = x)) = none from find_none fun k hk => by simpa using hr k (by omega)]; rfl
theorem containsI (l : List Int) (i : Int) (hl : (l.length : Int) < 9223372036854775807) (H : AHeap) : Comp' 111 [.sl 1 (l.map intR), int i] H (bool (decide (i ∈ l))) := by
  refine enter Try.func111 L111_ok (Nat.le_of_ble_eq_true rfl) ?_
  cases hf : l.findIdx? (fun x => decide (i = x)) with
  | none =>
    have hn : ¬ i ∈ l := by
      rw [List.findIdx?_eq_none_iff] at hf
      intro hi
      have := hf i hi
      simp at this
    have e : decide (i ∈ l) = false := by simp [hn]
    rw [e]
    have hc := fun H => indexI l i hl H
    rw [hf] at hc
    simp only [idxI] at hc
    repeat' (first | (refine And.intro (by omega) ?_) | (refine callF_pure (hc _) ?_) | (refine callQF_pure (hc _) (by first | rfl | simp only [L111, push_cast]) ?_) | simp -implicitDefEqProofs (disch := omega) only [L111, dT_lt, dF_lt, dT_le, dF_le, dT_eq, dF_eq, push_cast, ↓reduceIte, Nat.reduceEqDiff, reduceCtorEq, Nat.reduceAdd, Nat.reduceSub, Nat.reduceMul, Nat.reduceLeDiff, Nat.reduceLT, Nat.reduceMod, Nat.reduceDiv, Int.reduceToNat, Int.reduceLT, Int.reduceLE, Int.reduceEq, Int.reduceAdd, Int.reduceSub, Int.reduceNeg, Int.reduceMul, Bool.and_self] | split)
  | some k =>
    have hi : i ∈ l := by
      have h := find_lt hf
      have h2 := of_decide_eq_true h.2
      rw [h2]
      exact getD_mem' h.1
    have e : decide (i ∈ l) = true := by simp [hi]
    rw [e]
    have hc := fun H => indexI l i hl H
    rw [hf] at hc
    simp only [idxI] at hc
    repeat' (first | (refine And.intro (by omega) ?_) | (refine callF_pure (hc _) ?_) | (refine callQF_pure (hc _) (by first | rfl | simp only [L111, push_cast]) ?_) | simp -implicitDefEqProofs (disch := omega) only [L111, dT_lt, dF_lt, dT_le, dF_le, dT_eq, dF_eq, push_cast, ↓reduceIte, Nat.reduceEqDiff, reduceCtorEq, Nat.reduceAdd, Nat.reduceSub, Nat.reduceMul, Nat.reduceLeDiff, Nat.reduceLT, Nat.reduceMod, Nat.reduceDiv, Int.reduceToNat, Int.reduceLT, Int.reduceLE, Int.reduceEq, Int.reduceAdd, Int.reduceSub, Int.reduceNeg, Int.reduceMul, Bool.and_self] | split)
theorem indexS (l : List (List UInt8)) (s : List UInt8) (hl : (l.length : Int) < 9223372036854775807) (H : AHeap) : Comp' 131 [.sl 1 (strs l), str s] H (int (idxI (l.findIdx? fun x => decide (s = x)))) := by
  refine enter Try.func131 L131_ok (Nat.le_of_ble_eq_true rfl) ?_
  repeat' (first | (refine And.intro (by omega) ?_) | simp -implicitDefEqProofs (disch := omega) only [L131, strs, dT_lt, dF_lt, dT_le, dF_le, dT_eq, dF_eq, push_cast, ↓reduceIte, Nat.reduceEqDiff, reduceCtorEq, Nat.reduceAdd, Nat.reduceSub, Nat.reduceMul, Nat.reduceLeDiff, Nat.reduceLT, Nat.reduceMod, Nat.reduceDiv, Int.reduceToNat, Int.reduceLT, Int.reduceLE, Int.reduceEq, Int.reduceAdd, Int.reduceSub, Int.reduceNeg, Int.reduceMul, Bool.and_self] | split)
  refine rk_loopS (fun (j : Nat) e' H' => e' 0 = .sl 1 (l.map fun s => [str s]) ∧ e' 1 = str s ∧ e' 7 = int l.length ∧ e' 8 = int j ∧ H = H' ∧ j ≤ l.length ∧ ∀ k, k < j → ¬ s = l.getD k default) (fun j => l.length - j) 0 ?_ ?_
  · exact ⟨rfl, rfl, rfl, rfl, rfl, Nat.zero_le _, by simp⟩
  rintro j e' H' ⟨h0, h1, h7, h8, rfl, hj, hr⟩
  by_cases hlt : j < l.length
  · by_cases hf : s = l.getD j default
    · have hd : decide (s = l.getD j default) = true := by simpa using hf
      repeat' (first | (refine And.intro (by omega) ?_) | simp -implicitDefEqProofs (disch := omega) only [h0, h1, h7, h8, rows_getD, hd, dT_lt, dF_lt, dT_le, dF_le, dT_eq, dF_eq, push_cast, ↓reduceIte, Nat.reduceEqDiff, reduceCtorEq, Nat.reduceAdd, Nat.reduceSub, Nat.reduceMul, Nat.reduceLeDiff, Nat.reduceLT, Nat.reduceMod, Nat.reduceDiv, Int.reduceToNat, Int.reduceLT, Int.reduceLE, Int.reduceEq, Int.reduceAdd, Int.reduceSub, Int.reduceNeg, Int.reduceMul, Bool.and_self] | split)
      rw [show l.findIdx? (fun x => decide (s = x)) = some j from find_some hlt hd fun k hk => by simpa using hr k hk]; rfl
    · have hd : decide (s = l.getD j default) = false := by simpa using hf
      repeat' (first | (refine And.intro (by omega) ?_) | simp -implicitDefEqProofs (disch := omega) only [h0, h1, h7, h8, rows_getD, hd, dT_lt, dF_lt, dT_le, dF_le, dT_eq, dF_eq, push_cast, ↓reduceIte, Nat.reduceEqDiff, reduceCtorEq, Nat.reduceAdd, Nat.reduceSub, Nat.reduceMul, Nat.reduceLeDiff, Nat.reduceLT, Nat.reduceMod, Nat.reduceDiv, Int.reduceToNat, Int.reduceLT, Int.reduceLE, Int.reduceEq, Int.reduceAdd, Int.reduceSub, Int.reduceNeg, Int.reduceMul, Bool.and_self] | split)
      exact .mk (j + 1) ⟨h0, h1, h7, rfl, rfl, hlt, upto_succ hr hf⟩ (by omega)
  · repeat' (first | (refine And.intro (by omega) ?_) | simp -implicitDefEqProofs (disch := omega) only [h0, h1, h7, h8, dT_lt, dF_lt, dT_le, dF_le, dT_eq, dF_eq, push_cast, ↓reduceIte, Nat.reduceEqDiff, reduceCtorEq, Nat.reduceAdd, Nat.reduceSub, Nat.reduceMul, Nat.reduceLeDiff, Nat.reduceLT, Nat.reduceMod, Nat.reduceDiv, Int.reduceToNat, Int.reduceLT, Int.reduceLE, Int.reduceEq, Int.reduceAdd, Int.reduceSub, Int.reduceNeg, Int.reduceMul, Bool.and_self] | split)
    rw [show l.findIdx? (fun x => decide (s = x)) = none from find_none fun k hk => by simpa using hr k (by omega)]; rfl
theorem containsS (l : List (List UInt8)) (s : List UInt8) (hl : (l.length : Int) < 9223372036854775807) (H : AHeap) : Comp' 114 [.sl 1 (strs l), str s] H (bool (decide (s ∈ l))) := by
  refine enter Try.func114 L114_ok (Nat.le_of_ble_eq_true rfl) ?_
  cases hf : l.findIdx? (fun x => decide (s = x)) with
  | none =>
    have hn : ¬ s ∈ l := by
      rw [List.findIdx?_eq_none_iff] at hf
      intro hi
      have := hf s hi
      simp at this
    have e : decide (s ∈ l) = false := by simp [hn]
    rw [e]
    have hc := fun H => indexS l s hl H
    rw [hf] at hc
    simp only [idxI] at hc
    repeat' (first | (refine And.intro (by omega) ?_) | (refine callF_pure (hc _) ?_) | (refine callQF_pure (hc _) (by first | rfl | simp only [L114, push_cast]) ?_) | simp -implicitDefEqProofs (disch := omega) only [L114, dT_lt, dF_lt, dT_le, dF_le, dT_eq, dF_eq, push_cast, ↓reduceIte, Nat.reduceEqDiff, reduceCtorEq, Nat.reduceAdd, Nat.reduceSub, Nat.reduceMul, Nat.reduceLeDiff, Nat.reduceLT, Nat.reduceMod, Nat.reduceDiv, Int.reduceToNat, Int.reduceLT, Int.reduceLE, Int.reduceEq, Int.reduceAdd, Int.reduceSub, Int.reduceNeg, Int.reduceMul, Bool.and_self] | split)
  | some k =>
    have hi : s ∈ l := by
      have h := find_lt hf
      have h2 := of_decide_eq_true h.2
      rw [h2]
      exact getD_mem' h.1
    have e : decide (s ∈ l) = true := by simp [hi]
    rw [e]
    have hc := fun H => indexS l s hl H
    rw [hf] at hc
    simp only [idxI] at hc
    repeat' (first | (refine And.intro (by omega) ?_) | (refine callF_pure (hc _) ?_) | (refine callQF_pure (hc _) (by first | rfl | simp only [L114, push_cast]) ?_) | simp -implicitDefEqProofs (disch := omega) only [L114, dT_lt, dF_lt, dT_le, dF_le, dT_eq, dF_eq, push_cast, ↓reduceIte, Nat.reduceEqDiff, reduceCtorEq, Nat.reduceAdd, Nat.reduceSub, Nat.reduceMul, Nat.reduceLeDiff, Nat.reduceLT, Nat.reduceMod, Nat.reduceDiv, Int.reduceToNat, Int.reduceLT, Int.reduceLE, Int.reduceEq, Int.reduceAdd, Int.reduceSub, Int.reduceNeg, Int.reduceMul, Bool.and_self] | split)

/-! ### Tests of kinds -/
def isTy (k : Int) : Bool := decide (k = 9) || decide (k = 10)
def isSt (k : Int) : Bool := decide (12 ≤ k) && decide (k ≤ 19)
def isEx (k : Int) : Bool := decide (20 ≤ k) && decide (k ≤ 29)
def isPl (k : Int) : Bool := decide (k = 20) || decide (k = 21) || decide (k = 22)
theorem isTypeC (k : Int) (H : AHeap) : Comp' 82 [int k] H (bool (isTy k)) := by
  refine enter Try.func82 L82_ok (Nat.le_of_ble_eq_true rfl) ?_
  unfold isTy
  by_cases h : k = 9
  · repeat' (first | (refine And.intro (by omega) ?_) | simp -implicitDefEqProofs (disch := omega) only [L82, dT_lt, dF_lt, dT_le, dF_le, dT_eq, dF_eq, push_cast, ↓reduceIte, Nat.reduceEqDiff, reduceCtorEq, Nat.reduceAdd, Nat.reduceSub, Nat.reduceMul, Nat.reduceLeDiff, Nat.reduceLT, Nat.reduceMod, Nat.reduceDiv, Int.reduceToNat, Int.reduceLT, Int.reduceLE, Int.reduceEq, Int.reduceAdd, Int.reduceSub, Int.reduceNeg, Int.reduceMul, Bool.and_self] | split)
  · repeat' (first | (refine And.intro (by omega) ?_) | simp -implicitDefEqProofs (disch := omega) only [L82, dT_lt, dF_lt, dT_le, dF_le, dT_eq, dF_eq, push_cast, ↓reduceIte, Nat.reduceEqDiff, reduceCtorEq, Nat.reduceAdd, Nat.reduceSub, Nat.reduceMul, Nat.reduceLeDiff, Nat.reduceLT, Nat.reduceMod, Nat.reduceDiv, Int.reduceToNat, Int.reduceLT, Int.reduceLE, Int.reduceEq, Int.reduceAdd, Int.reduceSub, Int.reduceNeg, Int.reduceMul, Bool.and_self] | split)
theorem isStatementC (k : Int) (H : AHeap) : Comp' 54 [int k] H (bool (isSt k)) := by
  refine enter Try.func54 L54_ok (Nat.le_of_ble_eq_true rfl) ?_
  unfold isSt
  by_cases h : 12 ≤ k
  · repeat' (first | (refine And.intro (by omega) ?_) | simp -implicitDefEqProofs (disch := omega) only [L54, dT_lt, dF_lt, dT_le, dF_le, dT_eq, dF_eq, push_cast, ↓reduceIte, Nat.reduceEqDiff, reduceCtorEq, Nat.reduceAdd, Nat.reduceSub, Nat.reduceMul, Nat.reduceLeDiff, Nat.reduceLT, Nat.reduceMod, Nat.reduceDiv, Int.reduceToNat, Int.reduceLT, Int.reduceLE, Int.reduceEq, Int.reduceAdd, Int.reduceSub, Int.reduceNeg, Int.reduceMul, Bool.and_self] | split)
  · repeat' (first | (refine And.intro (by omega) ?_) | simp -implicitDefEqProofs (disch := omega) only [L54, dT_lt, dF_lt, dT_le, dF_le, dT_eq, dF_eq, push_cast, ↓reduceIte, Nat.reduceEqDiff, reduceCtorEq, Nat.reduceAdd, Nat.reduceSub, Nat.reduceMul, Nat.reduceLeDiff, Nat.reduceLT, Nat.reduceMod, Nat.reduceDiv, Int.reduceToNat, Int.reduceLT, Int.reduceLE, Int.reduceEq, Int.reduceAdd, Int.reduceSub, Int.reduceNeg, Int.reduceMul, Bool.and_self] | split)
theorem isExpressionC (k : Int) (H : AHeap) : Comp' 52 [int k] H (bool (isEx k)) := by
  refine enter Try.func52 L52_ok (Nat.le_of_ble_eq_true rfl) ?_
  unfold isEx
  by_cases h : 20 ≤ k
  · repeat' (first | (refine And.intro (by omega) ?_) | simp -implicitDefEqProofs (disch := omega) only [L52, dT_lt, dF_lt, dT_le, dF_le, dT_eq, dF_eq, push_cast, ↓reduceIte, Nat.reduceEqDiff, reduceCtorEq, Nat.reduceAdd, Nat.reduceSub, Nat.reduceMul, Nat.reduceLeDiff, Nat.reduceLT, Nat.reduceMod, Nat.reduceDiv, Int.reduceToNat, Int.reduceLT, Int.reduceLE, Int.reduceEq, Int.reduceAdd, Int.reduceSub, Int.reduceNeg, Int.reduceMul, Bool.and_self] | split)
  · repeat' (first | (refine And.intro (by omega) ?_) | simp -implicitDefEqProofs (disch := omega) only [L52, dT_lt, dF_lt, dT_le, dF_le, dT_eq, dF_eq, push_cast, ↓reduceIte, Nat.reduceEqDiff, reduceCtorEq, Nat.reduceAdd, Nat.reduceSub, Nat.reduceMul, Nat.reduceLeDiff, Nat.reduceLT, Nat.reduceMod, Nat.reduceDiv, Int.reduceToNat, Int.reduceLT, Int.reduceLE, Int.reduceEq, Int.reduceAdd, Int.reduceSub, Int.reduceNeg, Int.reduceMul, Bool.and_self] | split)
theorem isPlaceC (k : Int) (H : AHeap) : Comp' 87 [int k] H (bool (isPl k)) := by
  refine enter Try.func87 L87_ok (Nat.le_of_ble_eq_true rfl) ?_
  unfold isPl
  by_cases h : k = 20
  · repeat' (first | (refine And.intro (by omega) ?_) | simp -implicitDefEqProofs (disch := omega) only [L87, dT_lt, dF_lt, dT_le, dF_le, dT_eq, dF_eq, push_cast, ↓reduceIte, Nat.reduceEqDiff, reduceCtorEq, Nat.reduceAdd, Nat.reduceSub, Nat.reduceMul, Nat.reduceLeDiff, Nat.reduceLT, Nat.reduceMod, Nat.reduceDiv, Int.reduceToNat, Int.reduceLT, Int.reduceLE, Int.reduceEq, Int.reduceAdd, Int.reduceSub, Int.reduceNeg, Int.reduceMul, Bool.and_self] | split)
  · by_cases h2 : k = 21
    · repeat' (first | (refine And.intro (by omega) ?_) | simp -implicitDefEqProofs (disch := omega) only [L87, dT_lt, dF_lt, dT_le, dF_le, dT_eq, dF_eq, push_cast, ↓reduceIte, Nat.reduceEqDiff, reduceCtorEq, Nat.reduceAdd, Nat.reduceSub, Nat.reduceMul, Nat.reduceLeDiff, Nat.reduceLT, Nat.reduceMod, Nat.reduceDiv, Int.reduceToNat, Int.reduceLT, Int.reduceLE, Int.reduceEq, Int.reduceAdd, Int.reduceSub, Int.reduceNeg, Int.reduceMul, Bool.and_self] | split)
    · repeat' (first | (refine And.intro (by omega) ?_) | simp -implicitDefEqProofs (disch := omega) only [L87, dT_lt, dF_lt, dT_le, dF_le, dT_eq, dF_eq, push_cast, ↓reduceIte, Nat.reduceEqDiff, reduceCtorEq, Nat.reduceAdd, Nat.reduceSub, Nat.reduceMul, Nat.reduceLeDiff, Nat.reduceLT, Nat.reduceMod, Nat.reduceDiv, Int.reduceToNat, Int.reduceLT, Int.reduceLE, Int.reduceEq, Int.reduceAdd, Int.reduceSub, Int.reduceNeg, Int.reduceMul, Bool.and_self] | split)
theorem emptyC (s : List UInt8) (H : AHeap) : Comp' 84 [str s] H (bool (decide (s = []))) := by
  refine enter Try.func84 L84_ok (Nat.le_of_ble_eq_true rfl) ?_
  repeat' (first | (refine And.intro (by omega) ?_) | simp -implicitDefEqProofs (disch := omega) only [L84, dT_lt, dF_lt, dT_le, dF_le, dT_eq, dF_eq, push_cast, ↓reduceIte, Nat.reduceEqDiff, reduceCtorEq, Nat.reduceAdd, Nat.reduceSub, Nat.reduceMul, Nat.reduceLeDiff, Nat.reduceLT, Nat.reduceMod, Nat.reduceDiv, Int.reduceToNat, Int.reduceLT, Int.reduceLE, Int.reduceEq, Int.reduceAdd, Int.reduceSub, Int.reduceNeg, Int.reduceMul, Bool.and_self] | split)
theorem one1C (l : List Int) (k : Int) (hl : (l.length : Int) < 9223372036854775807) (H : AHeap) : Comp' 110 [int k, .vp [.sl 1 (l.map intR)] 0] H (bool (decide (k ∈ l))) := by
  refine enter Try.func110 L110_ok (Nat.le_of_ble_eq_true rfl) ?_
  repeat' (first | (refine And.intro (by omega) ?_) | (refine callF_pure (containsI l k hl _) ?_) | (refine callQF_pure (containsI l k hl _) (by first | rfl | simp only [L110, push_cast]) ?_) | simp -implicitDefEqProofs (disch := omega) only [L110, dT_lt, dF_lt, dT_le, dF_le, dT_eq, dF_eq, push_cast, ↓reduceIte, Nat.reduceEqDiff, reduceCtorEq, Nat.reduceAdd, Nat.reduceSub, Nat.reduceMul, Nat.reduceLeDiff, Nat.reduceLT, Nat.reduceMod, Nat.reduceDiv, Int.reduceToNat, Int.reduceLT, Int.reduceLE, Int.reduceEq, Int.reduceAdd, Int.reduceSub, Int.reduceNeg, Int.reduceMul, Bool.and_self] | split)
theorem word1C (l : List (List UInt8)) (s : List UInt8) (hl : (l.length : Int) < 9223372036854775807) (H : AHeap) : Comp' 113 [str s, .vp [.sl 1 (strs l)] 0] H (bool (decide (s ∈ l))) := by
  refine enter Try.func113 L113_ok (Nat.le_of_ble_eq_true rfl) ?_
  repeat' (first | (refine And.intro (by omega) ?_) | (refine callF_pure (containsS l s hl _) ?_) | (refine callQF_pure (containsS l s hl _) (by first | rfl | simp only [L113, push_cast]) ?_) | simp -implicitDefEqProofs (disch := omega) only [L113, dT_lt, dF_lt, dT_le, dF_le, dT_eq, dF_eq, push_cast, ↓reduceIte, Nat.reduceEqDiff, reduceCtorEq, Nat.reduceAdd, Nat.reduceSub, Nat.reduceMul, Nat.reduceLeDiff, Nat.reduceLT, Nat.reduceMod, Nat.reduceDiv, Int.reduceToNat, Int.reduceLT, Int.reduceLE, Int.reduceEq, Int.reduceAdd, Int.reduceSub, Int.reduceNeg, Int.reduceMul, Bool.and_self] | split)

/-- A value that tests kinds as p does. -/
def KT (f : AV) (p : Int → Bool) : Prop := ∃ k caps, f = .fn (.func k) [] caps ∧ f.cl = true ∧ ∀ i H, Comp' k (int i :: caps) H (bool (p i))
/-- A value that tests texts as q does. -/
def TT (f : AV) (q : List UInt8 → Bool) : Prop := ∃ k caps, f = .fn (.func k) [] caps ∧ f.cl = true ∧ ∀ s H, (s.length : Int) < 9223372036854775806 → Comp' k (str s :: caps) H (bool (q s))
theorem optional1C (f : AV) (p : Int → Bool) (hf : KT f p) (k : Int) (H : AHeap) : Comp' 112 [int k, .vp [f] 0] H (bool (decide (k = 0) || p k)) := by
  obtain ⟨g, caps, rfl, hcl, hg⟩ := hf
  refine enter Try.func112 L112_ok (Nat.le_of_ble_eq_true rfl) ?_
  by_cases h : k = 0
  · repeat' (first | (refine And.intro (by omega) ?_) | (refine callF_pure (hg _ _) ?_) | (refine callQF_pure (hg _ _) (by first | rfl | simp only [L112, push_cast]) ?_) | simp -implicitDefEqProofs (disch := omega) only [L112, dT_lt, dF_lt, dT_le, dF_le, dT_eq, dF_eq, push_cast, ↓reduceIte, Nat.reduceEqDiff, reduceCtorEq, Nat.reduceAdd, Nat.reduceSub, Nat.reduceMul, Nat.reduceLeDiff, Nat.reduceLT, Nat.reduceMod, Nat.reduceDiv, Int.reduceToNat, Int.reduceLT, Int.reduceLE, Int.reduceEq, Int.reduceAdd, Int.reduceSub, Int.reduceNeg, Int.reduceMul, Bool.and_self] | split)
  · repeat' (first | (refine And.intro (by omega) ?_) | (refine callF_pure (hg _ _) ?_) | (refine callQF_pure (hg _ _) (by first | rfl | simp only [L112, push_cast]) ?_) | simp -implicitDefEqProofs (disch := omega) only [L112, dT_lt, dF_lt, dT_le, dF_le, dT_eq, dF_eq, push_cast, ↓reduceIte, Nat.reduceEqDiff, reduceCtorEq, Nat.reduceAdd, Nat.reduceSub, Nat.reduceMul, Nat.reduceLeDiff, Nat.reduceLT, Nat.reduceMod, Nat.reduceDiv, Int.reduceToNat, Int.reduceLT, Int.reduceLE, Int.reduceEq, Int.reduceAdd, Int.reduceSub, Int.reduceNeg, Int.reduceMul, Bool.and_self] | split)
end Go.Proofs.Ytnbdogodcjhfiaa

/- Trees: numbers in texts; the reference's tests. -/
namespace Go.Proofs.Ytnbdogodcjhfiaa
open Go Go.Ax
set_option maxRecDepth 100000
set_option linter.unusedSimpArgs false
set_option linter.unusedVariables false

/-- A number without leading zeros. -/
def numF (s : List UInt8) : Bool := isNum s && (decide (s = [48]) || !decide ((s.getD 0 0).toNat = 48))
theorem numberT (s : List UInt8) (hs : (s.length : Int) < 9223372036854775806) (H : AHeap) : Comp' 86 [str s] H (bool (numF s)) := by
  refine enter Try.func86 L86_ok (Nat.le_of_ble_eq_true rfl) ?_
  have hn := fun H => number s H (by omega)
  unfold numF
  by_cases h : isNum s = true
  · rw [numV_yes h] at hn
    obtain ⟨h1, _⟩ := isNum_iff.1 h
    rw [h]
    by_cases h2 : s = [48]
    · have hd : decide (s = [48]) = true := by simp [h2]
      repeat' (first | (refine And.intro (by omega) ?_) | (refine callF_pure (hn _) ?_) | (refine callQF_pure (hn _) (by first | rfl | simp only [L86, hd, push_cast]) ?_) | simp -implicitDefEqProofs (disch := omega) only [L86, hd, dT_lt, dF_lt, dT_le, dF_le, dT_eq, dF_eq, push_cast, ↓reduceIte, Nat.reduceEqDiff, reduceCtorEq, Nat.reduceAdd, Nat.reduceSub, Nat.reduceMul, Nat.reduceLeDiff, Nat.reduceLT, Nat.reduceMod, Nat.reduceDiv, Int.reduceToNat, Int.reduceLT, Int.reduceLE, Int.reduceEq, Int.reduceAdd, Int.reduceSub, Int.reduceNeg, Int.reduceMul, Bool.and_self] | split)
    · have hd : decide (s = [48]) = false := by simp [h2]
      by_cases h3 : (s.getD 0 0).toNat = 48
      · have h3' : ((s.getD 0 0).toNat : Int) = 48 := by omega
        repeat' (first | (refine And.intro (by omega) ?_) | (refine callF_pure (hn _) ?_) | (refine callQF_pure (hn _) (by first | rfl | simp only [L86, hd, h3, h3', push_cast]) ?_) | simp -implicitDefEqProofs (disch := omega) only [L86, hd, h3, h3', dT_lt, dF_lt, dT_le, dF_le, dT_eq, dF_eq, push_cast, ↓reduceIte, Nat.reduceEqDiff, reduceCtorEq, Nat.reduceAdd, Nat.reduceSub, Nat.reduceMul, Nat.reduceLeDiff, Nat.reduceLT, Nat.reduceMod, Nat.reduceDiv, Int.reduceToNat, Int.reduceLT, Int.reduceLE, Int.reduceEq, Int.reduceAdd, Int.reduceSub, Int.reduceNeg, Int.reduceMul, Bool.and_self] | split)
        omega
      · have h3' : ¬ ((s.getD 0 0).toNat : Int) = 48 := by omega
        repeat' (first | (refine And.intro (by omega) ?_) | (refine callF_pure (hn _) ?_) | (refine callQF_pure (hn _) (by first | rfl | simp only [L86, hd, h3, push_cast]) ?_) | simp -implicitDefEqProofs (disch := omega) only [L86, hd, h3, dT_lt, dF_lt, dT_le, dF_le, dT_eq, dF_eq, push_cast, ↓reduceIte, Nat.reduceEqDiff, reduceCtorEq, Nat.reduceAdd, Nat.reduceSub, Nat.reduceMul, Nat.reduceLeDiff, Nat.reduceLT, Nat.reduceMod, Nat.reduceDiv, Int.reduceToNat, Int.reduceLT, Int.reduceLE, Int.reduceEq, Int.reduceAdd, Int.reduceSub, Int.reduceNeg, Int.reduceMul, Bool.and_self] | split)
        omega
  · rw [numV_no h] at hn
    have h' : isNum s = false := by simpa using h
    rw [h']
    repeat' (first | (refine And.intro (by omega) ?_) | (refine callF_pure (hn _) ?_) | (refine callQF_pure (hn _) (by first | rfl | simp only [L86, push_cast]) ?_) | simp -implicitDefEqProofs (disch := omega) only [L86, dT_lt, dF_lt, dT_le, dF_le, dT_eq, dF_eq, push_cast, ↓reduceIte, Nat.reduceEqDiff, reduceCtorEq, Nat.reduceAdd, Nat.reduceSub, Nat.reduceMul, Nat.reduceLeDiff, Nat.reduceLT, Nat.reduceMod, Nat.reduceDiv, Int.reduceToNat, Int.reduceLT, Int.reduceLE, Int.reduceEq, Int.reduceAdd, Int.reduceSub, Int.reduceNeg, Int.reduceMul, Bool.and_self] | split)
theorem numberTR (s : List UInt8) (hs : (s.length : Int) < 9223372036854775806) (H : AHeap) : Comp' 103 [str s] H (bool (numF s)) := by
  refine enter Try.func103 L103_ok (Nat.le_of_ble_eq_true rfl) ?_
  have hn := fun H => numberR s H (by omega)
  unfold numF
  by_cases h : isNum s = true
  · rw [numV_yes h] at hn
    obtain ⟨h1, _⟩ := isNum_iff.1 h
    rw [h]
    by_cases h2 : s = [48]
    · have hd : decide (s = [48]) = true := by simp [h2]
      repeat' (first | (refine And.intro (by omega) ?_) | (refine callF_pure (hn _) ?_) | (refine callQF_pure (hn _) (by first | rfl | simp only [L103, hd, push_cast]) ?_) | simp -implicitDefEqProofs (disch := omega) only [L103, hd, dT_lt, dF_lt, dT_le, dF_le, dT_eq, dF_eq, push_cast, ↓reduceIte, Nat.reduceEqDiff, reduceCtorEq, Nat.reduceAdd, Nat.reduceSub, Nat.reduceMul, Nat.reduceLeDiff, Nat.reduceLT, Nat.reduceMod, Nat.reduceDiv, Int.reduceToNat, Int.reduceLT, Int.reduceLE, Int.reduceEq, Int.reduceAdd, Int.reduceSub, Int.reduceNeg, Int.reduceMul, Bool.and_self] | split)
    · have hd : decide (s = [48]) = false := by simp [h2]
      by_cases h3 : (s.getD 0 0).toNat = 48
      · have h3' : ((s.getD 0 0).toNat : Int) = 48 := by omega
        repeat' (first | (refine And.intro (by omega) ?_) | (refine callF_pure (hn _) ?_) | (refine callQF_pure (hn _) (by first | rfl | simp only [L103, hd, h3, h3', push_cast]) ?_) | simp -implicitDefEqProofs (disch := omega) only [L103, hd, h3, h3', dT_lt, dF_lt, dT_le, dF_le, dT_eq, dF_eq, push_cast, ↓reduceIte, Nat.reduceEqDiff, reduceCtorEq, Nat.reduceAdd, Nat.reduceSub, Nat.reduceMul, Nat.reduceLeDiff, Nat.reduceLT, Nat.reduceMod, Nat.reduceDiv, Int.reduceToNat, Int.reduceLT, Int.reduceLE, Int.reduceEq, Int.reduceAdd, Int.reduceSub, Int.reduceNeg, Int.reduceMul, Bool.and_self] | split)
        omega
      · have h3' : ¬ ((s.getD 0 0).toNat : Int) = 48 := by omega
        repeat' (first | (refine And.intro (by omega) ?_) | (refine callF_pure (hn _) ?_) | (refine callQF_pure (hn _) (by first | rfl | simp only [L103, hd, h3, push_cast]) ?_) | simp -implicitDefEqProofs (disch := omega) only [L103, hd, h3, dT_lt, dF_lt, dT_le, dF_le, dT_eq, dF_eq, push_cast, ↓reduceIte, Nat.reduceEqDiff, reduceCtorEq, Nat.reduceAdd, Nat.reduceSub, Nat.reduceMul, Nat.reduceLeDiff, Nat.reduceLT, Nat.reduceMod, Nat.reduceDiv, Int.reduceToNat, Int.reduceLT, Int.reduceLE, Int.reduceEq, Int.reduceAdd, Int.reduceSub, Int.reduceNeg, Int.reduceMul, Bool.and_self] | split)
        omega
  · rw [numV_no h] at hn
    have h' : isNum s = false := by simpa using h
    rw [h']
    repeat' (first | (refine And.intro (by omega) ?_) | (refine callF_pure (hn _) ?_) | (refine callQF_pure (hn _) (by first | rfl | simp only [L103, push_cast]) ?_) | simp -implicitDefEqProofs (disch := omega) only [L103, dT_lt, dF_lt, dT_le, dF_le, dT_eq, dF_eq, push_cast, ↓reduceIte, Nat.reduceEqDiff, reduceCtorEq, Nat.reduceAdd, Nat.reduceSub, Nat.reduceMul, Nat.reduceLeDiff, Nat.reduceLT, Nat.reduceMod, Nat.reduceDiv, Int.reduceToNat, Int.reduceLT, Int.reduceLE, Int.reduceEq, Int.reduceAdd, Int.reduceSub, Int.reduceNeg, Int.reduceMul, Bool.and_self] | split)

theorem TypeR (k : Int) (H : AHeap) : Comp' 105 [int k] H (bool (isTy k)) := by
  refine enter Try.func105 L105_ok (Nat.le_of_ble_eq_true rfl) ?_
  unfold isTy
  by_cases h : k = 9
  · repeat' (first | (refine And.intro (by omega) ?_) | simp -implicitDefEqProofs (disch := omega) only [L105, dT_lt, dF_lt, dT_le, dF_le, dT_eq, dF_eq, push_cast, ↓reduceIte, Nat.reduceEqDiff, reduceCtorEq, Nat.reduceAdd, Nat.reduceSub, Nat.reduceMul, Nat.reduceLeDiff, Nat.reduceLT, Nat.reduceMod, Nat.reduceDiv, Int.reduceToNat, Int.reduceLT, Int.reduceLE, Int.reduceEq, Int.reduceAdd, Int.reduceSub, Int.reduceNeg, Int.reduceMul, Bool.and_self] | split)
  · repeat' (first | (refine And.intro (by omega) ?_) | simp -implicitDefEqProofs (disch := omega) only [L105, dT_lt, dF_lt, dT_le, dF_le, dT_eq, dF_eq, push_cast, ↓reduceIte, Nat.reduceEqDiff, reduceCtorEq, Nat.reduceAdd, Nat.reduceSub, Nat.reduceMul, Nat.reduceLeDiff, Nat.reduceLT, Nat.reduceMod, Nat.reduceDiv, Int.reduceToNat, Int.reduceLT, Int.reduceLE, Int.reduceEq, Int.reduceAdd, Int.reduceSub, Int.reduceNeg, Int.reduceMul, Bool.and_self] | split)
theorem StatementR (k : Int) (H : AHeap) : Comp' 55 [int k] H (bool (isSt k)) := by
  refine enter Try.func55 L55_ok (Nat.le_of_ble_eq_true rfl) ?_
  unfold isSt
  by_cases h : 12 ≤ k
  · repeat' (first | (refine And.intro (by omega) ?_) | simp -implicitDefEqProofs (disch := omega) only [L55, dT_lt, dF_lt, dT_le, dF_le, dT_eq, dF_eq, push_cast, ↓reduceIte, Nat.reduceEqDiff, reduceCtorEq, Nat.reduceAdd, Nat.reduceSub, Nat.reduceMul, Nat.reduceLeDiff, Nat.reduceLT, Nat.reduceMod, Nat.reduceDiv, Int.reduceToNat, Int.reduceLT, Int.reduceLE, Int.reduceEq, Int.reduceAdd, Int.reduceSub, Int.reduceNeg, Int.reduceMul, Bool.and_self] | split)
  · repeat' (first | (refine And.intro (by omega) ?_) | simp -implicitDefEqProofs (disch := omega) only [L55, dT_lt, dF_lt, dT_le, dF_le, dT_eq, dF_eq, push_cast, ↓reduceIte, Nat.reduceEqDiff, reduceCtorEq, Nat.reduceAdd, Nat.reduceSub, Nat.reduceMul, Nat.reduceLeDiff, Nat.reduceLT, Nat.reduceMod, Nat.reduceDiv, Int.reduceToNat, Int.reduceLT, Int.reduceLE, Int.reduceEq, Int.reduceAdd, Int.reduceSub, Int.reduceNeg, Int.reduceMul, Bool.and_self] | split)
theorem ExpressionR (k : Int) (H : AHeap) : Comp' 53 [int k] H (bool (isEx k)) := by
  refine enter Try.func53 L53_ok (Nat.le_of_ble_eq_true rfl) ?_
  unfold isEx
  by_cases h : 20 ≤ k
  · repeat' (first | (refine And.intro (by omega) ?_) | simp -implicitDefEqProofs (disch := omega) only [L53, dT_lt, dF_lt, dT_le, dF_le, dT_eq, dF_eq, push_cast, ↓reduceIte, Nat.reduceEqDiff, reduceCtorEq, Nat.reduceAdd, Nat.reduceSub, Nat.reduceMul, Nat.reduceLeDiff, Nat.reduceLT, Nat.reduceMod, Nat.reduceDiv, Int.reduceToNat, Int.reduceLT, Int.reduceLE, Int.reduceEq, Int.reduceAdd, Int.reduceSub, Int.reduceNeg, Int.reduceMul, Bool.and_self] | split)
  · repeat' (first | (refine And.intro (by omega) ?_) | simp -implicitDefEqProofs (disch := omega) only [L53, dT_lt, dF_lt, dT_le, dF_le, dT_eq, dF_eq, push_cast, ↓reduceIte, Nat.reduceEqDiff, reduceCtorEq, Nat.reduceAdd, Nat.reduceSub, Nat.reduceMul, Nat.reduceLeDiff, Nat.reduceLT, Nat.reduceMod, Nat.reduceDiv, Int.reduceToNat, Int.reduceLT, Int.reduceLE, Int.reduceEq, Int.reduceAdd, Int.reduceSub, Int.reduceNeg, Int.reduceMul, Bool.and_self] | split)
theorem PlaceR (k : Int) (H : AHeap) : Comp' 106 [int k] H (bool (isPl k)) := by
  refine enter Try.func106 L106_ok (Nat.le_of_ble_eq_true rfl) ?_
  unfold isPl
  by_cases h : k = 20
  · repeat' (first | (refine And.intro (by omega) ?_) | simp -implicitDefEqProofs (disch := omega) only [L106, dT_lt, dF_lt, dT_le, dF_le, dT_eq, dF_eq, push_cast, ↓reduceIte, Nat.reduceEqDiff, reduceCtorEq, Nat.reduceAdd, Nat.reduceSub, Nat.reduceMul, Nat.reduceLeDiff, Nat.reduceLT, Nat.reduceMod, Nat.reduceDiv, Int.reduceToNat, Int.reduceLT, Int.reduceLE, Int.reduceEq, Int.reduceAdd, Int.reduceSub, Int.reduceNeg, Int.reduceMul, Bool.and_self] | split)
  · by_cases h2 : k = 21
    · repeat' (first | (refine And.intro (by omega) ?_) | simp -implicitDefEqProofs (disch := omega) only [L106, dT_lt, dF_lt, dT_le, dF_le, dT_eq, dF_eq, push_cast, ↓reduceIte, Nat.reduceEqDiff, reduceCtorEq, Nat.reduceAdd, Nat.reduceSub, Nat.reduceMul, Nat.reduceLeDiff, Nat.reduceLT, Nat.reduceMod, Nat.reduceDiv, Int.reduceToNat, Int.reduceLT, Int.reduceLE, Int.reduceEq, Int.reduceAdd, Int.reduceSub, Int.reduceNeg, Int.reduceMul, Bool.and_self] | split)
    · repeat' (first | (refine And.intro (by omega) ?_) | simp -implicitDefEqProofs (disch := omega) only [L106, dT_lt, dF_lt, dT_le, dF_le, dT_eq, dF_eq, push_cast, ↓reduceIte, Nat.reduceEqDiff, reduceCtorEq, Nat.reduceAdd, Nat.reduceSub, Nat.reduceMul, Nat.reduceLeDiff, Nat.reduceLT, Nat.reduceMod, Nat.reduceDiv, Int.reduceToNat, Int.reduceLT, Int.reduceLE, Int.reduceEq, Int.reduceAdd, Int.reduceSub, Int.reduceNeg, Int.reduceMul, Bool.and_self] | split)

/-- One of the kinds. -/
theorem kind_cases (k : Int) : (k < 0 ∨ 29 < k) ∨ (k = 0 ∨ k = 1 ∨ k = 2 ∨ k = 3 ∨ k = 4 ∨ k = 5 ∨ k = 6 ∨ k = 7 ∨ k = 8 ∨ k = 9 ∨ k = 10 ∨ k = 11 ∨ k = 12 ∨ k = 13 ∨ k = 14 ∨ k = 15 ∨ k = 16 ∨ k = 17 ∨ k = 18 ∨ k = 19 ∨ k = 20 ∨ k = 21 ∨ k = 22 ∨ k = 23 ∨ k = 24 ∨ k = 25 ∨ k = 26 ∨ k = 27 ∨ k = 28 ∨ k = 29) := by omega

abbrev intS : List UInt8 := [105, 110, 116]
abbrev boolS : List UInt8 := [98, 111, 111, 108]
abbrev trueS : List UInt8 := [116, 114, 117, 101]
abbrev falseS : List UInt8 := [102, 97, 108, 115, 101]
def binL : List (List UInt8) := [[111, 114], [97, 110, 100], [61, 61], [33, 61], [60], [60, 61], [62], [62, 61], [43], [45], [42], [47], [37]]
abbrev notT : List UInt8 := [110, 111, 116]
/-- The text of a kind. -/
def txF (k : Int) (s : List UInt8) : Bool :=
  if k = 3 ∨ k = 4 ∨ k = 5 ∨ k = 7 ∨ k = 8 ∨ k = 12 ∨ k = 16 ∨ k = 19 ∨ k = 20 ∨ k = 22 ∨ k = 27 then isName s
  else if k = 9 then decide (s = intS) || decide (s = boolS) || isName s
  else if k = 10 ∨ k = 24 then numF s
  else if k = 25 then decide (s = trueS) || decide (s = falseS)
  else if k = 28 then decide (s = [45]) || decide (s = notT)
  else if k = 29 then decide (s ∈ binL)
  else decide (s = [])
theorem nd_drop1 (n : Nd) : (ndR n).drop 1 = [str n.text, int n.a, int n.e, .sl 5 (n.kids.map ndR)] := by rw [ndR_eq]; rfl
theorem nd_cellsV (n : Nd) : cellsV false 1 (ndR n) = int n.kind := by rw [ndR_eq]; rfl
set_option maxHeartbeats 8000000 in
theorem textR (n : Nd) (hs : (n.text.length : Int) < 9223372036854775806) (H : AHeap) : Comp' 76 [.agg (ndR n)] H (bool (txF n.kind n.text)) := by
  refine ACall.drop (R := fun x => x = bool (txF n.kind n.text)) ?_
  refine enter Try.func76 L76_ok (Nat.le_of_ble_eq_true rfl) ?_
  have c1 := fun H => nameR n.text H hs
  have c2 := fun H => numberTR n.text hs H
  have c3 := fun H => hasR binL n.text H (by decide)
  have e1 := nd_cellsV n
  have e2 := nd_drop1 n
  have e3 := nd_len n
  have e4 := nd_c1s n
  generalize ndR n = cs at *
  generalize n.text = s at *
  generalize n.kind = k at *
  clear hs
  rcases kind_cases k with h | rfl | rfl | rfl | rfl | rfl | rfl | rfl | rfl | rfl | rfl | rfl | rfl | rfl | rfl | rfl | rfl | rfl | rfl | rfl | rfl | rfl | rfl | rfl | rfl | rfl | rfl | rfl | rfl | rfl | rfl
  · have ht : txF k s = decide (s = []) := by
      unfold txF
      rw [if_neg (by omega), if_neg (by omega), if_neg (by omega), if_neg (by omega), if_neg (by omega), if_neg (by omega)]
    rw [ht]
    repeat' (first | (refine And.intro (by omega) ?_) | simp -implicitDefEqProofs (disch := omega) only [L76, cells_agg, e1, e2, e3, e4, dT_lt, dF_lt, dT_le, dF_le, dT_eq, dF_eq, push_cast, ↓reduceIte, Nat.reduceEqDiff, reduceCtorEq, Nat.reduceAdd, Nat.reduceSub, Nat.reduceMul, Nat.reduceLeDiff, Nat.reduceLT, Nat.reduceMod, Nat.reduceDiv, Int.reduceToNat, Int.reduceLT, Int.reduceLE, Int.reduceEq, Int.reduceAdd, Int.reduceSub, Int.reduceNeg, Int.reduceMul, Bool.and_self] | split)
    exact ⟨_, rfl⟩
  all_goals simp only [txF, Int.reduceEq, or_self, or_false, false_or, or_true, true_or, ↓reduceIte]
  all_goals
    repeat' (first | (refine And.intro (by omega) ?_) | (refine callF_pure (c1 _) ?_) | (refine callF_pure (c2 _) ?_) | (refine callF_pure (c3 _) ?_) | simp -implicitDefEqProofs (disch := omega) only [L76, cells_agg, e1, e2, e3, e4, dT_lt, dF_lt, dT_le, dF_le, dT_eq, dF_eq, push_cast, ↓reduceIte, Nat.reduceEqDiff, reduceCtorEq, Nat.reduceAdd, Nat.reduceSub, Nat.reduceMul, Nat.reduceLeDiff, Nat.reduceLT, Nat.reduceMod, Nat.reduceDiv, Int.reduceToNat, Int.reduceLT, Int.reduceLE, Int.reduceEq, Int.reduceAdd, Int.reduceSub, Int.reduceNeg, Int.reduceMul, Bool.and_self] | split)
  all_goals clear c1 c2 c3 e1 e2 e3 e4
  all_goals first | exact ⟨_, rfl⟩ | (refine And.intro ?_ ⟨_, rfl⟩; simp_all; done)
/-- The least and the greatest number of kids. -/
def mostF (k : Int) : Int × Int :=
  if k = 2 ∨ k = 6 ∨ k = 11 ∨ k = 19 ∨ k = 27 then (0, 4096)
  else if k = 3 ∨ k = 26 then (1, 4096)
  else if k = 5 ∨ k = 14 ∨ k = 16 then (3, 3)
  else if k = 12 ∨ k = 13 ∨ k = 15 ∨ k = 21 ∨ k = 29 then (2, 2)
  else if k = 4 ∨ k = 7 ∨ k = 8 ∨ k = 17 ∨ k = 18 ∨ k = 22 ∨ k = 23 ∨ k = 28 then (1, 1)
  else (0, 0)
theorem mostR (k : Int) (H : AHeap) : Comp' 77 [int k] H (.tup [int (mostF k).1, int (mostF k).2]) := by
  refine enter Try.func77 L77_ok (Nat.le_of_ble_eq_true rfl) ?_
  rcases kind_cases k with h | rfl | rfl | rfl | rfl | rfl | rfl | rfl | rfl | rfl | rfl | rfl | rfl | rfl | rfl | rfl | rfl | rfl | rfl | rfl | rfl | rfl | rfl | rfl | rfl | rfl | rfl | rfl | rfl | rfl | rfl
  · have ht : mostF k = (0, 0) := by
      unfold mostF
      rw [if_neg (by omega), if_neg (by omega), if_neg (by omega), if_neg (by omega), if_neg (by omega)]
    rw [ht]
    repeat' (first | (refine And.intro (by omega) ?_) | simp -implicitDefEqProofs (disch := omega) only [L77, dT_lt, dF_lt, dT_le, dF_le, dT_eq, dF_eq, push_cast, ↓reduceIte, Nat.reduceEqDiff, reduceCtorEq, Nat.reduceAdd, Nat.reduceSub, Nat.reduceMul, Nat.reduceLeDiff, Nat.reduceLT, Nat.reduceMod, Nat.reduceDiv, Int.reduceToNat, Int.reduceLT, Int.reduceLE, Int.reduceEq, Int.reduceAdd, Int.reduceSub, Int.reduceNeg, Int.reduceMul, Bool.and_self] | split)
  all_goals simp only [mostF, Int.reduceEq, or_self, or_false, false_or, or_true, true_or, ↓reduceIte]
  all_goals
    repeat' (first | (refine And.intro (by omega) ?_) | simp -implicitDefEqProofs (disch := omega) only [L77, dT_lt, dF_lt, dT_le, dF_le, dT_eq, dF_eq, push_cast, ↓reduceIte, Nat.reduceEqDiff, reduceCtorEq, Nat.reduceAdd, Nat.reduceSub, Nat.reduceMul, Nat.reduceLeDiff, Nat.reduceLT, Nat.reduceMod, Nat.reduceDiv, Int.reduceToNat, Int.reduceLT, Int.reduceLE, Int.reduceEq, Int.reduceAdd, Int.reduceSub, Int.reduceNeg, Int.reduceMul, Bool.and_self] | split)

/-- May a node be the kid number i of one of kind k? -/
def kidF (k i : Int) (m : Nd) : Bool :=
  if k = 2 then decide (m.kind = 3) || decide (m.kind = 5)
  else if k = 3 then decide (m.kind = 4)
  else if k = 4 then decide (m.kind = 9) && (decide (m.text = intS) || decide (m.text = boolS))
  else if k = 5 then decide (i = 0) && decide (m.kind = 6) || decide (i = 1) && (isTy m.kind || decide (m.kind = 0)) || decide (i = 2) && decide (m.kind = 11)
  else if k = 6 then decide (m.kind = 7) || decide (m.kind = 8)
  else if k = 7 ∨ k = 8 then isTy m.kind || decide (m.kind = 0)
  else if k = 11 then isSt m.kind
  else if k = 12 then decide (i = 0) && (isTy m.kind || decide (m.kind = 0)) || decide (i = 1) && isEx m.kind
  else if k = 13 then decide (i = 0) && isPl m.kind || decide (i = 1) && isEx m.kind
  else if k = 14 then decide (i = 0) && isEx m.kind || decide (i = 1) && decide (m.kind = 11) || decide (i = 2) && (decide (m.kind = 11) || decide (m.kind = 14) || decide (m.kind = 0))
  else if k = 15 then decide (i = 0) && isEx m.kind || decide (i = 1) && decide (m.kind = 11)
  else if k = 16 then decide (i < 2) && isEx m.kind || decide (i = 2) && decide (m.kind = 11)
  else if k = 17 then isEx m.kind || decide (m.kind = 0)
  else if k = 21 then decide (i = 0) && decide (m.kind = 20) || decide (i = 1) && isEx m.kind
  else if k = 22 ∨ k = 23 then decide (m.kind = 20)
  else isEx m.kind
set_option maxHeartbeats 8000000 in
theorem kidR (k i : Int) (m : Nd) (H : AHeap) : Comp' 78 [int k, int i, .agg (ndR m)] H (bool (kidF k i m)) := by
  refine ACall.drop (R := fun x => x = bool (kidF k i m)) ?_
  refine enter Try.func78 L78_ok (Nat.le_of_ble_eq_true rfl) ?_
  have c1 := fun H => TypeR m.kind H
  have c2 := fun H => StatementR m.kind H
  have c3 := fun H => ExpressionR m.kind H
  have c4 := fun H => PlaceR m.kind H
  have e1 := nd_cellsV m
  have e2 := nd_drop1 m
  have e3 := nd_len m
  have e4 := nd_c1s m
  rcases kind_cases k with h | rfl | rfl | rfl | rfl | rfl | rfl | rfl | rfl | rfl | rfl | rfl | rfl | rfl | rfl | rfl | rfl | rfl | rfl | rfl | rfl | rfl | rfl | rfl | rfl | rfl | rfl | rfl | rfl | rfl | rfl
  · have ht : kidF k i m = isEx m.kind := by
      unfold kidF
      rw [if_neg (by omega), if_neg (by omega), if_neg (by omega), if_neg (by omega), if_neg (by omega), if_neg (by omega), if_neg (by omega), if_neg (by omega), if_neg (by omega), if_neg (by omega), if_neg (by omega), if_neg (by omega), if_neg (by omega), if_neg (by omega), if_neg (by omega)]
    rw [ht]
    generalize ndR m = cs at *
    repeat' (first | (refine And.intro (by omega) ?_) | (refine callF_pure (c3 _) ?_) | (refine callQF_pure (c3 _) (by first | rfl | simp only [L78, cells_agg, e1, e2, e3, e4, push_cast]) ?_) | simp -implicitDefEqProofs (disch := omega) only [L78, cells_agg, e1, e2, e3, e4, dT_lt, dF_lt, dT_le, dF_le, dT_eq, dF_eq, push_cast, ↓reduceIte, Nat.reduceEqDiff, reduceCtorEq, Nat.reduceAdd, Nat.reduceSub, Nat.reduceMul, Nat.reduceLeDiff, Nat.reduceLT, Nat.reduceMod, Nat.reduceDiv, Int.reduceToNat, Int.reduceLT, Int.reduceLE, Int.reduceEq, Int.reduceAdd, Int.reduceSub, Int.reduceNeg, Int.reduceMul, Bool.and_self] | split)
    exact ⟨_, rfl⟩
  all_goals simp only [kidF, Int.reduceEq, or_self, or_false, false_or, or_true, true_or, ↓reduceIte]
  all_goals generalize ndR m = cs at *
  all_goals generalize m.kind = q at *
  all_goals generalize m.text = s at *
  all_goals
    repeat' (first | (refine And.intro (by omega) ?_) | (refine callF_pure (c1 _) ?_) | (refine callF_pure (c2 _) ?_) | (refine callF_pure (c3 _) ?_) | (refine callF_pure (c4 _) ?_) | simp -implicitDefEqProofs (disch := omega) only [L78, cells_agg, e1, e2, e3, e4, push_cast, ↓reduceIte, Nat.reduceEqDiff, reduceCtorEq, Nat.reduceAdd, Nat.reduceSub, Nat.reduceMul, Nat.reduceLeDiff, Nat.reduceLT, Nat.reduceMod, Nat.reduceDiv, Int.reduceToNat, Int.reduceLT, Int.reduceLE, Int.reduceEq, Int.reduceAdd, Int.reduceSub, Int.reduceNeg, Int.reduceMul, Bool.and_self] | split)
  all_goals clear c1 c2 c3 c4 e1 e2 e3 e4
  all_goals first | exact ⟨_, rfl⟩ | (exfalso; omega) | (refine And.intro ?_ ⟨_, rfl⟩; simp_all; done) | (refine And.intro ?_ ⟨_, rfl⟩; rename_i g1 g2; simp only [decide_eq_false g1, decide_eq_false g2, Bool.false_and, Bool.or_self]) | skip
theorem shapes1C (f g : AV) (p q : List UInt8 → Bool) (hf : TT f p) (hg : TT g q) (s : List UInt8) (hs : (s.length : Int) < 9223372036854775806) (H : AHeap) : Comp' 85 [str s, .vp [f] 0, .vp [g] 0] H (bool (p s || q s)) := by
  obtain ⟨k1, caps1, rfl, hcl1, hc1⟩ := hf
  obtain ⟨k2, caps2, rfl, hcl2, hc2⟩ := hg
  refine enter Try.func85 L85_ok (Nat.le_of_ble_eq_true rfl) ?_
  have c1 := fun H => hc1 s H hs
  have c2 := fun H => hc2 s H hs
  cases h : p s
  · rw [h] at c1
    repeat' (first | (refine And.intro (by omega) ?_) | (refine callF_pure (c1 _) ?_) | (refine callF_pure (c2 _) ?_) | (refine callQF_pure (c1 _) (by first | rfl | simp only [L85, push_cast]) ?_) | (refine callQF_pure (c2 _) (by first | rfl | simp only [L85, push_cast]) ?_) | simp -implicitDefEqProofs (disch := omega) only [L85, dT_lt, dF_lt, dT_le, dF_le, dT_eq, dF_eq, push_cast, ↓reduceIte, Nat.reduceEqDiff, reduceCtorEq, Nat.reduceAdd, Nat.reduceSub, Nat.reduceMul, Nat.reduceLeDiff, Nat.reduceLT, Nat.reduceMod, Nat.reduceDiv, Int.reduceToNat, Int.reduceLT, Int.reduceLE, Int.reduceEq, Int.reduceAdd, Int.reduceSub, Int.reduceNeg, Int.reduceMul, Bool.and_self] | split)
  · rw [h] at c1
    repeat' (first | (refine And.intro (by omega) ?_) | (refine callF_pure (c1 _) ?_) | (refine callF_pure (c2 _) ?_) | (refine callQF_pure (c1 _) (by first | rfl | simp only [L85, push_cast]) ?_) | (refine callQF_pure (c2 _) (by first | rfl | simp only [L85, push_cast]) ?_) | simp -implicitDefEqProofs (disch := omega) only [L85, dT_lt, dF_lt, dT_le, dF_le, dT_eq, dF_eq, push_cast, ↓reduceIte, Nat.reduceEqDiff, reduceCtorEq, Nat.reduceAdd, Nat.reduceSub, Nat.reduceMul, Nat.reduceLeDiff, Nat.reduceLT, Nat.reduceMod, Nat.reduceDiv, Int.reduceToNat, Int.reduceLT, Int.reduceLE, Int.reduceEq, Int.reduceAdd, Int.reduceSub, Int.reduceNeg, Int.reduceMul, Bool.and_self] | split)
end Go.Proofs.Ytnbdogodcjhfiaa

/- Trees: does a node fit a shape? -/
namespace Go.Proofs.Ytnbdogodcjhfiaa
open Go Go.Ax
set_option maxRecDepth 100000
set_option linter.unusedSimpArgs false
set_option linter.unusedVariables false

/-- The form of a kind of nodes. -/
structure Sh where
  text : List UInt8 → Bool
  kids : List (Int → Bool)
  list : Option (Int → Bool)
  most : Int
/-- A slice of tests. -/
inductive KTs : AV → List (Int → Bool) → Prop
  | nil : KTs nilS []
  | cons {rows : List (List AV)} {ps : List (Int → Bool)} : rows.length = ps.length → ps.length ≤ 10 → (∀ (i : Nat) (p : Int → Bool), ps[i]? = some p → ∃ f, rows.getD i [] = [f] ∧ KT f p) → KTs (.sl 1 rows) ps
def ShL (fl : AV) : Option (Int → Bool) → Prop
  | none => fl = .v .nilFunc
  | some p => KT fl p
def ShA (x : AV) (sh : Sh) : Prop := ∃ ft fk fl, x = .agg [ft, fk, fl, int sh.most] ∧ TT ft sh.text ∧ KTs fk sh.kids ∧ ShL fl sh.list
/-- Does the node fit? -/
def fitsF (sh : Sh) (n : Nd) : Bool := sh.text n.text && (match sh.list with
  | none => decide (n.kids.length = sh.kids.length) && (n.kids.zip sh.kids).all fun mp => mp.2 mp.1.kind
  | some p => decide (sh.most ≤ n.kids.length) && n.kids.all fun m => p m.kind)

theorem kt_fn {f : AV} {p : Int → Bool} (h : KT f p) : c1 f = true ∧ f.cl = true ∧ cellsOf f = [f] := by
  obtain ⟨k, caps, rfl, hcl, _⟩ := h
  exact ⟨rfl, hcl, rfl⟩

theorem kts_c1 {f : AV} {ps : List (Int → Bool)} (h : KTs f ps) : c1 f = true := by cases h <;> rfl
theorem kts_len {f : AV} {ps : List (Int → Bool)} (h : KTs f ps) (H : AHeap) : rLen .slc f H = ⟨True, int ps.length, H⟩ := by
  cases h with
  | nil => simp [rLen, lkOk, verOk, lenOf]
  | cons h1 h2 h3 => simp [rLen, lkOk, verOk, lenOf, h1]

theorem kts_rows {f : AV} {ps : List (Int → Bool)} (h : KTs f ps) (hp : 0 < ps.length) : ∃ rows, f = .sl 1 rows ∧ rows.length = ps.length ∧ ∀ (i : Nat) (p : Int → Bool), ps[i]? = some p → ∃ f, rows.getD i [] = [f] ∧ KT f p := by
  cases h with
  | nil => simp at hp
  | cons h1 h2 h3 => exact ⟨_, rfl, h1, h3⟩
theorem zip_all_true {ks : List Nd} {ps : List (Int → Bool)} (hl : ks.length = ps.length) (h : ∀ i, i < ks.length → ∀ p, ps[i]? = some p → p (ks.getD i default).kind = true) : (ks.zip ps).all (fun mp => mp.2 mp.1.kind) = true := by
  rw [List.all_eq_true]
  intro mp hm
  obtain ⟨i, hi, rfl⟩ := List.mem_iff_getElem.1 hm
  simp only [List.length_zip] at hi
  have := h i (by omega) ps[i] (by simp [show i < ps.length by omega])
  simpa [List.getD_eq_getElem?_getD, show i < ks.length by omega] using this
theorem zip_all_false {ks : List Nd} {ps : List (Int → Bool)} {i : Nat} {p : Int → Bool} (hi : i < ks.length) (hp : ps[i]? = some p) (h : p (ks.getD i default).kind = false) : (ks.zip ps).all (fun mp => mp.2 mp.1.kind) = false := by
  obtain ⟨hi2, rfl⟩ := List.getElem?_eq_some_iff.1 hp
  rw [List.all_eq_false]
  refine ⟨(ks[i], ps[i]), List.mem_iff_getElem.2 ⟨i, by simp; omega, by simp⟩, ?_⟩
  simpa [List.getD_eq_getElem?_getD, hi] using h

theorem fits_text {x : AV} {sh : Sh} (hx : ShA x sh) {n : Nd} (ht : sh.text n.text = false) (hs : (n.text.length : Int) < 9223372036854775806) (H : AHeap) : Comp' 75 [x, .agg (ndR n)] H (bool false) := by
  obtain ⟨ft, fk, fl, rfl, ⟨k1, caps1, rfl, hcl1, hc1⟩, hk, hl⟩ := hx
  refine ACall.drop (R := fun x => x = bool false) ?_
  refine enter Try.func75 L75_ok (Nat.le_of_ble_eq_true rfl) ?_
  have d1 := fun H => hc1 n.text H hs
  rw [ht] at d1
  have hk1 := kts_c1 hk
  have hl1 : c1 fl = true := by
    cases hsl : sh.list with
    | none => rw [hsl] at hl; cases hl; rfl
    | some p => rw [hsl] at hl; exact (kt_fn hl).1
  repeat' (first | (refine And.intro (by omega) ?_) | (refine callF_pure (d1 _) ?_) | (refine callQF_pure (d1 _) (by first | rfl | simp only [L75, cells_agg, nd_c1s, nd_len, nd_drop1, hk1, hl1, push_cast]) ?_) | simp -implicitDefEqProofs (disch := omega) only [L75, cells_agg, nd_c1s, nd_len, nd_drop1, hk1, hl1, dT_lt, dF_lt, dT_le, dF_le, dT_eq, dF_eq, push_cast, ↓reduceIte, Nat.reduceEqDiff, reduceCtorEq, Nat.reduceAdd, Nat.reduceSub, Nat.reduceMul, Nat.reduceLeDiff, Nat.reduceLT, Nat.reduceMod, Nat.reduceDiv, Int.reduceToNat, Int.reduceLT, Int.reduceLE, Int.reduceEq, Int.reduceAdd, Int.reduceSub, Int.reduceNeg, Int.reduceMul, Bool.and_self] | split)
  exact ⟨_, rfl⟩

theorem fits_none {sh : Sh} {ft fk : AV} (hft : TT ft sh.text) (hk : KTs fk sh.kids) (hl : sh.list = none) {n : Nd} (hs : (n.text.length : Int) < 9223372036854775806) (hn : n.kids.length ≤ 1048576) (ht : sh.text n.text = true) (H : AHeap) :
    Comp' 75 [.agg [ft, fk, .v .nilFunc, int sh.most], .agg (ndR n)] H (bool (decide (n.kids.length = sh.kids.length) && (n.kids.zip sh.kids).all fun mp => mp.2 mp.1.kind)) := by
  obtain ⟨k1, caps1, rfl, hcl1, hc1⟩ := hft
  refine ACall.drop (R := fun x => x = bool (decide (n.kids.length = sh.kids.length) && (n.kids.zip sh.kids).all fun mp => mp.2 mp.1.kind)) ?_
  refine enter Try.func75 L75_ok (Nat.le_of_ble_eq_true rfl) ?_
  have d1 := fun H => hc1 n.text H hs
  rw [ht] at d1
  have hk1 := kts_c1 hk
  have hrl := kts_len hk
  by_cases hlen : n.kids.length = sh.kids.length
  · have hkl : sh.kids.length ≤ 1048576 := by omega
    have hlen' : ((n.kids.length : Nat) : Int) = sh.kids.length := by omega
    repeat' (first | (refine And.intro (by omega) ?_) | (refine callF_pure (d1 _) ?_) | (refine callQF_pure (d1 _) (by first | rfl | simp only [L75, cells_agg, nd_c1s, nd_len, nd_drop1, nd_drop4, hk1, hrl, push_cast]) ?_) | simp -implicitDefEqProofs (disch := omega) only [L75, cells_agg, nd_c1s, nd_len, nd_drop1, nd_drop4, hk1, hrl, dT_lt, dF_lt, dT_le, dF_le, dT_eq, dF_eq, push_cast, ↓reduceIte, Nat.reduceEqDiff, reduceCtorEq, Nat.reduceAdd, Nat.reduceSub, Nat.reduceMul, Nat.reduceLeDiff, Nat.reduceLT, Nat.reduceMod, Nat.reduceDiv, Int.reduceToNat, Int.reduceLT, Int.reduceLE, Int.reduceEq, Int.reduceAdd, Int.reduceSub, Int.reduceNeg, Int.reduceMul, Bool.and_self] | split)
    rw [show decide (n.kids.length = sh.kids.length) = true by simp [hlen], Bool.true_and]
    refine rk_loopS (fun (st : Nat × AHeap) e' H' => e' 2 = .ptr H.length 0 0 ∧ e' 42 = .sl 5 (n.kids.map ndR) ∧ e' 43 = int n.kids.length ∧ e' 44 = int st.1 ∧ H' = H ++ (.box [.fn (.func k1) [] caps1, fk, .v .nilFunc, int sh.most] :: .box (ndR n) :: st.2) ∧ st.1 ≤ n.kids.length ∧ ∀ i, i < st.1 → ∀ p, sh.kids[i]? = some p → p (n.kids.getD i default).kind = true) (fun st => n.kids.length - st.1) (0, []) ?_ ?_
    · exact ⟨rfl, rfl, rfl, rfl, rfl, Nat.zero_le _, by simp⟩
    rintro ⟨j, ext⟩ e' H' ⟨h2, h42, h43, h44, rfl, hj, hr⟩
    simp only at h44 hj hr
    by_cases hlt : j < n.kids.length
    · obtain ⟨rows, rfl, hrows, hrow⟩ := kts_rows hk (by omega)
      obtain ⟨q, hq⟩ : ∃ q, sh.kids[j]? = some q := ⟨sh.kids[j]'(by omega), by simp [show j < sh.kids.length by omega]⟩
      obtain ⟨f, hf, k2, caps2, rfl, hcl2, hc2⟩ := hrow j q hq
      have hg : ∀ x : HO, (H ++ HO.box [.fn (.func k1) [] caps1, .sl 1 rows, .v .nilFunc, int sh.most] :: HO.box (ndR n) :: (ext ++ [x]))[H.length + (ext.length + 1 + 1)]? = some x := fun x => by rw [get_add]; simp
      have hs2 : ∀ x y : HO, (H ++ HO.box [.fn (.func k1) [] caps1, .sl 1 rows, .v .nilFunc, int sh.most] :: HO.box (ndR n) :: (ext ++ [x])).set (H.length + (ext.length + 1 + 1)) y = H ++ HO.box [.fn (.func k1) [] caps1, .sl 1 rows, .v .nilFunc, int sh.most] :: HO.box (ndR n) :: (ext ++ [y]) := fun x y => by rw [set_add]; simp
      have d2 := fun H => hc2 (n.kids.getD j default).kind H
      cases hp : q (n.kids.getD j default).kind
      · rw [hp] at d2
        rw [zip_all_false hlt hq hp]
        repeat' (first | (refine And.intro (by omega) ?_) | (refine callF_pure (d2 _) ?_) | (refine callQF_pure (d2 _) (by first | rfl | simp only [h2, h42, h43, h44, rows_getD, nd_len, nd_take, nd_c1s, nd_cellsV, cells_agg, hg, hs2, splice, hrows, hf, push_cast]) ?_) | simp -implicitDefEqProofs (disch := omega) only [h2, h42, h43, h44, rows_getD, nd_len, nd_take, nd_c1s, nd_cellsV, cells_agg, hg, hs2, splice, hrows, hf, dT_lt, dF_lt, dT_le, dF_le, dT_eq, dF_eq, push_cast, ↓reduceIte, Nat.reduceEqDiff, reduceCtorEq, Nat.reduceAdd, Nat.reduceSub, Nat.reduceMul, Nat.reduceLeDiff, Nat.reduceLT, Nat.reduceMod, Nat.reduceDiv, Int.reduceToNat, Int.reduceLT, Int.reduceLE, Int.reduceEq, Int.reduceAdd, Int.reduceSub, Int.reduceNeg, Int.reduceMul, Bool.and_self] | split)
        exact ⟨_, rfl⟩
      · rw [hp] at d2
        repeat' (first | (refine And.intro (by omega) ?_) | (refine callF_pure (d2 _) ?_) | (refine callQF_pure (d2 _) (by first | rfl | simp only [h2, h42, h43, h44, rows_getD, nd_len, nd_take, nd_c1s, nd_cellsV, cells_agg, hg, hs2, splice, hrows, hf, push_cast]) ?_) | simp -implicitDefEqProofs (disch := omega) only [h2, h42, h43, h44, rows_getD, nd_len, nd_take, nd_c1s, nd_cellsV, cells_agg, hg, hs2, splice, hrows, hf, dT_lt, dF_lt, dT_le, dF_le, dT_eq, dF_eq, push_cast, ↓reduceIte, Nat.reduceEqDiff, reduceCtorEq, Nat.reduceAdd, Nat.reduceSub, Nat.reduceMul, Nat.reduceLeDiff, Nat.reduceLT, Nat.reduceMod, Nat.reduceDiv, Int.reduceToNat, Int.reduceLT, Int.reduceLE, Int.reduceEq, Int.reduceAdd, Int.reduceSub, Int.reduceNeg, Int.reduceMul, Bool.and_self] | split)
        exact .mk (j + 1, _) ⟨h2, h42, h43, rfl, rfl, hlt, upto_succ hr fun p hp' => by rw [hq] at hp'; cases hp'; exact hp⟩ (by simp; omega)
    · rw [zip_all_true hlen fun i hi p hp => hr i (by omega) p hp]
      repeat' (first | (refine And.intro (by omega) ?_) | simp -implicitDefEqProofs (disch := omega) only [h2, h42, h43, h44, dT_lt, dF_lt, dT_le, dF_le, dT_eq, dF_eq, push_cast, ↓reduceIte, Nat.reduceEqDiff, reduceCtorEq, Nat.reduceAdd, Nat.reduceSub, Nat.reduceMul, Nat.reduceLeDiff, Nat.reduceLT, Nat.reduceMod, Nat.reduceDiv, Int.reduceToNat, Int.reduceLT, Int.reduceLE, Int.reduceEq, Int.reduceAdd, Int.reduceSub, Int.reduceNeg, Int.reduceMul, Bool.and_self] | split)
      exact ⟨_, rfl⟩
  · have hlen' : ¬ ((n.kids.length : Nat) : Int) = sh.kids.length := by omega
    have e : decide (n.kids.length = sh.kids.length) = false := by simp [hlen]
    rw [e]
    repeat' (first | (refine And.intro (by omega) ?_) | (refine callF_pure (d1 _) ?_) | (refine callQF_pure (d1 _) (by first | rfl | simp only [L75, cells_agg, nd_c1s, nd_len, nd_drop1, nd_drop4, hk1, hrl, push_cast]) ?_) | simp -implicitDefEqProofs (disch := omega) only [L75, cells_agg, nd_c1s, nd_len, nd_drop1, nd_drop4, hk1, hrl, dT_lt, dF_lt, dT_le, dF_le, dT_eq, dF_eq, push_cast, ↓reduceIte, Nat.reduceEqDiff, reduceCtorEq, Nat.reduceAdd, Nat.reduceSub, Nat.reduceMul, Nat.reduceLeDiff, Nat.reduceLT, Nat.reduceMod, Nat.reduceDiv, Int.reduceToNat, Int.reduceLT, Int.reduceLE, Int.reduceEq, Int.reduceAdd, Int.reduceSub, Int.reduceNeg, Int.reduceMul, Bool.and_self] | split)
    exact ⟨_, rfl⟩

theorem all_true {ks : List Nd} {p : Int → Bool} (h : ∀ i, i < ks.length → p (ks.getD i default).kind = true) : ks.all (fun m => p m.kind) = true := by
  rw [List.all_eq_true]
  intro m hm
  obtain ⟨i, hi, rfl⟩ := List.mem_iff_getElem.1 hm
  have := h i hi
  simpa [List.getD_eq_getElem?_getD, hi] using this
theorem all_false {ks : List Nd} {p : Int → Bool} {i : Nat} (hi : i < ks.length) (h : p (ks.getD i default).kind = false) : ks.all (fun m => p m.kind) = false := by
  rw [List.all_eq_false]
  exact ⟨_, getD_mem' hi, by simp only [h]; simp⟩
theorem fits_list {sh : Sh} {ft fk fl : AV} {q : Int → Bool} (hft : TT ft sh.text) (hk : KTs fk sh.kids) (hl : KT fl q) {n : Nd} (hs : (n.text.length : Int) < 9223372036854775806) (hn : n.kids.length ≤ 1048576) (ht : sh.text n.text = true) (H : AHeap) :
    Comp' 75 [.agg [ft, fk, fl, int sh.most], .agg (ndR n)] H (bool (decide (sh.most ≤ n.kids.length) && n.kids.all fun m => q m.kind)) := by
  obtain ⟨k1, caps1, rfl, hcl1, hc1⟩ := hft
  obtain ⟨k2, caps2, rfl, hcl2, hc2⟩ := hl
  refine ACall.drop (R := fun x => x = bool (decide (sh.most ≤ n.kids.length) && n.kids.all fun m => q m.kind)) ?_
  refine enter Try.func75 L75_ok (Nat.le_of_ble_eq_true rfl) ?_
  have d1 := fun H => hc1 n.text H hs
  rw [ht] at d1
  have hk1 := kts_c1 hk
  have hrl := kts_len hk
  by_cases hm : sh.most ≤ n.kids.length
  · rw [show decide (sh.most ≤ (n.kids.length : Int)) = true by simp [hm], Bool.true_and]
    repeat' (first | (refine And.intro (by omega) ?_) | (refine callF_pure (d1 _) ?_) | (refine callQF_pure (d1 _) (by first | rfl | simp only [L75, cells_agg, nd_c1s, nd_len, nd_drop1, nd_drop4, hk1, hrl, push_cast]) ?_) | simp -implicitDefEqProofs (disch := omega) only [L75, cells_agg, nd_c1s, nd_len, nd_drop1, nd_drop4, hk1, hrl, dT_lt, dF_lt, dT_le, dF_le, dT_eq, dF_eq, push_cast, ↓reduceIte, Nat.reduceEqDiff, reduceCtorEq, Nat.reduceAdd, Nat.reduceSub, Nat.reduceMul, Nat.reduceLeDiff, Nat.reduceLT, Nat.reduceMod, Nat.reduceDiv, Int.reduceToNat, Int.reduceLT, Int.reduceLE, Int.reduceEq, Int.reduceAdd, Int.reduceSub, Int.reduceNeg, Int.reduceMul, Bool.and_self] | split)
    refine rk_loopS (fun (st : Nat × AHeap) e' H' => e' 2 = .ptr H.length 0 0 ∧ e' 42 = .sl 5 (n.kids.map ndR) ∧ e' 43 = int n.kids.length ∧ e' 44 = int st.1 ∧ H' = H ++ (.box [.fn (.func k1) [] caps1, fk, .fn (.func k2) [] caps2, int sh.most] :: .box (ndR n) :: st.2) ∧ st.1 ≤ n.kids.length ∧ ∀ i, i < st.1 → q (n.kids.getD i default).kind = true) (fun st => n.kids.length - st.1) (0, []) ?_ ?_
    · exact ⟨rfl, rfl, rfl, rfl, rfl, Nat.zero_le _, by simp⟩
    rintro ⟨j, ext⟩ e' H' ⟨h2, h42, h43, h44, rfl, hj, hr⟩
    simp only at h44 hj hr
    by_cases hlt : j < n.kids.length
    · have hg : ∀ x : HO, (H ++ HO.box [.fn (.func k1) [] caps1, fk, .fn (.func k2) [] caps2, int sh.most] :: HO.box (ndR n) :: (ext ++ [x]))[H.length + (ext.length + 1 + 1)]? = some x := fun x => by rw [get_add]; simp
      have hs2 : ∀ x y : HO, (H ++ HO.box [.fn (.func k1) [] caps1, fk, .fn (.func k2) [] caps2, int sh.most] :: HO.box (ndR n) :: (ext ++ [x])).set (H.length + (ext.length + 1 + 1)) y = H ++ HO.box [.fn (.func k1) [] caps1, fk, .fn (.func k2) [] caps2, int sh.most] :: HO.box (ndR n) :: (ext ++ [y]) := fun x y => by rw [set_add]; simp
      have d2 := fun H => hc2 (n.kids.getD j default).kind H
      cases hp : q (n.kids.getD j default).kind
      · rw [hp] at d2
        rw [all_false hlt hp]
        repeat' (first | (refine And.intro (by omega) ?_) | (refine callF_pure (d2 _) ?_) | (refine callQF_pure (d2 _) (by first | rfl | simp only [h2, h42, h43, h44, rows_getD, nd_len, nd_take, nd_c1s, nd_cellsV, cells_agg, hg, hs2, splice, push_cast]) ?_) | simp -implicitDefEqProofs (disch := omega) only [h2, h42, h43, h44, rows_getD, nd_len, nd_take, nd_c1s, nd_cellsV, cells_agg, hg, hs2, splice, dT_lt, dF_lt, dT_le, dF_le, dT_eq, dF_eq, push_cast, ↓reduceIte, Nat.reduceEqDiff, reduceCtorEq, Nat.reduceAdd, Nat.reduceSub, Nat.reduceMul, Nat.reduceLeDiff, Nat.reduceLT, Nat.reduceMod, Nat.reduceDiv, Int.reduceToNat, Int.reduceLT, Int.reduceLE, Int.reduceEq, Int.reduceAdd, Int.reduceSub, Int.reduceNeg, Int.reduceMul, Bool.and_self] | split)
        exact ⟨_, rfl⟩
      · rw [hp] at d2
        repeat' (first | (refine And.intro (by omega) ?_) | (refine callF_pure (d2 _) ?_) | (refine callQF_pure (d2 _) (by first | rfl | simp only [h2, h42, h43, h44, rows_getD, nd_len, nd_take, nd_c1s, nd_cellsV, cells_agg, hg, hs2, splice, push_cast]) ?_) | simp -implicitDefEqProofs (disch := omega) only [h2, h42, h43, h44, rows_getD, nd_len, nd_take, nd_c1s, nd_cellsV, cells_agg, hg, hs2, splice, dT_lt, dF_lt, dT_le, dF_le, dT_eq, dF_eq, push_cast, ↓reduceIte, Nat.reduceEqDiff, reduceCtorEq, Nat.reduceAdd, Nat.reduceSub, Nat.reduceMul, Nat.reduceLeDiff, Nat.reduceLT, Nat.reduceMod, Nat.reduceDiv, Int.reduceToNat, Int.reduceLT, Int.reduceLE, Int.reduceEq, Int.reduceAdd, Int.reduceSub, Int.reduceNeg, Int.reduceMul, Bool.and_self] | split)
        exact .mk (j + 1, _) ⟨h2, h42, h43, rfl, rfl, hlt, upto_succ hr hp⟩ (by simp; omega)
    · rw [all_true fun i hi => hr i (by omega)]
      repeat' (first | (refine And.intro (by omega) ?_) | simp -implicitDefEqProofs (disch := omega) only [h2, h42, h43, h44, dT_lt, dF_lt, dT_le, dF_le, dT_eq, dF_eq, push_cast, ↓reduceIte, Nat.reduceEqDiff, reduceCtorEq, Nat.reduceAdd, Nat.reduceSub, Nat.reduceMul, Nat.reduceLeDiff, Nat.reduceLT, Nat.reduceMod, Nat.reduceDiv, Int.reduceToNat, Int.reduceLT, Int.reduceLE, Int.reduceEq, Int.reduceAdd, Int.reduceSub, Int.reduceNeg, Int.reduceMul, Bool.and_self] | split)
      exact ⟨_, rfl⟩
  · rw [show decide (sh.most ≤ (n.kids.length : Int)) = false by simp [hm], Bool.false_and]
    repeat' (first | (refine And.intro (by omega) ?_) | (refine callF_pure (d1 _) ?_) | (refine callQF_pure (d1 _) (by first | rfl | simp only [L75, cells_agg, nd_c1s, nd_len, nd_drop1, nd_drop4, hk1, hrl, push_cast]) ?_) | simp -implicitDefEqProofs (disch := omega) only [L75, cells_agg, nd_c1s, nd_len, nd_drop1, nd_drop4, hk1, hrl, dT_lt, dF_lt, dT_le, dF_le, dT_eq, dF_eq, push_cast, ↓reduceIte, Nat.reduceEqDiff, reduceCtorEq, Nat.reduceAdd, Nat.reduceSub, Nat.reduceMul, Nat.reduceLeDiff, Nat.reduceLT, Nat.reduceMod, Nat.reduceDiv, Int.reduceToNat, Int.reduceLT, Int.reduceLE, Int.reduceEq, Int.reduceAdd, Int.reduceSub, Int.reduceNeg, Int.reduceMul, Bool.and_self] | split)
    exact ⟨_, rfl⟩
theorem fitsC {x : AV} {sh : Sh} (hx : ShA x sh) {n : Nd} (hs : (n.text.length : Int) < 9223372036854775806) (hn : n.kids.length ≤ 1048576) (H : AHeap) : Comp' 75 [x, .agg (ndR n)] H (bool (fitsF sh n)) := by
  cases ht : sh.text n.text
  · have := fits_text hx ht hs H
    unfold fitsF
    rw [ht]
    exact this
  · obtain ⟨ft, fk, fl, rfl, h1, h2, h3⟩ := hx
    unfold fitsF
    rw [ht, Bool.true_and]
    cases hl : sh.list with
    | none =>
      rw [hl] at h3
      cases h3
      exact fits_none h1 h2 hl hs hn ht H
    | some q =>
      rw [hl] at h3
      exact fits_list h1 h2 h3 hs hn ht H
end Go.Proofs.Ytnbdogodcjhfiaa

/- Trees: the shapes of all kinds. -/
namespace Go.Proofs.Ytnbdogodcjhfiaa
open Go Go.Ax
set_option maxRecDepth 100000
set_option linter.unusedSimpArgs false
set_option linter.unusedVariables false

def oneV (l : List Int) : AV := .fn (.func 110) [] [.vp [.sl 1 (l.map intR)] 0]
def optV (f : AV) : AV := .fn (.func 112) [] [.vp [f] 0]
def wordV (l : List (List UInt8)) : AV := .fn (.func 113) [] [.vp [.sl 1 (strs l)] 0]
def nameV : AV := .fn (.func 79) [] []
def emptyV : AV := .fn (.func 84) [] []
def numberV : AV := .fn (.func 86) [] []
def typeV : AV := .fn (.func 85) [] [.vp [wordV [intS, boolS]] 0, .vp [nameV] 0]
def exV : AV := .fn (.func 52) [] []
def stV : AV := .fn (.func 54) [] []
def plV : AV := .fn (.func 87) [] []
def tyV : AV := .fn (.func 82) [] []
@[push_cast] theorem cells_oneV (l : List Int) : cellsOf (oneV l) = [oneV l] := rfl
@[push_cast] theorem c1_oneV (l : List Int) : c1 (oneV l) = true := rfl
@[push_cast] theorem cl_oneV (l : List Int) : AV.cl (oneV l) = true := by simp [oneV, AV.cl, clL]
@[push_cast] theorem cells_optV (f : AV) : cellsOf (optV f) = [optV f] := rfl
@[push_cast] theorem c1_optV (f : AV) : c1 (optV f) = true := rfl
@[push_cast] theorem cl_optV (f : AV) : AV.cl (optV f) = true := by simp [optV, AV.cl, clL]
@[push_cast] theorem cells_wordV (l : List (List UInt8)) : cellsOf (wordV l) = [wordV l] := rfl
@[push_cast] theorem c1_wordV (l : List (List UInt8)) : c1 (wordV l) = true := rfl
@[push_cast] theorem cl_wordV (l : List (List UInt8)) : AV.cl (wordV l) = true := by simp [wordV, AV.cl, clL]
@[push_cast] theorem cells_nameV  : cellsOf nameV = [nameV] := rfl
@[push_cast] theorem c1_nameV  : c1 nameV = true := rfl
@[push_cast] theorem cl_nameV  : AV.cl nameV = true := by simp [nameV, AV.cl, clL]
@[push_cast] theorem cells_emptyV  : cellsOf emptyV = [emptyV] := rfl
@[push_cast] theorem c1_emptyV  : c1 emptyV = true := rfl
@[push_cast] theorem cl_emptyV  : AV.cl emptyV = true := by simp [emptyV, AV.cl, clL]
@[push_cast] theorem cells_numberV  : cellsOf numberV = [numberV] := rfl
@[push_cast] theorem c1_numberV  : c1 numberV = true := rfl
@[push_cast] theorem cl_numberV  : AV.cl numberV = true := by simp [numberV, AV.cl, clL]
@[push_cast] theorem cells_typeV  : cellsOf typeV = [typeV] := rfl
@[push_cast] theorem c1_typeV  : c1 typeV = true := rfl
@[push_cast] theorem cl_typeV  : AV.cl typeV = true := by simp [typeV, AV.cl, clL]
@[push_cast] theorem cells_exV  : cellsOf exV = [exV] := rfl
@[push_cast] theorem c1_exV  : c1 exV = true := rfl
@[push_cast] theorem cl_exV  : AV.cl exV = true := by simp [exV, AV.cl, clL]
@[push_cast] theorem cells_stV  : cellsOf stV = [stV] := rfl
@[push_cast] theorem c1_stV  : c1 stV = true := rfl
@[push_cast] theorem cl_stV  : AV.cl stV = true := by simp [stV, AV.cl, clL]
@[push_cast] theorem cells_plV  : cellsOf plV = [plV] := rfl
@[push_cast] theorem c1_plV  : c1 plV = true := rfl
@[push_cast] theorem cl_plV  : AV.cl plV = true := by simp [plV, AV.cl, clL]
@[push_cast] theorem cells_tyV  : cellsOf tyV = [tyV] := rfl
@[push_cast] theorem c1_tyV  : c1 tyV = true := rfl
@[push_cast] theorem cl_tyV  : AV.cl tyV = true := by simp [tyV, AV.cl, clL]
theorem oneC (l : List Int) (H : AHeap) : Comp' 80 [.sl 1 (l.map intR)] H (oneV l) := by
  refine enter Try.func80 L80_ok (Nat.le_of_ble_eq_true rfl) ?_
  repeat' (first | (refine And.intro (by omega) ?_) | simp -implicitDefEqProofs (disch := omega) only [L80, dT_lt, dF_lt, dT_le, dF_le, dT_eq, dF_eq, push_cast, ↓reduceIte, Nat.reduceEqDiff, reduceCtorEq, Nat.reduceAdd, Nat.reduceSub, Nat.reduceMul, Nat.reduceLeDiff, Nat.reduceLT, Nat.reduceMod, Nat.reduceDiv, Int.reduceToNat, Int.reduceLT, Int.reduceLE, Int.reduceEq, Int.reduceAdd, Int.reduceSub, Int.reduceNeg, Int.reduceMul, Bool.and_self] | split)
  rfl
theorem optionalC {f : AV} {p : Int → Bool} (hf : KT f p) (H : AHeap) : Comp' 81 [f] H (optV f) := by
  refine enter Try.func81 L81_ok (Nat.le_of_ble_eq_true rfl) ?_
  obtain ⟨h1, h2, h3⟩ := kt_fn hf
  repeat' (first | (refine And.intro (by omega) ?_) | simp -implicitDefEqProofs (disch := omega) only [L81, h1, h2, h3, dT_lt, dF_lt, dT_le, dF_le, dT_eq, dF_eq, push_cast, ↓reduceIte, Nat.reduceEqDiff, reduceCtorEq, Nat.reduceAdd, Nat.reduceSub, Nat.reduceMul, Nat.reduceLeDiff, Nat.reduceLT, Nat.reduceMod, Nat.reduceDiv, Int.reduceToNat, Int.reduceLT, Int.reduceLE, Int.reduceEq, Int.reduceAdd, Int.reduceSub, Int.reduceNeg, Int.reduceMul, Bool.and_self] | split)
  rfl
theorem wordC (l : List (List UInt8)) (H : AHeap) : Comp' 83 [.sl 1 (strs l)] H (wordV l) := by
  refine enter Try.func83 L83_ok (Nat.le_of_ble_eq_true rfl) ?_
  repeat' (first | (refine And.intro (by omega) ?_) | simp -implicitDefEqProofs (disch := omega) only [L83, dT_lt, dF_lt, dT_le, dF_le, dT_eq, dF_eq, push_cast, ↓reduceIte, Nat.reduceEqDiff, reduceCtorEq, Nat.reduceAdd, Nat.reduceSub, Nat.reduceMul, Nat.reduceLeDiff, Nat.reduceLT, Nat.reduceMod, Nat.reduceDiv, Int.reduceToNat, Int.reduceLT, Int.reduceLE, Int.reduceEq, Int.reduceAdd, Int.reduceSub, Int.reduceNeg, Int.reduceMul, Bool.and_self] | split)
  rfl
theorem kt_one (l : List Int) (hl : l.length ≤ 100) : KT (oneV l) fun k => decide (k ∈ l) := ⟨_, _, rfl, by simp [oneV, AV.cl, clL], fun i H => one1C l i (by omega) H⟩
theorem kt_opt {f : AV} {p : Int → Bool} (hf : KT f p) : KT (optV f) fun k => decide (k = 0) || p k := ⟨_, _, rfl, by simp [optV, AV.cl, clL], fun i H => optional1C f p hf i H⟩
theorem tt_word (l : List (List UInt8)) (hl : l.length ≤ 100) : TT (wordV l) fun s => decide (s ∈ l) := ⟨_, _, rfl, by simp [wordV, AV.cl, clL], fun s H _ => word1C l s (by omega) H⟩
theorem tt_name : TT nameV isName := ⟨_, _, rfl, rfl, fun s H hs => name s H hs⟩
theorem tt_empty : TT emptyV fun s => decide (s = []) := ⟨_, _, rfl, rfl, fun s H _ => emptyC s H⟩
theorem tt_number : TT numberV numF := ⟨_, _, rfl, rfl, fun s H hs => numberT s hs H⟩
theorem tt_type : TT typeV fun s => decide (s ∈ [intS, boolS]) || isName s := ⟨_, _, rfl, by simp [typeV, AV.cl, clL], fun s H hs => shapes1C _ _ _ _ (tt_word _ (by decide)) tt_name s hs H⟩
theorem kt_ex : KT exV isEx := ⟨_, _, rfl, rfl, fun i H => isExpressionC i H⟩
theorem kt_st : KT stV isSt := ⟨_, _, rfl, rfl, fun i H => isStatementC i H⟩
theorem kt_pl : KT plV isPl := ⟨_, _, rfl, rfl, fun i H => isPlaceC i H⟩
theorem kt_ty : KT tyV isTy := ⟨_, _, rfl, rfl, fun i H => isTypeC i H⟩
def shK : List Value := [.int .i64 0, .int .i64 2, .int .i64 3, .int .i64 4, .int .i64 5, .int .i64 6, .int .i64 7, .int .i64 8, .int .i64 9, .int .i64 10, .int .i64 11, .int .i64 12, .int .i64 13, .int .i64 14, .int .i64 15, .int .i64 16, .int .i64 17, .int .i64 18, .int .i64 19, .int .i64 20, .int .i64 21, .int .i64 22, .int .i64 23, .int .i64 24, .int .i64 25, .int .i64 26, .int .i64 27, .int .i64 28, .int .i64 29]
def shX : List AV := [.agg [emptyV, nilS, .v .nilFunc, int 0],
  .agg [emptyV, nilS, oneV [3, 5], int 0],
  .agg [nameV, nilS, oneV [4], int 1],
  .agg [nameV, .sl 1 [[oneV [9]]], .v .nilFunc, int 0],
  .agg [nameV, .sl 1 [[oneV [6]], [optV tyV], [oneV [11]]], .v .nilFunc, int 0],
  .agg [emptyV, nilS, oneV [7, 8], int 0],
  .agg [nameV, .sl 1 [[optV tyV]], .v .nilFunc, int 0],
  .agg [nameV, .sl 1 [[optV tyV]], .v .nilFunc, int 0],
  .agg [typeV, nilS, .v .nilFunc, int 0],
  .agg [numberV, nilS, .v .nilFunc, int 0],
  .agg [emptyV, nilS, stV, int 0],
  .agg [nameV, .sl 1 [[optV tyV], [exV]], .v .nilFunc, int 0],
  .agg [emptyV, .sl 1 [[plV], [exV]], .v .nilFunc, int 0],
  .agg [emptyV, .sl 1 [[exV], [oneV [11]], [optV (oneV [11, 14])]], .v .nilFunc, int 0],
  .agg [emptyV, .sl 1 [[exV], [oneV [11]]], .v .nilFunc, int 0],
  .agg [nameV, .sl 1 [[exV], [exV], [oneV [11]]], .v .nilFunc, int 0],
  .agg [emptyV, .sl 1 [[optV exV]], .v .nilFunc, int 0],
  .agg [emptyV, .sl 1 [[exV]], .v .nilFunc, int 0],
  .agg [nameV, nilS, exV, int 0],
  .agg [nameV, nilS, .v .nilFunc, int 0],
  .agg [emptyV, .sl 1 [[oneV [20]], [exV]], .v .nilFunc, int 0],
  .agg [nameV, .sl 1 [[oneV [20]]], .v .nilFunc, int 0],
  .agg [emptyV, .sl 1 [[oneV [20]]], .v .nilFunc, int 0],
  .agg [numberV, nilS, .v .nilFunc, int 0],
  .agg [wordV [trueS, falseS], nilS, .v .nilFunc, int 0],
  .agg [emptyV, nilS, exV, int 1],
  .agg [nameV, nilS, exV, int 0],
  .agg [wordV [[45], notT], .sl 1 [[exV]], .v .nilFunc, int 0],
  .agg [wordV binL, .sl 1 [[exV], [exV]], .v .nilFunc, int 0]]
/-- The shape of a kind. -/
def shapeOf (k : Int) : Option Sh :=
  if k = 0 then some ⟨fun s => decide (s = []), [], none, 0⟩ else
  if k = 2 then some ⟨fun s => decide (s = []), [], some (fun k => decide (k ∈ ([3, 5] : List Int))), 0⟩ else
  if k = 3 then some ⟨isName, [], some (fun k => decide (k ∈ ([4] : List Int))), 1⟩ else
  if k = 4 then some ⟨isName, [fun k => decide (k ∈ ([9] : List Int))], none, 0⟩ else
  if k = 5 then some ⟨isName, [fun k => decide (k ∈ ([6] : List Int)), fun k => decide (k = 0) || isTy k, fun k => decide (k ∈ ([11] : List Int))], none, 0⟩ else
  if k = 6 then some ⟨fun s => decide (s = []), [], some (fun k => decide (k ∈ ([7, 8] : List Int))), 0⟩ else
  if k = 7 then some ⟨isName, [fun k => decide (k = 0) || isTy k], none, 0⟩ else
  if k = 8 then some ⟨isName, [fun k => decide (k = 0) || isTy k], none, 0⟩ else
  if k = 9 then some ⟨fun s => decide (s ∈ [intS, boolS]) || isName s, [], none, 0⟩ else
  if k = 10 then some ⟨numF, [], none, 0⟩ else
  if k = 11 then some ⟨fun s => decide (s = []), [], some (isSt), 0⟩ else
  if k = 12 then some ⟨isName, [fun k => decide (k = 0) || isTy k, isEx], none, 0⟩ else
  if k = 13 then some ⟨fun s => decide (s = []), [isPl, isEx], none, 0⟩ else
  if k = 14 then some ⟨fun s => decide (s = []), [isEx, fun k => decide (k ∈ ([11] : List Int)), fun k => decide (k = 0) || decide (k ∈ ([11, 14] : List Int))], none, 0⟩ else
  if k = 15 then some ⟨fun s => decide (s = []), [isEx, fun k => decide (k ∈ ([11] : List Int))], none, 0⟩ else
  if k = 16 then some ⟨isName, [isEx, isEx, fun k => decide (k ∈ ([11] : List Int))], none, 0⟩ else
  if k = 17 then some ⟨fun s => decide (s = []), [fun k => decide (k = 0) || isEx k], none, 0⟩ else
  if k = 18 then some ⟨fun s => decide (s = []), [isEx], none, 0⟩ else
  if k = 19 then some ⟨isName, [], some (isEx), 0⟩ else
  if k = 20 then some ⟨isName, [], none, 0⟩ else
  if k = 21 then some ⟨fun s => decide (s = []), [fun k => decide (k ∈ ([20] : List Int)), isEx], none, 0⟩ else
  if k = 22 then some ⟨isName, [fun k => decide (k ∈ ([20] : List Int))], none, 0⟩ else
  if k = 23 then some ⟨fun s => decide (s = []), [fun k => decide (k ∈ ([20] : List Int))], none, 0⟩ else
  if k = 24 then some ⟨numF, [], none, 0⟩ else
  if k = 25 then some ⟨fun s => decide (s ∈ [trueS, falseS]), [], none, 0⟩ else
  if k = 26 then some ⟨fun s => decide (s = []), [], some (isEx), 1⟩ else
  if k = 27 then some ⟨isName, [], some (isEx), 0⟩ else
  if k = 28 then some ⟨fun s => decide (s ∈ [[45], notT]), [isEx], none, 0⟩ else
  if k = 29 then some ⟨fun s => decide (s ∈ binL), [isEx, isEx], none, 0⟩ else
  none
theorem sh_out {k : Int} (h : k < 0 ∨ 29 < k ∨ k = 1) : shapeOf k = none ∧ mget (.int .i64 k) shK shX = none := by
  constructor
  · unfold shapeOf
    repeat rw [if_neg (by omega)]
  · simp only [shK, shX, mget, kEqI]
    repeat rw [if_neg (by simp; omega)]
theorem sh_0 : ∃ sh x, shapeOf 0 = some sh ∧ mget (.int .i64 0) shK shX = some x ∧ ShA x sh := ⟨_, _, rfl, rfl, _, _, _, rfl, tt_empty, .nil, rfl⟩
theorem sh_2 : ∃ sh x, shapeOf 2 = some sh ∧ mget (.int .i64 2) shK shX = some x ∧ ShA x sh := ⟨_, _, rfl, rfl, _, _, _, rfl, tt_empty, .nil, kt_one _ (by decide)⟩
theorem sh_3 : ∃ sh x, shapeOf 3 = some sh ∧ mget (.int .i64 3) shK shX = some x ∧ ShA x sh := ⟨_, _, rfl, rfl, _, _, _, rfl, tt_name, .nil, kt_one _ (by decide)⟩
theorem sh_4 : ∃ sh x, shapeOf 4 = some sh ∧ mget (.int .i64 4) shK shX = some x ∧ ShA x sh := ⟨_, _, rfl, rfl, _, _, _, rfl, tt_name, .cons rfl (by decide) (fun i p hp => by
    match i, hp with
    | 0, hp => cases hp; exact ⟨_, rfl, kt_one _ (by decide)⟩), rfl⟩
theorem sh_5 : ∃ sh x, shapeOf 5 = some sh ∧ mget (.int .i64 5) shK shX = some x ∧ ShA x sh := ⟨_, _, rfl, rfl, _, _, _, rfl, tt_name, .cons rfl (by decide) (fun i p hp => by
    match i, hp with
    | 0, hp => cases hp; exact ⟨_, rfl, kt_one _ (by decide)⟩
    | 1, hp => cases hp; exact ⟨_, rfl, kt_opt kt_ty⟩
    | 2, hp => cases hp; exact ⟨_, rfl, kt_one _ (by decide)⟩), rfl⟩
theorem sh_6 : ∃ sh x, shapeOf 6 = some sh ∧ mget (.int .i64 6) shK shX = some x ∧ ShA x sh := ⟨_, _, rfl, rfl, _, _, _, rfl, tt_empty, .nil, kt_one _ (by decide)⟩
theorem sh_7 : ∃ sh x, shapeOf 7 = some sh ∧ mget (.int .i64 7) shK shX = some x ∧ ShA x sh := ⟨_, _, rfl, rfl, _, _, _, rfl, tt_name, .cons rfl (by decide) (fun i p hp => by
    match i, hp with
    | 0, hp => cases hp; exact ⟨_, rfl, kt_opt kt_ty⟩), rfl⟩
theorem sh_8 : ∃ sh x, shapeOf 8 = some sh ∧ mget (.int .i64 8) shK shX = some x ∧ ShA x sh := ⟨_, _, rfl, rfl, _, _, _, rfl, tt_name, .cons rfl (by decide) (fun i p hp => by
    match i, hp with
    | 0, hp => cases hp; exact ⟨_, rfl, kt_opt kt_ty⟩), rfl⟩
theorem sh_9 : ∃ sh x, shapeOf 9 = some sh ∧ mget (.int .i64 9) shK shX = some x ∧ ShA x sh := ⟨_, _, rfl, rfl, _, _, _, rfl, tt_type, .nil, rfl⟩
theorem sh_10 : ∃ sh x, shapeOf 10 = some sh ∧ mget (.int .i64 10) shK shX = some x ∧ ShA x sh := ⟨_, _, rfl, rfl, _, _, _, rfl, tt_number, .nil, rfl⟩
theorem sh_11 : ∃ sh x, shapeOf 11 = some sh ∧ mget (.int .i64 11) shK shX = some x ∧ ShA x sh := ⟨_, _, rfl, rfl, _, _, _, rfl, tt_empty, .nil, kt_st⟩
theorem sh_12 : ∃ sh x, shapeOf 12 = some sh ∧ mget (.int .i64 12) shK shX = some x ∧ ShA x sh := ⟨_, _, rfl, rfl, _, _, _, rfl, tt_name, .cons rfl (by decide) (fun i p hp => by
    match i, hp with
    | 0, hp => cases hp; exact ⟨_, rfl, kt_opt kt_ty⟩
    | 1, hp => cases hp; exact ⟨_, rfl, kt_ex⟩), rfl⟩
theorem sh_13 : ∃ sh x, shapeOf 13 = some sh ∧ mget (.int .i64 13) shK shX = some x ∧ ShA x sh := ⟨_, _, rfl, rfl, _, _, _, rfl, tt_empty, .cons rfl (by decide) (fun i p hp => by
    match i, hp with
    | 0, hp => cases hp; exact ⟨_, rfl, kt_pl⟩
    | 1, hp => cases hp; exact ⟨_, rfl, kt_ex⟩), rfl⟩
theorem sh_14 : ∃ sh x, shapeOf 14 = some sh ∧ mget (.int .i64 14) shK shX = some x ∧ ShA x sh := ⟨_, _, rfl, rfl, _, _, _, rfl, tt_empty, .cons rfl (by decide) (fun i p hp => by
    match i, hp with
    | 0, hp => cases hp; exact ⟨_, rfl, kt_ex⟩
    | 1, hp => cases hp; exact ⟨_, rfl, kt_one _ (by decide)⟩
    | 2, hp => cases hp; exact ⟨_, rfl, kt_opt (kt_one _ (by decide))⟩), rfl⟩
theorem sh_15 : ∃ sh x, shapeOf 15 = some sh ∧ mget (.int .i64 15) shK shX = some x ∧ ShA x sh := ⟨_, _, rfl, rfl, _, _, _, rfl, tt_empty, .cons rfl (by decide) (fun i p hp => by
    match i, hp with
    | 0, hp => cases hp; exact ⟨_, rfl, kt_ex⟩
    | 1, hp => cases hp; exact ⟨_, rfl, kt_one _ (by decide)⟩), rfl⟩
theorem sh_16 : ∃ sh x, shapeOf 16 = some sh ∧ mget (.int .i64 16) shK shX = some x ∧ ShA x sh := ⟨_, _, rfl, rfl, _, _, _, rfl, tt_name, .cons rfl (by decide) (fun i p hp => by
    match i, hp with
    | 0, hp => cases hp; exact ⟨_, rfl, kt_ex⟩
    | 1, hp => cases hp; exact ⟨_, rfl, kt_ex⟩
    | 2, hp => cases hp; exact ⟨_, rfl, kt_one _ (by decide)⟩), rfl⟩
theorem sh_17 : ∃ sh x, shapeOf 17 = some sh ∧ mget (.int .i64 17) shK shX = some x ∧ ShA x sh := ⟨_, _, rfl, rfl, _, _, _, rfl, tt_empty, .cons rfl (by decide) (fun i p hp => by
    match i, hp with
    | 0, hp => cases hp; exact ⟨_, rfl, kt_opt kt_ex⟩), rfl⟩
theorem sh_18 : ∃ sh x, shapeOf 18 = some sh ∧ mget (.int .i64 18) shK shX = some x ∧ ShA x sh := ⟨_, _, rfl, rfl, _, _, _, rfl, tt_empty, .cons rfl (by decide) (fun i p hp => by
    match i, hp with
    | 0, hp => cases hp; exact ⟨_, rfl, kt_ex⟩), rfl⟩
theorem sh_19 : ∃ sh x, shapeOf 19 = some sh ∧ mget (.int .i64 19) shK shX = some x ∧ ShA x sh := ⟨_, _, rfl, rfl, _, _, _, rfl, tt_name, .nil, kt_ex⟩
theorem sh_20 : ∃ sh x, shapeOf 20 = some sh ∧ mget (.int .i64 20) shK shX = some x ∧ ShA x sh := ⟨_, _, rfl, rfl, _, _, _, rfl, tt_name, .nil, rfl⟩
theorem sh_21 : ∃ sh x, shapeOf 21 = some sh ∧ mget (.int .i64 21) shK shX = some x ∧ ShA x sh := ⟨_, _, rfl, rfl, _, _, _, rfl, tt_empty, .cons rfl (by decide) (fun i p hp => by
    match i, hp with
    | 0, hp => cases hp; exact ⟨_, rfl, kt_one _ (by decide)⟩
    | 1, hp => cases hp; exact ⟨_, rfl, kt_ex⟩), rfl⟩
theorem sh_22 : ∃ sh x, shapeOf 22 = some sh ∧ mget (.int .i64 22) shK shX = some x ∧ ShA x sh := ⟨_, _, rfl, rfl, _, _, _, rfl, tt_name, .cons rfl (by decide) (fun i p hp => by
    match i, hp with
    | 0, hp => cases hp; exact ⟨_, rfl, kt_one _ (by decide)⟩), rfl⟩
theorem sh_23 : ∃ sh x, shapeOf 23 = some sh ∧ mget (.int .i64 23) shK shX = some x ∧ ShA x sh := ⟨_, _, rfl, rfl, _, _, _, rfl, tt_empty, .cons rfl (by decide) (fun i p hp => by
    match i, hp with
    | 0, hp => cases hp; exact ⟨_, rfl, kt_one _ (by decide)⟩), rfl⟩
theorem sh_24 : ∃ sh x, shapeOf 24 = some sh ∧ mget (.int .i64 24) shK shX = some x ∧ ShA x sh := ⟨_, _, rfl, rfl, _, _, _, rfl, tt_number, .nil, rfl⟩
theorem sh_25 : ∃ sh x, shapeOf 25 = some sh ∧ mget (.int .i64 25) shK shX = some x ∧ ShA x sh := ⟨_, _, rfl, rfl, _, _, _, rfl, tt_word _ (by decide), .nil, rfl⟩
theorem sh_26 : ∃ sh x, shapeOf 26 = some sh ∧ mget (.int .i64 26) shK shX = some x ∧ ShA x sh := ⟨_, _, rfl, rfl, _, _, _, rfl, tt_empty, .nil, kt_ex⟩
theorem sh_27 : ∃ sh x, shapeOf 27 = some sh ∧ mget (.int .i64 27) shK shX = some x ∧ ShA x sh := ⟨_, _, rfl, rfl, _, _, _, rfl, tt_name, .nil, kt_ex⟩
theorem sh_28 : ∃ sh x, shapeOf 28 = some sh ∧ mget (.int .i64 28) shK shX = some x ∧ ShA x sh := ⟨_, _, rfl, rfl, _, _, _, rfl, tt_word _ (by decide), .cons rfl (by decide) (fun i p hp => by
    match i, hp with
    | 0, hp => cases hp; exact ⟨_, rfl, kt_ex⟩), rfl⟩
theorem sh_29 : ∃ sh x, shapeOf 29 = some sh ∧ mget (.int .i64 29) shK shX = some x ∧ ShA x sh := ⟨_, _, rfl, rfl, _, _, _, rfl, tt_word _ (by decide), .cons rfl (by decide) (fun i p hp => by
    match i, hp with
    | 0, hp => cases hp; exact ⟨_, rfl, kt_ex⟩
    | 1, hp => cases hp; exact ⟨_, rfl, kt_ex⟩), rfl⟩
end Go.Proofs.Ytnbdogodcjhfiaa

/- Insertions into a new map, in any order. -/
namespace Go.Ax
open Go Go.RowKit
set_option linter.unusedSimpArgs false
set_option linter.unusedVariables false

section
variable {P : Program} {k : List Item} {Q : Out → Env → AHeap → Prop} {e : Env} {H : AHeap}

def insK : LO → Value
  | ⟨_, _, .ins _ _ (.c (.v k)) _⟩ => k
  | _ => default
def insV (e : Env) : LO → AV
  | ⟨_, _, .ins _ _ _ x⟩ => ev e x
  | _ => .any
/-- An insertion of a number's entry into the map in slot m. -/
def IsIns (e : Env) (m : Nat) (o : LO) : Prop := ∃ (i : Int) (x : LX), o = ⟨none, none, .ins .int (.t m) (.c (.v (.int .i64 i))) x⟩ ∧ (ev e x).cl = true

theorem ins_run {m : Nat} {post : List LO} (he : e m = .om H.length 0) : ∀ (σ : List LO) (ks : List Value) (vs : List AV), (∀ o ∈ σ, IsIns e m o) → (∀ k ∈ ks, ∃ i : Int, k = .int .i64 i) → (ks ++ σ.map insK).Nodup →
    runK P (.ops post :: k) Q .normal e (H ++ [.map 0 (ks ++ σ.map insK) (vs ++ σ.map (insV e))]) → runK P (.ops (σ ++ post) :: k) Q .normal e (H ++ [.map 0 ks vs])
  | [], ks, vs, _, _, _, h => by simpa using h
  | o :: σ, ks, vs, hi, hk, hn, h => by
    obtain ⟨i, x, rfl, hx⟩ := hi o (by simp)
    have hfresh : ∀ k' ∈ ks, kCmp (.int .i64 i) k' = true ∧ kEq (.int .i64 i) k' = false := by
      intro k' hk'
      obtain ⟨i', rfl⟩ := hk k' hk'
      refine ⟨by simp [kCmp], ?_⟩
      rw [kEqI, decide_eq_false_iff_not]
      rintro rfl
      rw [List.nodup_append] at hn
      exact hn.2.2 _ hk' (.int .i64 i) (by simp [insK]) rfl
    show runK P (.ops (⟨none, none, .ins .int (.t m) (.c (.v (.int .i64 i))) x⟩ :: (σ ++ post)) :: k) Q .normal e (H ++ [.map 0 ks vs])
    rw [rk_op, opK_ins]
    have hr : rIns .int (ev e (.t m)) (keyV (ev e (.c (.v (.int .i64 i))))) (ev e x) (H ++ [.map 0 ks vs]) = ⟨0 = 0 ∧ (∀ k' ∈ ks, kCmp (.int .i64 i) k' = true ∧ kEq (.int .i64 i) k' = false) ∧ kIs .int (.int .i64 i) = true ∧ (ev e x).cl = true, .any, H ++ [.map 0 (ks ++ [.int .i64 i]) (vs ++ [ev e x])]⟩ := by
      show rIns .int (e m) (.v (.int .i64 i)) _ _ = _
      rw [he]
      simp [rIns, ev]
    rw [hr, goK_mk]
    refine ⟨⟨rfl, hfresh, rfl, hx⟩, ?_⟩
    have hkn : (ks ++ [Value.int .i64 i]) ++ σ.map insK = ks ++ (⟨none, none, .ins .int (.t m) (.c (.v (.int .i64 i))) x⟩ :: σ : List LO).map insK := by simp [insK]
    have hvn : (vs ++ [ev e x]) ++ σ.map (insV e) = vs ++ (⟨none, none, .ins .int (.t m) (.c (.v (.int .i64 i))) x⟩ :: σ : List LO).map (insV e) := by simp [insV]
    refine ins_run he σ _ _ (fun o ho => hi o (by simp [ho])) (fun k' hk' => ?_) (by rw [hkn]; exact hn) (by rw [hkn, hvn]; exact h)
    rcases List.mem_append.1 hk' with hk' | hk'
    · exact hk k' hk'
    · simp at hk'; exact ⟨i, hk'⟩

theorem mget_some {i : Int} {x : AV} : ∀ {l : List LO}, (∀ o ∈ l, ∃ i : Int, insK o = .int .i64 i) → (l.map insK).Nodup → (mget (.int .i64 i) (l.map insK) (l.map (insV e)) = some x ↔ ∃ o ∈ l, insK o = .int .i64 i ∧ insV e o = x)
  | [], _, _ => by simp [mget]
  | o :: l, hi, hn => by
    obtain ⟨i', hi'⟩ := hi o (by simp)
    simp only [List.map_cons, List.nodup_cons] at hn
    simp only [List.map_cons, mget, hi', kEqI, decide_eq_true_eq, List.mem_cons, exists_eq_or_imp]
    by_cases h : i = i'
    · subst h
      rw [if_pos rfl]
      constructor
      · intro hh; exact .inl ⟨rfl, by simpa using hh⟩
      · rintro (⟨_, hh⟩ | ⟨o', ho', hk, _⟩)
        · simpa using hh
        · exact absurd (List.mem_map.2 ⟨o', ho', hk.trans hi'.symm⟩) hn.1
    · rw [if_neg h, mget_some (fun o ho => hi o (by simp [ho])) hn.2]
      constructor
      · intro hh; exact .inr hh
      · rintro (⟨hk, _⟩ | hh)
        · injection hk with _ h2; exact absurd h2.symm h
        · exact hh
/-- A map looks up the same, in whatever order its entries came. -/
theorem mget_perm {i : Int} {σ l : List LO} (hp : σ.Perm l) (hi : ∀ o ∈ l, ∃ i : Int, insK o = .int .i64 i) (hn : (l.map insK).Nodup) : mget (.int .i64 i) (σ.map insK) (σ.map (insV e)) = mget (.int .i64 i) (l.map insK) (l.map (insV e)) := by
  have hi' : ∀ o ∈ σ, ∃ i : Int, insK o = .int .i64 i := fun o ho => hi o (hp.mem_iff.1 ho)
  have hn' : (σ.map insK).Nodup := (hp.map insK).nodup_iff.2 hn
  apply Option.ext
  intro x
  rw [mget_some hi' hn', mget_some hi hn]
  exact ⟨fun ⟨o, h1, h2⟩ => ⟨o, hp.mem_iff.1 h1, h2⟩, fun ⟨o, h1, h2⟩ => ⟨o, hp.mem_iff.2 h1, h2⟩⟩
end
end Go.Ax

/- Trees: the shapes of all kinds, as the program makes them. -/
namespace Go.Proofs.Ytnbdogodcjhfiaa
open Go Go.Ax
set_option maxRecDepth 100000
set_option linter.unusedSimpArgs false
set_option linter.unusedVariables false

theorem shK_nodup : shK.Nodup := by simp [shK]
theorem shapesC (H : AHeap) : ACall Try.prog 56 [] H fun x H' => (∃ ks vs, x = .mp ks vs ∧ (∀ k' ∈ ks, ∃ i : Int, k' = .int .i64 i) ∧ ∀ i : Int, mget (.int .i64 i) ks vs = mget (.int .i64 i) shK shX) ∧ H' = H := by
  refine ACall.drop (R := fun x => ∃ ks vs, x = .mp ks vs ∧ (∀ k' ∈ ks, ∃ i : Int, k' = .int .i64 i) ∧ ∀ i : Int, mget (.int .i64 i) ks vs = mget (.int .i64 i) shK shX) ?_
  refine enter Try.func56 L56_ok (Nat.le_of_ble_eq_true rfl) ?_
  repeat' (first | (refine And.intro (by omega) ?_) | (refine callF_pure (oneC [11] _) ?_) | (refine callF_pure (oneC [3, 5] _) ?_) | (refine callF_pure (oneC [4] _) ?_) | (refine callF_pure (oneC [9] _) ?_) | (refine callF_pure (oneC [6] _) ?_) | (refine callF_pure (oneC [7, 8] _) ?_) | (refine callF_pure (oneC [11, 14] _) ?_) | (refine callF_pure (oneC [20] _) ?_) | (refine callF_pure (optionalC kt_ty _) ?_) | (refine callF_pure (optionalC kt_ex _) ?_) | (refine callF_pure (optionalC (kt_one [11, 14] (by decide)) _) ?_) | (refine callF_pure (wordC [intS, boolS] _) ?_) | (refine callF_pure (wordC [trueS, falseS] _) ?_) | (refine callF_pure (wordC [[45], notT] _) ?_) | (refine callF_pure (wordC binL _) ?_) | (refine callQF_pure (oneC [11] _) (by first | rfl | simp only [L56, splice, push_cast]) ?_) | (refine callQF_pure (oneC [3, 5] _) (by first | rfl | simp only [L56, splice, push_cast]) ?_) | (refine callQF_pure (oneC [4] _) (by first | rfl | simp only [L56, splice, push_cast]) ?_) | (refine callQF_pure (oneC [9] _) (by first | rfl | simp only [L56, splice, push_cast]) ?_) | (refine callQF_pure (oneC [6] _) (by first | rfl | simp only [L56, splice, push_cast]) ?_) | (refine callQF_pure (oneC [7, 8] _) (by first | rfl | simp only [L56, splice, push_cast]) ?_) | (refine callQF_pure (oneC [11, 14] _) (by first | rfl | simp only [L56, splice, push_cast]) ?_) | (refine callQF_pure (oneC [20] _) (by first | rfl | simp only [L56, splice, push_cast]) ?_) | (refine callQF_pure (optionalC kt_ty _) (by first | rfl | simp only [L56, splice, push_cast]) ?_) | (refine callQF_pure (optionalC kt_ex _) (by first | rfl | simp only [L56, splice, push_cast]) ?_) | (refine callQF_pure (optionalC (kt_one [11, 14] (by decide)) _) (by first | rfl | simp only [L56, splice, push_cast]) ?_) | (refine callQF_pure (wordC [intS, boolS] _) (by first | rfl | simp only [L56, splice, push_cast]) ?_) | (refine callQF_pure (wordC [trueS, falseS] _) (by first | rfl | simp only [L56, splice, push_cast]) ?_) | (refine callQF_pure (wordC [[45], notT] _) (by first | rfl | simp only [L56, splice, push_cast]) ?_) | (refine callQF_pure (wordC binL _) (by first | rfl | simp only [L56, splice, push_cast]) ?_) | simp -implicitDefEqProofs (disch := omega) only [L56, splice, dT_lt, dF_lt, dT_le, dF_le, dT_eq, dF_eq, push_cast, ↓reduceIte, Nat.reduceEqDiff, reduceCtorEq, Nat.reduceAdd, Nat.reduceSub, Nat.reduceMul, Nat.reduceLeDiff, Nat.reduceLT, Nat.reduceMod, Nat.reduceDiv, Int.reduceToNat, Int.reduceLT, Int.reduceLE, Int.reduceEq, Int.reduceAdd, Int.reduceSub, Int.reduceNeg, Int.reduceMul, Bool.and_self] | split)
  refine rk_drawM (fun e' => e' 12 = .agg [emptyV, nilS, .v .nilFunc, int 0] ∧ e' 15 = .agg [emptyV, nilS, oneV [3, 5], int 0] ∧ e' 19 = .agg [nameV, nilS, oneV [4], int 1] ∧ e' 24 = .agg [nameV, .sl 1 [[oneV [9]]], .v .nilFunc, int 0] ∧ e' 31 = .agg [nameV, .sl 1 [[oneV [6]], [optV tyV], [oneV [11]]], .v .nilFunc, int 0] ∧ e' 34 = .agg [emptyV, nilS, oneV [7, 8], int 0] ∧ e' 38 = .agg [nameV, .sl 1 [[optV tyV]], .v .nilFunc, int 0] ∧ e' 42 = .agg [nameV, .sl 1 [[optV tyV]], .v .nilFunc, int 0] ∧ e' 44 = .agg [typeV, nilS, .v .nilFunc, int 0] ∧ e' 45 = .agg [numberV, nilS, .v .nilFunc, int 0] ∧ e' 46 = .agg [emptyV, nilS, stV, int 0] ∧ e' 51 = .agg [nameV, .sl 1 [[optV tyV], [exV]], .v .nilFunc, int 0] ∧ e' 54 = .agg [emptyV, .sl 1 [[plV], [exV]], .v .nilFunc, int 0] ∧ e' 61 = .agg [emptyV, .sl 1 [[exV], [oneV [11]], [optV (oneV [11, 14])]], .v .nilFunc, int 0] ∧ e' 65 = .agg [emptyV, .sl 1 [[exV], [oneV [11]]], .v .nilFunc, int 0] ∧ e' 71 = .agg [nameV, .sl 1 [[exV], [exV], [oneV [11]]], .v .nilFunc, int 0] ∧ e' 75 = .agg [emptyV, .sl 1 [[optV exV]], .v .nilFunc, int 0] ∧ e' 78 = .agg [emptyV, .sl 1 [[exV]], .v .nilFunc, int 0] ∧ e' 81 = .agg [nameV, nilS, exV, int 0] ∧ e' 83 = .agg [nameV, nilS, .v .nilFunc, int 0] ∧ e' 88 = .agg [emptyV, .sl 1 [[oneV [20]], [exV]], .v .nilFunc, int 0] ∧ e' 93 = .agg [nameV, .sl 1 [[oneV [20]]], .v .nilFunc, int 0] ∧ e' 97 = .agg [emptyV, .sl 1 [[oneV [20]]], .v .nilFunc, int 0] ∧ e' 98 = .agg [numberV, nilS, .v .nilFunc, int 0] ∧ e' 101 = .agg [wordV [trueS, falseS], nilS, .v .nilFunc, int 0] ∧ e' 103 = .agg [emptyV, nilS, exV, int 1] ∧ e' 106 = .agg [nameV, nilS, exV, int 0] ∧ e' 111 = .agg [wordV [[45], notT], .sl 1 [[exV]], .v .nilFunc, int 0] ∧ e' 117 = .agg [wordV binL, .sl 1 [[exV], [exV]], .v .nilFunc, int 0]) ?_ ?_
  · repeat' (first | (refine And.intro (by omega) ?_) | (refine callF_pure (oneC [11] _) ?_) | (refine callF_pure (oneC [3, 5] _) ?_) | (refine callF_pure (oneC [4] _) ?_) | (refine callF_pure (oneC [9] _) ?_) | (refine callF_pure (oneC [6] _) ?_) | (refine callF_pure (oneC [7, 8] _) ?_) | (refine callF_pure (oneC [11, 14] _) ?_) | (refine callF_pure (oneC [20] _) ?_) | (refine callF_pure (optionalC kt_ty _) ?_) | (refine callF_pure (optionalC kt_ex _) ?_) | (refine callF_pure (optionalC (kt_one [11, 14] (by decide)) _) ?_) | (refine callF_pure (wordC [intS, boolS] _) ?_) | (refine callF_pure (wordC [trueS, falseS] _) ?_) | (refine callF_pure (wordC [[45], notT] _) ?_) | (refine callF_pure (wordC binL _) ?_) | (refine callQF_pure (oneC [11] _) (by first | rfl | simp only [push_cast]) ?_) | (refine callQF_pure (oneC [3, 5] _) (by first | rfl | simp only [push_cast]) ?_) | (refine callQF_pure (oneC [4] _) (by first | rfl | simp only [push_cast]) ?_) | (refine callQF_pure (oneC [9] _) (by first | rfl | simp only [push_cast]) ?_) | (refine callQF_pure (oneC [6] _) (by first | rfl | simp only [push_cast]) ?_) | (refine callQF_pure (oneC [7, 8] _) (by first | rfl | simp only [push_cast]) ?_) | (refine callQF_pure (oneC [11, 14] _) (by first | rfl | simp only [push_cast]) ?_) | (refine callQF_pure (oneC [20] _) (by first | rfl | simp only [push_cast]) ?_) | (refine callQF_pure (optionalC kt_ty _) (by first | rfl | simp only [push_cast]) ?_) | (refine callQF_pure (optionalC kt_ex _) (by first | rfl | simp only [push_cast]) ?_) | (refine callQF_pure (optionalC (kt_one [11, 14] (by decide)) _) (by first | rfl | simp only [push_cast]) ?_) | (refine callQF_pure (wordC [intS, boolS] _) (by first | rfl | simp only [push_cast]) ?_) | (refine callQF_pure (wordC [trueS, falseS] _) (by first | rfl | simp only [push_cast]) ?_) | (refine callQF_pure (wordC [[45], notT] _) (by first | rfl | simp only [push_cast]) ?_) | (refine callQF_pure (wordC binL _) (by first | rfl | simp only [push_cast]) ?_) | simp -implicitDefEqProofs (disch := omega) only [dT_lt, dF_lt, dT_le, dF_le, dT_eq, dF_eq, push_cast, ↓reduceIte, Nat.reduceEqDiff, reduceCtorEq, Nat.reduceAdd, Nat.reduceSub, Nat.reduceMul, Nat.reduceLeDiff, Nat.reduceLT, Nat.reduceMod, Nat.reduceDiv, Int.reduceToNat, Int.reduceLT, Int.reduceLE, Int.reduceEq, Int.reduceAdd, Int.reduceSub, Int.reduceNeg, Int.reduceMul, Bool.and_self] | split)
    and_intros <;> rfl
  · rintro e' ⟨j12, j15, j19, j24, j31, j34, j38, j42, j44, j45, j46, j51, j54, j61, j65, j71, j75, j78, j81, j83, j88, j93, j97, j98, j101, j103, j106, j111, j117⟩ σ hσ
    simp only [List.cons_append, List.nil_append]
    rw [rk_op, opK_mkmap, goK_mk]
    refine ⟨trivial, ?_⟩
    generalize hE : ups e' (some 11) _ = E
    have k11 : E 11 = .om (H ++ [HO.dead, HO.dead]).length 0 := by rw [← hE]; simp [ups, up]
    have k12 : E 12 = _ := (show E 12 = e' 12 by rw [← hE]; simp [ups, up]).trans j12
    have k15 : E 15 = _ := (show E 15 = e' 15 by rw [← hE]; simp [ups, up]).trans j15
    have k19 : E 19 = _ := (show E 19 = e' 19 by rw [← hE]; simp [ups, up]).trans j19
    have k24 : E 24 = _ := (show E 24 = e' 24 by rw [← hE]; simp [ups, up]).trans j24
    have k31 : E 31 = _ := (show E 31 = e' 31 by rw [← hE]; simp [ups, up]).trans j31
    have k34 : E 34 = _ := (show E 34 = e' 34 by rw [← hE]; simp [ups, up]).trans j34
    have k38 : E 38 = _ := (show E 38 = e' 38 by rw [← hE]; simp [ups, up]).trans j38
    have k42 : E 42 = _ := (show E 42 = e' 42 by rw [← hE]; simp [ups, up]).trans j42
    have k44 : E 44 = _ := (show E 44 = e' 44 by rw [← hE]; simp [ups, up]).trans j44
    have k45 : E 45 = _ := (show E 45 = e' 45 by rw [← hE]; simp [ups, up]).trans j45
    have k46 : E 46 = _ := (show E 46 = e' 46 by rw [← hE]; simp [ups, up]).trans j46
    have k51 : E 51 = _ := (show E 51 = e' 51 by rw [← hE]; simp [ups, up]).trans j51
    have k54 : E 54 = _ := (show E 54 = e' 54 by rw [← hE]; simp [ups, up]).trans j54
    have k61 : E 61 = _ := (show E 61 = e' 61 by rw [← hE]; simp [ups, up]).trans j61
    have k65 : E 65 = _ := (show E 65 = e' 65 by rw [← hE]; simp [ups, up]).trans j65
    have k71 : E 71 = _ := (show E 71 = e' 71 by rw [← hE]; simp [ups, up]).trans j71
    have k75 : E 75 = _ := (show E 75 = e' 75 by rw [← hE]; simp [ups, up]).trans j75
    have k78 : E 78 = _ := (show E 78 = e' 78 by rw [← hE]; simp [ups, up]).trans j78
    have k81 : E 81 = _ := (show E 81 = e' 81 by rw [← hE]; simp [ups, up]).trans j81
    have k83 : E 83 = _ := (show E 83 = e' 83 by rw [← hE]; simp [ups, up]).trans j83
    have k88 : E 88 = _ := (show E 88 = e' 88 by rw [← hE]; simp [ups, up]).trans j88
    have k93 : E 93 = _ := (show E 93 = e' 93 by rw [← hE]; simp [ups, up]).trans j93
    have k97 : E 97 = _ := (show E 97 = e' 97 by rw [← hE]; simp [ups, up]).trans j97
    have k98 : E 98 = _ := (show E 98 = e' 98 by rw [← hE]; simp [ups, up]).trans j98
    have k101 : E 101 = _ := (show E 101 = e' 101 by rw [← hE]; simp [ups, up]).trans j101
    have k103 : E 103 = _ := (show E 103 = e' 103 by rw [← hE]; simp [ups, up]).trans j103
    have k106 : E 106 = _ := (show E 106 = e' 106 by rw [← hE]; simp [ups, up]).trans j106
    have k111 : E 111 = _ := (show E 111 = e' 111 by rw [← hE]; simp [ups, up]).trans j111
    have k117 : E 117 = _ := (show E 117 = e' 117 by rw [← hE]; simp [ups, up]).trans j117
    clear hE
    have hk : (σ.map insK).Nodup := (hσ.map insK).nodup_iff.2 shK_nodup
    have hi : ∀ o ∈ σ, ∃ i : Int, insK o = .int .i64 i := fun o ho => by
      have hm := hσ.mem_iff.1 ho
      simp only [List.mem_cons, List.not_mem_nil, or_false] at hm
      rcases hm with rfl | rfl | rfl | rfl | rfl | rfl | rfl | rfl | rfl | rfl | rfl | rfl | rfl | rfl | rfl | rfl | rfl | rfl | rfl | rfl | rfl | rfl | rfl | rfl | rfl | rfl | rfl | rfl | rfl <;> exact ⟨_, rfl⟩
    refine ins_run k11 σ [] [] (fun o ho => ?_) (by simp) (by simpa using hk) ?_
    · have hm := hσ.mem_iff.1 ho
      simp only [List.mem_cons, List.not_mem_nil, or_false] at hm
      rcases hm with rfl | rfl | rfl | rfl | rfl | rfl | rfl | rfl | rfl | rfl | rfl | rfl | rfl | rfl | rfl | rfl | rfl | rfl | rfl | rfl | rfl | rfl | rfl | rfl | rfl | rfl | rfl | rfl | rfl
      all_goals refine ⟨_, _, rfl, ?_⟩
      all_goals simp only [ev_t, k12, k15, k19, k24, k31, k34, k38, k42, k44, k45, k46, k51, k54, k61, k65, k71, k75, k78, k81, k83, k88, k93, k97, k98, k101, k103, k106, k111, k117]
      all_goals simp [AV.cl, clL, cl_oneV, cl_optV, cl_wordV, cl_nameV, cl_emptyV, cl_numberV, cl_typeV, cl_exV, cl_stV, cl_plV, cl_tyV]
    · simp only [List.nil_append]
      have hgt : (H ++ [HO.dead, HO.dead] ++ [HO.map 0 (σ.map insK) (σ.map (insV E))])[(H ++ [HO.dead, HO.dead]).length]? = some (HO.map 0 (σ.map insK) (σ.map (insV E))) := get_len _ _ _
      generalize hL : (H ++ [HO.dead, HO.dead]).length = L at k11 hgt
      have hst : ∀ o, (H ++ [HO.dead, HO.dead] ++ [HO.map 0 (σ.map insK) (σ.map (insV E))]).set L o = H ++ [HO.dead, HO.dead, o] := fun o => by rw [← hL, set_len]; simp
      generalize hHH : H ++ [HO.dead, HO.dead] ++ [HO.map 0 (σ.map insK) (σ.map (insV E))] = HH at hgt hst
      have hfrz : rFrz (.om L 0) HH = ⟨0 = 0, .mp (σ.map insK) (σ.map (insV E)), HH.set L .dead⟩ := by unfold rFrz; simp only [hgt]
      repeat' (first | (refine And.intro (by omega) ?_) | simp -implicitDefEqProofs (disch := omega) only [k11, hfrz, hst, dT_lt, dF_lt, dT_le, dF_le, dT_eq, dF_eq, push_cast, ↓reduceIte, Nat.reduceEqDiff, reduceCtorEq, Nat.reduceAdd, Nat.reduceSub, Nat.reduceMul, Nat.reduceLeDiff, Nat.reduceLT, Nat.reduceMod, Nat.reduceDiv, Int.reduceToNat, Int.reduceLT, Int.reduceLE, Int.reduceEq, Int.reduceAdd, Int.reduceSub, Int.reduceNeg, Int.reduceMul, Bool.and_self] | split)
      refine ⟨⟨_, _, rfl, fun k' hk' => ?_, fun i => ?_⟩, _, rfl⟩
      · obtain ⟨o, ho, rfl⟩ := List.mem_map.1 hk'
        exact hi o ho
      · rw [mget_perm hσ (fun o ho => hi o (hσ.mem_iff.2 ho)) shK_nodup]
        simp only [List.map_cons, List.map_nil, insK, insV, ev_t, k12, k15, k19, k24, k31, k34, k38, k42, k44, k45, k46, k51, k54, k61, k65, k71, k75, k78, k81, k83, k88, k93, k97, k98, k101, k103, k106, k111, k117]
        rfl
end Go.Proofs.Ytnbdogodcjhfiaa

/- Trees: which have their shapes. -/
namespace Go.Proofs.Ytnbdogodcjhfiaa
open Go Go.Ax
set_option maxRecDepth 100000
set_option linter.unusedSimpArgs false
set_option linter.unusedVariables false

theorem sh_all (k : Int) : (shapeOf k = none ∧ mget (.int .i64 k) shK shX = none) ∨ ∃ sh x, shapeOf k = some sh ∧ mget (.int .i64 k) shK shX = some x ∧ ShA x sh := by
  rcases kind_cases k with h | rfl | rfl | rfl | rfl | rfl | rfl | rfl | rfl | rfl | rfl | rfl | rfl | rfl | rfl | rfl | rfl | rfl | rfl | rfl | rfl | rfl | rfl | rfl | rfl | rfl | rfl | rfl | rfl | rfl | rfl
  · exact .inl (sh_out (by omega))
  · exact .inr sh_0
  · exact .inl (sh_out (by omega))
  · exact .inr sh_2
  · exact .inr sh_3
  · exact .inr sh_4
  · exact .inr sh_5
  · exact .inr sh_6
  · exact .inr sh_7
  · exact .inr sh_8
  · exact .inr sh_9
  · exact .inr sh_10
  · exact .inr sh_11
  · exact .inr sh_12
  · exact .inr sh_13
  · exact .inr sh_14
  · exact .inr sh_15
  · exact .inr sh_16
  · exact .inr sh_17
  · exact .inr sh_18
  · exact .inr sh_19
  · exact .inr sh_20
  · exact .inr sh_21
  · exact .inr sh_22
  · exact .inr sh_23
  · exact .inr sh_24
  · exact .inr sh_25
  · exact .inr sh_26
  · exact .inr sh_27
  · exact .inr sh_28
  · exact .inr sh_29

theorem cmp_all {ks : List Value} (h : ∀ k' ∈ ks, ∃ i : Int, k' = .int .i64 i) (k : Int) : (∀ k' ∈ ks, kCmp (.int .i64 k) k' = true) = True := by
  refine eq_true fun k' hk => ?_
  obtain ⟨i, rfl⟩ := h k' hk
  simp [kCmp]
/-- Has the node its shape? -/
def locP (m : Nd) : Bool := match shapeOf m.kind with
  | none => false
  | some sh => fitsF sh m && (!decide (m.kind = 4) || (decide ((m.kids.getD 0 default).text = intS) || decide ((m.kids.getD 0 default).text = boolS)))
def shapedF (n : Nd) : Bool := (nds n).all locP
theorem sml_text {n : Nd} (h : Sml n) : (n.text.length : Int) < 9223372036854775806 := by
  have := bulk_nd n
  unfold Sml at h
  omega
theorem fits4 {m : Nd} {sh : Sh} (h : shapeOf m.kind = some sh) (hk : m.kind = 4) (hf : fitsF sh m = true) : m.kids.length = 1 := by
  rw [hk] at h
  cases h
  simp [fitsF] at hf
  exact hf.2.1

theorem shl_c1 {f : AV} {o : Option (Int → Bool)} (h : ShL f o) : c1 f = true := by
  cases o with
  | none => cases h; rfl
  | some p => exact (kt_fn h).1

theorem shapedC (n : Nd) (hs : Sml n) (H : AHeap) : Comp' 50 [.agg (ndR n)] H (bool (shapedF n)) := by
  refine ACall.drop (R := fun x => x = bool (shapedF n)) ?_
  refine enter Try.func50 L50_ok (Nat.le_of_ble_eq_true rfl) ?_
  simp -implicitDefEqProofs (disch := omega) only [L50, cells_agg, nd_c1s, nd_len, nd_take, splice, dT_lt, dF_lt, dT_le, dF_le, dT_eq, dF_eq, push_cast, ↓reduceIte, Nat.reduceEqDiff, reduceCtorEq, Nat.reduceAdd, Nat.reduceSub, Nat.reduceMul, Nat.reduceLeDiff, Nat.reduceLT, Nat.reduceMod, Nat.reduceDiv, Int.reduceToNat, Int.reduceLT, Int.reduceLE, Int.reduceEq, Int.reduceAdd, Int.reduceSub, Int.reduceNeg, Int.reduceMul, Bool.and_self]
  refine callF_mono (shapesC _) ?_
  rintro y H' ⟨⟨ks, vs, rfl, hk, hm⟩, rfl⟩
  simp -implicitDefEqProofs (disch := omega) only [cells_agg, nd_c1s, nd_len, nd_take, splice, dT_lt, dF_lt, dT_le, dF_le, dT_eq, dF_eq, push_cast, ↓reduceIte, Nat.reduceEqDiff, reduceCtorEq, Nat.reduceAdd, Nat.reduceSub, Nat.reduceMul, Nat.reduceLeDiff, Nat.reduceLT, Nat.reduceMod, Nat.reduceDiv, Int.reduceToNat, Int.reduceLT, Int.reduceLE, Int.reduceEq, Int.reduceAdd, Int.reduceSub, Int.reduceNeg, Int.reduceMul, Bool.and_self]
  refine callF_mono (nodesC n _) ?_
  rintro y H' ⟨rfl, rfl⟩
  simp -implicitDefEqProofs (disch := omega) only [dT_lt, dF_lt, dT_le, dF_le, dT_eq, dF_eq, push_cast, ↓reduceIte, Nat.reduceEqDiff, reduceCtorEq, Nat.reduceAdd, Nat.reduceSub, Nat.reduceMul, Nat.reduceLeDiff, Nat.reduceLT, Nat.reduceMod, Nat.reduceDiv, Int.reduceToNat, Int.reduceLT, Int.reduceLE, Int.reduceEq, Int.reduceAdd, Int.reduceSub, Int.reduceNeg, Int.reduceMul, Bool.and_self]
  refine rk_rangeE rfl ?_
  intro E hE l lr hr
  have h3 : E 3 = .ptr (H.length + 1) 0 0 := hE 3
  have h4 : E 4 = .ptr (H.length + 2) 0 0 := hE 4
  clear hE
  obtain ⟨Hs, hHs⟩ : ∃ Hs : List Nd → AHeap, ∀ p, Hs p = H ++ [.box (ndR n), .box [.mp ks vs], .box [bool (p.all locP)], .box (ndR n), .lp l lr E .ready] := ⟨_, fun _ => rfl⟩
  have hy : ∀ p m rest, Sml m → AYield Try.prog l [.agg (ndR m)] (Hs p ++ rest) fun x H' => x = bool true ∧ ∃ ext, H' = Hs (p ++ [m]) ++ (rest ++ ext) := by
    intro p m rest hsm
    refine hr [.agg (ndR m)] _ (H.length + 4) _ rfl ?_ ?_
    · rw [hHs]; simp [get_add]
    · simp only [hHs]
      have hg1 : ∀ a b c d f x t, (H ++ a :: b :: c :: d :: f :: (rest ++ x :: t))[H.length + (rest.length + 1 + 1 + 1 + 1 + 1)]? = some (x : HO) := fun a b c d f x t => by rw [get_add]; simp
      have hs1 : ∀ a b c d f x t y, (H ++ a :: b :: c :: d :: f :: (rest ++ x :: t)).set (H.length + (rest.length + 1 + 1 + 1 + 1 + 1)) y = H ++ a :: b :: c :: d :: f :: (rest ++ (y : HO) :: t) := fun a b c d f x t y => by rw [set_add]; simp
      have hg2 : ∀ a b c d f z x t, (H ++ a :: b :: c :: d :: f :: (rest ++ z :: x :: t))[H.length + (rest.length + 1 + 1 + 1 + 1 + 1 + 1)]? = some (x : HO) := fun a b c d f z x t => by rw [get_add]; simp
      have hs2 : ∀ a b c d f z x t y, (H ++ a :: b :: c :: d :: f :: (rest ++ z :: x :: t)).set (H.length + (rest.length + 1 + 1 + 1 + 1 + 1 + 1)) y = H ++ a :: b :: c :: d :: f :: (rest ++ z :: (y : HO) :: t) := fun a b c d f z x t y => by rw [set_add]; simp
      have hmm := hm m.kind
      have hc := cmp_all hk m.kind
      have hpm : (p ++ [m]).all locP = (p.all locP && locP m) := by simp
      rw [hpm]
      rcases sh_all m.kind with ⟨e1, e2⟩ | ⟨sh, x, e1, e2, hx⟩
      · have hl : locP m = false := by unfold locP; rw [e1]
        rw [e2] at hmm
        rw [hl, Bool.and_false]
        cases hok : p.all locP
        · by_cases h4k : m.kind = 4
          · repeat' (first | (refine And.intro (by omega) ?_) | simp -implicitDefEqProofs (disch := omega) only [h3, h4, splice, cells_agg, nd_c1s, nd_len, nd_take, nd_cellsV, nd_drop4, nd_drop1, rows_getD, hg1, hs1, hg2, hs2, hmm, hc, lookV, hok, dT_lt, dF_lt, dT_le, dF_le, dT_eq, dF_eq, push_cast, ↓reduceIte, Nat.reduceEqDiff, reduceCtorEq, Nat.reduceAdd, Nat.reduceSub, Nat.reduceMul, Nat.reduceLeDiff, Nat.reduceLT, Nat.reduceMod, Nat.reduceDiv, Int.reduceToNat, Int.reduceLT, Int.reduceLE, Int.reduceEq, Int.reduceAdd, Int.reduceSub, Int.reduceNeg, Int.reduceMul, Bool.and_self] | split)
            exact ⟨_, rfl⟩
          · repeat' (first | (refine And.intro (by omega) ?_) | simp -implicitDefEqProofs (disch := omega) only [h3, h4, splice, cells_agg, nd_c1s, nd_len, nd_take, nd_cellsV, nd_drop4, nd_drop1, rows_getD, hg1, hs1, hg2, hs2, hmm, hc, lookV, hok, dT_lt, dF_lt, dT_le, dF_le, dT_eq, dF_eq, push_cast, ↓reduceIte, Nat.reduceEqDiff, reduceCtorEq, Nat.reduceAdd, Nat.reduceSub, Nat.reduceMul, Nat.reduceLeDiff, Nat.reduceLT, Nat.reduceMod, Nat.reduceDiv, Int.reduceToNat, Int.reduceLT, Int.reduceLE, Int.reduceEq, Int.reduceAdd, Int.reduceSub, Int.reduceNeg, Int.reduceMul, Bool.and_self] | split)
            exact ⟨_, rfl⟩
        · by_cases h4k : m.kind = 4
          · repeat' (first | (refine And.intro (by omega) ?_) | simp -implicitDefEqProofs (disch := omega) only [h3, h4, splice, cells_agg, nd_c1s, nd_len, nd_take, nd_cellsV, nd_drop4, nd_drop1, rows_getD, hg1, hs1, hg2, hs2, hmm, hc, lookV, hok, dT_lt, dF_lt, dT_le, dF_le, dT_eq, dF_eq, push_cast, ↓reduceIte, Nat.reduceEqDiff, reduceCtorEq, Nat.reduceAdd, Nat.reduceSub, Nat.reduceMul, Nat.reduceLeDiff, Nat.reduceLT, Nat.reduceMod, Nat.reduceDiv, Int.reduceToNat, Int.reduceLT, Int.reduceLE, Int.reduceEq, Int.reduceAdd, Int.reduceSub, Int.reduceNeg, Int.reduceMul, Bool.and_self] | split)
            exact ⟨_, rfl⟩
          · repeat' (first | (refine And.intro (by omega) ?_) | simp -implicitDefEqProofs (disch := omega) only [h3, h4, splice, cells_agg, nd_c1s, nd_len, nd_take, nd_cellsV, nd_drop4, nd_drop1, rows_getD, hg1, hs1, hg2, hs2, hmm, hc, lookV, hok, dT_lt, dF_lt, dT_le, dF_le, dT_eq, dF_eq, push_cast, ↓reduceIte, Nat.reduceEqDiff, reduceCtorEq, Nat.reduceAdd, Nat.reduceSub, Nat.reduceMul, Nat.reduceLeDiff, Nat.reduceLT, Nat.reduceMod, Nat.reduceDiv, Int.reduceToNat, Int.reduceLT, Int.reduceLE, Int.reduceEq, Int.reduceAdd, Int.reduceSub, Int.reduceNeg, Int.reduceMul, Bool.and_self] | split)
            exact ⟨_, rfl⟩
      · have hf := fun H => fitsC hx (sml_text hsm) (sml_len hsm) H
        obtain ⟨ft, fk, fl, rfl, ⟨k1, caps1, rfl, hcl1, hc1⟩, hkk, hll⟩ := hx
        have hk1 := kts_c1 hkk
        have hl1 : c1 fl = true := shl_c1 hll
        rw [e2] at hmm
        have hl : locP m = (fitsF sh m && (!decide (m.kind = 4) || (decide ((m.kids.getD 0 default).text = intS) || decide ((m.kids.getD 0 default).text = boolS)))) := by unfold locP; rw [e1]
        rw [hl]
        cases hok : p.all locP
        · by_cases h4k : m.kind = 4
          · repeat' (first | (refine And.intro (by omega) ?_) | simp -implicitDefEqProofs (disch := omega) only [h3, h4, splice, cells_agg, nd_c1s, nd_len, nd_take, nd_cellsV, nd_drop4, nd_drop1, rows_getD, hg1, hs1, hg2, hs2, hmm, hc, lookV, hok, hk1, hl1, dT_lt, dF_lt, dT_le, dF_le, dT_eq, dF_eq, push_cast, ↓reduceIte, Nat.reduceEqDiff, reduceCtorEq, Nat.reduceAdd, Nat.reduceSub, Nat.reduceMul, Nat.reduceLeDiff, Nat.reduceLT, Nat.reduceMod, Nat.reduceDiv, Int.reduceToNat, Int.reduceLT, Int.reduceLE, Int.reduceEq, Int.reduceAdd, Int.reduceSub, Int.reduceNeg, Int.reduceMul, Bool.and_self] | split)
            exact ⟨_, rfl⟩
          · repeat' (first | (refine And.intro (by omega) ?_) | simp -implicitDefEqProofs (disch := omega) only [h3, h4, splice, cells_agg, nd_c1s, nd_len, nd_take, nd_cellsV, nd_drop4, nd_drop1, rows_getD, hg1, hs1, hg2, hs2, hmm, hc, lookV, hok, hk1, hl1, dT_lt, dF_lt, dT_le, dF_le, dT_eq, dF_eq, push_cast, ↓reduceIte, Nat.reduceEqDiff, reduceCtorEq, Nat.reduceAdd, Nat.reduceSub, Nat.reduceMul, Nat.reduceLeDiff, Nat.reduceLT, Nat.reduceMod, Nat.reduceDiv, Int.reduceToNat, Int.reduceLT, Int.reduceLE, Int.reduceEq, Int.reduceAdd, Int.reduceSub, Int.reduceNeg, Int.reduceMul, Bool.and_self] | split)
            exact ⟨_, rfl⟩
        · cases hff : fitsF sh m
          · rw [hff] at hf
            by_cases h4k : m.kind = 4
            · repeat' (first | (refine And.intro (by omega) ?_) | (refine callF_pure (hf _) ?_) | (refine callQF_pure (hf _) (by first | rfl | simp only [h3, h4, splice, cells_agg, nd_c1s, nd_len, nd_take, nd_cellsV, nd_drop4, nd_drop1, rows_getD, hg1, hs1, hg2, hs2, hmm, hc, lookV, hok, hk1, hl1, push_cast]) ?_) | simp -implicitDefEqProofs (disch := omega) only [h3, h4, splice, cells_agg, nd_c1s, nd_len, nd_take, nd_cellsV, nd_drop4, nd_drop1, rows_getD, hg1, hs1, hg2, hs2, hmm, hc, lookV, hok, hk1, hl1, dT_lt, dF_lt, dT_le, dF_le, dT_eq, dF_eq, push_cast, ↓reduceIte, Nat.reduceEqDiff, reduceCtorEq, Nat.reduceAdd, Nat.reduceSub, Nat.reduceMul, Nat.reduceLeDiff, Nat.reduceLT, Nat.reduceMod, Nat.reduceDiv, Int.reduceToNat, Int.reduceLT, Int.reduceLE, Int.reduceEq, Int.reduceAdd, Int.reduceSub, Int.reduceNeg, Int.reduceMul, Bool.and_self] | split)
              exact ⟨_, rfl⟩
            · repeat' (first | (refine And.intro (by omega) ?_) | (refine callF_pure (hf _) ?_) | (refine callQF_pure (hf _) (by first | rfl | simp only [h3, h4, splice, cells_agg, nd_c1s, nd_len, nd_take, nd_cellsV, nd_drop4, nd_drop1, rows_getD, hg1, hs1, hg2, hs2, hmm, hc, lookV, hok, hk1, hl1, push_cast]) ?_) | simp -implicitDefEqProofs (disch := omega) only [h3, h4, splice, cells_agg, nd_c1s, nd_len, nd_take, nd_cellsV, nd_drop4, nd_drop1, rows_getD, hg1, hs1, hg2, hs2, hmm, hc, lookV, hok, hk1, hl1, dT_lt, dF_lt, dT_le, dF_le, dT_eq, dF_eq, push_cast, ↓reduceIte, Nat.reduceEqDiff, reduceCtorEq, Nat.reduceAdd, Nat.reduceSub, Nat.reduceMul, Nat.reduceLeDiff, Nat.reduceLT, Nat.reduceMod, Nat.reduceDiv, Int.reduceToNat, Int.reduceLT, Int.reduceLE, Int.reduceEq, Int.reduceAdd, Int.reduceSub, Int.reduceNeg, Int.reduceMul, Bool.and_self] | split)
              exact ⟨_, rfl⟩
          · rw [hff] at hf
            by_cases h4k : m.kind = 4
            · have hlen := fits4 e1 h4k hff
              have hd4 : decide (m.kind = 4) = true := by simp [h4k]
              cases hi : decide ((m.kids.getD 0 default).text = intS)
              · cases hb : decide ((m.kids.getD 0 default).text = boolS)
                · repeat' (first | (refine And.intro (by omega) ?_) | (refine callF_pure (hf _) ?_) | (refine callQF_pure (hf _) (by first | rfl | simp only [h3, h4, splice, cells_agg, nd_c1s, nd_len, nd_take, nd_cellsV, nd_drop4, nd_drop1, rows_getD, hg1, hs1, hg2, hs2, hmm, hc, lookV, hok, hk1, hl1, hd4, hi, hb, push_cast]) ?_) | simp -implicitDefEqProofs (disch := omega) only [h3, h4, splice, cells_agg, nd_c1s, nd_len, nd_take, nd_cellsV, nd_drop4, nd_drop1, rows_getD, hg1, hs1, hg2, hs2, hmm, hc, lookV, hok, hk1, hl1, hd4, hi, hb, dT_lt, dF_lt, dT_le, dF_le, dT_eq, dF_eq, push_cast, ↓reduceIte, Nat.reduceEqDiff, reduceCtorEq, Nat.reduceAdd, Nat.reduceSub, Nat.reduceMul, Nat.reduceLeDiff, Nat.reduceLT, Nat.reduceMod, Nat.reduceDiv, Int.reduceToNat, Int.reduceLT, Int.reduceLE, Int.reduceEq, Int.reduceAdd, Int.reduceSub, Int.reduceNeg, Int.reduceMul, Bool.and_self] | split)
                  exact ⟨_, rfl⟩
                · repeat' (first | (refine And.intro (by omega) ?_) | (refine callF_pure (hf _) ?_) | (refine callQF_pure (hf _) (by first | rfl | simp only [h3, h4, splice, cells_agg, nd_c1s, nd_len, nd_take, nd_cellsV, nd_drop4, nd_drop1, rows_getD, hg1, hs1, hg2, hs2, hmm, hc, lookV, hok, hk1, hl1, hd4, hi, hb, push_cast]) ?_) | simp -implicitDefEqProofs (disch := omega) only [h3, h4, splice, cells_agg, nd_c1s, nd_len, nd_take, nd_cellsV, nd_drop4, nd_drop1, rows_getD, hg1, hs1, hg2, hs2, hmm, hc, lookV, hok, hk1, hl1, hd4, hi, hb, dT_lt, dF_lt, dT_le, dF_le, dT_eq, dF_eq, push_cast, ↓reduceIte, Nat.reduceEqDiff, reduceCtorEq, Nat.reduceAdd, Nat.reduceSub, Nat.reduceMul, Nat.reduceLeDiff, Nat.reduceLT, Nat.reduceMod, Nat.reduceDiv, Int.reduceToNat, Int.reduceLT, Int.reduceLE, Int.reduceEq, Int.reduceAdd, Int.reduceSub, Int.reduceNeg, Int.reduceMul, Bool.and_self] | split)
                  exact ⟨_, rfl⟩
              · repeat' (first | (refine And.intro (by omega) ?_) | (refine callF_pure (hf _) ?_) | (refine callQF_pure (hf _) (by first | rfl | simp only [h3, h4, splice, cells_agg, nd_c1s, nd_len, nd_take, nd_cellsV, nd_drop4, nd_drop1, rows_getD, hg1, hs1, hg2, hs2, hmm, hc, lookV, hok, hk1, hl1, hd4, hi, push_cast]) ?_) | simp -implicitDefEqProofs (disch := omega) only [h3, h4, splice, cells_agg, nd_c1s, nd_len, nd_take, nd_cellsV, nd_drop4, nd_drop1, rows_getD, hg1, hs1, hg2, hs2, hmm, hc, lookV, hok, hk1, hl1, hd4, hi, dT_lt, dF_lt, dT_le, dF_le, dT_eq, dF_eq, push_cast, ↓reduceIte, Nat.reduceEqDiff, reduceCtorEq, Nat.reduceAdd, Nat.reduceSub, Nat.reduceMul, Nat.reduceLeDiff, Nat.reduceLT, Nat.reduceMod, Nat.reduceDiv, Int.reduceToNat, Int.reduceLT, Int.reduceLE, Int.reduceEq, Int.reduceAdd, Int.reduceSub, Int.reduceNeg, Int.reduceMul, Bool.and_self] | split)
                exact ⟨_, rfl⟩
            · have hd4 : decide (m.kind = 4) = false := by simp [h4k]
              repeat' (first | (refine And.intro (by omega) ?_) | (refine callF_pure (hf _) ?_) | (refine callQF_pure (hf _) (by first | rfl | simp only [h3, h4, splice, cells_agg, nd_c1s, nd_len, nd_take, nd_cellsV, nd_drop4, nd_drop1, rows_getD, hg1, hs1, hg2, hs2, hmm, hc, lookV, hok, hk1, hl1, hd4, push_cast]) ?_) | simp -implicitDefEqProofs (disch := omega) only [h3, h4, splice, cells_agg, nd_c1s, nd_len, nd_take, nd_cellsV, nd_drop4, nd_drop1, rows_getD, hg1, hs1, hg2, hs2, hmm, hc, lookV, hok, hk1, hl1, hd4, dT_lt, dF_lt, dT_le, dF_le, dT_eq, dF_eq, push_cast, ↓reduceIte, Nat.reduceEqDiff, reduceCtorEq, Nat.reduceAdd, Nat.reduceSub, Nat.reduceMul, Nat.reduceLeDiff, Nat.reduceLT, Nat.reduceMod, Nat.reduceDiv, Int.reduceToNat, Int.reduceLT, Int.reduceLE, Int.reduceEq, Int.reduceAdd, Int.reduceSub, Int.reduceNeg, Int.reduceMul, Bool.and_self] | split)
              exact ⟨_, rfl⟩
  have hl : ∀ p, (Hs p).length = H.length + 5 := fun p => by rw [hHs]; simp
  have hcall := nodes1C (H.length + 5) Hs hl l hy n hs [] [] (H.length + 3) (by rw [hHs]; simp [get_add])
  have e0 : Hs [] ++ [] = H ++ [HO.box (ndR n), HO.box [.mp ks vs], HO.box [bool true], HO.box (ndR n)] ++ [HO.lp l lr E LpSt.ready] := by rw [hHs]; simp
  rw [e0] at hcall
  refine hcall.mono ?_
  rintro x H' ⟨ext, rfl⟩
  have e1 : (H ++ [HO.box (ndR n), HO.box [.mp ks vs], HO.box [bool true], HO.box (ndR n)]).length = H.length + 4 := by simp
  rw [e1, hHs]
  refine ⟨.ready, by simp [get_add], ?_⟩
  show runK Try.prog _ _ .normal E _
  repeat' (first | (refine And.intro (by omega) ?_) | simp -implicitDefEqProofs (disch := omega) only [h4, dT_lt, dF_lt, dT_le, dF_le, dT_eq, dF_eq, push_cast, ↓reduceIte, Nat.reduceEqDiff, reduceCtorEq, Nat.reduceAdd, Nat.reduceSub, Nat.reduceMul, Nat.reduceLeDiff, Nat.reduceLT, Nat.reduceMod, Nat.reduceDiv, Int.reduceToNat, Int.reduceLT, Int.reduceLE, Int.reduceEq, Int.reduceAdd, Int.reduceSub, Int.reduceNeg, Int.reduceMul, Bool.and_self] | split)
  exact ⟨rfl, _, rfl⟩
end Go.Proofs.Ytnbdogodcjhfiaa

/- Trees: the reference's shapes, and that both agree. -/
namespace Go.Proofs.Ytnbdogodcjhfiaa
open Go Go.Ax
set_option maxRecDepth 100000
set_option linter.unusedSimpArgs false
set_option linter.unusedVariables false

def kidsF (m : Nd) : Bool := (List.range m.kids.length).all fun j => kidF m.kind j (m.kids.getD j default)
def preP (m : Nd) : Bool := decide (0 ≤ m.kind) && !decide (m.kind = 1) && decide (m.kind ≤ 29) && txF m.kind m.text && decide ((mostF m.kind).1 ≤ m.kids.length) && decide ((m.kids.length : Int) ≤ (mostF m.kind).2)
/-- The reference's test of a node. -/
def refP (m : Nd) : Bool := preP m && kidsF m
def shpF (n : Nd) : Bool := (nds n).all refP
theorem ndss_all (p : Nd → Bool) : ∀ l : List Nd, (ndss l).all p = l.all fun k => (nds k).all p
  | [] => rfl
  | x :: l => by simp only [ndss, List.all_append, List.all_cons, ndss_all p l]
theorem shpF_eq (n : Nd) : shpF n = (refP n && n.kids.all shpF) := by
  unfold shpF
  rw [nds_eq, List.all_cons, ndss_all]
theorem kids_false {n : Nd} {j : Nat} (hj : j < n.kids.length) (h : kidF n.kind j (n.kids.getD j default) = false ∨ shpF (n.kids.getD j default) = false) : shpF n = false := by
  rw [shpF_eq, refP]
  rcases h with h | h
  · have : kidsF n = false := by
      unfold kidsF
      rw [List.all_eq_false]
      exact ⟨j, by simpa using hj, by simp only [h]; simp⟩
    rw [this]; simp
  · have : n.kids.all shpF = false := by
      rw [List.all_eq_false]
      exact ⟨_, getD_mem' hj, by simp only [h]; simp⟩
    rw [this]; simp
theorem kids_true {n : Nd} (hp : preP n = true) (h : ∀ j, j < n.kids.length → kidF n.kind j (n.kids.getD j default) = true ∧ shpF (n.kids.getD j default) = true) : shpF n = true := by
  rw [shpF_eq, refP, hp]
  have h1 : kidsF n = true := by
    unfold kidsF
    rw [List.all_eq_true]
    intro j hj
    exact (h j (by simpa using hj)).1
  have h2 : n.kids.all shpF = true := by
    rw [List.all_eq_true]
    intro x hx
    obtain ⟨i, hi, rfl⟩ := List.mem_iff_getElem.1 hx
    have := (h i hi).2
    simpa [List.getD_eq_getElem?_getD, hi] using this
  rw [h1, h2]; rfl
theorem pre_false {n : Nd} (hp : preP n = false) : shpF n = false := by
  rw [shpF_eq, refP, hp]; simp
theorem ShapeR (n : Nd) : Sml n → ∀ H, Comp' 51 [.agg (ndR n)] H (bool (shpF n)) := by
  induction n using Nd.ind with
  | h n ih =>
  intro hs H
  refine ACall.drop (R := fun x => x = bool (shpF n)) ?_
  refine enter Try.func51 L51_ok (Nat.le_of_ble_eq_true rfl) ?_
  have hln := sml_len hs
  have htx := fun H => textR n (sml_text hs) H
  have hmo := fun H => mostR n.kind H
  have pre : ∀ b, preP n = b → preP n = b := fun _ h => h
  by_cases k1 : n.kind < 0
  · rw [pre_false (by unfold preP; rw [decide_eq_false (show ¬ 0 ≤ n.kind by omega)]; simp)]
    repeat' (first | (refine And.intro (by omega) ?_) | simp -implicitDefEqProofs (disch := omega) only [L51, cells_agg, nd_c1s, nd_len, nd_cellsV, dT_lt, dF_lt, dT_le, dF_le, dT_eq, dF_eq, push_cast, ↓reduceIte, Nat.reduceEqDiff, reduceCtorEq, Nat.reduceAdd, Nat.reduceSub, Nat.reduceMul, Nat.reduceLeDiff, Nat.reduceLT, Nat.reduceMod, Nat.reduceDiv, Int.reduceToNat, Int.reduceLT, Int.reduceLE, Int.reduceEq, Int.reduceAdd, Int.reduceSub, Int.reduceNeg, Int.reduceMul, Bool.and_self] | split)
    exact ⟨_, rfl⟩
  by_cases k2 : n.kind = 1
  · rw [pre_false (by unfold preP; rw [decide_eq_true k2]; simp)]
    repeat' (first | (refine And.intro (by omega) ?_) | simp -implicitDefEqProofs (disch := omega) only [L51, cells_agg, nd_c1s, nd_len, nd_cellsV, dT_lt, dF_lt, dT_le, dF_le, dT_eq, dF_eq, push_cast, ↓reduceIte, Nat.reduceEqDiff, reduceCtorEq, Nat.reduceAdd, Nat.reduceSub, Nat.reduceMul, Nat.reduceLeDiff, Nat.reduceLT, Nat.reduceMod, Nat.reduceDiv, Int.reduceToNat, Int.reduceLT, Int.reduceLE, Int.reduceEq, Int.reduceAdd, Int.reduceSub, Int.reduceNeg, Int.reduceMul, Bool.and_self] | split)
    exact ⟨_, rfl⟩
  by_cases k3 : 29 < n.kind
  · rw [pre_false (by unfold preP; rw [decide_eq_false (show ¬ n.kind ≤ 29 by omega)]; simp)]
    repeat' (first | (refine And.intro (by omega) ?_) | simp -implicitDefEqProofs (disch := omega) only [L51, cells_agg, nd_c1s, nd_len, nd_cellsV, dT_lt, dF_lt, dT_le, dF_le, dT_eq, dF_eq, push_cast, ↓reduceIte, Nat.reduceEqDiff, reduceCtorEq, Nat.reduceAdd, Nat.reduceSub, Nat.reduceMul, Nat.reduceLeDiff, Nat.reduceLT, Nat.reduceMod, Nat.reduceDiv, Int.reduceToNat, Int.reduceLT, Int.reduceLE, Int.reduceEq, Int.reduceAdd, Int.reduceSub, Int.reduceNeg, Int.reduceMul, Bool.and_self] | split)
    exact ⟨_, rfl⟩
  cases hx : txF n.kind n.text
  · rw [hx] at htx
    rw [pre_false (by unfold preP; rw [hx]; simp)]
    repeat' (first | (refine And.intro (by omega) ?_) | (refine callF_pure (htx _) ?_) | (refine callQF_pure (htx _) (by first | rfl | simp only [L51, cells_agg, nd_c1s, nd_len, nd_cellsV, nd_take, push_cast]) ?_) | simp -implicitDefEqProofs (disch := omega) only [L51, cells_agg, nd_c1s, nd_len, nd_cellsV, nd_take, dT_lt, dF_lt, dT_le, dF_le, dT_eq, dF_eq, push_cast, ↓reduceIte, Nat.reduceEqDiff, reduceCtorEq, Nat.reduceAdd, Nat.reduceSub, Nat.reduceMul, Nat.reduceLeDiff, Nat.reduceLT, Nat.reduceMod, Nat.reduceDiv, Int.reduceToNat, Int.reduceLT, Int.reduceLE, Int.reduceEq, Int.reduceAdd, Int.reduceSub, Int.reduceNeg, Int.reduceMul, Bool.and_self] | split)
    exact ⟨_, rfl⟩
  rw [hx] at htx
  by_cases k4 : (mostF n.kind).1 ≤ n.kids.length
  · by_cases k5 : (n.kids.length : Int) ≤ (mostF n.kind).2
    · have hp : preP n = true := by
        unfold preP
        rw [hx, decide_eq_true k4, decide_eq_true k5, decide_eq_true (show 0 ≤ n.kind by omega), decide_eq_false k2, decide_eq_true (show n.kind ≤ 29 by omega)]
        rfl
      repeat' (first | (refine And.intro (by omega) ?_) | (refine callF_pure (htx _) ?_) | (refine callF_pure (hmo _) ?_) | (refine callQF_pure (htx _) (by first | rfl | simp only [L51, cells_agg, nd_c1s, nd_len, nd_cellsV, nd_take, nd_drop4, push_cast]) ?_) | (refine callQF_pure (hmo _) (by first | rfl | simp only [L51, cells_agg, nd_c1s, nd_len, nd_cellsV, nd_take, nd_drop4, push_cast]) ?_) | simp -implicitDefEqProofs (disch := omega) only [L51, cells_agg, nd_c1s, nd_len, nd_cellsV, nd_take, nd_drop4, dT_lt, dF_lt, dT_le, dF_le, dT_eq, dF_eq, push_cast, ↓reduceIte, Nat.reduceEqDiff, reduceCtorEq, Nat.reduceAdd, Nat.reduceSub, Nat.reduceMul, Nat.reduceLeDiff, Nat.reduceLT, Nat.reduceMod, Nat.reduceDiv, Int.reduceToNat, Int.reduceLT, Int.reduceLE, Int.reduceEq, Int.reduceAdd, Int.reduceSub, Int.reduceNeg, Int.reduceMul, Bool.and_self] | split)
      refine rk_loopS (fun (j : Nat) e' H' => e' 1 = .ptr H.length 0 0 ∧ e' 5 = int j ∧ H' = H ++ [.box (ndR n)] ∧ j ≤ n.kids.length ∧ ∀ i, i < j → (kidF n.kind i (n.kids.getD i default) = true ∧ shpF (n.kids.getD i default) = true)) (fun j => n.kids.length - j) 0 ?_ ?_
      · exact ⟨rfl, rfl, rfl, Nat.zero_le _, by simp⟩
      rintro j e' H' ⟨h1, h5, rfl, hj, hr⟩
      by_cases hlt : j < n.kids.length
      · have hk := getD_mem' hlt
        have hcl : ∀ a b m, clL [int a, int b, .agg (ndR m)] = true := fun a b m => by simp [clL, AV.cl, nd_clL]
        have hcl1 : ∀ m, clL [.agg (ndR m)] = true := fun m => by simp [clL, AV.cl, nd_clL]
        have c1 := kidR n.kind j (n.kids.getD j default) []
        have c2 := ih _ hk (sml_kid hs hk) []
        cases hkf : kidF n.kind j (n.kids.getD j default)
        · rw [hkf] at c1
          rw [kids_false hlt (.inl hkf)]
          simp -implicitDefEqProofs (disch := omega) only [h1, h5, nd_drop4, nd_len, rows_getD, nd_take, nd_cellsV, dT_lt, dF_lt, dT_le, dF_le, dT_eq, dF_eq, push_cast, ↓reduceIte, Nat.reduceEqDiff, reduceCtorEq, Nat.reduceAdd, Nat.reduceSub, Nat.reduceMul, Nat.reduceLeDiff, Nat.reduceLT, Nat.reduceMod, Nat.reduceDiv, Int.reduceToNat, Int.reduceLT, Int.reduceLE, Int.reduceEq, Int.reduceAdd, Int.reduceSub, Int.reduceNeg, Int.reduceMul, Bool.and_self]
          refine And.intro (by omega) (callQF_pure c1 (hcl _ _ _) ?_)
          repeat' (first | (refine And.intro (by omega) ?_) | simp -implicitDefEqProofs (disch := omega) only [h1, h5, dT_lt, dF_lt, dT_le, dF_le, dT_eq, dF_eq, push_cast, ↓reduceIte, Nat.reduceEqDiff, reduceCtorEq, Nat.reduceAdd, Nat.reduceSub, Nat.reduceMul, Nat.reduceLeDiff, Nat.reduceLT, Nat.reduceMod, Nat.reduceDiv, Int.reduceToNat, Int.reduceLT, Int.reduceLE, Int.reduceEq, Int.reduceAdd, Int.reduceSub, Int.reduceNeg, Int.reduceMul, Bool.and_self] | split)
          exact ⟨_, rfl⟩
        · rw [hkf] at c1
          cases hsf : shpF (n.kids.getD j default)
          · rw [hsf] at c2
            rw [kids_false hlt (.inr hsf)]
            simp -implicitDefEqProofs (disch := omega) only [h1, h5, nd_drop4, nd_len, rows_getD, nd_take, nd_cellsV, dT_lt, dF_lt, dT_le, dF_le, dT_eq, dF_eq, push_cast, ↓reduceIte, Nat.reduceEqDiff, reduceCtorEq, Nat.reduceAdd, Nat.reduceSub, Nat.reduceMul, Nat.reduceLeDiff, Nat.reduceLT, Nat.reduceMod, Nat.reduceDiv, Int.reduceToNat, Int.reduceLT, Int.reduceLE, Int.reduceEq, Int.reduceAdd, Int.reduceSub, Int.reduceNeg, Int.reduceMul, Bool.and_self]
            refine And.intro (by omega) (callQF_pure c1 (hcl _ _ _) ?_)
            simp -implicitDefEqProofs (disch := omega) only [h1, h5, nd_drop4, nd_len, rows_getD, nd_take, nd_cellsV, dT_lt, dF_lt, dT_le, dF_le, dT_eq, dF_eq, push_cast, ↓reduceIte, Nat.reduceEqDiff, reduceCtorEq, Nat.reduceAdd, Nat.reduceSub, Nat.reduceMul, Nat.reduceLeDiff, Nat.reduceLT, Nat.reduceMod, Nat.reduceDiv, Int.reduceToNat, Int.reduceLT, Int.reduceLE, Int.reduceEq, Int.reduceAdd, Int.reduceSub, Int.reduceNeg, Int.reduceMul, Bool.and_self]
            refine And.intro (by omega) (callQF_pure c2 (hcl1 _) ?_)
            repeat' (first | (refine And.intro (by omega) ?_) | simp -implicitDefEqProofs (disch := omega) only [h1, h5, dT_lt, dF_lt, dT_le, dF_le, dT_eq, dF_eq, push_cast, ↓reduceIte, Nat.reduceEqDiff, reduceCtorEq, Nat.reduceAdd, Nat.reduceSub, Nat.reduceMul, Nat.reduceLeDiff, Nat.reduceLT, Nat.reduceMod, Nat.reduceDiv, Int.reduceToNat, Int.reduceLT, Int.reduceLE, Int.reduceEq, Int.reduceAdd, Int.reduceSub, Int.reduceNeg, Int.reduceMul, Bool.and_self] | split)
            exact ⟨_, rfl⟩
          · rw [hsf] at c2
            simp -implicitDefEqProofs (disch := omega) only [h1, h5, nd_drop4, nd_len, rows_getD, nd_take, nd_cellsV, dT_lt, dF_lt, dT_le, dF_le, dT_eq, dF_eq, push_cast, ↓reduceIte, Nat.reduceEqDiff, reduceCtorEq, Nat.reduceAdd, Nat.reduceSub, Nat.reduceMul, Nat.reduceLeDiff, Nat.reduceLT, Nat.reduceMod, Nat.reduceDiv, Int.reduceToNat, Int.reduceLT, Int.reduceLE, Int.reduceEq, Int.reduceAdd, Int.reduceSub, Int.reduceNeg, Int.reduceMul, Bool.and_self]
            refine And.intro (by omega) (callQF_pure c1 (hcl _ _ _) ?_)
            simp -implicitDefEqProofs (disch := omega) only [h1, h5, nd_drop4, nd_len, rows_getD, nd_take, nd_cellsV, dT_lt, dF_lt, dT_le, dF_le, dT_eq, dF_eq, push_cast, ↓reduceIte, Nat.reduceEqDiff, reduceCtorEq, Nat.reduceAdd, Nat.reduceSub, Nat.reduceMul, Nat.reduceLeDiff, Nat.reduceLT, Nat.reduceMod, Nat.reduceDiv, Int.reduceToNat, Int.reduceLT, Int.reduceLE, Int.reduceEq, Int.reduceAdd, Int.reduceSub, Int.reduceNeg, Int.reduceMul, Bool.and_self]
            refine And.intro (by omega) (callQF_pure c2 (hcl1 _) ?_)
            repeat' (first | (refine And.intro (by omega) ?_) | simp -implicitDefEqProofs (disch := omega) only [h1, h5, dT_lt, dF_lt, dT_le, dF_le, dT_eq, dF_eq, push_cast, ↓reduceIte, Nat.reduceEqDiff, reduceCtorEq, Nat.reduceAdd, Nat.reduceSub, Nat.reduceMul, Nat.reduceLeDiff, Nat.reduceLT, Nat.reduceMod, Nat.reduceDiv, Int.reduceToNat, Int.reduceLT, Int.reduceLE, Int.reduceEq, Int.reduceAdd, Int.reduceSub, Int.reduceNeg, Int.reduceMul, Bool.and_self] | split)
            exact .mk (j + 1) ⟨h1, rfl, rfl, hlt, upto_succ hr ⟨hkf, hsf⟩⟩ (by omega)
      · rw [kids_true hp fun i hi => hr i (by omega)]
        repeat' (first | (refine And.intro (by omega) ?_) | simp -implicitDefEqProofs (disch := omega) only [h1, h5, nd_drop4, nd_len, dT_lt, dF_lt, dT_le, dF_le, dT_eq, dF_eq, push_cast, ↓reduceIte, Nat.reduceEqDiff, reduceCtorEq, Nat.reduceAdd, Nat.reduceSub, Nat.reduceMul, Nat.reduceLeDiff, Nat.reduceLT, Nat.reduceMod, Nat.reduceDiv, Int.reduceToNat, Int.reduceLT, Int.reduceLE, Int.reduceEq, Int.reduceAdd, Int.reduceSub, Int.reduceNeg, Int.reduceMul, Bool.and_self] | split)
        exact ⟨_, rfl⟩
    · rw [pre_false (by unfold preP; rw [decide_eq_false k5]; simp)]
      repeat' (first | (refine And.intro (by omega) ?_) | (refine callF_pure (htx _) ?_) | (refine callF_pure (hmo _) ?_) | (refine callQF_pure (htx _) (by first | rfl | simp only [L51, cells_agg, nd_c1s, nd_len, nd_cellsV, nd_take, nd_drop4, push_cast]) ?_) | (refine callQF_pure (hmo _) (by first | rfl | simp only [L51, cells_agg, nd_c1s, nd_len, nd_cellsV, nd_take, nd_drop4, push_cast]) ?_) | simp -implicitDefEqProofs (disch := omega) only [L51, cells_agg, nd_c1s, nd_len, nd_cellsV, nd_take, nd_drop4, dT_lt, dF_lt, dT_le, dF_le, dT_eq, dF_eq, push_cast, ↓reduceIte, Nat.reduceEqDiff, reduceCtorEq, Nat.reduceAdd, Nat.reduceSub, Nat.reduceMul, Nat.reduceLeDiff, Nat.reduceLT, Nat.reduceMod, Nat.reduceDiv, Int.reduceToNat, Int.reduceLT, Int.reduceLE, Int.reduceEq, Int.reduceAdd, Int.reduceSub, Int.reduceNeg, Int.reduceMul, Bool.and_self] | split)
      exact ⟨_, rfl⟩
  · rw [pre_false (by unfold preP; rw [decide_eq_false k4]; simp)]
    repeat' (first | (refine And.intro (by omega) ?_) | (refine callF_pure (htx _) ?_) | (refine callF_pure (hmo _) ?_) | (refine callQF_pure (htx _) (by first | rfl | simp only [L51, cells_agg, nd_c1s, nd_len, nd_cellsV, nd_take, nd_drop4, push_cast]) ?_) | (refine callQF_pure (hmo _) (by first | rfl | simp only [L51, cells_agg, nd_c1s, nd_len, nd_cellsV, nd_take, nd_drop4, push_cast]) ?_) | simp -implicitDefEqProofs (disch := omega) only [L51, cells_agg, nd_c1s, nd_len, nd_cellsV, nd_take, nd_drop4, dT_lt, dF_lt, dT_le, dF_le, dT_eq, dF_eq, push_cast, ↓reduceIte, Nat.reduceEqDiff, reduceCtorEq, Nat.reduceAdd, Nat.reduceSub, Nat.reduceMul, Nat.reduceLeDiff, Nat.reduceLT, Nat.reduceMod, Nat.reduceDiv, Int.reduceToNat, Int.reduceLT, Int.reduceLE, Int.reduceEq, Int.reduceAdd, Int.reduceSub, Int.reduceNeg, Int.reduceMul, Bool.and_self] | split)
    exact ⟨_, rfl⟩

theorem range_all {ks : List Nd} {f : Nd → Bool} : ((List.range ks.length).all fun j => f (ks.getD j default)) = ks.all f := by
  rw [Bool.eq_iff_iff, List.all_eq_true, List.all_eq_true]
  constructor
  · intro h x hx
    obtain ⟨i, hi, rfl⟩ := List.mem_iff_getElem.1 hx
    have := h i (by simpa using hi)
    simpa [List.getD_eq_getElem?_getD, hi] using this
  · intro h j hj
    exact h _ (getD_mem' (by simpa using hj))
theorem loc_ref (m : Nd) (hl : m.kids.length ≤ 4096) : locP m = refP m := by
  obtain ⟨k, t, a, e, ks⟩ := m
  simp only [locP, refP, preP, kidsF, Nd.kind, Nd.text, Nd.kids] at hl ⊢
  have hl2 : (ks.length : Int) ≤ 4096 := by omega
  have hl3 : (0 : Int) ≤ ks.length := by omega
  rcases kind_cases k with h | rfl | rfl | rfl | rfl | rfl | rfl | rfl | rfl | rfl | rfl | rfl | rfl | rfl | rfl | rfl | rfl | rfl | rfl | rfl | rfl | rfl | rfl | rfl | rfl | rfl | rfl | rfl | rfl | rfl | rfl
  · rw [(sh_out (k := k) (by omega)).1]
    rw [Bool.eq_iff_iff]
    simp only [Bool.and_eq_true, decide_eq_true_eq, Bool.false_eq_true, false_iff]
    rintro ⟨⟨⟨⟨⟨⟨g1, _⟩, g2⟩, _⟩, _⟩, _⟩, _⟩
    have g1 := of_decide_eq_true g1
    have g2 := of_decide_eq_true g2
    omega
  · by_cases hn : ks.length = 0
    · match ks, hn with
      | [], _ =>
        rw [Bool.eq_iff_iff]
        simp [shapeOf, fitsF, txF, mostF, kidF, Nd.text, Nd.kids, List.range_succ, and_assoc]
        all_goals grind
    · have h1 : (match shapeOf 0 with
          | none => false
          | some sh => fitsF sh (Nd.mk 0 t a e ks)) = false := by
        simp [shapeOf, fitsF, Nd.text, Nd.kids, hn]
      have h2 : (decide ((mostF 0).1 ≤ (ks.length : Int)) && decide ((ks.length : Int) ≤ (mostF 0).2)) = false := by
        simp only [mostF, Int.reduceEq, or_self, or_false, false_or, or_true, true_or, ↓reduceIte, Bool.and_eq_false_iff, decide_eq_false_iff_not]
        omega
      rw [Bool.eq_iff_iff]
      simp only [Bool.and_eq_false_iff] at h2
      simp [shapeOf, fitsF, Nd.text, Nd.kids, hn]
      all_goals grind
  · rfl
  · have hk : ∀ (j : Int) m, kidF 2 j m = (decide (m.kind = 3) || decide (m.kind = 5)) := fun _ _ => rfl
    simp only [hk]
    rw [range_all (f := fun m => decide (m.kind = 3) || decide (m.kind = 5))]
    rw [Bool.eq_iff_iff]
    simp [shapeOf, fitsF, txF, mostF, hl, hl2, hl3, Nd.text, Nd.kids]
    all_goals grind
  · have hk : ∀ (j : Int) m, kidF 3 j m = (decide (m.kind = 4)) := fun _ _ => rfl
    simp only [hk]
    rw [range_all (f := fun m => decide (m.kind = 4))]
    rw [Bool.eq_iff_iff]
    simp [shapeOf, fitsF, txF, mostF, hl, hl2, hl3, Nd.text, Nd.kids]
    all_goals grind
  · by_cases hn : ks.length = 1
    · match ks, hn with
      | [x], _ =>
        rw [Bool.eq_iff_iff]
        simp [shapeOf, fitsF, txF, mostF, kidF, Nd.text, Nd.kids, List.range_succ, and_assoc]
        all_goals grind
    · have h1 : (match shapeOf 4 with
          | none => false
          | some sh => fitsF sh (Nd.mk 4 t a e ks)) = false := by
        simp [shapeOf, fitsF, Nd.text, Nd.kids, hn]
      have h2 : (decide ((mostF 4).1 ≤ (ks.length : Int)) && decide ((ks.length : Int) ≤ (mostF 4).2)) = false := by
        simp only [mostF, Int.reduceEq, or_self, or_false, false_or, or_true, true_or, ↓reduceIte, Bool.and_eq_false_iff, decide_eq_false_iff_not]
        omega
      rw [Bool.eq_iff_iff]
      simp only [Bool.and_eq_false_iff] at h2
      simp [shapeOf, fitsF, Nd.text, Nd.kids, hn]
      all_goals grind
  · by_cases hn : ks.length = 3
    · match ks, hn with
      | [x, y, z], _ =>
        rw [Bool.eq_iff_iff]
        simp [shapeOf, fitsF, txF, mostF, kidF, Nd.text, Nd.kids, List.range_succ, and_assoc]
        all_goals grind
    · have h1 : (match shapeOf 5 with
          | none => false
          | some sh => fitsF sh (Nd.mk 5 t a e ks)) = false := by
        simp [shapeOf, fitsF, Nd.text, Nd.kids, hn]
      have h2 : (decide ((mostF 5).1 ≤ (ks.length : Int)) && decide ((ks.length : Int) ≤ (mostF 5).2)) = false := by
        simp only [mostF, Int.reduceEq, or_self, or_false, false_or, or_true, true_or, ↓reduceIte, Bool.and_eq_false_iff, decide_eq_false_iff_not]
        omega
      rw [Bool.eq_iff_iff]
      simp only [Bool.and_eq_false_iff] at h2
      simp [shapeOf, fitsF, Nd.text, Nd.kids, hn]
      all_goals grind
  · have hk : ∀ (j : Int) m, kidF 6 j m = (decide (m.kind = 7) || decide (m.kind = 8)) := fun _ _ => rfl
    simp only [hk]
    rw [range_all (f := fun m => decide (m.kind = 7) || decide (m.kind = 8))]
    rw [Bool.eq_iff_iff]
    simp [shapeOf, fitsF, txF, mostF, hl, hl2, hl3, Nd.text, Nd.kids]
    all_goals grind
  · by_cases hn : ks.length = 1
    · match ks, hn with
      | [x], _ =>
        rw [Bool.eq_iff_iff]
        simp [shapeOf, fitsF, txF, mostF, kidF, Nd.text, Nd.kids, List.range_succ, and_assoc]
        all_goals grind
    · have h1 : (match shapeOf 7 with
          | none => false
          | some sh => fitsF sh (Nd.mk 7 t a e ks)) = false := by
        simp [shapeOf, fitsF, Nd.text, Nd.kids, hn]
      have h2 : (decide ((mostF 7).1 ≤ (ks.length : Int)) && decide ((ks.length : Int) ≤ (mostF 7).2)) = false := by
        simp only [mostF, Int.reduceEq, or_self, or_false, false_or, or_true, true_or, ↓reduceIte, Bool.and_eq_false_iff, decide_eq_false_iff_not]
        omega
      rw [Bool.eq_iff_iff]
      simp only [Bool.and_eq_false_iff] at h2
      simp [shapeOf, fitsF, Nd.text, Nd.kids, hn]
      all_goals grind
  · by_cases hn : ks.length = 1
    · match ks, hn with
      | [x], _ =>
        rw [Bool.eq_iff_iff]
        simp [shapeOf, fitsF, txF, mostF, kidF, Nd.text, Nd.kids, List.range_succ, and_assoc]
        all_goals grind
    · have h1 : (match shapeOf 8 with
          | none => false
          | some sh => fitsF sh (Nd.mk 8 t a e ks)) = false := by
        simp [shapeOf, fitsF, Nd.text, Nd.kids, hn]
      have h2 : (decide ((mostF 8).1 ≤ (ks.length : Int)) && decide ((ks.length : Int) ≤ (mostF 8).2)) = false := by
        simp only [mostF, Int.reduceEq, or_self, or_false, false_or, or_true, true_or, ↓reduceIte, Bool.and_eq_false_iff, decide_eq_false_iff_not]
        omega
      rw [Bool.eq_iff_iff]
      simp only [Bool.and_eq_false_iff] at h2
      simp [shapeOf, fitsF, Nd.text, Nd.kids, hn]
      all_goals grind
  · by_cases hn : ks.length = 0
    · match ks, hn with
      | [], _ =>
        rw [Bool.eq_iff_iff]
        simp [shapeOf, fitsF, txF, mostF, kidF, Nd.text, Nd.kids, List.range_succ, and_assoc]
        all_goals grind
    · have h1 : (match shapeOf 9 with
          | none => false
          | some sh => fitsF sh (Nd.mk 9 t a e ks)) = false := by
        simp [shapeOf, fitsF, Nd.text, Nd.kids, hn]
      have h2 : (decide ((mostF 9).1 ≤ (ks.length : Int)) && decide ((ks.length : Int) ≤ (mostF 9).2)) = false := by
        simp only [mostF, Int.reduceEq, or_self, or_false, false_or, or_true, true_or, ↓reduceIte, Bool.and_eq_false_iff, decide_eq_false_iff_not]
        omega
      rw [Bool.eq_iff_iff]
      simp only [Bool.and_eq_false_iff] at h2
      simp [shapeOf, fitsF, Nd.text, Nd.kids, hn]
      all_goals grind
  · by_cases hn : ks.length = 0
    · match ks, hn with
      | [], _ =>
        rw [Bool.eq_iff_iff]
        simp [shapeOf, fitsF, txF, mostF, kidF, Nd.text, Nd.kids, List.range_succ, and_assoc]
        all_goals grind
    · have h1 : (match shapeOf 10 with
          | none => false
          | some sh => fitsF sh (Nd.mk 10 t a e ks)) = false := by
        simp [shapeOf, fitsF, Nd.text, Nd.kids, hn]
      have h2 : (decide ((mostF 10).1 ≤ (ks.length : Int)) && decide ((ks.length : Int) ≤ (mostF 10).2)) = false := by
        simp only [mostF, Int.reduceEq, or_self, or_false, false_or, or_true, true_or, ↓reduceIte, Bool.and_eq_false_iff, decide_eq_false_iff_not]
        omega
      rw [Bool.eq_iff_iff]
      simp only [Bool.and_eq_false_iff] at h2
      simp [shapeOf, fitsF, Nd.text, Nd.kids, hn]
      all_goals grind
  · have hk : ∀ (j : Int) m, kidF 11 j m = (isSt m.kind) := fun _ _ => rfl
    simp only [hk]
    rw [range_all (f := fun m => isSt m.kind)]
    rw [Bool.eq_iff_iff]
    simp [shapeOf, fitsF, txF, mostF, hl, hl2, hl3, Nd.text, Nd.kids]
    all_goals grind
  · by_cases hn : ks.length = 2
    · match ks, hn with
      | [x, y], _ =>
        rw [Bool.eq_iff_iff]
        simp [shapeOf, fitsF, txF, mostF, kidF, Nd.text, Nd.kids, List.range_succ, and_assoc]
        all_goals grind
    · have h1 : (match shapeOf 12 with
          | none => false
          | some sh => fitsF sh (Nd.mk 12 t a e ks)) = false := by
        simp [shapeOf, fitsF, Nd.text, Nd.kids, hn]
      have h2 : (decide ((mostF 12).1 ≤ (ks.length : Int)) && decide ((ks.length : Int) ≤ (mostF 12).2)) = false := by
        simp only [mostF, Int.reduceEq, or_self, or_false, false_or, or_true, true_or, ↓reduceIte, Bool.and_eq_false_iff, decide_eq_false_iff_not]
        omega
      rw [Bool.eq_iff_iff]
      simp only [Bool.and_eq_false_iff] at h2
      simp [shapeOf, fitsF, Nd.text, Nd.kids, hn]
      all_goals grind
  · by_cases hn : ks.length = 2
    · match ks, hn with
      | [x, y], _ =>
        rw [Bool.eq_iff_iff]
        simp [shapeOf, fitsF, txF, mostF, kidF, Nd.text, Nd.kids, List.range_succ, and_assoc]
        all_goals grind
    · have h1 : (match shapeOf 13 with
          | none => false
          | some sh => fitsF sh (Nd.mk 13 t a e ks)) = false := by
        simp [shapeOf, fitsF, Nd.text, Nd.kids, hn]
      have h2 : (decide ((mostF 13).1 ≤ (ks.length : Int)) && decide ((ks.length : Int) ≤ (mostF 13).2)) = false := by
        simp only [mostF, Int.reduceEq, or_self, or_false, false_or, or_true, true_or, ↓reduceIte, Bool.and_eq_false_iff, decide_eq_false_iff_not]
        omega
      rw [Bool.eq_iff_iff]
      simp only [Bool.and_eq_false_iff] at h2
      simp [shapeOf, fitsF, Nd.text, Nd.kids, hn]
      all_goals grind
  · by_cases hn : ks.length = 3
    · match ks, hn with
      | [x, y, z], _ =>
        rw [Bool.eq_iff_iff]
        simp [shapeOf, fitsF, txF, mostF, kidF, Nd.text, Nd.kids, List.range_succ, and_assoc]
        all_goals grind
    · have h1 : (match shapeOf 14 with
          | none => false
          | some sh => fitsF sh (Nd.mk 14 t a e ks)) = false := by
        simp [shapeOf, fitsF, Nd.text, Nd.kids, hn]
      have h2 : (decide ((mostF 14).1 ≤ (ks.length : Int)) && decide ((ks.length : Int) ≤ (mostF 14).2)) = false := by
        simp only [mostF, Int.reduceEq, or_self, or_false, false_or, or_true, true_or, ↓reduceIte, Bool.and_eq_false_iff, decide_eq_false_iff_not]
        omega
      rw [Bool.eq_iff_iff]
      simp only [Bool.and_eq_false_iff] at h2
      simp [shapeOf, fitsF, Nd.text, Nd.kids, hn]
      all_goals grind
  · by_cases hn : ks.length = 2
    · match ks, hn with
      | [x, y], _ =>
        rw [Bool.eq_iff_iff]
        simp [shapeOf, fitsF, txF, mostF, kidF, Nd.text, Nd.kids, List.range_succ, and_assoc]
        all_goals grind
    · have h1 : (match shapeOf 15 with
          | none => false
          | some sh => fitsF sh (Nd.mk 15 t a e ks)) = false := by
        simp [shapeOf, fitsF, Nd.text, Nd.kids, hn]
      have h2 : (decide ((mostF 15).1 ≤ (ks.length : Int)) && decide ((ks.length : Int) ≤ (mostF 15).2)) = false := by
        simp only [mostF, Int.reduceEq, or_self, or_false, false_or, or_true, true_or, ↓reduceIte, Bool.and_eq_false_iff, decide_eq_false_iff_not]
        omega
      rw [Bool.eq_iff_iff]
      simp only [Bool.and_eq_false_iff] at h2
      simp [shapeOf, fitsF, Nd.text, Nd.kids, hn]
      all_goals grind
  · by_cases hn : ks.length = 3
    · match ks, hn with
      | [x, y, z], _ =>
        rw [Bool.eq_iff_iff]
        simp [shapeOf, fitsF, txF, mostF, kidF, Nd.text, Nd.kids, List.range_succ, and_assoc]
        all_goals grind
    · have h1 : (match shapeOf 16 with
          | none => false
          | some sh => fitsF sh (Nd.mk 16 t a e ks)) = false := by
        simp [shapeOf, fitsF, Nd.text, Nd.kids, hn]
      have h2 : (decide ((mostF 16).1 ≤ (ks.length : Int)) && decide ((ks.length : Int) ≤ (mostF 16).2)) = false := by
        simp only [mostF, Int.reduceEq, or_self, or_false, false_or, or_true, true_or, ↓reduceIte, Bool.and_eq_false_iff, decide_eq_false_iff_not]
        omega
      rw [Bool.eq_iff_iff]
      simp only [Bool.and_eq_false_iff] at h2
      simp [shapeOf, fitsF, Nd.text, Nd.kids, hn]
      all_goals grind
  · by_cases hn : ks.length = 1
    · match ks, hn with
      | [x], _ =>
        rw [Bool.eq_iff_iff]
        simp [shapeOf, fitsF, txF, mostF, kidF, Nd.text, Nd.kids, List.range_succ, and_assoc]
        all_goals grind
    · have h1 : (match shapeOf 17 with
          | none => false
          | some sh => fitsF sh (Nd.mk 17 t a e ks)) = false := by
        simp [shapeOf, fitsF, Nd.text, Nd.kids, hn]
      have h2 : (decide ((mostF 17).1 ≤ (ks.length : Int)) && decide ((ks.length : Int) ≤ (mostF 17).2)) = false := by
        simp only [mostF, Int.reduceEq, or_self, or_false, false_or, or_true, true_or, ↓reduceIte, Bool.and_eq_false_iff, decide_eq_false_iff_not]
        omega
      rw [Bool.eq_iff_iff]
      simp only [Bool.and_eq_false_iff] at h2
      simp [shapeOf, fitsF, Nd.text, Nd.kids, hn]
      all_goals grind
  · by_cases hn : ks.length = 1
    · match ks, hn with
      | [x], _ =>
        rw [Bool.eq_iff_iff]
        simp [shapeOf, fitsF, txF, mostF, kidF, Nd.text, Nd.kids, List.range_succ, and_assoc]
        all_goals grind
    · have h1 : (match shapeOf 18 with
          | none => false
          | some sh => fitsF sh (Nd.mk 18 t a e ks)) = false := by
        simp [shapeOf, fitsF, Nd.text, Nd.kids, hn]
      have h2 : (decide ((mostF 18).1 ≤ (ks.length : Int)) && decide ((ks.length : Int) ≤ (mostF 18).2)) = false := by
        simp only [mostF, Int.reduceEq, or_self, or_false, false_or, or_true, true_or, ↓reduceIte, Bool.and_eq_false_iff, decide_eq_false_iff_not]
        omega
      rw [Bool.eq_iff_iff]
      simp only [Bool.and_eq_false_iff] at h2
      simp [shapeOf, fitsF, Nd.text, Nd.kids, hn]
      all_goals grind
  · have hk : ∀ (j : Int) m, kidF 19 j m = (isEx m.kind) := fun _ _ => rfl
    simp only [hk]
    rw [range_all (f := fun m => isEx m.kind)]
    rw [Bool.eq_iff_iff]
    simp [shapeOf, fitsF, txF, mostF, hl, hl2, hl3, Nd.text, Nd.kids]
    all_goals grind
  · by_cases hn : ks.length = 0
    · match ks, hn with
      | [], _ =>
        rw [Bool.eq_iff_iff]
        simp [shapeOf, fitsF, txF, mostF, kidF, Nd.text, Nd.kids, List.range_succ, and_assoc]
        all_goals grind
    · have h1 : (match shapeOf 20 with
          | none => false
          | some sh => fitsF sh (Nd.mk 20 t a e ks)) = false := by
        simp [shapeOf, fitsF, Nd.text, Nd.kids, hn]
      have h2 : (decide ((mostF 20).1 ≤ (ks.length : Int)) && decide ((ks.length : Int) ≤ (mostF 20).2)) = false := by
        simp only [mostF, Int.reduceEq, or_self, or_false, false_or, or_true, true_or, ↓reduceIte, Bool.and_eq_false_iff, decide_eq_false_iff_not]
        omega
      rw [Bool.eq_iff_iff]
      simp only [Bool.and_eq_false_iff] at h2
      simp [shapeOf, fitsF, Nd.text, Nd.kids, hn]
      all_goals grind
  · by_cases hn : ks.length = 2
    · match ks, hn with
      | [x, y], _ =>
        rw [Bool.eq_iff_iff]
        simp [shapeOf, fitsF, txF, mostF, kidF, Nd.text, Nd.kids, List.range_succ, and_assoc]
        all_goals grind
    · have h1 : (match shapeOf 21 with
          | none => false
          | some sh => fitsF sh (Nd.mk 21 t a e ks)) = false := by
        simp [shapeOf, fitsF, Nd.text, Nd.kids, hn]
      have h2 : (decide ((mostF 21).1 ≤ (ks.length : Int)) && decide ((ks.length : Int) ≤ (mostF 21).2)) = false := by
        simp only [mostF, Int.reduceEq, or_self, or_false, false_or, or_true, true_or, ↓reduceIte, Bool.and_eq_false_iff, decide_eq_false_iff_not]
        omega
      rw [Bool.eq_iff_iff]
      simp only [Bool.and_eq_false_iff] at h2
      simp [shapeOf, fitsF, Nd.text, Nd.kids, hn]
      all_goals grind
  · by_cases hn : ks.length = 1
    · match ks, hn with
      | [x], _ =>
        rw [Bool.eq_iff_iff]
        simp [shapeOf, fitsF, txF, mostF, kidF, Nd.text, Nd.kids, List.range_succ, and_assoc]
        all_goals grind
    · have h1 : (match shapeOf 22 with
          | none => false
          | some sh => fitsF sh (Nd.mk 22 t a e ks)) = false := by
        simp [shapeOf, fitsF, Nd.text, Nd.kids, hn]
      have h2 : (decide ((mostF 22).1 ≤ (ks.length : Int)) && decide ((ks.length : Int) ≤ (mostF 22).2)) = false := by
        simp only [mostF, Int.reduceEq, or_self, or_false, false_or, or_true, true_or, ↓reduceIte, Bool.and_eq_false_iff, decide_eq_false_iff_not]
        omega
      rw [Bool.eq_iff_iff]
      simp only [Bool.and_eq_false_iff] at h2
      simp [shapeOf, fitsF, Nd.text, Nd.kids, hn]
      all_goals grind
  · by_cases hn : ks.length = 1
    · match ks, hn with
      | [x], _ =>
        rw [Bool.eq_iff_iff]
        simp [shapeOf, fitsF, txF, mostF, kidF, Nd.text, Nd.kids, List.range_succ, and_assoc]
        all_goals grind
    · have h1 : (match shapeOf 23 with
          | none => false
          | some sh => fitsF sh (Nd.mk 23 t a e ks)) = false := by
        simp [shapeOf, fitsF, Nd.text, Nd.kids, hn]
      have h2 : (decide ((mostF 23).1 ≤ (ks.length : Int)) && decide ((ks.length : Int) ≤ (mostF 23).2)) = false := by
        simp only [mostF, Int.reduceEq, or_self, or_false, false_or, or_true, true_or, ↓reduceIte, Bool.and_eq_false_iff, decide_eq_false_iff_not]
        omega
      rw [Bool.eq_iff_iff]
      simp only [Bool.and_eq_false_iff] at h2
      simp [shapeOf, fitsF, Nd.text, Nd.kids, hn]
      all_goals grind
  · by_cases hn : ks.length = 0
    · match ks, hn with
      | [], _ =>
        rw [Bool.eq_iff_iff]
        simp [shapeOf, fitsF, txF, mostF, kidF, Nd.text, Nd.kids, List.range_succ, and_assoc]
        all_goals grind
    · have h1 : (match shapeOf 24 with
          | none => false
          | some sh => fitsF sh (Nd.mk 24 t a e ks)) = false := by
        simp [shapeOf, fitsF, Nd.text, Nd.kids, hn]
      have h2 : (decide ((mostF 24).1 ≤ (ks.length : Int)) && decide ((ks.length : Int) ≤ (mostF 24).2)) = false := by
        simp only [mostF, Int.reduceEq, or_self, or_false, false_or, or_true, true_or, ↓reduceIte, Bool.and_eq_false_iff, decide_eq_false_iff_not]
        omega
      rw [Bool.eq_iff_iff]
      simp only [Bool.and_eq_false_iff] at h2
      simp [shapeOf, fitsF, Nd.text, Nd.kids, hn]
      all_goals grind
  · by_cases hn : ks.length = 0
    · match ks, hn with
      | [], _ =>
        rw [Bool.eq_iff_iff]
        simp [shapeOf, fitsF, txF, mostF, kidF, Nd.text, Nd.kids, List.range_succ, and_assoc]
        all_goals grind
    · have h1 : (match shapeOf 25 with
          | none => false
          | some sh => fitsF sh (Nd.mk 25 t a e ks)) = false := by
        simp [shapeOf, fitsF, Nd.text, Nd.kids, hn]
      have h2 : (decide ((mostF 25).1 ≤ (ks.length : Int)) && decide ((ks.length : Int) ≤ (mostF 25).2)) = false := by
        simp only [mostF, Int.reduceEq, or_self, or_false, false_or, or_true, true_or, ↓reduceIte, Bool.and_eq_false_iff, decide_eq_false_iff_not]
        omega
      rw [Bool.eq_iff_iff]
      simp only [Bool.and_eq_false_iff] at h2
      simp [shapeOf, fitsF, Nd.text, Nd.kids, hn]
      all_goals grind
  · have hk : ∀ (j : Int) m, kidF 26 j m = (isEx m.kind) := fun _ _ => rfl
    simp only [hk]
    rw [range_all (f := fun m => isEx m.kind)]
    rw [Bool.eq_iff_iff]
    simp [shapeOf, fitsF, txF, mostF, hl, hl2, hl3, Nd.text, Nd.kids]
    all_goals grind
  · have hk : ∀ (j : Int) m, kidF 27 j m = (isEx m.kind) := fun _ _ => rfl
    simp only [hk]
    rw [range_all (f := fun m => isEx m.kind)]
    rw [Bool.eq_iff_iff]
    simp [shapeOf, fitsF, txF, mostF, hl, hl2, hl3, Nd.text, Nd.kids]
    all_goals grind
  · by_cases hn : ks.length = 1
    · match ks, hn with
      | [x], _ =>
        rw [Bool.eq_iff_iff]
        simp [shapeOf, fitsF, txF, mostF, kidF, Nd.text, Nd.kids, List.range_succ, and_assoc]
        all_goals grind
    · have h1 : (match shapeOf 28 with
          | none => false
          | some sh => fitsF sh (Nd.mk 28 t a e ks)) = false := by
        simp [shapeOf, fitsF, Nd.text, Nd.kids, hn]
      have h2 : (decide ((mostF 28).1 ≤ (ks.length : Int)) && decide ((ks.length : Int) ≤ (mostF 28).2)) = false := by
        simp only [mostF, Int.reduceEq, or_self, or_false, false_or, or_true, true_or, ↓reduceIte, Bool.and_eq_false_iff, decide_eq_false_iff_not]
        omega
      rw [Bool.eq_iff_iff]
      simp only [Bool.and_eq_false_iff] at h2
      simp [shapeOf, fitsF, Nd.text, Nd.kids, hn]
      all_goals grind
  · by_cases hn : ks.length = 2
    · match ks, hn with
      | [x, y], _ =>
        rw [Bool.eq_iff_iff]
        simp [shapeOf, fitsF, txF, mostF, kidF, Nd.text, Nd.kids, List.range_succ, and_assoc]
        all_goals grind
    · have h1 : (match shapeOf 29 with
          | none => false
          | some sh => fitsF sh (Nd.mk 29 t a e ks)) = false := by
        simp [shapeOf, fitsF, Nd.text, Nd.kids, hn]
      have h2 : (decide ((mostF 29).1 ≤ (ks.length : Int)) && decide ((ks.length : Int) ≤ (mostF 29).2)) = false := by
        simp only [mostF, Int.reduceEq, or_self, or_false, false_or, or_true, true_or, ↓reduceIte, Bool.and_eq_false_iff, decide_eq_false_iff_not]
        omega
      rw [Bool.eq_iff_iff]
      simp only [Bool.and_eq_false_iff] at h2
      simp [shapeOf, fitsF, Nd.text, Nd.kids, hn]
      all_goals grind
end Go.Proofs.Ytnbdogodcjhfiaa

/- Trees: Valid, Expression, Statement; sameness. -/
namespace Go.Proofs.Ytnbdogodcjhfiaa
open Go Go.Ax
set_option maxRecDepth 100000
set_option linter.unusedSimpArgs false
set_option linter.unusedVariables false

mutual
theorem nds_mem {m : Nd} : ∀ {n : Nd}, m ∈ nds n → cnt m ≤ cnt n
  | .mk k t a e ks, h => by
    simp only [nds, List.mem_cons] at h
    rcases h with rfl | h
    · exact Nat.le_refl _
    · have := ndss_mem h
      simp only [cnt]
      omega
theorem ndss_mem {m : Nd} : ∀ {l : List Nd}, m ∈ ndss l → cnt m ≤ cnts l
  | [], h => by simp [ndss] at h
  | x :: l, h => by
    simp only [ndss, List.mem_append] at h
    simp only [cnts]
    rcases h with h | h
    · have := nds_mem h; omega
    · have := ndss_mem h; omega
end
/-- Both say the same of trees that are not too great. -/
theorem shaped_ref {n : Nd} (h : cnt n ≤ 4096) : shapedF n = shpF n := by
  unfold shapedF shpF
  rw [Bool.eq_iff_iff, List.all_eq_true, List.all_eq_true]
  have hm : ∀ m ∈ nds n, locP m = refP m := fun m hm => loc_ref m (by
    have h1 := nds_mem hm
    have h2 := cnts_len m.kids
    rw [cnt_eq] at h1
    omega)
  exact ⟨fun hh m h => by rw [← hm m h]; exact hh m h, fun hh m h => by rw [hm m h]; exact hh m h⟩

theorem ValidT (n : Nd) (hs : Sml n) (H : AHeap) : Comp' 13 [.agg (ndR n)] H (bool (decide (n.kind = 2) && shapedF n)) := by
  refine ACall.drop (R := fun x => x = bool (decide (n.kind = 2) && shapedF n)) ?_
  refine enter Try.func13 L13_ok (Nat.le_of_ble_eq_true rfl) ?_
  by_cases h : n.kind = 2
  · rw [decide_eq_true h, Bool.true_and]
    repeat' (first | (refine And.intro (by omega) ?_) | (refine callF_pure (shapedC n hs _) ?_) | (refine callQF_pure (shapedC n hs _) (by first | rfl | simp only [L13, cells_agg, nd_c1s, nd_len, nd_cellsV, nd_take, push_cast]) ?_) | simp -implicitDefEqProofs (disch := omega) only [L13, cells_agg, nd_c1s, nd_len, nd_cellsV, nd_take, dT_lt, dF_lt, dT_le, dF_le, dT_eq, dF_eq, push_cast, ↓reduceIte, Nat.reduceEqDiff, reduceCtorEq, Nat.reduceAdd, Nat.reduceSub, Nat.reduceMul, Nat.reduceLeDiff, Nat.reduceLT, Nat.reduceMod, Nat.reduceDiv, Int.reduceToNat, Int.reduceLT, Int.reduceLE, Int.reduceEq, Int.reduceAdd, Int.reduceSub, Int.reduceNeg, Int.reduceMul, Bool.and_self] | split)
    exact ⟨_, rfl⟩
  · rw [decide_eq_false h, Bool.false_and]
    repeat' (first | (refine And.intro (by omega) ?_) | (refine callF_pure (shapedC n hs _) ?_) | (refine callQF_pure (shapedC n hs _) (by first | rfl | simp only [L13, cells_agg, nd_c1s, nd_len, nd_cellsV, nd_take, push_cast]) ?_) | simp -implicitDefEqProofs (disch := omega) only [L13, cells_agg, nd_c1s, nd_len, nd_cellsV, nd_take, dT_lt, dF_lt, dT_le, dF_le, dT_eq, dF_eq, push_cast, ↓reduceIte, Nat.reduceEqDiff, reduceCtorEq, Nat.reduceAdd, Nat.reduceSub, Nat.reduceMul, Nat.reduceLeDiff, Nat.reduceLT, Nat.reduceMod, Nat.reduceDiv, Int.reduceToNat, Int.reduceLT, Int.reduceLE, Int.reduceEq, Int.reduceAdd, Int.reduceSub, Int.reduceNeg, Int.reduceMul, Bool.and_self] | split)
    exact ⟨_, rfl⟩
theorem ValidTR (n : Nd) (hs : Sml n) (H : AHeap) : Comp' 14 [.agg (ndR n)] H (bool (decide (n.kind = 2) && shpF n)) := by
  refine ACall.drop (R := fun x => x = bool (decide (n.kind = 2) && shpF n)) ?_
  refine enter Try.func14 L14_ok (Nat.le_of_ble_eq_true rfl) ?_
  by_cases h : n.kind = 2
  · rw [decide_eq_true h, Bool.true_and]
    repeat' (first | (refine And.intro (by omega) ?_) | (refine callF_pure (ShapeR n hs _) ?_) | (refine callQF_pure (ShapeR n hs _) (by first | rfl | simp only [L14, cells_agg, nd_c1s, nd_len, nd_cellsV, nd_take, push_cast]) ?_) | simp -implicitDefEqProofs (disch := omega) only [L14, cells_agg, nd_c1s, nd_len, nd_cellsV, nd_take, dT_lt, dF_lt, dT_le, dF_le, dT_eq, dF_eq, push_cast, ↓reduceIte, Nat.reduceEqDiff, reduceCtorEq, Nat.reduceAdd, Nat.reduceSub, Nat.reduceMul, Nat.reduceLeDiff, Nat.reduceLT, Nat.reduceMod, Nat.reduceDiv, Int.reduceToNat, Int.reduceLT, Int.reduceLE, Int.reduceEq, Int.reduceAdd, Int.reduceSub, Int.reduceNeg, Int.reduceMul, Bool.and_self] | split)
    exact ⟨_, rfl⟩
  · rw [decide_eq_false h, Bool.false_and]
    repeat' (first | (refine And.intro (by omega) ?_) | (refine callF_pure (ShapeR n hs _) ?_) | (refine callQF_pure (ShapeR n hs _) (by first | rfl | simp only [L14, cells_agg, nd_c1s, nd_len, nd_cellsV, nd_take, push_cast]) ?_) | simp -implicitDefEqProofs (disch := omega) only [L14, cells_agg, nd_c1s, nd_len, nd_cellsV, nd_take, dT_lt, dF_lt, dT_le, dF_le, dT_eq, dF_eq, push_cast, ↓reduceIte, Nat.reduceEqDiff, reduceCtorEq, Nat.reduceAdd, Nat.reduceSub, Nat.reduceMul, Nat.reduceLeDiff, Nat.reduceLT, Nat.reduceMod, Nat.reduceDiv, Int.reduceToNat, Int.reduceLT, Int.reduceLE, Int.reduceEq, Int.reduceAdd, Int.reduceSub, Int.reduceNeg, Int.reduceMul, Bool.and_self] | split)
    exact ⟨_, rfl⟩
end Go.Proofs.Ytnbdogodcjhfiaa

/- Trees: sameness. -/
namespace Go.Proofs.Ytnbdogodcjhfiaa
open Go Go.Ax
set_option maxRecDepth 100000
set_option linter.unusedSimpArgs false
set_option linter.unusedVariables false

end Go.Proofs.Ytnbdogodcjhfiaa

/- Trees: the reference's Same and Equal, Ints. -/
namespace Go.Proofs.Ytnbdogodcjhfiaa
open Go Go.Ax
set_option maxRecDepth 100000
set_option linter.unusedSimpArgs false
set_option linter.unusedVariables false

/-- Equal with the places. -/
noncomputable def eqF (n m : Nd) : Bool := @decide (n = m) (Classical.propDecidable _)
theorem eqF_false {n m : Nd} (h : ¬ n = m) : eqF n m = false := by unfold eqF; simp [h]
end Go.Proofs.Ytnbdogodcjhfiaa

/- Calls: what is handed back as a value; arguments that say less. -/
namespace Go.Ax
open Go
set_option linter.unusedSimpArgs false
set_option linter.unusedVariables false

variable {P : Program} {H : AHeap}
/-- A slice of one's own that is handed back is a value. -/
theorem ACall.frz {k : FuncId} {args : List AV} {R : AV → AHeap → Prop} (h : ACall P k args H R) (hR : ∀ x H', R x H' → (rFrz x H').ok) :
    ACall P k args H fun y H2 => ∃ x H', R x H' ∧ y = (rFrz x H').x ∧ H2 = (rFrz x H').H :=
  ⟨h.1, fun X ρ w vs a b => (h.2 X ρ w vs a b).mono fun _ w' ⟨v, x, H', ρ', e, r, g1, g2, g3⟩ => by
    obtain ⟨ρ2, f1, f2, f3⟩ := snd_frz g1 g2 (hR _ _ r)
    exact ⟨v, _, _, ρ2, e, ⟨x, H', r, rfl, rfl⟩, f1, f2, g3.trans f3⟩⟩
/-- The same of a slice in a struct that is handed back. -/
theorem ACall.frzf {k : FuncId} {args : List AV} {R : AV → AHeap → Prop} (sz off : Nat) (h : ACall P k args H R) (hR : ∀ x H', R x H' → (rFrzf sz off x H').ok) :
    ACall P k args H fun y H2 => ∃ x H', R x H' ∧ y = (rFrzf sz off x H').x ∧ H2 = (rFrzf sz off x H').H :=
  ⟨h.1, fun X ρ w vs a b => (h.2 X ρ w vs a b).mono fun _ w' ⟨v, x, H', ρ', e, r, g1, g2, g3⟩ => by
    obtain ⟨ρ2, f1, f2, f3⟩ := snd_frzf g1 g2 (hR _ _ r)
    exact ⟨v, _, _, ρ2, e, ⟨x, H', r, rfl, rfl⟩, f1, f2, g3.trans f3⟩⟩
/-- y says no more than x. -/
def AV.Le (x y : AV) : Prop := ∀ (w : World) (M : Nat → Prop) (ρ : Nat → Loc) (n : Nat) (v : Value), Rep w M ρ n x v → Rep w M ρ n y v
theorem AV.Le.refl (x : AV) : AV.Le x x := fun _ _ _ _ _ h => h
theorem AV.Le.nil (sz : Nat) : AV.Le (.v (.slice none 0 0)) (.sl sz []) := fun w M ρ n v h => by
  cases h
  exact .slE _ _ _ _
theorem AV.Le.agg {xs ys : List AV} (hl : xs.length = ys.length) (h : ∀ (i : Nat) (x y : AV), xs[i]? = some x → ys[i]? = some y → AV.Le x y) : AV.Le (.agg xs) (.agg ys) := fun w M ρ n v hv => by
  cases hv with
  | agg _ _ us hl' hr =>
    refine .agg _ _ _ (by omega) fun i y u hy hu => ?_
    have hi : i < xs.length := by have := (List.getElem?_eq_some_iff.1 hy).1; omega
    exact h i xs[i] y (List.getElem?_eq_getElem hi) hy _ _ _ _ _ (hr i _ u (List.getElem?_eq_getElem hi) hu)
/-- A call with arguments that say more. -/
theorem ACall.args {k : FuncId} {xs ys : List AV} {R : AV → AHeap → Prop} (h : ACall P k ys H R) (hl : xs.length = ys.length) (hle : ∀ (i : Nat) (x y : AV), xs[i]? = some x → ys[i]? = some y → AV.Le x y) : ACall P k xs H R :=
  ⟨h.1, fun X ρ w vs a b => h.2 X ρ w vs a (by
    obtain ⟨b1, b2⟩ := b
    refine ⟨by omega, fun i y u hy hu => ?_⟩
    have hi : i < xs.length := by have := (List.getElem?_eq_some_iff.1 hy).1; omega
    exact hle i xs[i] y (List.getElem?_eq_getElem hi) hy _ _ _ _ _ (b2 i _ u (List.getElem?_eq_getElem hi) hu))⟩
/-- A result that says less. -/
theorem ACall.res {k : FuncId} {args : List AV} {R : AV → AHeap → Prop} (h : ACall P k args H R) : ACall P k args H fun y H' => ∃ x, R x H' ∧ AV.Le x y := by
  refine h.mono fun x H' r => ⟨x, r, AV.Le.refl x⟩
theorem ACall.resTo {k : FuncId} {args : List AV} {R R' : AV → AHeap → Prop} (h : ACall P k args H R) (hr : ∀ x H', R x H' → ∃ y, AV.Le x y ∧ R' y H') : ACall P k args H R' :=
  ⟨h.1, fun X ρ w vs a b => (h.2 X ρ w vs a b).mono fun _ w' ⟨v, x, H', ρ', e, r, g1, g2, g3⟩ => by
    obtain ⟨y, h1, h2⟩ := hr _ _ r
    exact ⟨v, y, H', ρ', e, h2, g1, h1 _ _ _ _ _ g2, g3⟩⟩
end Go.Ax

/- Trees: nodes by their paths. -/
namespace Go.Proofs.Ytnbdogodcjhfiaa
open Go Go.Ax
set_option maxRecDepth 100000
set_option linter.unusedSimpArgs false
set_option linter.unusedVariables false

theorem nd_drop5 (n : Nd) : (ndR n).drop 5 = [] := by rw [ndR_eq]; rfl
end Go.Proofs.Ytnbdogodcjhfiaa

/- Trees: numbers of nodes. -/
namespace Go.Proofs.Ytnbdogodcjhfiaa
open Go Go.Ax
set_option maxRecDepth 100000
set_option linter.unusedSimpArgs false
set_option linter.unusedVariables false

end Go.Proofs.Ytnbdogodcjhfiaa

/- Trees: paths of nodes. -/
namespace Go.Proofs.Ytnbdogodcjhfiaa
open Go Go.Ax
set_option maxRecDepth 100000
set_option linter.unusedSimpArgs false
set_option linter.unusedVariables false

end Go.Proofs.Ytnbdogodcjhfiaa

/- Trees: nodes by their places. -/
namespace Go.Proofs.Ytnbdogodcjhfiaa
open Go Go.Ax
set_option maxRecDepth 100000
set_option linter.unusedSimpArgs false
set_option linter.unusedVariables false

end Go.Proofs.Ytnbdogodcjhfiaa

/- The functions, lowered. Printed by a program (wip/tools/pl.py). -/
namespace Go.Proofs.Ytnbdogodcjhfiaa
open Go Go.Ax
set_option maxRecDepth 100000

end Go.Proofs.Ytnbdogodcjhfiaa

/- Trees: without places; copies. -/
namespace Go.Proofs.Ytnbdogodcjhfiaa
open Go Go.Ax
set_option maxRecDepth 100000
set_option linter.unusedSimpArgs false
set_option linter.unusedVariables false

end Go.Proofs.Ytnbdogodcjhfiaa
