/- The functions, lowered. Printed by a program (wip/tools/pl.py). -/
import Derived.Test.YtdibceakkjmpgaaChecked
import Derived.Test.YtdibceakkjmpgaaAx4
namespace Go.Proofs.Ytdibceakkjmpgaa
open Go Go.Ax
set_option maxRecDepth 100000

/-- assessor_assessorlaw08.TypesForms -/
def L4 : LFn := ⟨56, [(.tmp 4)], (.seq (.ops [⟨(some 4), none, (.mv (.c (.v (.bool false))))⟩])
    (.seq (.seq (.ops [⟨(some 7), none, (.mv (.t 0))⟩,
      ⟨(some 8), none, (.call (.c (.fn (.func 17) [] [])) [(.t 7)])⟩,
      ⟨(some 9), none, (.not (.t 8))⟩,
      ⟨(some 10), none, (.mv (.t 9))⟩,
      ⟨(some 11), (some (10, false)), (.mv (.t 1))⟩,
      ⟨(some 12), (some (10, false)), (.len .slc (.t 11))⟩,
      ⟨(some 13), (some (10, false)), (.bin .int .gtr (.t 12) (.c (.v (.int .i64 20))))⟩,
      ⟨(some 14), none, (.pick (.t 10) (.c (.v (.bool true))) (.t 13))⟩])
    (.cond (.t 14)
    (.seq (.ops [⟨(some 15), none, (.call (.c (.fn (.func 18) [] [])) [])⟩,
      ⟨(some 4), none, (.mv (.t 15))⟩])
    .ret)
    .skip))
    (.seq (.seq (.ops [⟨(some 16), none, (.mv (.t 1))⟩,
      ⟨(some 17), none, (.len .slc (.t 16))⟩,
      ⟨(some 18), none, (.mv (.c (.v (.int .i64 0))))⟩])
    (.block 0 (.loop (.seq (.ops [⟨(some 19), none, (.bin .int .lss (.t 18) (.t 17))⟩])
    (.seq (.cond (.t 19)
    .skip
    (.exit 0))
    (.seq (.block 1 (.seq (.ops [⟨(some 20), none, (.iaddr 3 (.t 16) (.t 18))⟩,
      ⟨(some 21), none, (.load true 3 (.t 20))⟩,
      ⟨(some 6), none, (.alloc [(.v (.int .i64 0)), (.v (.int .i64 0)), (.v (.string (mkS [])))])⟩,
      ⟨none, none, (.store 3 (.t 6) (.t 21))⟩])
    (.seq (.draw [⟨(some 22), none, (.load true 3 (.t 6))⟩,
      ⟨(some 23), none, (.mv (.t 0))⟩,
      ⟨(some 24), none, (.call (.c (.fn (.func 19) [] [])) [(.t 22), (.t 23)])⟩,
      ⟨(some 25), none, (.load true 3 (.t 6))⟩,
      ⟨(some 26), none, (.mv (.t 0))⟩,
      ⟨(some 27), none, (.call (.c (.fn (.func 20) [] [])) [(.t 25), (.t 26)])⟩,
      ⟨(some 28), none, (.bin .bool .neq (.t 24) (.t 27))⟩,
      ⟨(some 29), none, (.mv (.t 28))⟩,
      ⟨(some 30), (some (29, false)), (.load true 3 (.t 6))⟩,
      ⟨(some 31), (some (29, false)), (.call (.c (.fn (.func 21) [] [])) [(.t 30)])⟩,
      ⟨(some 32), (some (29, false)), (.load true 3 (.t 6))⟩,
      ⟨(some 33), (some (29, false)), (.call (.c (.fn (.func 22) [] [])) [(.t 32)])⟩,
      ⟨(some 34), (some (29, false)), (.bin .str .neq (.t 31) (.t 33))⟩,
      ⟨(some 35), none, (.pick (.t 29) (.c (.v (.bool true))) (.t 34))⟩,
      ⟨(some 36), none, (.mv (.t 35))⟩,
      ⟨(some 37), (some (36, false)), (.load true 3 (.t 6))⟩,
      ⟨(some 38), (some (36, false)), (.mv (.t 0))⟩,
      ⟨(some 39), (some (36, false)), (.call (.c (.fn (.func 23) [] [])) [(.t 37), (.t 38)])⟩,
      ⟨(some 40), (some (36, false)), (.load true 3 (.t 6))⟩,
      ⟨(some 41), (some (36, false)), (.mv (.t 0))⟩,
      ⟨(some 42), (some (36, false)), (.call (.c (.fn (.func 24) [] [])) [(.t 40), (.t 41)])⟩,
      ⟨(some 43), (some (36, false)), (.bin .int .neq (.t 39) (.t 42))⟩,
      ⟨(some 44), none, (.pick (.t 36) (.c (.v (.bool true))) (.t 43))⟩] [])
    (.cond (.t 44)
    (.seq (.ops [⟨(some 4), none, (.mv (.c (.v (.bool false))))⟩])
    .ret)
    .skip))))
    (.ops [⟨(some 45), none, (.bin .int .add (.t 18) (.c (.v (.int .i64 1))))⟩,
      ⟨(some 18), none, (.mv (.t 45))⟩])))))))
    (.seq (.ops [⟨(some 46), none, (.mv (.t 0))⟩,
      ⟨(some 47), none, (.mv (.t 1))⟩,
      ⟨(some 48), none, (.call (.c (.fn (.func 26) [] [])) [(.t 46), (.t 47)])⟩,
      ⟨(some 49), none, (.mv (.t 0))⟩,
      ⟨(some 50), none, (.mv (.t 1))⟩,
      ⟨(some 51), none, (.call (.c (.fn (.func 27) [] [])) [(.t 49), (.t 50)])⟩,
      ⟨(some 52), none, (.call (.c (.fn (.func 25) [] [])) [(.t 48), (.t 51)])⟩,
      ⟨(some 53), none, (.mv (.t 52))⟩,
      ⟨(some 54), (some (53, true)), (.call (.c (.fn (.func 18) [] [])) [])⟩,
      ⟨(some 55), none, (.pick (.t 53) (.t 54) (.c (.v (.bool false))))⟩,
      ⟨(some 4), none, (.mv (.t 55))⟩])
    .ret))))⟩
theorem L4_ok : lowFn Try.prog Try.f4 [] = some L4 := by kernel_rfl

/-- assessor_assessorlaw08.TypesSlots -/
def L5 : LFn := ⟨142, [(.tmp 4)], (.seq (.ops [⟨(some 4), none, (.mv (.c (.v (.bool false))))⟩])
    (.seq (.seq (.ops [⟨(some 13), none, (.mv (.t 0))⟩,
      ⟨(some 14), none, (.call (.c (.fn (.func 17) [] [])) [(.t 13)])⟩,
      ⟨(some 15), none, (.not (.t 14))⟩,
      ⟨(some 16), none, (.mv (.t 15))⟩,
      ⟨(some 17), (some (16, false)), (.mv (.t 1))⟩,
      ⟨(some 18), (some (16, false)), (.len .slc (.t 17))⟩,
      ⟨(some 19), (some (16, false)), (.bin .int .gtr (.t 18) (.c (.v (.int .i64 20))))⟩,
      ⟨(some 20), none, (.pick (.t 16) (.c (.v (.bool true))) (.t 19))⟩])
    (.cond (.t 20)
    (.seq (.ops [⟨(some 21), none, (.call (.c (.fn (.func 18) [] [])) [])⟩,
      ⟨(some 4), none, (.mv (.t 21))⟩])
    .ret)
    .skip))
    (.seq (.ops [⟨(some 23), none, (.mv (.t 0))⟩,
      ⟨(some 24), none, (.mv (.t 1))⟩,
      ⟨(some 25), none, (.call (.c (.fn (.func 28) [] [])) [(.t 23), (.t 24)])⟩,
      ⟨(some 22), none, (.mv (.t 25))⟩,
      ⟨(some 26), none, (.ext (.t 22) 0)⟩,
      ⟨(some 27), none, (.ext (.t 22) 1)⟩,
      ⟨(some 5), none, (.mv (.t 26))⟩,
      ⟨(some 6), none, (.mv (.t 27))⟩])
    (.seq (.ops [⟨(some 7), none, (.mv (.c (.v (.slice none 0 0))))⟩,
      ⟨(some 7), none, (.own 3 (.t 7))⟩])
    (.seq (.seq (.ops [⟨(some 28), none, (.mv (.t 1))⟩,
      ⟨(some 29), none, (.len .slc (.t 28))⟩,
      ⟨(some 30), none, (.mv (.c (.v (.int .i64 0))))⟩])
    (.block 0 (.loop (.seq (.ops [⟨(some 31), none, (.bin .int .lss (.t 30) (.t 29))⟩])
    (.seq (.cond (.t 31)
    .skip
    (.exit 0))
    (.seq (.block 1 (.seq (.ops [⟨(some 32), none, (.iaddr 8 (.t 28) (.t 30))⟩,
      ⟨(some 33), none, (.load true 8 (.t 32))⟩,
      ⟨(some 9), none, (.alloc [(.v (.string (mkS []))), (.v (.int .i64 0)), (.v (.int .i64 0)), (.v (.string (mkS []))), (.v (.int .i64 0)), (.v (.int .i64 0)), (.v (.bool false)), (.v (.bool false))])⟩,
      ⟨none, none, (.store 8 (.t 9) (.t 33))⟩])
    (.seq (.seq (.ops [⟨(some 34), none, (.faddr 1 (.t 9))⟩,
      ⟨(some 35), none, (.load true 3 (.t 34))⟩,
      ⟨(some 36), none, (.mv (.t 0))⟩,
      ⟨(some 37), none, (.call (.c (.fn (.func 19) [] [])) [(.t 35), (.t 36)])⟩,
      ⟨(some 38), none, (.not (.t 37))⟩])
    (.cond (.t 38)
    (.seq (.ops [⟨(some 39), none, (.mv (.t 5))⟩,
      ⟨(some 40), none, (.len .slc (.t 39))⟩,
      ⟨(some 41), none, (.bin .int .eql (.t 40) (.c (.v (.int .i64 0))))⟩,
      ⟨(some 42), none, (.mv (.t 41))⟩,
      ⟨(some 43), (some (42, true)), (.mv (.t 6))⟩,
      ⟨(some 44), (some (42, true)), (.bin .int .eql (.t 43) (.c (.v (.int .i64 0))))⟩,
      ⟨(some 45), none, (.pick (.t 42) (.t 44) (.c (.v (.bool false))))⟩,
      ⟨(some 46), none, (.mv (.t 45))⟩,
      ⟨(some 47), (some (46, true)), (.call (.c (.fn (.func 18) [] [])) [])⟩,
      ⟨(some 48), none, (.pick (.t 46) (.t 47) (.c (.v (.bool false))))⟩,
      ⟨(some 4), none, (.mv (.t 48))⟩])
    .ret)
    .skip))
    (.ops [⟨(some 49), none, (.mv (.t 7))⟩,
      ⟨(some 50), none, (.faddr 1 (.t 9))⟩,
      ⟨(some 51), none, (.load true 3 (.t 50))⟩,
      ⟨(some 52), none, (.bsl true 3 1 [(.v (.int .i64 0)), (.v (.int .i64 0)), (.v (.string (mkS [])))] [(0, (.t 51))])⟩,
      ⟨(some 53), none, (.append 3 32 (.t 49) (.t 52))⟩,
      ⟨(some 7), none, (.mv (.t 53))⟩]))))
    (.ops [⟨(some 54), none, (.bin .int .add (.t 30) (.c (.v (.int .i64 1))))⟩,
      ⟨(some 30), none, (.mv (.t 54))⟩])))))))
    (.seq (.ops [⟨(some 10), none, (.mv (.c (.v (.int .i64 0))))⟩])
    (.seq (.seq (.ops [⟨(some 55), none, (.mv (.t 5))⟩,
      ⟨(some 56), none, (.len .slc (.t 55))⟩,
      ⟨(some 57), none, (.mv (.t 1))⟩,
      ⟨(some 58), none, (.len .slc (.t 57))⟩,
      ⟨(some 59), none, (.bin .int .neq (.t 56) (.t 58))⟩])
    (.cond (.t 59)
    (.seq (.ops [⟨(some 4), none, (.mv (.c (.v (.bool false))))⟩])
    .ret)
    .skip))
    (.seq (.seq (.ops [⟨(some 60), none, (.mv (.t 5))⟩,
      ⟨(some 61), none, (.len .slc (.t 60))⟩,
      ⟨(some 62), none, (.mv (.c (.v (.int .i64 0))))⟩])
    (.block 2 (.loop (.seq (.ops [⟨(some 63), none, (.bin .int .lss (.t 62) (.t 61))⟩])
    (.seq (.cond (.t 63)
    .skip
    (.exit 2))
    (.seq (.block 3 (.seq (.ops [⟨(some 64), none, (.mv (.t 62))⟩,
      ⟨(some 65), none, (.iaddr 8 (.t 60) (.t 62))⟩,
      ⟨(some 66), none, (.load true 8 (.t 65))⟩,
      ⟨(some 12), none, (.alloc [(.v (.string (mkS []))), (.v (.int .i64 0)), (.v (.int .i64 0)), (.v (.string (mkS []))), (.v (.int .i64 0)), (.v (.int .i64 0)), (.v (.bool false)), (.v (.bool false))])⟩,
      ⟨(some 11), none, (.mv (.t 64))⟩,
      ⟨none, none, (.store 8 (.t 12) (.t 66))⟩])
    (.seq (.seq (.draw [⟨(some 67), none, (.faddr 4 (.t 12))⟩,
      ⟨(some 68), none, (.load false 1 (.t 67))⟩,
      ⟨(some 69), none, (.mv (.t 10))⟩,
      ⟨(some 70), none, (.bin .int .neq (.t 68) (.t 69))⟩,
      ⟨(some 71), none, (.mv (.t 70))⟩,
      ⟨(some 72), (some (71, false)), (.faddr 0 (.t 12))⟩,
      ⟨(some 73), (some (71, false)), (.load false 1 (.t 72))⟩,
      ⟨(some 74), (some (71, false)), (.mv (.t 1))⟩,
      ⟨(some 75), (some (71, false)), (.mv (.t 11))⟩,
      ⟨(some 76), (some (71, false)), (.iaddr 8 (.t 74) (.t 75))⟩,
      ⟨(some 77), (some (71, false)), (.faddr 0 (.t 76))⟩,
      ⟨(some 78), (some (71, false)), (.load false 1 (.t 77))⟩,
      ⟨(some 79), (some (71, false)), (.bin .str .neq (.t 73) (.t 78))⟩,
      ⟨(some 80), none, (.pick (.t 71) (.c (.v (.bool true))) (.t 79))⟩,
      ⟨(some 81), none, (.mv (.t 80))⟩,
      ⟨(some 82), (some (81, false)), (.faddr 1 (.t 12))⟩,
      ⟨(some 83), (some (81, false)), (.load true 3 (.t 82))⟩,
      ⟨(some 84), (some (81, false)), (.mv (.t 1))⟩,
      ⟨(some 85), (some (81, false)), (.mv (.t 11))⟩,
      ⟨(some 86), (some (81, false)), (.iaddr 8 (.t 84) (.t 85))⟩,
      ⟨(some 87), (some (81, false)), (.faddr 1 (.t 86))⟩,
      ⟨(some 88), (some (81, false)), (.load true 3 (.t 87))⟩,
      ⟨(some 89), (some (81, false)), (.bin (.agg [.int, .int, .str]) .neq (.t 83) (.t 88))⟩,
      ⟨(some 90), none, (.pick (.t 81) (.c (.v (.bool true))) (.t 89))⟩,
      ⟨(some 91), none, (.mv (.t 90))⟩,
      ⟨(some 92), (some (91, false)), (.faddr 5 (.t 12))⟩,
      ⟨(some 93), (some (91, false)), (.load false 1 (.t 92))⟩,
      ⟨(some 94), (some (91, false)), (.mv (.t 1))⟩,
      ⟨(some 95), (some (91, false)), (.mv (.t 11))⟩,
      ⟨(some 96), (some (91, false)), (.iaddr 8 (.t 94) (.t 95))⟩,
      ⟨(some 97), (some (91, false)), (.faddr 5 (.t 96))⟩,
      ⟨(some 98), (some (91, false)), (.load false 1 (.t 97))⟩,
      ⟨(some 99), (some (91, false)), (.bin .int .neq (.t 93) (.t 98))⟩,
      ⟨(some 100), none, (.pick (.t 91) (.c (.v (.bool true))) (.t 99))⟩,
      ⟨(some 101), none, (.mv (.t 100))⟩,
      ⟨(some 102), (some (101, false)), (.faddr 6 (.t 12))⟩,
      ⟨(some 103), (some (101, false)), (.load false 1 (.t 102))⟩,
      ⟨(some 104), (some (101, false)), (.mv (.t 1))⟩,
      ⟨(some 105), (some (101, false)), (.mv (.t 11))⟩,
      ⟨(some 106), (some (101, false)), (.iaddr 8 (.t 104) (.t 105))⟩,
      ⟨(some 107), (some (101, false)), (.faddr 6 (.t 106))⟩,
      ⟨(some 108), (some (101, false)), (.load false 1 (.t 107))⟩,
      ⟨(some 109), (some (101, false)), (.bin .bool .neq (.t 103) (.t 108))⟩,
      ⟨(some 110), none, (.pick (.t 101) (.c (.v (.bool true))) (.t 109))⟩,
      ⟨(some 111), none, (.mv (.t 110))⟩,
      ⟨(some 112), (some (111, false)), (.faddr 7 (.t 12))⟩,
      ⟨(some 113), (some (111, false)), (.load false 1 (.t 112))⟩,
      ⟨(some 114), (some (111, false)), (.mv (.t 1))⟩,
      ⟨(some 115), (some (111, false)), (.mv (.t 11))⟩,
      ⟨(some 116), (some (111, false)), (.iaddr 8 (.t 114) (.t 115))⟩,
      ⟨(some 117), (some (111, false)), (.faddr 7 (.t 116))⟩,
      ⟨(some 118), (some (111, false)), (.load false 1 (.t 117))⟩,
      ⟨(some 119), (some (111, false)), (.bin .bool .neq (.t 113) (.t 118))⟩,
      ⟨(some 120), none, (.pick (.t 111) (.c (.v (.bool true))) (.t 119))⟩] [])
    (.cond (.t 120)
    (.seq (.ops [⟨(some 4), none, (.mv (.c (.v (.bool false))))⟩])
    .ret)
    .skip))
    (.ops [⟨(some 121), none, (.mv (.t 10))⟩,
      ⟨(some 122), none, (.faddr 1 (.t 12))⟩,
      ⟨(some 123), none, (.load true 3 (.t 122))⟩,
      ⟨(some 124), none, (.mv (.t 0))⟩,
      ⟨(some 125), none, (.call (.c (.fn (.func 23) [] [])) [(.t 123), (.t 124)])⟩,
      ⟨(some 126), none, (.bin .int .add (.t 121) (.t 125))⟩,
      ⟨(some 10), none, (.mv (.t 126))⟩]))))
    (.ops [⟨(some 127), none, (.bin .int .add (.t 62) (.c (.v (.int .i64 1))))⟩,
      ⟨(some 62), none, (.mv (.t 127))⟩])))))))
    (.seq (.ops [⟨(some 128), none, (.mv (.t 10))⟩,
      ⟨(some 129), none, (.mv (.t 6))⟩,
      ⟨(some 130), none, (.bin .int .eql (.t 128) (.t 129))⟩,
      ⟨(some 131), none, (.mv (.t 130))⟩,
      ⟨(some 132), (some (131, true)), (.mv (.t 6))⟩,
      ⟨(some 133), (some (131, true)), (.mv (.t 0))⟩,
      ⟨(some 134), (some (131, true)), (.mv (.t 7))⟩,
      ⟨(some 135), (some (131, true)), (.call (.c (.fn (.func 26) [] [])) [(.t 133), (.t 134)])⟩,
      ⟨(some 136), (some (131, true)), (.len .slc (.t 135))⟩,
      ⟨(some 137), (some (131, true)), (.bin .int .eql (.t 132) (.t 136))⟩,
      ⟨(some 138), none, (.pick (.t 131) (.t 137) (.c (.v (.bool false))))⟩,
      ⟨(some 139), none, (.mv (.t 138))⟩,
      ⟨(some 140), (some (139, true)), (.call (.c (.fn (.func 18) [] [])) [])⟩,
      ⟨(some 141), none, (.pick (.t 139) (.t 140) (.c (.v (.bool false))))⟩,
      ⟨(some 4), none, (.mv (.t 141))⟩])
    .ret)))))))))⟩
theorem L5_ok : lowFn Try.prog Try.f5 [⟨10, 3, .imm⟩, ⟨4, 1, (.pre 7 (.own 3 (.t 7)))⟩] = some L5 := by kernel_rfl

/-- assessor_assessorlaw08.TypesSame -/
def L6 : LFn := ⟨58, [(.tmp 8)], (.seq (.ops [⟨(some 6), none, (.box false (.t 2))⟩,
      ⟨(some 7), none, (.box false (.t 3))⟩,
      ⟨(some 8), none, (.mv (.c (.v (.bool false))))⟩])
    (.seq (.seq (.ops [⟨(some 10), none, (.mv (.t 0))⟩,
      ⟨(some 11), none, (.call (.c (.fn (.func 17) [] [])) [(.t 10)])⟩,
      ⟨(some 12), none, (.not (.t 11))⟩,
      ⟨(some 13), none, (.mv (.t 12))⟩,
      ⟨(some 14), (some (13, false)), (.mv (.t 1))⟩,
      ⟨(some 15), (some (13, false)), (.call (.c (.fn (.func 17) [] [])) [(.t 14)])⟩,
      ⟨(some 16), (some (13, false)), (.not (.t 15))⟩,
      ⟨(some 17), none, (.pick (.t 13) (.c (.v (.bool true))) (.t 16))⟩])
    (.cond (.t 17)
    (.seq (.ops [⟨(some 18), none, (.call (.c (.fn (.func 18) [] [])) [])⟩,
      ⟨(some 8), none, (.mv (.t 18))⟩])
    .ret)
    .skip))
    (.seq (.ops [⟨(some 19), none, (.load true 3 (.t 6))⟩,
      ⟨(some 20), none, (.mv (.t 0))⟩,
      ⟨(some 21), none, (.load true 3 (.t 7))⟩,
      ⟨(some 22), none, (.mv (.t 1))⟩,
      ⟨(some 23), none, (.call (.c (.fn (.func 29) [] [])) [(.t 19), (.t 20), (.t 21), (.t 22)])⟩,
      ⟨(some 9), none, (.mv (.t 23))⟩])
    (.seq (.seq (.draw [⟨(some 24), none, (.mv (.t 9))⟩,
      ⟨(some 25), none, (.load true 3 (.t 7))⟩,
      ⟨(some 26), none, (.mv (.t 1))⟩,
      ⟨(some 27), none, (.load true 3 (.t 6))⟩,
      ⟨(some 28), none, (.mv (.t 0))⟩,
      ⟨(some 29), none, (.call (.c (.fn (.func 29) [] [])) [(.t 25), (.t 26), (.t 27), (.t 28)])⟩,
      ⟨(some 30), none, (.bin .bool .neq (.t 24) (.t 29))⟩,
      ⟨(some 31), none, (.mv (.t 30))⟩,
      ⟨(some 32), (some (31, false)), (.load true 3 (.t 6))⟩,
      ⟨(some 33), (some (31, false)), (.mv (.t 0))⟩,
      ⟨(some 34), (some (31, false)), (.load true 3 (.t 6))⟩,
      ⟨(some 35), (some (31, false)), (.mv (.t 0))⟩,
      ⟨(some 36), (some (31, false)), (.call (.c (.fn (.func 29) [] [])) [(.t 32), (.t 33), (.t 34), (.t 35)])⟩,
      ⟨(some 37), (some (31, false)), (.load true 3 (.t 6))⟩,
      ⟨(some 38), (some (31, false)), (.mv (.t 0))⟩,
      ⟨(some 39), (some (31, false)), (.call (.c (.fn (.func 19) [] [])) [(.t 37), (.t 38)])⟩,
      ⟨(some 40), (some (31, false)), (.bin .bool .neq (.t 36) (.t 39))⟩,
      ⟨(some 41), none, (.pick (.t 31) (.c (.v (.bool true))) (.t 40))⟩] [])
    (.cond (.t 41)
    (.seq (.ops [⟨(some 8), none, (.mv (.c (.v (.bool false))))⟩])
    .ret)
    .skip))
    (.seq (.draw [⟨(some 42), none, (.mv (.t 9))⟩,
      ⟨(some 43), none, (.not (.t 42))⟩,
      ⟨(some 44), none, (.mv (.t 43))⟩,
      ⟨(some 45), (some (44, false)), (.mv (.t 0))⟩,
      ⟨(some 46), (some (44, false)), (.load true 3 (.t 6))⟩,
      ⟨(some 47), (some (44, false)), (.bsl true 3 1 [(.v (.int .i64 0)), (.v (.int .i64 0)), (.v (.string (mkS [])))] [(0, (.t 46))])⟩,
      ⟨(some 48), (some (44, false)), (.call (.c (.fn (.func 26) [] [])) [(.t 45), (.t 47)])⟩,
      ⟨(some 49), (some (44, false)), (.mv (.t 1))⟩,
      ⟨(some 50), (some (44, false)), (.load true 3 (.t 7))⟩,
      ⟨(some 51), (some (44, false)), (.bsl true 3 1 [(.v (.int .i64 0)), (.v (.int .i64 0)), (.v (.string (mkS [])))] [(0, (.t 50))])⟩,
      ⟨(some 52), (some (44, false)), (.call (.c (.fn (.func 26) [] [])) [(.t 49), (.t 51)])⟩,
      ⟨(some 53), (some (44, false)), (.call (.c (.fn (.func 25) [] [])) [(.t 48), (.t 52)])⟩,
      ⟨(some 54), none, (.pick (.t 44) (.c (.v (.bool true))) (.t 53))⟩,
      ⟨(some 55), none, (.mv (.t 54))⟩,
      ⟨(some 56), (some (55, true)), (.call (.c (.fn (.func 18) [] [])) [])⟩,
      ⟨(some 57), none, (.pick (.t 55) (.t 56) (.c (.v (.bool false))))⟩,
      ⟨(some 8), none, (.mv (.t 57))⟩] [])
    .ret)))))⟩
theorem L6_ok : lowFn Try.prog Try.f6 [⟨6, 5, .imm⟩, ⟨6, 9, .imm⟩] = some L6 := by kernel_rfl

/-- assessor_assessorlaw08.TypesWritten -/
def L7 : LFn := ⟨75, [(.tmp 4)], (.seq (.ops [⟨(some 2), none, (.box false (.t 0))⟩,
      ⟨(some 4), none, (.mv (.c (.v (.bool false))))⟩])
    (.seq (.seq (.ops [⟨(some 12), none, (.mv (.t 1))⟩,
      ⟨(some 13), none, (.call (.c (.fn (.func 17) [] [])) [(.t 12)])⟩,
      ⟨(some 14), none, (.not (.t 13))⟩,
      ⟨(some 15), none, (.mv (.t 14))⟩,
      ⟨(some 16), (some (15, false)), (.load true 3 (.t 2))⟩,
      ⟨(some 17), (some (15, false)), (.mv (.t 1))⟩,
      ⟨(some 18), (some (15, false)), (.call (.c (.fn (.func 19) [] [])) [(.t 16), (.t 17)])⟩,
      ⟨(some 19), (some (15, false)), (.not (.t 18))⟩,
      ⟨(some 20), none, (.pick (.t 15) (.c (.v (.bool true))) (.t 19))⟩,
      ⟨(some 21), none, (.mv (.t 20))⟩,
      ⟨(some 22), (some (21, false)), (.faddr 0 (.t 2))⟩,
      ⟨(some 23), (some (21, false)), (.load false 1 (.t 22))⟩,
      ⟨(some 24), (some (21, false)), (.bin .int .eql (.t 23) (.c (.v (.int .i64 4))))⟩,
      ⟨(some 25), (some (21, false)), (.mv (.t 24))⟩,
      ⟨(some 26), (some (25, true)), (.faddr 2 (.t 2))⟩,
      ⟨(some 27), (some (25, true)), (.load false 1 (.t 26))⟩,
      ⟨(some 28), (some (25, true)), (.call (.c (.fn (.func 14) [] [])) [(.t 27)])⟩,
      ⟨(some 29), (some (25, true)), (.not (.t 28))⟩,
      ⟨(some 30), (some (21, false)), (.pick (.t 25) (.t 29) (.c (.v (.bool false))))⟩,
      ⟨(some 31), none, (.pick (.t 21) (.c (.v (.bool true))) (.t 30))⟩])
    (.cond (.t 31)
    (.seq (.ops [⟨(some 32), none, (.call (.c (.fn (.func 18) [] [])) [])⟩,
      ⟨(some 4), none, (.mv (.t 32))⟩])
    .ret)
    .skip))
    (.seq (.ops [⟨(some 34), none, (.load true 3 (.t 2))⟩,
      ⟨(some 35), none, (.call (.c (.fn (.func 21) [] [])) [(.t 34)])⟩,
      ⟨(some 36), none, (.bin .str .add (.c (.v (.string (mkS [112, 114, 111, 99, 32, 102, 40, 120, 58, 32])))) (.t 35))⟩,
      ⟨(some 37), none, (.bin .str .add (.t 36) (.c (.v (.string (mkS [41, 32, 123, 32, 125])))))⟩,
      ⟨(some 38), none, (.call (.c (.fn (.func 30) [] [])) [(.t 37)])⟩,
      ⟨(some 33), none, (.mv (.t 38))⟩,
      ⟨(some 39), none, (.ext (.t 33) 0)⟩,
      ⟨(some 40), none, (.ext (.t 33) 1)⟩,
      ⟨(some 41), none, (.ext (.t 33) 2)⟩,
      ⟨(some 5), none, (.alloc [(.v (.int .i64 0)), (.v (.string (mkS []))), (.v (.int .i64 0)), (.v (.int .i64 0)), (.v (.slice none 0 0))])⟩,
      ⟨none, none, (.store 5 (.t 5) (.t 39))⟩,
      ⟨(some 6), none, (.mv (.t 40))⟩,
      ⟨(some 7), none, (.mv (.t 41))⟩])
    (.seq (.ops [⟨(some 43), none, (.load true 5 (.t 5))⟩,
      ⟨(some 44), none, (.bsl true 1 4 [(.v (.int .i64 0))] [(0, (.c (.v (.int .i64 0)))), (1, (.c (.v (.int .i64 0)))), (2, (.c (.v (.int .i64 0)))), (3, (.c (.v (.int .i64 0))))])⟩,
      ⟨(some 45), none, (.call (.c (.fn (.func 31) [] [])) [(.t 43), (.t 44)])⟩,
      ⟨(some 42), none, (.mv (.t 45))⟩,
      ⟨(some 46), none, (.ext (.t 42) 0)⟩,
      ⟨(some 47), none, (.ext (.t 42) 1)⟩,
      ⟨(some 8), none, (.alloc [(.v (.int .i64 0)), (.v (.string (mkS []))), (.v (.int .i64 0)), (.v (.int .i64 0)), (.v (.slice none 0 0))])⟩,
      ⟨none, none, (.store 5 (.t 8) (.t 46))⟩,
      ⟨(some 9), none, (.mv (.t 47))⟩])
    (.seq (.ops [⟨(some 49), none, (.load true 5 (.t 8))⟩,
      ⟨(some 50), none, (.mv (.t 1))⟩,
      ⟨(some 51), none, (.call (.c (.fn (.func 32) [] [])) [(.t 49), (.t 50)])⟩,
      ⟨(some 48), none, (.mv (.t 51))⟩,
      ⟨(some 52), none, (.ext (.t 48) 0)⟩,
      ⟨(some 53), none, (.ext (.t 48) 1)⟩,
      ⟨(some 10), none, (.alloc [(.v (.int .i64 0)), (.v (.int .i64 0)), (.v (.string (mkS [])))])⟩,
      ⟨none, none, (.store 3 (.t 10) (.t 52))⟩,
      ⟨(some 11), none, (.mv (.t 53))⟩])
    (.seq (.ops [⟨(some 54), none, (.mv (.t 7))⟩,
      ⟨(some 55), none, (.bin .int .eql (.t 54) (.c (.v (.int .i64 0))))⟩,
      ⟨(some 56), none, (.mv (.t 55))⟩,
      ⟨(some 57), (some (56, true)), (.mv (.t 6))⟩,
      ⟨(some 58), (some (56, true)), (.len .slc (.t 57))⟩,
      ⟨(some 59), (some (56, true)), (.bin .int .eql (.t 58) (.c (.v (.int .i64 0))))⟩,
      ⟨(some 60), none, (.pick (.t 56) (.t 59) (.c (.v (.bool false))))⟩,
      ⟨(some 61), none, (.mv (.t 60))⟩,
      ⟨(some 62), (some (61, true)), (.mv (.t 9))⟩,
      ⟨(some 63), none, (.pick (.t 61) (.t 62) (.c (.v (.bool false))))⟩,
      ⟨(some 64), none, (.mv (.t 63))⟩,
      ⟨(some 65), (some (64, true)), (.mv (.t 11))⟩,
      ⟨(some 66), none, (.pick (.t 64) (.t 65) (.c (.v (.bool false))))⟩,
      ⟨(some 67), none, (.mv (.t 66))⟩,
      ⟨(some 68), (some (67, true)), (.load true 3 (.t 10))⟩,
      ⟨(some 69), (some (67, true)), (.load true 3 (.t 2))⟩,
      ⟨(some 70), (some (67, true)), (.bin (.agg [.int, .int, .str]) .eql (.t 68) (.t 69))⟩,
      ⟨(some 71), none, (.pick (.t 67) (.t 70) (.c (.v (.bool false))))⟩,
      ⟨(some 72), none, (.mv (.t 71))⟩,
      ⟨(some 73), (some (72, true)), (.call (.c (.fn (.func 18) [] [])) [])⟩,
      ⟨(some 74), none, (.pick (.t 72) (.t 73) (.c (.v (.bool false))))⟩,
      ⟨(some 4), none, (.mv (.t 74))⟩])
    .ret))))))⟩
theorem L7_ok : lowFn Try.prog Try.f7 [⟨4, 1, .imm⟩] = some L7 := by kernel_rfl

/-- assessor_assessorref08.Few -/
def L17 : LFn := ⟨20, [(.tmp 2)], (.seq (.ops [⟨(some 2), none, (.mv (.c (.v (.bool false))))⟩])
    (.seq (.seq (.ops [⟨(some 3), none, (.mv (.c (.v (.int .i64 0))))⟩])
    (.block 0 (.loop (.seq (.seq (.ops [⟨(some 4), none, (.mv (.t 3))⟩,
      ⟨(some 5), none, (.mv (.t 0))⟩,
      ⟨(some 6), none, (.len .slc (.t 5))⟩,
      ⟨(some 7), none, (.bin .int .lss (.t 4) (.t 6))⟩])
    (.cond (.t 7)
    .skip
    (.exit 0)))
    (.seq (.block 1 (.seq (.ops [⟨(some 10), none, (.mv (.t 0))⟩,
      ⟨(some 11), none, (.mv (.t 3))⟩,
      ⟨(some 12), none, (.iaddr 2 (.t 10) (.t 11))⟩,
      ⟨(some 13), none, (.faddr 1 (.t 12))⟩,
      ⟨(some 14), none, (.load false 1 (.t 13))⟩,
      ⟨(some 15), none, (.len .slc (.t 14))⟩,
      ⟨(some 16), none, (.bin .int .gtr (.t 15) (.c (.v (.int .i64 20))))⟩])
    (.cond (.t 16)
    (.seq (.ops [⟨(some 2), none, (.mv (.c (.v (.bool false))))⟩])
    .ret)
    .skip)))
    (.ops [⟨(some 8), none, (.mv (.t 3))⟩,
      ⟨(some 9), none, (.bin .int .add (.t 8) (.c (.v (.int .i64 1))))⟩,
      ⟨(some 3), none, (.mv (.t 9))⟩]))))))
    (.seq (.ops [⟨(some 17), none, (.mv (.t 0))⟩,
      ⟨(some 18), none, (.len .slc (.t 17))⟩,
      ⟨(some 19), none, (.bin .int .leq (.t 18) (.c (.v (.int .i64 20))))⟩,
      ⟨(some 2), none, (.mv (.t 19))⟩])
    .ret)))⟩
theorem L17_ok : lowFn Try.prog Try.f17 [] = some L17 := by kernel_rfl

/-- assessor_assessorlaw08.awake -/
def L18 : LFn := ⟨96, [(.tmp 0)], (.seq (.ops [⟨(some 0), none, (.mv (.c (.v (.bool false))))⟩])
    (.seq (.ops [⟨(some 11), none, (.build [(.v (.int .i64 0)), (.v (.int .i64 0)), (.v (.string (mkS [])))] [(0, (1, (.c (.v (.int .i64 1)))))])⟩,
      ⟨(some 12), none, (.build [(.v (.int .i64 0)), (.v (.int .i64 0)), (.v (.string (mkS [])))] [(0, (1, (.c (.v (.int .i64 2)))))])⟩,
      ⟨(some 1), none, (.alloc [(.v (.int .i64 0)), (.v (.int .i64 0)), (.v (.string (mkS [])))])⟩,
      ⟨(some 2), none, (.alloc [(.v (.int .i64 0)), (.v (.int .i64 0)), (.v (.string (mkS [])))])⟩,
      ⟨none, none, (.store 3 (.t 1) (.t 11))⟩,
      ⟨none, none, (.store 3 (.t 2) (.t 12))⟩])
    (.seq (.ops [⟨(some 13), none, (.build [(.v (.int .i64 0)), (.v (.int .i64 0)), (.v (.string (mkS [])))] [(0, (1, (.c (.v (.int .i64 3))))), (1, (1, (.c (.v (.int .i64 2)))))])⟩,
      ⟨(some 14), none, (.build [(.v (.int .i64 0)), (.v (.int .i64 0)), (.v (.string (mkS [])))] [(0, (1, (.c (.v (.int .i64 4))))), (2, (1, (.c (.v (.string (mkS [112, 111, 105, 110, 116]))))))])⟩,
      ⟨(some 3), none, (.alloc [(.v (.int .i64 0)), (.v (.int .i64 0)), (.v (.string (mkS [])))])⟩,
      ⟨(some 4), none, (.alloc [(.v (.int .i64 0)), (.v (.int .i64 0)), (.v (.string (mkS [])))])⟩,
      ⟨none, none, (.store 3 (.t 3) (.t 13))⟩,
      ⟨none, none, (.store 3 (.t 4) (.t 14))⟩])
    (.seq (.draw [⟨(some 16), none, (.call (.c (.fn (.func 46) [] [])) [])⟩,
      ⟨(some 17), none, (.load true 3 (.t 2))⟩,
      ⟨(some 18), none, (.build [(.v (.string (mkS []))), (.v (.int .i64 0)), (.v (.int .i64 0)), (.v (.string (mkS []))), (.v (.int .i64 0)), (.v (.int .i64 0)), (.v (.bool false)), (.v (.bool false))] [(0, (1, (.c (.v (.string (mkS [120])))))), (1, (3, (.t 17)))])⟩,
      ⟨(some 19), none, (.load true 3 (.t 3))⟩,
      ⟨(some 20), none, (.build [(.v (.string (mkS []))), (.v (.int .i64 0)), (.v (.int .i64 0)), (.v (.string (mkS []))), (.v (.int .i64 0)), (.v (.int .i64 0)), (.v (.bool false)), (.v (.bool false))] [(0, (1, (.c (.v (.string (mkS [97])))))), (1, (3, (.t 19)))])⟩,
      ⟨(some 21), none, (.load true 3 (.t 4))⟩,
      ⟨(some 22), none, (.build [(.v (.string (mkS []))), (.v (.int .i64 0)), (.v (.int .i64 0)), (.v (.string (mkS []))), (.v (.int .i64 0)), (.v (.int .i64 0)), (.v (.bool false)), (.v (.bool false))] [(0, (1, (.c (.v (.string (mkS [112])))))), (1, (3, (.t 21)))])⟩,
      ⟨(some 23), none, (.bsl true 8 3 [(.v (.string (mkS []))), (.v (.int .i64 0)), (.v (.int .i64 0)), (.v (.string (mkS []))), (.v (.int .i64 0)), (.v (.int .i64 0)), (.v (.bool false)), (.v (.bool false))] [(0, (.t 18)), (1, (.t 20)), (2, (.t 22))])⟩,
      ⟨(some 24), none, (.call (.c (.fn (.func 28) [] [])) [(.t 16), (.t 23)])⟩,
      ⟨(some 15), none, (.mv (.t 24))⟩,
      ⟨(some 25), none, (.ext (.t 15) 0)⟩,
      ⟨(some 26), none, (.ext (.t 15) 1)⟩,
      ⟨(some 5), none, (.mv (.t 25))⟩,
      ⟨(some 6), none, (.mv (.t 26))⟩] [])
    (.seq (.ops [⟨(some 28), none, (.call (.c (.fn (.func 46) [] [])) [])⟩,
      ⟨(some 29), none, (.call (.c (.fn (.func 47) [] [])) [(.t 28), (.c (.v (.string (mkS [112, 98]))))])⟩,
      ⟨(some 27), none, (.mv (.t 29))⟩,
      ⟨(some 30), none, (.ext (.t 27) 0)⟩,
      ⟨(some 31), none, (.ext (.t 27) 1)⟩,
      ⟨(some 32), none, (.ext (.t 27) 2)⟩,
      ⟨(some 33), none, (.ext (.t 27) 3)⟩,
      ⟨(some 9), none, (.alloc [(.v (.int .i64 0)), (.v (.int .i64 0)), (.v (.string (mkS [])))])⟩,
      ⟨(some 7), none, (.mv (.t 30))⟩,
      ⟨(some 8), none, (.mv (.t 31))⟩,
      ⟨none, none, (.store 3 (.t 9) (.t 32))⟩,
      ⟨(some 10), none, (.mv (.t 33))⟩])
    (.seq (.draw [⟨(some 34), none, (.call (.c (.fn (.func 46) [] [])) [])⟩,
      ⟨(some 35), none, (.load true 3 (.t 3))⟩,
      ⟨(some 36), none, (.load true 3 (.t 4))⟩,
      ⟨(some 37), none, (.bsl true 3 2 [(.v (.int .i64 0)), (.v (.int .i64 0)), (.v (.string (mkS [])))] [(0, (.t 35)), (1, (.t 36))])⟩,
      ⟨(some 38), none, (.call (.c (.fn (.func 26) [] [])) [(.t 34), (.t 37)])⟩,
      ⟨(some 39), none, (.load true 3 (.t 1))⟩,
      ⟨(some 40), none, (.load true 3 (.t 1))⟩,
      ⟨(some 41), none, (.load true 3 (.t 1))⟩,
      ⟨(some 42), none, (.load true 3 (.t 2))⟩,
      ⟨(some 43), none, (.bsl true 3 4 [(.v (.int .i64 0)), (.v (.int .i64 0)), (.v (.string (mkS [])))] [(0, (.t 39)), (1, (.t 40)), (2, (.t 41)), (3, (.t 42))])⟩,
      ⟨(some 44), none, (.call (.c (.fn (.func 25) [] [])) [(.t 38), (.t 43)])⟩,
      ⟨(some 45), none, (.mv (.t 44))⟩,
      ⟨(some 46), (some (45, true)), (.mv (.t 5))⟩,
      ⟨(some 47), (some (45, true)), (.len .slc (.t 46))⟩,
      ⟨(some 48), (some (45, true)), (.bin .int .eql (.t 47) (.c (.v (.int .i64 3))))⟩,
      ⟨(some 49), none, (.pick (.t 45) (.t 48) (.c (.v (.bool false))))⟩,
      ⟨(some 50), none, (.mv (.t 49))⟩,
      ⟨(some 51), (some (50, true)), (.mv (.t 5))⟩,
      ⟨(some 52), (some (50, true)), (.iaddr 8 (.t 51) (.c (.v (.int .i64 0))))⟩,
      ⟨(some 53), (some (50, true)), (.faddr 4 (.t 52))⟩,
      ⟨(some 54), (some (50, true)), (.load false 1 (.t 53))⟩,
      ⟨(some 55), (some (50, true)), (.bin .int .eql (.t 54) (.c (.v (.int .i64 0))))⟩,
      ⟨(some 56), none, (.pick (.t 50) (.t 55) (.c (.v (.bool false))))⟩,
      ⟨(some 57), none, (.mv (.t 56))⟩,
      ⟨(some 58), (some (57, true)), (.mv (.t 5))⟩,
      ⟨(some 59), (some (57, true)), (.iaddr 8 (.t 58) (.c (.v (.int .i64 1))))⟩,
      ⟨(some 60), (some (57, true)), (.faddr 4 (.t 59))⟩,
      ⟨(some 61), (some (57, true)), (.load false 1 (.t 60))⟩,
      ⟨(some 62), (some (57, true)), (.bin .int .eql (.t 61) (.c (.v (.int .i64 1))))⟩,
      ⟨(some 63), none, (.pick (.t 57) (.t 62) (.c (.v (.bool false))))⟩,
      ⟨(some 64), none, (.mv (.t 63))⟩,
      ⟨(some 65), (some (64, true)), (.mv (.t 5))⟩,
      ⟨(some 66), (some (64, true)), (.iaddr 8 (.t 65) (.c (.v (.int .i64 2))))⟩,
      ⟨(some 67), (some (64, true)), (.faddr 4 (.t 66))⟩,
      ⟨(some 68), (some (64, true)), (.load false 1 (.t 67))⟩,
      ⟨(some 69), (some (64, true)), (.bin .int .eql (.t 68) (.c (.v (.int .i64 3))))⟩,
      ⟨(some 70), none, (.pick (.t 64) (.t 69) (.c (.v (.bool false))))⟩,
      ⟨(some 71), none, (.mv (.t 70))⟩,
      ⟨(some 72), (some (71, true)), (.mv (.t 6))⟩,
      ⟨(some 73), (some (71, true)), (.bin .int .eql (.t 72) (.c (.v (.int .i64 5))))⟩,
      ⟨(some 74), none, (.pick (.t 71) (.t 73) (.c (.v (.bool false))))⟩,
      ⟨(some 75), none, (.mv (.t 74))⟩,
      ⟨(some 76), (some (75, true)), (.mv (.t 7))⟩,
      ⟨(some 77), (some (75, true)), (.bin .str .eql (.t 76) (.c (.v (.string (mkS [112, 111, 105, 110, 116])))))⟩,
      ⟨(some 78), none, (.pick (.t 75) (.t 77) (.c (.v (.bool false))))⟩,
      ⟨(some 79), none, (.mv (.t 78))⟩,
      ⟨(some 80), (some (79, true)), (.mv (.t 8))⟩,
      ⟨(some 81), (some (79, true)), (.bin .int .eql (.t 80) (.c (.v (.int .i64 1))))⟩,
      ⟨(some 82), none, (.pick (.t 79) (.t 81) (.c (.v (.bool false))))⟩,
      ⟨(some 83), none, (.mv (.t 82))⟩,
      ⟨(some 84), (some (83, true)), (.load true 3 (.t 9))⟩,
      ⟨(some 85), (some (83, true)), (.load true 3 (.t 2))⟩,
      ⟨(some 86), (some (83, true)), (.bin (.agg [.int, .int, .str]) .eql (.t 84) (.t 85))⟩,
      ⟨(some 87), none, (.pick (.t 83) (.t 86) (.c (.v (.bool false))))⟩,
      ⟨(some 88), none, (.mv (.t 87))⟩,
      ⟨(some 89), (some (88, true)), (.mv (.t 10))⟩,
      ⟨(some 90), none, (.pick (.t 88) (.t 89) (.c (.v (.bool false))))⟩,
      ⟨(some 91), none, (.mv (.t 90))⟩,
      ⟨(some 92), (some (91, true)), (.load true 3 (.t 3))⟩,
      ⟨(some 93), (some (91, true)), (.call (.c (.fn (.func 21) [] [])) [(.t 92)])⟩,
      ⟨(some 94), (some (91, true)), (.bin .str .eql (.t 93) (.c (.v (.string (mkS [105, 110, 116, 91, 50, 93])))))⟩,
      ⟨(some 95), none, (.pick (.t 91) (.t 94) (.c (.v (.bool false))))⟩,
      ⟨(some 0), none, (.mv (.t 95))⟩] [])
    .ret))))))⟩
theorem L18_ok : lowFn Try.prog Try.f18 [⟨3, 7, .imm⟩, ⟨5, 3, .imm⟩, ⟨5, 9, .imm⟩] = some L18 := by kernel_rfl

/-- assessor_types.Valid -/
def L19 : LFn := ⟨22, [(.tmp 4)], (.seq (.ops [⟨(some 2), none, (.box false (.t 0))⟩,
      ⟨(some 4), none, (.mv (.c (.v (.bool false))))⟩])
    (.seq (.draw [⟨(some 8), none, (.call (.c (.fn (.func 48) [] [])) [])⟩,
      ⟨(some 9), none, (.faddr 0 (.t 2))⟩,
      ⟨(some 10), none, (.load false 1 (.t 9))⟩,
      ⟨(some 11), none, (.look .int (.agg [(.v .nilFunc), (.v .nilFunc)]) true (.t 8) (.t 10))⟩,
      ⟨(some 7), none, (.mv (.t 11))⟩,
      ⟨(some 12), none, (.ext (.t 7) 0)⟩,
      ⟨(some 13), none, (.ext (.t 7) 1)⟩] [⟨(some 5), none, (.alloc [(.v .nilFunc), (.v .nilFunc)])⟩,
      ⟨none, none, (.store 2 (.t 5) (.t 12))⟩,
      ⟨(some 6), none, (.mv (.t 13))⟩])
    (.seq (.ops [⟨(some 14), none, (.mv (.t 6))⟩,
      ⟨(some 15), none, (.mv (.t 14))⟩,
      ⟨(some 16), (some (15, true)), (.faddr 0 (.t 5))⟩,
      ⟨(some 17), (some (15, true)), (.load false 1 (.t 16))⟩,
      ⟨(some 18), (some (15, true)), (.load true 3 (.t 2))⟩,
      ⟨(some 19), (some (15, true)), (.mv (.t 1))⟩,
      ⟨(some 20), (some (15, true)), (.call (.t 17) [(.t 18), (.t 19)])⟩,
      ⟨(some 21), none, (.pick (.t 15) (.t 20) (.c (.v (.bool false))))⟩,
      ⟨(some 4), none, (.mv (.t 21))⟩])
    .ret)))⟩
theorem L19_ok : lowFn Try.prog Try.f19 [⟨1, 7, .tail⟩] = some L19 := by kernel_rfl

/-- assessor_assessorref08.Valid -/
def L20 : LFn := ⟨45, [(.tmp 4)], (.seq (.ops [⟨(some 2), none, (.box false (.t 0))⟩,
      ⟨(some 4), none, (.mv (.c (.v (.bool false))))⟩])
    (.seq (.seq (.ops [⟨(some 5), none, (.faddr 0 (.t 2))⟩,
      ⟨(some 6), none, (.load false 1 (.t 5))⟩])
    (.block 0 (.seq (.seq (.ops [⟨(some 8), none, (.bin .int .eql (.t 6) (.c (.v (.int .i64 1))))⟩,
      ⟨(some 7), none, (.mv (.t 8))⟩])
    (.cond (.t 7)
    .skip
    (.ops [⟨(some 9), none, (.bin .int .eql (.t 6) (.c (.v (.int .i64 2))))⟩,
      ⟨(some 7), none, (.mv (.t 9))⟩])))
    (.cond (.t 7)
    (.seq (.ops [⟨(some 10), none, (.faddr 1 (.t 2))⟩,
      ⟨(some 11), none, (.load false 1 (.t 10))⟩,
      ⟨(some 12), none, (.bin .int .eql (.t 11) (.c (.v (.int .i64 0))))⟩,
      ⟨(some 13), none, (.mv (.t 12))⟩,
      ⟨(some 14), (some (13, true)), (.faddr 2 (.t 2))⟩,
      ⟨(some 15), (some (13, true)), (.load false 1 (.t 14))⟩,
      ⟨(some 16), (some (13, true)), (.bin .str .eql (.t 15) (.c (.v (.string (mkS [])))))⟩,
      ⟨(some 17), none, (.pick (.t 13) (.t 16) (.c (.v (.bool false))))⟩,
      ⟨(some 4), none, (.mv (.t 17))⟩])
    .ret)
    (.seq (.ops [⟨(some 19), none, (.bin .int .eql (.t 6) (.c (.v (.int .i64 3))))⟩,
      ⟨(some 18), none, (.mv (.t 19))⟩])
    (.cond (.t 18)
    (.seq (.ops [⟨(some 20), none, (.faddr 1 (.t 2))⟩,
      ⟨(some 21), none, (.load false 1 (.t 20))⟩,
      ⟨(some 22), none, (.bin .int .geq (.t 21) (.c (.v (.int .i64 1))))⟩,
      ⟨(some 23), none, (.mv (.t 22))⟩,
      ⟨(some 24), (some (23, true)), (.faddr 1 (.t 2))⟩,
      ⟨(some 25), (some (23, true)), (.load false 1 (.t 24))⟩,
      ⟨(some 26), (some (23, true)), (.bin .int .leq (.t 25) (.c (.v (.int .i64 8))))⟩,
      ⟨(some 27), none, (.pick (.t 23) (.t 26) (.c (.v (.bool false))))⟩,
      ⟨(some 28), none, (.mv (.t 27))⟩,
      ⟨(some 29), (some (28, true)), (.faddr 2 (.t 2))⟩,
      ⟨(some 30), (some (28, true)), (.load false 1 (.t 29))⟩,
      ⟨(some 31), (some (28, true)), (.bin .str .eql (.t 30) (.c (.v (.string (mkS [])))))⟩,
      ⟨(some 32), none, (.pick (.t 28) (.t 31) (.c (.v (.bool false))))⟩,
      ⟨(some 4), none, (.mv (.t 32))⟩])
    .ret)
    (.seq (.ops [⟨(some 34), none, (.bin .int .eql (.t 6) (.c (.v (.int .i64 4))))⟩,
      ⟨(some 33), none, (.mv (.t 34))⟩])
    (.cond (.t 33)
    (.seq (.ops [⟨(some 35), none, (.faddr 1 (.t 2))⟩,
      ⟨(some 36), none, (.load false 1 (.t 35))⟩,
      ⟨(some 37), none, (.bin .int .eql (.t 36) (.c (.v (.int .i64 0))))⟩,
      ⟨(some 38), none, (.mv (.t 37))⟩,
      ⟨(some 39), (some (38, true)), (.mv (.t 1))⟩,
      ⟨(some 40), (some (38, true)), (.faddr 2 (.t 2))⟩,
      ⟨(some 41), (some (38, true)), (.load false 1 (.t 40))⟩,
      ⟨(some 42), (some (38, true)), (.call (.c (.fn (.func 49) [] [])) [(.t 39), (.t 41)])⟩,
      ⟨(some 43), (some (38, true)), (.bin .int .geq (.t 42) (.c (.v (.int .i64 0))))⟩,
      ⟨(some 44), none, (.pick (.t 38) (.t 43) (.c (.v (.bool false))))⟩,
      ⟨(some 4), none, (.mv (.t 44))⟩])
    .ret)
    .skip))))))))
    (.seq (.ops [⟨(some 4), none, (.mv (.c (.v (.bool false))))⟩])
    .ret)))⟩
theorem L20_ok : lowFn Try.prog Try.f20 [] = some L20 := by kernel_rfl

/-- assessor_types.Format -/
def L21 : LFn := ⟨27, [(.tmp 2)], (.seq (.ops [⟨(some 1), none, (.box false (.t 0))⟩,
      ⟨(some 2), none, (.mv (.c (.v (.string (mkS [])))))⟩])
    (.seq (.seq (.ops [⟨(some 3), none, (.faddr 0 (.t 1))⟩,
      ⟨(some 4), none, (.load false 1 (.t 3))⟩])
    (.block 0 (.seq (.ops [⟨(some 6), none, (.bin .int .eql (.t 4) (.c (.v (.int .i64 1))))⟩,
      ⟨(some 5), none, (.mv (.t 6))⟩])
    (.cond (.t 5)
    (.seq (.ops [⟨(some 2), none, (.mv (.c (.v (.string (mkS [105, 110, 116])))))⟩])
    .ret)
    (.seq (.ops [⟨(some 8), none, (.bin .int .eql (.t 4) (.c (.v (.int .i64 2))))⟩,
      ⟨(some 7), none, (.mv (.t 8))⟩])
    (.cond (.t 7)
    (.seq (.ops [⟨(some 2), none, (.mv (.c (.v (.string (mkS [98, 111, 111, 108])))))⟩])
    .ret)
    (.seq (.ops [⟨(some 10), none, (.bin .int .eql (.t 4) (.c (.v (.int .i64 3))))⟩,
      ⟨(some 9), none, (.mv (.t 10))⟩])
    (.cond (.t 9)
    (.seq (.ops [⟨(some 11), none, (.faddr 1 (.t 1))⟩,
      ⟨(some 12), none, (.load false 1 (.t 11))⟩,
      ⟨(some 13), none, (.bin .int .geq (.t 12) (.c (.v (.int .i64 0))))⟩])
    (.cond (.t 13)
    (.seq (.ops [⟨(some 14), none, (.faddr 1 (.t 1))⟩,
      ⟨(some 15), none, (.load false 1 (.t 14))⟩,
      ⟨(some 16), none, (.call (.c (.fn (.func 50) [] [])) [(.t 15)])⟩,
      ⟨(some 17), none, (.bin .str .add (.c (.v (.string (mkS [105, 110, 116, 91])))) (.t 16))⟩,
      ⟨(some 18), none, (.bin .str .add (.t 17) (.c (.v (.string (mkS [93])))))⟩,
      ⟨(some 2), none, (.mv (.t 18))⟩])
    .ret)
    .skip))
    (.seq (.ops [⟨(some 20), none, (.bin .int .eql (.t 4) (.c (.v (.int .i64 4))))⟩,
      ⟨(some 19), none, (.mv (.t 20))⟩])
    (.cond (.t 19)
    (.seq (.ops [⟨(some 21), none, (.faddr 2 (.t 1))⟩,
      ⟨(some 22), none, (.load false 1 (.t 21))⟩,
      ⟨(some 2), none, (.mv (.t 22))⟩])
    .ret)
    (.seq (.ops [⟨(some 24), none, (.bin .int .eql (.t 4) (.c (.v (.int .i64 5))))⟩,
      ⟨(some 23), none, (.mv (.t 24))⟩])
    (.cond (.t 23)
    (.seq (.ops [⟨(some 2), none, (.mv (.c (.v (.string (mkS [97, 114, 114, 97, 121])))))⟩])
    .ret)
    (.seq (.ops [⟨(some 26), none, (.bin .int .eql (.t 4) (.c (.v (.int .i64 6))))⟩,
      ⟨(some 25), none, (.mv (.t 26))⟩])
    (.cond (.t 25)
    (.seq (.ops [⟨(some 2), none, (.mv (.c (.v (.string (mkS [105, 110, 116, 32, 111, 114, 32, 98, 111, 111, 108])))))⟩])
    .ret)
    .skip))))))))))))))
    (.seq (.ops [⟨(some 2), none, (.mv (.c (.v (.string (mkS [])))))⟩])
    .ret)))⟩
theorem L21_ok : lowFn Try.prog Try.f21 [] = some L21 := by kernel_rfl

/-- assessor_assessorref08.Format -/
def L22 : LFn := ⟨27, [(.tmp 2)], (.seq (.ops [⟨(some 1), none, (.box false (.t 0))⟩,
      ⟨(some 2), none, (.mv (.c (.v (.string (mkS [])))))⟩])
    (.seq (.seq (.ops [⟨(some 3), none, (.faddr 0 (.t 1))⟩,
      ⟨(some 4), none, (.load false 1 (.t 3))⟩])
    (.block 0 (.seq (.ops [⟨(some 6), none, (.bin .int .eql (.t 4) (.c (.v (.int .i64 1))))⟩,
      ⟨(some 5), none, (.mv (.t 6))⟩])
    (.cond (.t 5)
    (.seq (.ops [⟨(some 2), none, (.mv (.c (.v (.string (mkS [105, 110, 116])))))⟩])
    .ret)
    (.seq (.ops [⟨(some 8), none, (.bin .int .eql (.t 4) (.c (.v (.int .i64 2))))⟩,
      ⟨(some 7), none, (.mv (.t 8))⟩])
    (.cond (.t 7)
    (.seq (.ops [⟨(some 2), none, (.mv (.c (.v (.string (mkS [98, 111, 111, 108])))))⟩])
    .ret)
    (.seq (.ops [⟨(some 10), none, (.bin .int .eql (.t 4) (.c (.v (.int .i64 3))))⟩,
      ⟨(some 9), none, (.mv (.t 10))⟩])
    (.cond (.t 9)
    (.seq (.seq (.ops [⟨(some 11), none, (.faddr 1 (.t 1))⟩,
      ⟨(some 12), none, (.load false 1 (.t 11))⟩,
      ⟨(some 13), none, (.bin .int .lss (.t 12) (.c (.v (.int .i64 0))))⟩])
    (.cond (.t 13)
    (.seq (.ops [⟨(some 2), none, (.mv (.c (.v (.string (mkS [])))))⟩])
    .ret)
    .skip))
    (.seq (.ops [⟨(some 14), none, (.faddr 1 (.t 1))⟩,
      ⟨(some 15), none, (.load false 1 (.t 14))⟩,
      ⟨(some 16), none, (.call (.c (.fn (.func 51) [] [])) [(.t 15)])⟩,
      ⟨(some 17), none, (.bin .str .add (.c (.v (.string (mkS [105, 110, 116, 91])))) (.t 16))⟩,
      ⟨(some 18), none, (.bin .str .add (.t 17) (.c (.v (.string (mkS [93])))))⟩,
      ⟨(some 2), none, (.mv (.t 18))⟩])
    .ret))
    (.seq (.ops [⟨(some 20), none, (.bin .int .eql (.t 4) (.c (.v (.int .i64 4))))⟩,
      ⟨(some 19), none, (.mv (.t 20))⟩])
    (.cond (.t 19)
    (.seq (.ops [⟨(some 21), none, (.faddr 2 (.t 1))⟩,
      ⟨(some 22), none, (.load false 1 (.t 21))⟩,
      ⟨(some 2), none, (.mv (.t 22))⟩])
    .ret)
    (.seq (.ops [⟨(some 24), none, (.bin .int .eql (.t 4) (.c (.v (.int .i64 5))))⟩,
      ⟨(some 23), none, (.mv (.t 24))⟩])
    (.cond (.t 23)
    (.seq (.ops [⟨(some 2), none, (.mv (.c (.v (.string (mkS [97, 114, 114, 97, 121])))))⟩])
    .ret)
    (.seq (.ops [⟨(some 26), none, (.bin .int .eql (.t 4) (.c (.v (.int .i64 6))))⟩,
      ⟨(some 25), none, (.mv (.t 26))⟩])
    (.cond (.t 25)
    (.seq (.ops [⟨(some 2), none, (.mv (.c (.v (.string (mkS [105, 110, 116, 32, 111, 114, 32, 98, 111, 111, 108])))))⟩])
    .ret)
    .skip))))))))))))))
    (.seq (.ops [⟨(some 2), none, (.mv (.c (.v (.string (mkS [])))))⟩])
    .ret)))⟩
theorem L22_ok : lowFn Try.prog Try.f22 [] = some L22 := by kernel_rfl

/-- assessor_types.Size -/
def L23 : LFn := ⟨10, [(.tmp 4)], (.seq (.ops [⟨(some 2), none, (.box false (.t 0))⟩,
      ⟨(some 4), none, (.mv (.c (.v (.int .i64 0))))⟩])
    (.seq (.ops [⟨(some 5), none, (.mv (.t 1))⟩,
      ⟨(some 6), none, (.load true 3 (.t 2))⟩,
      ⟨(some 7), none, (.bsl true 3 1 [(.v (.int .i64 0)), (.v (.int .i64 0)), (.v (.string (mkS [])))] [(0, (.t 6))])⟩,
      ⟨(some 8), none, (.call (.c (.fn (.func 26) [] [])) [(.t 5), (.t 7)])⟩,
      ⟨(some 9), none, (.len .slc (.t 8))⟩,
      ⟨(some 4), none, (.mv (.t 9))⟩])
    .ret))⟩
theorem L23_ok : lowFn Try.prog Try.f23 [⟨1, 2, .imm⟩] = some L23 := by kernel_rfl

/-- assessor_assessorref08.Size -/
def L24 : LFn := ⟨10, [(.tmp 4)], (.seq (.ops [⟨(some 2), none, (.box false (.t 0))⟩,
      ⟨(some 4), none, (.mv (.c (.v (.int .i64 0))))⟩])
    (.seq (.ops [⟨(some 5), none, (.mv (.t 1))⟩,
      ⟨(some 6), none, (.load true 3 (.t 2))⟩,
      ⟨(some 7), none, (.bsl true 3 1 [(.v (.int .i64 0)), (.v (.int .i64 0)), (.v (.string (mkS [])))] [(0, (.t 6))])⟩,
      ⟨(some 8), none, (.call (.c (.fn (.func 27) [] [])) [(.t 5), (.t 7)])⟩,
      ⟨(some 9), none, (.len .slc (.t 8))⟩,
      ⟨(some 4), none, (.mv (.t 9))⟩])
    .ret))⟩
theorem L24_ok : lowFn Try.prog Try.f24 [⟨1, 2, .imm⟩] = some L24 := by kernel_rfl

/-- assessor_assessorref08.Equal -/
def L25 : LFn := ⟨26, [(.tmp 4)], (.seq (.ops [⟨(some 4), none, (.mv (.c (.v (.bool false))))⟩])
    (.seq (.seq (.ops [⟨(some 6), none, (.mv (.t 0))⟩,
      ⟨(some 7), none, (.len .slc (.t 6))⟩,
      ⟨(some 8), none, (.mv (.t 1))⟩,
      ⟨(some 9), none, (.len .slc (.t 8))⟩,
      ⟨(some 10), none, (.bin .int .neq (.t 7) (.t 9))⟩])
    (.cond (.t 10)
    (.seq (.ops [⟨(some 4), none, (.mv (.c (.v (.bool false))))⟩])
    .ret)
    .skip))
    (.seq (.seq (.ops [⟨(some 5), none, (.mv (.c (.v (.int .i64 0))))⟩])
    (.block 0 (.loop (.seq (.seq (.ops [⟨(some 11), none, (.mv (.t 5))⟩,
      ⟨(some 12), none, (.mv (.t 0))⟩,
      ⟨(some 13), none, (.len .slc (.t 12))⟩,
      ⟨(some 14), none, (.bin .int .lss (.t 11) (.t 13))⟩])
    (.cond (.t 14)
    .skip
    (.exit 0)))
    (.seq (.block 1 (.seq (.draw [⟨(some 17), none, (.mv (.t 0))⟩,
      ⟨(some 18), none, (.mv (.t 5))⟩,
      ⟨(some 19), none, (.iaddr 3 (.t 17) (.t 18))⟩,
      ⟨(some 20), none, (.load true 3 (.t 19))⟩,
      ⟨(some 21), none, (.mv (.t 1))⟩,
      ⟨(some 22), none, (.mv (.t 5))⟩,
      ⟨(some 23), none, (.iaddr 3 (.t 21) (.t 22))⟩,
      ⟨(some 24), none, (.load true 3 (.t 23))⟩,
      ⟨(some 25), none, (.bin (.agg [.int, .int, .str]) .neq (.t 20) (.t 24))⟩] [])
    (.cond (.t 25)
    (.seq (.ops [⟨(some 4), none, (.mv (.c (.v (.bool false))))⟩])
    .ret)
    .skip)))
    (.ops [⟨(some 15), none, (.mv (.t 5))⟩,
      ⟨(some 16), none, (.bin .int .add (.t 15) (.c (.v (.int .i64 1))))⟩,
      ⟨(some 5), none, (.mv (.t 16))⟩]))))))
    (.seq (.ops [⟨(some 4), none, (.mv (.c (.v (.bool true))))⟩])
    .ret))))⟩
theorem L25_ok : lowFn Try.prog Try.f25 [] = some L25 := by kernel_rfl

/-- assessor_types.Scalars -/
def L26 : LFn := ⟨30, [(.tmp 4)], (.seq (.ops [⟨(some 4), none, (.mv (.c (.v (.slice none 0 0))))⟩])
    (.seq (.ops [⟨(some 5), none, (.mv (.c (.v (.slice none 0 0))))⟩,
      ⟨(some 5), none, (.own 3 (.t 5))⟩])
    (.seq (.seq (.ops [⟨(some 8), none, (.mv (.t 1))⟩,
      ⟨(some 9), none, (.len .slc (.t 8))⟩,
      ⟨(some 10), none, (.mv (.c (.v (.int .i64 0))))⟩])
    (.block 0 (.loop (.seq (.ops [⟨(some 11), none, (.bin .int .lss (.t 10) (.t 9))⟩])
    (.seq (.cond (.t 11)
    .skip
    (.exit 0))
    (.seq (.block 1 (.seq (.ops [⟨(some 12), none, (.iaddr 3 (.t 8) (.t 10))⟩,
      ⟨(some 13), none, (.load true 3 (.t 12))⟩,
      ⟨(some 7), none, (.alloc [(.v (.int .i64 0)), (.v (.int .i64 0)), (.v (.string (mkS [])))])⟩,
      ⟨none, none, (.store 3 (.t 7) (.t 13))⟩])
    (.seq (.seq (.ops [⟨(some 14), none, (.load true 3 (.t 7))⟩,
      ⟨(some 15), none, (.mv (.t 0))⟩,
      ⟨(some 16), none, (.call (.c (.fn (.func 19) [] [])) [(.t 14), (.t 15)])⟩,
      ⟨(some 17), none, (.not (.t 16))⟩])
    (.cond (.t 17)
    (.seq (.ops [⟨(some 4), none, (.mv (.c (.v (.slice none 0 0))))⟩])
    .ret)
    .skip))
    (.draw [⟨(some 18), none, (.mv (.t 5))⟩,
      ⟨(some 19), none, (.call (.c (.fn (.func 48) [] [])) [])⟩,
      ⟨(some 20), none, (.faddr 0 (.t 7))⟩,
      ⟨(some 21), none, (.load false 1 (.t 20))⟩,
      ⟨(some 22), none, (.look .int (.agg [(.v .nilFunc), (.v .nilFunc)]) false (.t 19) (.t 21))⟩,
      ⟨(some 23), none, (.fld false 1 1 (.t 22))⟩,
      ⟨(some 24), none, (.load true 3 (.t 7))⟩,
      ⟨(some 25), none, (.mv (.t 0))⟩,
      ⟨(some 26), none, (.call (.t 23) [(.t 24), (.t 25)])⟩] [⟨(some 27), none, (.append 3 32 (.t 18) (.t 26))⟩,
      ⟨(some 5), none, (.mv (.t 27))⟩]))))
    (.ops [⟨(some 28), none, (.bin .int .add (.t 10) (.c (.v (.int .i64 1))))⟩,
      ⟨(some 10), none, (.mv (.t 28))⟩])))))))
    (.seq (.ops [⟨(some 29), none, (.mv (.t 5))⟩,
      ⟨(some 4), none, (.mv (.t 29))⟩,
      ⟨(some 4), none, (.frz (.t 4))⟩])
    .ret))))⟩
theorem L26_ok : lowFn Try.prog Try.f26 [⟨9, 2, (.pre 4 (.frz (.t 4)))⟩, ⟨1, 1, (.pre 5 (.own 3 (.t 5)))⟩, ⟨7, 9, .tail⟩] = some L26 := by kernel_rfl

/-- assessor_assessorref08.Scalars -/
def L27 : LFn := ⟨86, [(.tmp 4)], (.seq (.ops [⟨(some 4), none, (.mv (.c (.v (.slice none 0 0))))⟩])
    (.seq (.ops [⟨(some 10), none, (.bsl false 3 0 [(.v (.int .i64 0)), (.v (.int .i64 0)), (.v (.string (mkS [])))] [])⟩,
      ⟨(some 5), none, (.mv (.t 10))⟩])
    (.seq (.seq (.ops [⟨(some 6), none, (.mv (.c (.v (.int .i64 0))))⟩])
    (.block 0 (.loop (.seq (.seq (.ops [⟨(some 11), none, (.mv (.t 6))⟩,
      ⟨(some 12), none, (.mv (.t 1))⟩,
      ⟨(some 13), none, (.len .slc (.t 12))⟩,
      ⟨(some 14), none, (.bin .int .lss (.t 11) (.t 13))⟩])
    (.cond (.t 14)
    .skip
    (.exit 0)))
    (.seq (.block 1 (.seq (.seq (.ops [⟨(some 17), none, (.mv (.t 1))⟩,
      ⟨(some 18), none, (.mv (.t 6))⟩,
      ⟨(some 19), none, (.iaddr 3 (.t 17) (.t 18))⟩,
      ⟨(some 20), none, (.load true 3 (.t 19))⟩,
      ⟨(some 21), none, (.mv (.t 0))⟩,
      ⟨(some 22), none, (.call (.c (.fn (.func 20) [] [])) [(.t 20), (.t 21)])⟩,
      ⟨(some 23), none, (.not (.t 22))⟩])
    (.cond (.t 23)
    (.seq (.ops [⟨(some 4), none, (.mv (.c (.v (.slice none 0 0))))⟩])
    .ret)
    .skip))
    (.seq (.ops [⟨(some 24), none, (.mv (.t 1))⟩,
      ⟨(some 25), none, (.mv (.t 6))⟩,
      ⟨(some 26), none, (.iaddr 3 (.t 24) (.t 25))⟩,
      ⟨(some 27), none, (.faddr 0 (.t 26))⟩,
      ⟨(some 28), none, (.load false 1 (.t 27))⟩])
    (.block 2 (.seq (.ops [⟨(some 37), none, (.bin .int .eql (.t 28) (.c (.v (.int .i64 3))))⟩,
      ⟨(some 36), none, (.mv (.t 37))⟩])
    (.cond (.t 36)
    (.seq (.ops [⟨(some 7), none, (.mv (.c (.v (.int .i64 0))))⟩])
    (.block 3 (.loop (.seq (.seq (.ops [⟨(some 38), none, (.mv (.t 7))⟩,
      ⟨(some 39), none, (.mv (.t 1))⟩,
      ⟨(some 40), none, (.mv (.t 6))⟩,
      ⟨(some 41), none, (.iaddr 3 (.t 39) (.t 40))⟩,
      ⟨(some 42), none, (.faddr 1 (.t 41))⟩,
      ⟨(some 43), none, (.load false 1 (.t 42))⟩,
      ⟨(some 44), none, (.bin .int .lss (.t 38) (.t 43))⟩])
    (.cond (.t 44)
    .skip
    (.exit 3)))
    (.seq (.block 4 (.ops [⟨(some 47), none, (.mv (.t 5))⟩,
      ⟨(some 48), none, (.build [(.v (.int .i64 0)), (.v (.int .i64 0)), (.v (.string (mkS [])))] [(0, (1, (.c (.v (.int .i64 1)))))])⟩,
      ⟨(some 49), none, (.bsl true 3 1 [(.v (.int .i64 0)), (.v (.int .i64 0)), (.v (.string (mkS [])))] [(0, (.t 48))])⟩,
      ⟨(some 50), none, (.append 3 32 (.t 47) (.t 49))⟩,
      ⟨(some 5), none, (.mv (.t 50))⟩]))
    (.ops [⟨(some 45), none, (.mv (.t 7))⟩,
      ⟨(some 46), none, (.bin .int .add (.t 45) (.c (.v (.int .i64 1))))⟩,
      ⟨(some 7), none, (.mv (.t 46))⟩]))))))
    (.seq (.ops [⟨(some 52), none, (.bin .int .eql (.t 28) (.c (.v (.int .i64 4))))⟩,
      ⟨(some 51), none, (.mv (.t 52))⟩])
    (.cond (.t 51)
    (.seq (.ops [⟨(some 53), none, (.mv (.t 0))⟩,
      ⟨(some 54), none, (.mv (.t 0))⟩,
      ⟨(some 55), none, (.mv (.t 1))⟩,
      ⟨(some 56), none, (.mv (.t 6))⟩,
      ⟨(some 57), none, (.iaddr 3 (.t 55) (.t 56))⟩,
      ⟨(some 58), none, (.faddr 2 (.t 57))⟩,
      ⟨(some 59), none, (.load false 1 (.t 58))⟩,
      ⟨(some 60), none, (.call (.c (.fn (.func 49) [] [])) [(.t 54), (.t 59)])⟩,
      ⟨(some 61), none, (.iaddr 2 (.t 53) (.t 60))⟩,
      ⟨(some 62), none, (.faddr 1 (.t 61))⟩,
      ⟨(some 63), none, (.load false 1 (.t 62))⟩,
      ⟨(some 8), none, (.mv (.t 63))⟩])
    (.seq (.ops [⟨(some 9), none, (.mv (.c (.v (.int .i64 0))))⟩])
    (.block 5 (.loop (.seq (.seq (.ops [⟨(some 64), none, (.mv (.t 9))⟩,
      ⟨(some 65), none, (.mv (.t 8))⟩,
      ⟨(some 66), none, (.len .slc (.t 65))⟩,
      ⟨(some 67), none, (.bin .int .lss (.t 64) (.t 66))⟩])
    (.cond (.t 67)
    .skip
    (.exit 5)))
    (.seq (.block 6 (.seq (.ops [⟨(some 70), none, (.mv (.t 8))⟩,
      ⟨(some 71), none, (.mv (.t 9))⟩,
      ⟨(some 72), none, (.iaddr 4 (.t 70) (.t 71))⟩,
      ⟨(some 73), none, (.faddr 1 (.t 72))⟩,
      ⟨(some 74), none, (.faddr 0 (.t 73))⟩,
      ⟨(some 75), none, (.load false 1 (.t 74))⟩,
      ⟨(some 76), none, (.bin .int .eql (.t 75) (.c (.v (.int .i64 2))))⟩])
    (.cond (.t 76)
    (.ops [⟨(some 77), none, (.mv (.t 5))⟩,
      ⟨(some 78), none, (.build [(.v (.int .i64 0)), (.v (.int .i64 0)), (.v (.string (mkS [])))] [(0, (1, (.c (.v (.int .i64 2)))))])⟩,
      ⟨(some 79), none, (.bsl true 3 1 [(.v (.int .i64 0)), (.v (.int .i64 0)), (.v (.string (mkS [])))] [(0, (.t 78))])⟩,
      ⟨(some 80), none, (.append 3 32 (.t 77) (.t 79))⟩,
      ⟨(some 5), none, (.mv (.t 80))⟩])
    (.ops [⟨(some 81), none, (.mv (.t 5))⟩,
      ⟨(some 82), none, (.build [(.v (.int .i64 0)), (.v (.int .i64 0)), (.v (.string (mkS [])))] [(0, (1, (.c (.v (.int .i64 1)))))])⟩,
      ⟨(some 83), none, (.bsl true 3 1 [(.v (.int .i64 0)), (.v (.int .i64 0)), (.v (.string (mkS [])))] [(0, (.t 82))])⟩,
      ⟨(some 84), none, (.append 3 32 (.t 81) (.t 83))⟩,
      ⟨(some 5), none, (.mv (.t 84))⟩]))))
    (.ops [⟨(some 68), none, (.mv (.t 9))⟩,
      ⟨(some 69), none, (.bin .int .add (.t 68) (.c (.v (.int .i64 1))))⟩,
      ⟨(some 9), none, (.mv (.t 69))⟩])))))))
    (.ops [⟨(some 29), none, (.mv (.t 5))⟩,
      ⟨(some 30), none, (.mv (.t 1))⟩,
      ⟨(some 31), none, (.mv (.t 6))⟩,
      ⟨(some 32), none, (.iaddr 3 (.t 30) (.t 31))⟩,
      ⟨(some 33), none, (.load true 3 (.t 32))⟩,
      ⟨(some 34), none, (.bsl true 3 1 [(.v (.int .i64 0)), (.v (.int .i64 0)), (.v (.string (mkS [])))] [(0, (.t 33))])⟩,
      ⟨(some 35), none, (.append 3 32 (.t 29) (.t 34))⟩,
      ⟨(some 5), none, (.mv (.t 35))⟩])))))))))
    (.ops [⟨(some 15), none, (.mv (.t 6))⟩,
      ⟨(some 16), none, (.bin .int .add (.t 15) (.c (.v (.int .i64 1))))⟩,
      ⟨(some 6), none, (.mv (.t 16))⟩]))))))
    (.seq (.ops [⟨(some 85), none, (.mv (.t 5))⟩,
      ⟨(some 4), none, (.mv (.t 85))⟩,
      ⟨(some 4), none, (.frz (.t 4))⟩])
    .ret))))⟩
theorem L27_ok : lowFn Try.prog Try.f27 [⟨13, 2, .imm⟩, ⟨20, 2, .imm⟩, ⟨21, 2, .imm⟩, ⟨8, 5, .imm⟩, ⟨22, 2, (.pre 4 (.frz (.t 4)))⟩] = some L27 := by kernel_rfl

/-- assessor_types.Layout -/
def L28 : LFn := ⟨38, [(.tmp 4), (.tmp 5)], (.seq (.ops [⟨(some 4), none, (.mv (.c (.v (.slice none 0 0))))⟩,
      ⟨(some 5), none, (.mv (.c (.v (.int .i64 0))))⟩])
    (.seq (.ops [⟨(some 10), none, (.mv (.t 1))⟩,
      ⟨(some 11), none, (.call (.c (.fn (.func 52) [] [])) [(.t 10)])⟩,
      ⟨(some 6), none, (.mv (.t 11))⟩,
      ⟨(some 7), none, (.mv (.c (.v (.int .i64 0))))⟩])
    (.seq (.seq (.ops [⟨(some 12), none, (.mv (.t 1))⟩,
      ⟨(some 13), none, (.len .slc (.t 12))⟩,
      ⟨(some 14), none, (.mv (.c (.v (.int .i64 0))))⟩])
    (.block 0 (.loop (.seq (.ops [⟨(some 15), none, (.bin .int .lss (.t 14) (.t 13))⟩])
    (.seq (.cond (.t 15)
    .skip
    (.exit 0))
    (.seq (.block 1 (.seq (.ops [⟨(some 16), none, (.mv (.t 14))⟩,
      ⟨(some 17), none, (.iaddr 8 (.t 12) (.t 14))⟩,
      ⟨(some 18), none, (.load true 8 (.t 17))⟩,
      ⟨(some 9), none, (.alloc [(.v (.string (mkS []))), (.v (.int .i64 0)), (.v (.int .i64 0)), (.v (.string (mkS []))), (.v (.int .i64 0)), (.v (.int .i64 0)), (.v (.bool false)), (.v (.bool false))])⟩,
      ⟨(some 8), none, (.mv (.t 16))⟩,
      ⟨none, none, (.store 8 (.t 9) (.t 18))⟩])
    (.seq (.seq (.ops [⟨(some 19), none, (.faddr 1 (.t 9))⟩,
      ⟨(some 20), none, (.load true 3 (.t 19))⟩,
      ⟨(some 21), none, (.mv (.t 0))⟩,
      ⟨(some 22), none, (.call (.c (.fn (.func 19) [] [])) [(.t 20), (.t 21)])⟩,
      ⟨(some 23), none, (.not (.t 22))⟩])
    (.cond (.t 23)
    (.seq (.ops [⟨(some 4), none, (.mv (.c (.v (.slice none 0 0))))⟩,
      ⟨(some 5), none, (.mv (.c (.v (.int .i64 0))))⟩])
    .ret)
    .skip))
    (.seq (.ops [⟨(some 24), none, (.mv (.t 6))⟩,
      ⟨(some 25), none, (.mv (.t 8))⟩,
      ⟨(some 26), none, (.mv (.t 7))⟩,
      ⟨(some 27), none, (.iaddr 8 (.t 24) (.t 25))⟩,
      ⟨(some 28), none, (.faddr 4 (.t 27))⟩,
      ⟨none, none, (.store 1 (.t 28) (.t 26))⟩])
    (.ops [⟨(some 29), none, (.mv (.t 7))⟩,
      ⟨(some 30), none, (.faddr 1 (.t 9))⟩,
      ⟨(some 31), none, (.load true 3 (.t 30))⟩,
      ⟨(some 32), none, (.mv (.t 0))⟩,
      ⟨(some 33), none, (.call (.c (.fn (.func 23) [] [])) [(.t 31), (.t 32)])⟩,
      ⟨(some 34), none, (.bin .int .add (.t 29) (.t 33))⟩,
      ⟨(some 7), none, (.mv (.t 34))⟩])))))
    (.ops [⟨(some 35), none, (.bin .int .add (.t 14) (.c (.v (.int .i64 1))))⟩,
      ⟨(some 14), none, (.mv (.t 35))⟩])))))))
    (.seq (.ops [⟨(some 36), none, (.mv (.t 6))⟩,
      ⟨(some 37), none, (.mv (.t 7))⟩,
      ⟨(some 4), none, (.mv (.t 36))⟩,
      ⟨(some 5), none, (.mv (.t 37))⟩,
      ⟨(some 4), none, (.frz (.t 4))⟩])
    .ret))))⟩
theorem L28_ok : lowFn Try.prog Try.f28 [⟨10, 4, (.pre 4 (.frz (.t 4)))⟩] = some L28 := by kernel_rfl

/-- assessor_types.Same -/
def L29 : LFn := ⟨52, [(.tmp 8)], (.seq (.ops [⟨(some 4), none, (.box false (.t 0))⟩,
      ⟨(some 6), none, (.box false (.t 2))⟩,
      ⟨(some 8), none, (.mv (.c (.v (.bool false))))⟩])
    (.seq (.seq (.ops [⟨(some 13), none, (.load true 3 (.t 4))⟩,
      ⟨(some 14), none, (.mv (.t 1))⟩,
      ⟨(some 15), none, (.call (.c (.fn (.func 19) [] [])) [(.t 13), (.t 14)])⟩,
      ⟨(some 16), none, (.not (.t 15))⟩,
      ⟨(some 17), none, (.mv (.t 16))⟩,
      ⟨(some 18), (some (17, false)), (.load true 3 (.t 6))⟩,
      ⟨(some 19), (some (17, false)), (.mv (.t 3))⟩,
      ⟨(some 20), (some (17, false)), (.call (.c (.fn (.func 19) [] [])) [(.t 18), (.t 19)])⟩,
      ⟨(some 21), (some (17, false)), (.not (.t 20))⟩,
      ⟨(some 22), none, (.pick (.t 17) (.c (.v (.bool true))) (.t 21))⟩,
      ⟨(some 23), none, (.mv (.t 22))⟩,
      ⟨(some 24), (some (23, false)), (.load true 3 (.t 4))⟩,
      ⟨(some 25), (some (23, false)), (.load true 3 (.t 6))⟩,
      ⟨(some 26), (some (23, false)), (.bin (.agg [.int, .int, .str]) .neq (.t 24) (.t 25))⟩,
      ⟨(some 27), none, (.pick (.t 23) (.c (.v (.bool true))) (.t 26))⟩])
    (.cond (.t 27)
    (.seq (.ops [⟨(some 8), none, (.mv (.c (.v (.bool false))))⟩])
    .ret)
    .skip))
    (.seq (.ops [⟨(some 29), none, (.mv (.t 1))⟩,
      ⟨(some 30), none, (.faddr 2 (.t 4))⟩,
      ⟨(some 31), none, (.load false 1 (.t 30))⟩,
      ⟨(some 32), none, (.call (.c (.fn (.func 53) [] [])) [(.t 29), (.t 31)])⟩,
      ⟨(some 28), none, (.mv (.t 32))⟩,
      ⟨(some 33), none, (.ext (.t 28) 0)⟩,
      ⟨(some 34), none, (.ext (.t 28) 1)⟩,
      ⟨(some 9), none, (.alloc [(.v (.string (mkS []))), (.v (.slice none 0 0))])⟩,
      ⟨none, none, (.store 2 (.t 9) (.t 33))⟩,
      ⟨(some 10), none, (.mv (.t 34))⟩])
    (.seq (.ops [⟨(some 36), none, (.mv (.t 3))⟩,
      ⟨(some 37), none, (.faddr 2 (.t 6))⟩,
      ⟨(some 38), none, (.load false 1 (.t 37))⟩,
      ⟨(some 39), none, (.call (.c (.fn (.func 53) [] [])) [(.t 36), (.t 38)])⟩,
      ⟨(some 35), none, (.mv (.t 39))⟩,
      ⟨(some 40), none, (.ext (.t 35) 0)⟩,
      ⟨(some 41), none, (.ext (.t 35) 1)⟩,
      ⟨(some 11), none, (.alloc [(.v (.string (mkS []))), (.v (.slice none 0 0))])⟩,
      ⟨none, none, (.store 2 (.t 11) (.t 40))⟩,
      ⟨(some 12), none, (.mv (.t 41))⟩])
    (.seq (.ops [⟨(some 42), none, (.faddr 0 (.t 4))⟩,
      ⟨(some 43), none, (.load false 1 (.t 42))⟩,
      ⟨(some 44), none, (.bin .int .neq (.t 43) (.c (.v (.int .i64 4))))⟩,
      ⟨(some 45), none, (.mv (.t 44))⟩,
      ⟨(some 46), (some (45, false)), (.faddr 1 (.t 9))⟩,
      ⟨(some 47), (some (45, false)), (.load false 1 (.t 46))⟩,
      ⟨(some 48), (some (45, false)), (.faddr 1 (.t 11))⟩,
      ⟨(some 49), (some (45, false)), (.load false 1 (.t 48))⟩,
      ⟨(some 50), (some (45, false)), (.call (.c (.fn (.func 54) [] [])) [(.t 47), (.t 49)])⟩,
      ⟨(some 51), none, (.pick (.t 45) (.c (.v (.bool true))) (.t 50))⟩,
      ⟨(some 8), none, (.mv (.t 51))⟩])
    .ret)))))⟩
theorem L29_ok : lowFn Try.prog Try.f29 [] = some L29 := by kernel_rfl

/-- assessor_types.Written -/
def L32 : LFn := ⟨48, [(.cell 4 true 3), (.tmp 5)], (.seq (.ops [⟨(some 2), none, (.box false (.t 0))⟩,
      ⟨(some 4), none, (.alloc [(.v (.int .i64 0)), (.v (.int .i64 0)), (.v (.string (mkS [])))])⟩,
      ⟨(some 5), none, (.mv (.c (.v (.bool false))))⟩])
    (.seq (.ops [⟨(some 6), none, (.alloc [(.v (.int .i64 0)), (.v (.int .i64 0)), (.v (.string (mkS [])))])⟩])
    (.seq (.block 0 (.seq (.ops [⟨(some 13), none, (.faddr 0 (.t 2))⟩,
      ⟨(some 14), none, (.load false 1 (.t 13))⟩,
      ⟨(some 15), none, (.bin .int .eql (.t 14) (.c (.v (.int .i64 10))))⟩,
      ⟨(some 12), none, (.mv (.t 15))⟩])
    (.cond (.t 12)
    (.seq (.ops [⟨(some 17), none, (.faddr 1 (.t 2))⟩,
      ⟨(some 18), none, (.load false 1 (.t 17))⟩,
      ⟨(some 19), none, (.call (.c (.fn (.func 9) [] [])) [(.t 18)])⟩,
      ⟨(some 16), none, (.mv (.t 19))⟩,
      ⟨(some 20), none, (.ext (.t 16) 0)⟩,
      ⟨(some 21), none, (.ext (.t 16) 1)⟩,
      ⟨(some 7), none, (.mv (.t 20))⟩,
      ⟨(some 8), none, (.mv (.t 21))⟩])
    (.seq (.seq (.ops [⟨(some 22), none, (.mv (.t 8))⟩,
      ⟨(some 23), none, (.not (.t 22))⟩])
    (.cond (.t 23)
    (.seq (.ops [⟨(some 24), none, (.build [(.v (.int .i64 0)), (.v (.int .i64 0)), (.v (.string (mkS [])))] [])⟩,
      ⟨none, none, (.store 3 (.t 4) (.t 24))⟩,
      ⟨(some 5), none, (.mv (.c (.v (.bool false))))⟩])
    .ret)
    .skip))
    (.ops [⟨(some 25), none, (.mv (.t 7))⟩,
      ⟨(some 26), none, (.build [(.v (.int .i64 0)), (.v (.int .i64 0)), (.v (.string (mkS [])))] [(0, (1, (.c (.v (.int .i64 3))))), (1, (1, (.t 25)))])⟩,
      ⟨none, none, (.store 3 (.t 6) (.t 26))⟩])))
    (.seq (.ops [⟨(some 28), none, (.faddr 0 (.t 2))⟩,
      ⟨(some 29), none, (.load false 1 (.t 28))⟩,
      ⟨(some 30), none, (.bin .int .neq (.t 29) (.c (.v (.int .i64 9))))⟩,
      ⟨(some 27), none, (.mv (.t 30))⟩])
    (.cond (.t 27)
    (.seq (.ops [⟨(some 31), none, (.build [(.v (.int .i64 0)), (.v (.int .i64 0)), (.v (.string (mkS [])))] [])⟩,
      ⟨none, none, (.store 3 (.t 4) (.t 31))⟩,
      ⟨(some 5), none, (.mv (.c (.v (.bool false))))⟩])
    .ret)
    (.seq (.ops [⟨(some 33), none, (.faddr 1 (.t 2))⟩,
      ⟨(some 34), none, (.load false 1 (.t 33))⟩,
      ⟨(some 35), none, (.bin .str .eql (.t 34) (.c (.v (.string (mkS [105, 110, 116])))))⟩,
      ⟨(some 32), none, (.mv (.t 35))⟩])
    (.cond (.t 32)
    (.ops [⟨(some 36), none, (.faddr 0 (.t 6))⟩,
      ⟨none, none, (.store 1 (.t 36) (.c (.v (.int .i64 1))))⟩])
    (.seq (.ops [⟨(some 38), none, (.faddr 1 (.t 2))⟩,
      ⟨(some 39), none, (.load false 1 (.t 38))⟩,
      ⟨(some 40), none, (.bin .str .eql (.t 39) (.c (.v (.string (mkS [98, 111, 111, 108])))))⟩,
      ⟨(some 37), none, (.mv (.t 40))⟩])
    (.cond (.t 37)
    (.ops [⟨(some 41), none, (.faddr 0 (.t 6))⟩,
      ⟨none, none, (.store 1 (.t 41) (.c (.v (.int .i64 2))))⟩])
    (.ops [⟨(some 9), none, (.faddr 1 (.t 2))⟩,
      ⟨(some 10), none, (.load false 1 (.t 9))⟩,
      ⟨(some 11), none, (.build [(.v (.int .i64 0)), (.v (.int .i64 0)), (.v (.string (mkS [])))] [(0, (1, (.c (.v (.int .i64 4))))), (2, (1, (.t 10)))])⟩,
      ⟨none, none, (.store 3 (.t 6) (.t 11))⟩]))))))))))
    (.seq (.seq (.ops [⟨(some 42), none, (.load true 3 (.t 6))⟩,
      ⟨(some 43), none, (.mv (.t 1))⟩,
      ⟨(some 44), none, (.call (.c (.fn (.func 19) [] [])) [(.t 42), (.t 43)])⟩,
      ⟨(some 45), none, (.not (.t 44))⟩])
    (.cond (.t 45)
    (.seq (.ops [⟨(some 46), none, (.build [(.v (.int .i64 0)), (.v (.int .i64 0)), (.v (.string (mkS [])))] [])⟩,
      ⟨none, none, (.store 3 (.t 4) (.t 46))⟩,
      ⟨(some 5), none, (.mv (.c (.v (.bool false))))⟩])
    .ret)
    .skip))
    (.seq (.ops [⟨(some 47), none, (.load true 3 (.t 6))⟩,
      ⟨none, none, (.store 3 (.t 4) (.t 47))⟩,
      ⟨(some 5), none, (.mv (.c (.v (.bool true))))⟩])
    .ret)))))⟩
theorem L32_ok : lowFn Try.prog Try.f32 [] = some L32 := by kernel_rfl

/-- assessor_assessorlaw08.point -/
def L46 : LFn := ⟨8, [(.tmp 0)], (.seq (.ops [⟨(some 0), none, (.mv (.c (.v (.slice none 0 0))))⟩])
    (.seq (.ops [⟨(some 1), none, (.build [(.v (.int .i64 0)), (.v (.int .i64 0)), (.v (.string (mkS [])))] [(0, (1, (.c (.v (.int .i64 1)))))])⟩,
      ⟨(some 2), none, (.build [(.v (.string (mkS []))), (.v (.int .i64 0)), (.v (.int .i64 0)), (.v (.string (mkS [])))] [(0, (1, (.c (.v (.string (mkS [112, 120])))))), (1, (3, (.t 1)))])⟩,
      ⟨(some 3), none, (.build [(.v (.int .i64 0)), (.v (.int .i64 0)), (.v (.string (mkS [])))] [(0, (1, (.c (.v (.int .i64 2)))))])⟩,
      ⟨(some 4), none, (.build [(.v (.string (mkS []))), (.v (.int .i64 0)), (.v (.int .i64 0)), (.v (.string (mkS [])))] [(0, (1, (.c (.v (.string (mkS [112, 98])))))), (1, (3, (.t 3)))])⟩,
      ⟨(some 5), none, (.bsl true 4 2 [(.v (.string (mkS []))), (.v (.int .i64 0)), (.v (.int .i64 0)), (.v (.string (mkS [])))] [(0, (.t 2)), (1, (.t 4))])⟩,
      ⟨(some 6), none, (.build [(.v (.string (mkS []))), (.v (.slice none 0 0))] [(0, (1, (.c (.v (.string (mkS [112, 111, 105, 110, 116])))))), (1, (1, (.t 5)))])⟩,
      ⟨(some 7), none, (.bsl false 2 1 [(.v (.string (mkS []))), (.v (.slice none 0 0))] [(0, (.t 6))])⟩,
      ⟨(some 0), none, (.mv (.t 7))⟩,
      ⟨(some 0), none, (.frz (.t 0))⟩])
    .ret))⟩
theorem L46_ok : lowFn Try.prog Try.f46 [⟨1, 4, .imm⟩, ⟨1, 8, (.pre 0 (.frz (.t 0)))⟩] = some L46 := by kernel_rfl

/-- assessor_types.Member -/
def L47 : LFn := ⟨34, [(.tmp 4), (.tmp 5), (.cell 6 true 3), (.tmp 7)], (.seq (.ops [⟨(some 3), none, (.box false (.t 1))⟩,
      ⟨(some 4), none, (.mv (.c (.v (.string (mkS [])))))⟩,
      ⟨(some 5), none, (.mv (.c (.v (.int .i64 0))))⟩,
      ⟨(some 6), none, (.alloc [(.v (.int .i64 0)), (.v (.int .i64 0)), (.v (.string (mkS [])))])⟩,
      ⟨(some 7), none, (.mv (.c (.v (.bool false))))⟩])
    (.seq (.seq (.ops [⟨(some 11), none, (.mv (.t 0))⟩,
      ⟨(some 12), none, (.len .slc (.t 11))⟩,
      ⟨(some 13), none, (.mv (.c (.v (.int .i64 0))))⟩])
    (.block 0 (.loop (.seq (.ops [⟨(some 14), none, (.bin .int .lss (.t 13) (.t 12))⟩])
    (.seq (.cond (.t 14)
    .skip
    (.exit 0))
    (.seq (.block 1 (.seq (.ops [⟨(some 15), none, (.iaddr 2 (.t 11) (.t 13))⟩,
      ⟨(some 16), none, (.load true 2 (.t 15))⟩,
      ⟨(some 9), none, (.alloc [(.v (.string (mkS []))), (.v (.slice none 0 0))])⟩,
      ⟨none, none, (.store 2 (.t 9) (.t 16))⟩])
    (.seq (.ops [⟨(some 17), none, (.faddr 1 (.t 9))⟩,
      ⟨(some 18), none, (.load false 1 (.t 17))⟩,
      ⟨(some 19), none, (.mkfn (.func 73) [] [(.t 3)])⟩,
      ⟨(some 20), none, (.call (.c (.fn (.func 72) [] [])) [(.t 18), (.t 19)])⟩,
      ⟨(some 10), none, (.mv (.t 20))⟩])
    (.seq (.ops [⟨(some 21), none, (.mv (.t 10))⟩,
      ⟨(some 22), none, (.bin .int .geq (.t 21) (.c (.v (.int .i64 0))))⟩])
    (.cond (.t 22)
    (.seq (.draw [⟨(some 23), none, (.faddr 0 (.t 9))⟩,
      ⟨(some 24), none, (.load false 1 (.t 23))⟩,
      ⟨(some 25), none, (.mv (.t 10))⟩,
      ⟨(some 26), none, (.faddr 1 (.t 9))⟩,
      ⟨(some 27), none, (.load false 1 (.t 26))⟩,
      ⟨(some 28), none, (.mv (.t 10))⟩,
      ⟨(some 29), none, (.iaddr 4 (.t 27) (.t 28))⟩,
      ⟨(some 30), none, (.faddr 1 (.t 29))⟩,
      ⟨(some 31), none, (.load true 3 (.t 30))⟩,
      ⟨(some 4), none, (.mv (.t 24))⟩,
      ⟨(some 5), none, (.mv (.t 25))⟩] [⟨none, none, (.store 3 (.t 6) (.t 31))⟩,
      ⟨(some 7), none, (.mv (.c (.v (.bool true))))⟩])
    .ret)
    .skip)))))
    (.ops [⟨(some 32), none, (.bin .int .add (.t 13) (.c (.v (.int .i64 1))))⟩,
      ⟨(some 13), none, (.mv (.t 32))⟩])))))))
    (.seq (.ops [⟨(some 33), none, (.build [(.v (.int .i64 0)), (.v (.int .i64 0)), (.v (.string (mkS [])))] [])⟩,
      ⟨(some 4), none, (.mv (.c (.v (.string (mkS [])))))⟩,
      ⟨(some 5), none, (.mv (.c (.v (.int .i64 0))))⟩,
      ⟨none, none, (.store 3 (.t 6) (.t 33))⟩,
      ⟨(some 7), none, (.mv (.c (.v (.bool false))))⟩])
    .ret)))⟩
theorem L47_ok : lowFn Try.prog Try.f47 [⟨6, 11, .tail⟩] = some L47 := by kernel_rfl

/-- assessor_types.shapes -/
def L48 : LFn := ⟨13, [(.tmp 0)], (.seq (.ops [⟨(some 0), none, (.mv (.c (.v (.map none))))⟩])
    (.seq (.ops [⟨(some 1), none, (.mv (.c (.fn (.func 74) [] [])))⟩])
    (.seq (.ops [⟨(some 2), none, (.mv (.c (.fn (.func 75) [] [])))⟩])
    (.seq (.ops [⟨(some 3), none, .mkmap⟩,
      ⟨(some 4), none, (.mv (.t 1))⟩,
      ⟨(some 5), none, (.mv (.t 2))⟩,
      ⟨(some 6), none, (.build [(.v .nilFunc), (.v .nilFunc)] [(0, (1, (.t 4))), (1, (1, (.t 5)))])⟩,
      ⟨none, none, (.ins .int (.t 3) (.c (.v (.int .i64 1))) (.t 6))⟩,
      ⟨(some 7), none, (.mv (.t 1))⟩,
      ⟨(some 8), none, (.mv (.t 2))⟩,
      ⟨(some 9), none, (.build [(.v .nilFunc), (.v .nilFunc)] [(0, (1, (.t 7))), (1, (1, (.t 8)))])⟩,
      ⟨none, none, (.ins .int (.t 3) (.c (.v (.int .i64 2))) (.t 9))⟩,
      ⟨(some 10), none, (.build [(.v .nilFunc), (.v .nilFunc)] [(0, (1, (.c (.fn (.func 76) [] [])))), (1, (1, (.c (.fn (.func 77) [] []))))])⟩,
      ⟨none, none, (.ins .int (.t 3) (.c (.v (.int .i64 3))) (.t 10))⟩,
      ⟨(some 11), none, (.build [(.v .nilFunc), (.v .nilFunc)] [(0, (1, (.c (.fn (.func 79) [] [])))), (1, (1, (.c (.fn (.func 80) [] []))))])⟩,
      ⟨none, none, (.ins .int (.t 3) (.c (.v (.int .i64 4))) (.t 11))⟩,
      ⟨(some 12), none, (.mv (.t 3))⟩,
      ⟨(some 0), none, (.mv (.t 12))⟩,
      ⟨(some 0), none, (.frz (.t 0))⟩])
    .ret))))⟩
theorem L48_ok : lowFn Try.prog Try.f48 [⟨3, 15, (.pre 0 (.frz (.t 0)))⟩] = some L48 := by kernel_rfl

/-- assessor_assessorref08.index -/
def L49 : LFn := ⟨20, [(.tmp 4)], (.seq (.ops [⟨(some 4), none, (.mv (.c (.v (.int .i64 0))))⟩])
    (.seq (.seq (.ops [⟨(some 5), none, (.mv (.c (.v (.int .i64 0))))⟩])
    (.block 0 (.loop (.seq (.seq (.ops [⟨(some 6), none, (.mv (.t 5))⟩,
      ⟨(some 7), none, (.mv (.t 0))⟩,
      ⟨(some 8), none, (.len .slc (.t 7))⟩,
      ⟨(some 9), none, (.bin .int .lss (.t 6) (.t 8))⟩])
    (.cond (.t 9)
    .skip
    (.exit 0)))
    (.seq (.block 1 (.seq (.ops [⟨(some 12), none, (.mv (.t 0))⟩,
      ⟨(some 13), none, (.mv (.t 5))⟩,
      ⟨(some 14), none, (.iaddr 2 (.t 12) (.t 13))⟩,
      ⟨(some 15), none, (.faddr 0 (.t 14))⟩,
      ⟨(some 16), none, (.load false 1 (.t 15))⟩,
      ⟨(some 17), none, (.mv (.t 1))⟩,
      ⟨(some 18), none, (.bin .str .eql (.t 16) (.t 17))⟩])
    (.cond (.t 18)
    (.seq (.ops [⟨(some 19), none, (.mv (.t 5))⟩,
      ⟨(some 4), none, (.mv (.t 19))⟩])
    .ret)
    .skip)))
    (.ops [⟨(some 10), none, (.mv (.t 5))⟩,
      ⟨(some 11), none, (.bin .int .add (.t 10) (.c (.v (.int .i64 1))))⟩,
      ⟨(some 5), none, (.mv (.t 11))⟩]))))))
    (.seq (.ops [⟨(some 4), none, (.mv (.c (.v (.int .i64 (-1)))))⟩])
    .ret)))⟩
theorem L49_ok : lowFn Try.prog Try.f49 [] = some L49 := by kernel_rfl

/-- assessor_types.digits -/
def L50 : LFn := ⟨16, [(.tmp 2)], (.seq (.ops [⟨(some 2), none, (.mv (.c (.v (.string (mkS [])))))⟩])
    (.seq (.seq (.ops [⟨(some 3), none, (.mv (.t 0))⟩,
      ⟨(some 4), none, (.bin .int .lss (.t 3) (.c (.v (.int .i64 10))))⟩])
    (.cond (.t 4)
    (.seq (.ops [⟨(some 5), none, (.mv (.t 0))⟩,
      ⟨(some 6), none, (.bin .int .add (.c (.v (.int .i64 48))) (.t 5))⟩,
      ⟨(some 7), none, (.conv (.toInt .i32) (.t 6))⟩,
      ⟨(some 8), none, (.conv .runeStr (.t 7))⟩,
      ⟨(some 2), none, (.mv (.t 8))⟩])
    .ret)
    .skip))
    (.seq (.ops [⟨(some 9), none, (.mv (.t 0))⟩,
      ⟨(some 10), none, (.bin .int .quo (.t 9) (.c (.v (.int .i64 10))))⟩,
      ⟨(some 11), none, (.call (.c (.fn (.func 50) [] [])) [(.t 10)])⟩,
      ⟨(some 12), none, (.mv (.t 0))⟩,
      ⟨(some 13), none, (.bin .int .rem (.t 12) (.c (.v (.int .i64 10))))⟩,
      ⟨(some 14), none, (.call (.c (.fn (.func 50) [] [])) [(.t 13)])⟩,
      ⟨(some 15), none, (.bin .str .add (.t 11) (.t 14))⟩,
      ⟨(some 2), none, (.mv (.t 15))⟩])
    .ret)))⟩
theorem L50_ok : lowFn Try.prog Try.f50 [] = some L50 := by kernel_rfl

/-- assessor_assessorref08.decimal -/
def L51 : LFn := ⟨18, [(.tmp 2)], (.seq (.ops [⟨(some 2), none, (.mv (.c (.v (.string (mkS [])))))⟩])
    (.seq (.ops [⟨(some 4), none, (.mv (.t 0))⟩,
      ⟨(some 5), none, (.bin .int .rem (.t 4) (.c (.v (.int .i64 10))))⟩,
      ⟨(some 6), none, (.bin .int .add (.c (.v (.int .i64 48))) (.t 5))⟩,
      ⟨(some 7), none, (.conv (.toInt .u8) (.t 6))⟩,
      ⟨(some 8), none, (.bsl false 1 1 [(.v (.int .u8 0))] [(0, (.t 7))])⟩,
      ⟨(some 9), none, (.conv .bytesStr (.t 8))⟩,
      ⟨(some 3), none, (.mv (.t 9))⟩])
    (.seq (.seq (.ops [⟨(some 10), none, (.mv (.t 0))⟩,
      ⟨(some 11), none, (.bin .int .geq (.t 10) (.c (.v (.int .i64 10))))⟩])
    (.cond (.t 11)
    (.ops [⟨(some 12), none, (.mv (.t 0))⟩,
      ⟨(some 13), none, (.bin .int .quo (.t 12) (.c (.v (.int .i64 10))))⟩,
      ⟨(some 14), none, (.call (.c (.fn (.func 51) [] [])) [(.t 13)])⟩,
      ⟨(some 15), none, (.mv (.t 3))⟩,
      ⟨(some 16), none, (.bin .str .add (.t 14) (.t 15))⟩,
      ⟨(some 3), none, (.mv (.t 16))⟩])
    .skip))
    (.seq (.ops [⟨(some 17), none, (.mv (.t 3))⟩,
      ⟨(some 2), none, (.mv (.t 17))⟩])
    .ret))))⟩
theorem L51_ok : lowFn Try.prog Try.f51 [] = some L51 := by kernel_rfl

/-- slices.Clone___assessor_api.Variable_assessor_api.Variable_ -/
def L52 : LFn := ⟨8, [(.tmp 2)], (.seq (.ops [⟨(some 2), none, (.mv (.c (.v (.slice none 0 0))))⟩])
    (.seq (.seq (.ops [⟨(some 3), none, (.mv (.t 0))⟩,
      ⟨(some 4), none, (.isnil false (.t 3))⟩])
    (.cond (.t 4)
    (.seq (.ops [⟨(some 2), none, (.mv (.c (.v (.slice none 0 0))))⟩])
    .ret)
    .skip))
    (.seq (.ops [⟨(some 5), none, (.bsl false 8 0 [(.v (.string (mkS []))), (.v (.int .i64 0)), (.v (.int .i64 0)), (.v (.string (mkS []))), (.v (.int .i64 0)), (.v (.int .i64 0)), (.v (.bool false)), (.v (.bool false))] [])⟩,
      ⟨(some 6), none, (.mv (.t 0))⟩,
      ⟨(some 7), none, (.append 8 72 (.t 5) (.t 6))⟩,
      ⟨(some 2), none, (.mv (.t 7))⟩])
    .ret)))⟩
theorem L52_ok : lowFn Try.prog Try.f52 [] = some L52 := by kernel_rfl

/-- assessor_types.record -/
def L53 : LFn := ⟨17, [(.cell 4 true 2), (.tmp 5)], (.seq (.ops [⟨(some 3), none, (.box false (.t 1))⟩,
      ⟨(some 4), none, (.alloc [(.v (.string (mkS []))), (.v (.slice none 0 0))])⟩,
      ⟨(some 5), none, (.mv (.c (.v (.bool false))))⟩])
    (.seq (.ops [⟨(some 7), none, (.mv (.t 0))⟩,
      ⟨(some 8), none, (.mkfn (.func 83) [] [(.t 3)])⟩,
      ⟨(some 9), none, (.call (.c (.fn (.func 82) [] [])) [(.t 7), (.t 8)])⟩,
      ⟨(some 6), none, (.mv (.t 9))⟩])
    (.seq (.seq (.ops [⟨(some 10), none, (.mv (.t 6))⟩,
      ⟨(some 11), none, (.bin .int .lss (.t 10) (.c (.v (.int .i64 0))))⟩])
    (.cond (.t 11)
    (.seq (.ops [⟨(some 12), none, (.build [(.v (.string (mkS []))), (.v (.slice none 0 0))] [])⟩,
      ⟨none, none, (.store 2 (.t 4) (.t 12))⟩,
      ⟨(some 5), none, (.mv (.c (.v (.bool false))))⟩])
    .ret)
    .skip))
    (.seq (.ops [⟨(some 13), none, (.mv (.t 0))⟩,
      ⟨(some 14), none, (.mv (.t 6))⟩,
      ⟨(some 15), none, (.iaddr 2 (.t 13) (.t 14))⟩,
      ⟨(some 16), none, (.load true 2 (.t 15))⟩,
      ⟨none, none, (.store 2 (.t 4) (.t 16))⟩,
      ⟨(some 5), none, (.mv (.c (.v (.bool true))))⟩])
    .ret))))⟩
theorem L53_ok : lowFn Try.prog Try.f53 [] = some L53 := by kernel_rfl

/-- slices.Equal___assessor_api.Field_assessor_api.Field_ -/
def L54 : LFn := ⟨26, [(.tmp 4)], (.seq (.ops [⟨(some 4), none, (.mv (.c (.v (.bool false))))⟩])
    (.seq (.seq (.ops [⟨(some 6), none, (.mv (.t 0))⟩,
      ⟨(some 7), none, (.len .slc (.t 6))⟩,
      ⟨(some 8), none, (.mv (.t 1))⟩,
      ⟨(some 9), none, (.len .slc (.t 8))⟩,
      ⟨(some 10), none, (.bin .int .neq (.t 7) (.t 9))⟩])
    (.cond (.t 10)
    (.seq (.ops [⟨(some 4), none, (.mv (.c (.v (.bool false))))⟩])
    .ret)
    .skip))
    (.seq (.seq (.ops [⟨(some 11), none, (.mv (.t 0))⟩,
      ⟨(some 12), none, (.len .slc (.t 11))⟩,
      ⟨(some 13), none, (.mv (.c (.v (.int .i64 0))))⟩])
    (.block 0 (.loop (.seq (.ops [⟨(some 14), none, (.bin .int .lss (.t 13) (.t 12))⟩])
    (.seq (.cond (.t 14)
    .skip
    (.exit 0))
    (.seq (.block 1 (.seq (.ops [⟨(some 15), none, (.mv (.t 13))⟩,
      ⟨(some 5), none, (.mv (.t 15))⟩])
    (.seq (.draw [⟨(some 16), none, (.mv (.t 0))⟩,
      ⟨(some 17), none, (.mv (.t 5))⟩,
      ⟨(some 18), none, (.iaddr 4 (.t 16) (.t 17))⟩,
      ⟨(some 19), none, (.load true 4 (.t 18))⟩,
      ⟨(some 20), none, (.mv (.t 1))⟩,
      ⟨(some 21), none, (.mv (.t 5))⟩,
      ⟨(some 22), none, (.iaddr 4 (.t 20) (.t 21))⟩,
      ⟨(some 23), none, (.load true 4 (.t 22))⟩,
      ⟨(some 24), none, (.bin (.agg [.str, .int, .int, .str]) .neq (.t 19) (.t 23))⟩] [])
    (.cond (.t 24)
    (.seq (.ops [⟨(some 4), none, (.mv (.c (.v (.bool false))))⟩])
    .ret)
    .skip))))
    (.ops [⟨(some 25), none, (.bin .int .add (.t 13) (.c (.v (.int .i64 1))))⟩,
      ⟨(some 13), none, (.mv (.t 25))⟩])))))))
    (.seq (.ops [⟨(some 4), none, (.mv (.c (.v (.bool true))))⟩])
    .ret))))⟩
theorem L54_ok : lowFn Try.prog Try.f54 [] = some L54 := by kernel_rfl

/-- slices.IndexFunc___assessor_api.Field_assessor_api.Field_ -/
def L72 : LFn := ⟨19, [(.tmp 4)], (.seq (.ops [⟨(some 4), none, (.mv (.c (.v (.int .i64 0))))⟩])
    (.seq (.seq (.ops [⟨(some 6), none, (.mv (.t 0))⟩,
      ⟨(some 7), none, (.len .slc (.t 6))⟩,
      ⟨(some 8), none, (.mv (.c (.v (.int .i64 0))))⟩])
    (.block 0 (.loop (.seq (.ops [⟨(some 9), none, (.bin .int .lss (.t 8) (.t 7))⟩])
    (.seq (.cond (.t 9)
    .skip
    (.exit 0))
    (.seq (.block 1 (.seq (.ops [⟨(some 10), none, (.mv (.t 8))⟩,
      ⟨(some 5), none, (.mv (.t 10))⟩])
    (.seq (.ops [⟨(some 11), none, (.mv (.t 1))⟩,
      ⟨(some 12), none, (.mv (.t 0))⟩,
      ⟨(some 13), none, (.mv (.t 5))⟩,
      ⟨(some 14), none, (.iaddr 4 (.t 12) (.t 13))⟩,
      ⟨(some 15), none, (.load true 4 (.t 14))⟩,
      ⟨(some 16), none, (.call (.t 11) [(.t 15)])⟩])
    (.cond (.t 16)
    (.seq (.ops [⟨(some 17), none, (.mv (.t 5))⟩,
      ⟨(some 4), none, (.mv (.t 17))⟩])
    .ret)
    .skip))))
    (.ops [⟨(some 18), none, (.bin .int .add (.t 8) (.c (.v (.int .i64 1))))⟩,
      ⟨(some 8), none, (.mv (.t 18))⟩])))))))
    (.seq (.ops [⟨(some 4), none, (.mv (.c (.v (.int .i64 (-1)))))⟩])
    .ret)))⟩
theorem L72_ok : lowFn Try.prog Try.f72 [] = some L72 := by kernel_rfl

/-- assessor_types.Member$1 -/
def L73 : LFn := ⟨8, [(.tmp 3)], (.seq (.ops [⟨(some 2), none, (.box false (.t 0))⟩,
      ⟨(some 3), none, (.mv (.c (.v (.bool false))))⟩])
    (.seq (.ops [⟨(some 4), none, (.faddr 0 (.t 2))⟩,
      ⟨(some 5), none, (.load false 1 (.t 4))⟩,
      ⟨(some 6), none, (.load false 1 (.t 1))⟩,
      ⟨(some 7), none, (.bin .str .eql (.t 5) (.t 6))⟩,
      ⟨(some 3), none, (.mv (.t 7))⟩])
    .ret))⟩
theorem L73_ok : lowFn Try.prog Try.f73 [] = some L73 := by kernel_rfl

/-- assessor_types.shapes$1 -/
def L74 : LFn := ⟨13, [(.tmp 4)], (.seq (.ops [⟨(some 2), none, (.box false (.t 0))⟩,
      ⟨(some 4), none, (.mv (.c (.v (.bool false))))⟩])
    (.seq (.ops [⟨(some 5), none, (.faddr 1 (.t 2))⟩,
      ⟨(some 6), none, (.load false 1 (.t 5))⟩,
      ⟨(some 7), none, (.bin .int .eql (.t 6) (.c (.v (.int .i64 0))))⟩,
      ⟨(some 8), none, (.mv (.t 7))⟩,
      ⟨(some 9), (some (8, true)), (.faddr 2 (.t 2))⟩,
      ⟨(some 10), (some (8, true)), (.load false 1 (.t 9))⟩,
      ⟨(some 11), (some (8, true)), (.bin .str .eql (.t 10) (.c (.v (.string (mkS [])))))⟩,
      ⟨(some 12), none, (.pick (.t 8) (.t 11) (.c (.v (.bool false))))⟩,
      ⟨(some 4), none, (.mv (.t 12))⟩])
    .ret))⟩
theorem L74_ok : lowFn Try.prog Try.f74 [] = some L74 := by kernel_rfl

/-- assessor_types.shapes$2 -/
def L75 : LFn := ⟨9, [(.tmp 4)], (.seq (.ops [⟨(some 2), none, (.box false (.t 0))⟩,
      ⟨(some 4), none, (.mv (.c (.v (.slice none 0 0))))⟩])
    (.seq (.ops [⟨(some 5), none, (.faddr 0 (.t 2))⟩,
      ⟨(some 6), none, (.load false 1 (.t 5))⟩,
      ⟨(some 7), none, (.build [(.v (.int .i64 0)), (.v (.int .i64 0)), (.v (.string (mkS [])))] [(0, (1, (.t 6)))])⟩,
      ⟨(some 8), none, (.bsl false 3 1 [(.v (.int .i64 0)), (.v (.int .i64 0)), (.v (.string (mkS [])))] [(0, (.t 7))])⟩,
      ⟨(some 4), none, (.mv (.t 8))⟩,
      ⟨(some 4), none, (.frz (.t 4))⟩])
    .ret))⟩
theorem L75_ok : lowFn Try.prog Try.f75 [⟨1, 5, (.pre 4 (.frz (.t 4)))⟩] = some L75 := by kernel_rfl

/-- assessor_types.shapes$3 -/
def L76 : LFn := ⟨18, [(.tmp 4)], (.seq (.ops [⟨(some 2), none, (.box false (.t 0))⟩,
      ⟨(some 4), none, (.mv (.c (.v (.bool false))))⟩])
    (.seq (.ops [⟨(some 5), none, (.faddr 1 (.t 2))⟩,
      ⟨(some 6), none, (.load false 1 (.t 5))⟩,
      ⟨(some 7), none, (.bin .int .geq (.t 6) (.c (.v (.int .i64 1))))⟩,
      ⟨(some 8), none, (.mv (.t 7))⟩,
      ⟨(some 9), (some (8, true)), (.faddr 1 (.t 2))⟩,
      ⟨(some 10), (some (8, true)), (.load false 1 (.t 9))⟩,
      ⟨(some 11), (some (8, true)), (.bin .int .leq (.t 10) (.c (.v (.int .i64 8))))⟩,
      ⟨(some 12), none, (.pick (.t 8) (.t 11) (.c (.v (.bool false))))⟩,
      ⟨(some 13), none, (.mv (.t 12))⟩,
      ⟨(some 14), (some (13, true)), (.faddr 2 (.t 2))⟩,
      ⟨(some 15), (some (13, true)), (.load false 1 (.t 14))⟩,
      ⟨(some 16), (some (13, true)), (.bin .str .eql (.t 15) (.c (.v (.string (mkS [])))))⟩,
      ⟨(some 17), none, (.pick (.t 13) (.t 16) (.c (.v (.bool false))))⟩,
      ⟨(some 4), none, (.mv (.t 17))⟩])
    .ret))⟩
theorem L76_ok : lowFn Try.prog Try.f76 [] = some L76 := by kernel_rfl

/-- assessor_types.shapes$4 -/
def L77 : LFn := ⟨10, [(.tmp 4)], (.seq (.ops [⟨(some 2), none, (.box false (.t 0))⟩,
      ⟨(some 4), none, (.mv (.c (.v (.slice none 0 0))))⟩])
    (.seq (.ops [⟨(some 5), none, (.build [(.v (.int .i64 0)), (.v (.int .i64 0)), (.v (.string (mkS [])))] [(0, (1, (.c (.v (.int .i64 1)))))])⟩,
      ⟨(some 6), none, (.bsl true 3 1 [(.v (.int .i64 0)), (.v (.int .i64 0)), (.v (.string (mkS [])))] [(0, (.t 5))])⟩,
      ⟨(some 7), none, (.faddr 1 (.t 2))⟩,
      ⟨(some 8), none, (.load false 1 (.t 7))⟩,
      ⟨(some 9), none, (.call (.c (.fn (.func 78) [] [])) [(.t 6), (.t 8)])⟩,
      ⟨(some 4), none, (.mv (.t 9))⟩,
      ⟨(some 4), none, (.frz (.t 4))⟩])
    .ret))⟩
theorem L77_ok : lowFn Try.prog Try.f77 [⟨1, 1, .imm⟩, ⟨1, 6, (.pre 4 (.frz (.t 4)))⟩] = some L77 := by kernel_rfl

/-- slices.Repeat___assessor_api.Type_assessor_api.Type_ -/
def L78 : LFn := ⟨48, [(.tmp 4)], (.seq (.ops [⟨(some 4), none, (.mv (.c (.v (.slice none 0 0))))⟩])
    (.seq (.seq (.ops [⟨(some 9), none, (.mv (.t 1))⟩,
      ⟨(some 10), none, (.bin .int .lss (.t 9) (.c (.v (.int .i64 0))))⟩])
    (.cond (.t 10)
    (.ops [⟨(some 11), none, .bad⟩,
      ⟨none, none, .bad⟩])
    .skip))
    (.seq (.ops [⟨(some 13), none, (.mv (.t 0))⟩,
      ⟨(some 14), none, (.len .slc (.t 13))⟩,
      ⟨(some 15), none, (.conv (.toInt .u64) (.t 14))⟩,
      ⟨(some 16), none, (.mv (.t 1))⟩,
      ⟨(some 17), none, (.conv (.toInt .u64) (.t 16))⟩,
      ⟨(some 18), none, (.call (.c (.fn (.func 97) [] [])) [(.t 15), (.t 17)])⟩,
      ⟨(some 12), none, (.mv (.t 18))⟩,
      ⟨(some 19), none, (.ext (.t 12) 0)⟩,
      ⟨(some 20), none, (.ext (.t 12) 1)⟩,
      ⟨(some 5), none, (.mv (.t 19))⟩,
      ⟨(some 6), none, (.mv (.t 20))⟩])
    (.seq (.seq (.ops [⟨(some 21), none, (.mv (.t 5))⟩,
      ⟨(some 22), none, (.bin .int .gtr (.t 21) (.c (.v (.int .u64 0))))⟩,
      ⟨(some 23), none, (.mv (.t 22))⟩,
      ⟨(some 24), (some (23, false)), (.mv (.t 6))⟩,
      ⟨(some 25), (some (23, false)), (.bin .int .gtr (.t 24) (.c (.v (.int .u64 9223372036854775807))))⟩,
      ⟨(some 26), none, (.pick (.t 23) (.c (.v (.bool true))) (.t 25))⟩])
    (.cond (.t 26)
    (.ops [⟨(some 27), none, .bad⟩,
      ⟨none, none, .bad⟩])
    .skip))
    (.seq (.ops [⟨(some 28), none, (.mv (.t 6))⟩,
      ⟨(some 29), none, (.conv (.toInt .i64) (.t 28))⟩,
      ⟨(some 30), none, (.msl 3 32 [(.v (.int .i64 0)), (.v (.int .i64 0)), (.v (.string (mkS [])))] (.t 29) (.t 29))⟩,
      ⟨(some 7), none, (.mv (.t 30))⟩])
    (.seq (.ops [⟨(some 31), none, (.mv (.t 7))⟩,
      ⟨(some 32), none, (.mv (.t 0))⟩,
      ⟨(some 33), none, (.copy 3 (.t 31) (.t 32))⟩,
      ⟨(some 8), none, (.mv (.t 33))⟩])
    (.seq (.block 0 (.loop (.seq (.seq (.ops [⟨(some 34), none, (.mv (.t 8))⟩,
      ⟨(some 35), none, (.mv (.t 7))⟩,
      ⟨(some 36), none, (.len .slc (.t 35))⟩,
      ⟨(some 37), none, (.bin .int .lss (.t 34) (.t 36))⟩])
    (.cond (.t 37)
    .skip
    (.exit 0)))
    (.block 1 (.draw [⟨(some 38), none, (.mv (.t 8))⟩,
      ⟨(some 39), none, (.mv (.t 7))⟩,
      ⟨(some 40), none, (.mv (.t 8))⟩,
      ⟨(some 41), none, (.slice .slc 3 (.t 39) (some (.t 40)) none)⟩,
      ⟨(some 42), none, (.mv (.t 7))⟩,
      ⟨(some 43), none, (.mv (.t 8))⟩,
      ⟨(some 44), none, (.slice .slc 3 (.t 42) none (some (.t 43)))⟩] [⟨(some 45), none, (.copy 3 (.t 41) (.t 44))⟩,
      ⟨(some 46), none, (.bin .int .add (.t 38) (.t 45))⟩,
      ⟨(some 8), none, (.mv (.t 46))⟩])))))
    (.seq (.ops [⟨(some 47), none, (.mv (.t 7))⟩,
      ⟨(some 4), none, (.mv (.t 47))⟩,
      ⟨(some 4), none, (.frz (.t 4))⟩])
    .ret))))))))⟩
theorem L78_ok : lowFn Try.prog Try.f78 [⟨10, 2, (.pre 4 (.frz (.t 4)))⟩, ⟨9, 7, .tail⟩] = some L78 := by kernel_rfl

/-- assessor_types.shapes$5 -/
def L79 : LFn := ⟨20, [(.tmp 4)], (.seq (.ops [⟨(some 2), none, (.box false (.t 0))⟩,
      ⟨(some 4), none, (.mv (.c (.v (.bool false))))⟩])
    (.seq (.ops [⟨(some 8), none, (.mv (.t 1))⟩,
      ⟨(some 9), none, (.faddr 2 (.t 2))⟩,
      ⟨(some 10), none, (.load false 1 (.t 9))⟩,
      ⟨(some 11), none, (.call (.c (.fn (.func 53) [] [])) [(.t 8), (.t 10)])⟩,
      ⟨(some 7), none, (.mv (.t 11))⟩,
      ⟨(some 12), none, (.ext (.t 7) 0)⟩,
      ⟨(some 13), none, (.ext (.t 7) 1)⟩,
      ⟨(some 5), none, (.alloc [(.v (.string (mkS []))), (.v (.slice none 0 0))])⟩,
      ⟨none, none, (.store 2 (.t 5) (.t 12))⟩,
      ⟨(some 6), none, (.mv (.t 13))⟩])
    (.seq (.ops [⟨(some 14), none, (.faddr 1 (.t 2))⟩,
      ⟨(some 15), none, (.load false 1 (.t 14))⟩,
      ⟨(some 16), none, (.bin .int .eql (.t 15) (.c (.v (.int .i64 0))))⟩,
      ⟨(some 17), none, (.mv (.t 16))⟩,
      ⟨(some 18), (some (17, true)), (.mv (.t 6))⟩,
      ⟨(some 19), none, (.pick (.t 17) (.t 18) (.c (.v (.bool false))))⟩,
      ⟨(some 4), none, (.mv (.t 19))⟩])
    .ret)))⟩
theorem L79_ok : lowFn Try.prog Try.f79 [] = some L79 := by kernel_rfl

/-- assessor_types.shapes$6 -/
def L80 : LFn := ⟨32, [(.tmp 4)], (.seq (.ops [⟨(some 2), none, (.box false (.t 0))⟩,
      ⟨(some 4), none, (.mv (.c (.v (.slice none 0 0))))⟩])
    (.seq (.ops [⟨(some 5), none, (.mv (.c (.v (.slice none 0 0))))⟩,
      ⟨(some 5), none, (.own 3 (.t 5))⟩])
    (.seq (.ops [⟨(some 11), none, (.mv (.t 1))⟩,
      ⟨(some 12), none, (.faddr 2 (.t 2))⟩,
      ⟨(some 13), none, (.load false 1 (.t 12))⟩,
      ⟨(some 14), none, (.call (.c (.fn (.func 53) [] [])) [(.t 11), (.t 13)])⟩,
      ⟨(some 10), none, (.mv (.t 14))⟩,
      ⟨(some 15), none, (.ext (.t 10) 0)⟩,
      ⟨(some 16), none, (.ext (.t 10) 1)⟩,
      ⟨(some 6), none, (.alloc [(.v (.string (mkS []))), (.v (.slice none 0 0))])⟩,
      ⟨none, none, (.store 2 (.t 6) (.t 15))⟩,
      ⟨(some 7), none, (.mv (.t 16))⟩])
    (.seq (.seq (.ops [⟨(some 17), none, (.faddr 1 (.t 6))⟩,
      ⟨(some 18), none, (.load false 1 (.t 17))⟩,
      ⟨(some 19), none, (.len .slc (.t 18))⟩,
      ⟨(some 20), none, (.mv (.c (.v (.int .i64 0))))⟩])
    (.block 0 (.loop (.seq (.ops [⟨(some 21), none, (.bin .int .lss (.t 20) (.t 19))⟩])
    (.seq (.cond (.t 21)
    .skip
    (.exit 0))
    (.seq (.block 1 (.seq (.ops [⟨(some 22), none, (.iaddr 4 (.t 18) (.t 20))⟩,
      ⟨(some 23), none, (.load true 4 (.t 22))⟩,
      ⟨(some 9), none, (.alloc [(.v (.string (mkS []))), (.v (.int .i64 0)), (.v (.int .i64 0)), (.v (.string (mkS [])))])⟩,
      ⟨none, none, (.store 4 (.t 9) (.t 23))⟩])
    (.ops [⟨(some 24), none, (.mv (.t 5))⟩,
      ⟨(some 25), none, (.faddr 1 (.t 9))⟩,
      ⟨(some 26), none, (.load true 3 (.t 25))⟩,
      ⟨(some 27), none, (.call (.c (.fn (.func 81) [] [])) [(.t 26)])⟩,
      ⟨(some 28), none, (.bsl true 3 1 [(.v (.int .i64 0)), (.v (.int .i64 0)), (.v (.string (mkS [])))] [(0, (.t 27))])⟩,
      ⟨(some 29), none, (.append 3 32 (.t 24) (.t 28))⟩,
      ⟨(some 5), none, (.mv (.t 29))⟩])))
    (.ops [⟨(some 30), none, (.bin .int .add (.t 20) (.c (.v (.int .i64 1))))⟩,
      ⟨(some 20), none, (.mv (.t 30))⟩])))))))
    (.seq (.ops [⟨(some 31), none, (.mv (.t 5))⟩,
      ⟨(some 4), none, (.mv (.t 31))⟩,
      ⟨(some 4), none, (.frz (.t 4))⟩])
    .ret)))))⟩
theorem L80_ok : lowFn Try.prog Try.f80 [⟨6, 4, .imm⟩, ⟨8, 2, (.pre 4 (.frz (.t 4)))⟩, ⟨1, 1, (.pre 5 (.own 3 (.t 5)))⟩] = some L80 := by kernel_rfl

/-- assessor_types.scalar -/
def L81 : LFn := ⟨8, [(.cell 2 true 3)], (.seq (.ops [⟨(some 1), none, (.box false (.t 0))⟩,
      ⟨(some 2), none, (.alloc [(.v (.int .i64 0)), (.v (.int .i64 0)), (.v (.string (mkS [])))])⟩])
    (.seq (.seq (.ops [⟨(some 3), none, (.faddr 0 (.t 1))⟩,
      ⟨(some 4), none, (.load false 1 (.t 3))⟩,
      ⟨(some 5), none, (.bin .int .eql (.t 4) (.c (.v (.int .i64 2))))⟩])
    (.cond (.t 5)
    (.seq (.ops [⟨(some 6), none, (.build [(.v (.int .i64 0)), (.v (.int .i64 0)), (.v (.string (mkS [])))] [(0, (1, (.c (.v (.int .i64 2)))))])⟩,
      ⟨none, none, (.store 3 (.t 2) (.t 6))⟩])
    .ret)
    .skip))
    (.seq (.ops [⟨(some 7), none, (.build [(.v (.int .i64 0)), (.v (.int .i64 0)), (.v (.string (mkS [])))] [(0, (1, (.c (.v (.int .i64 1)))))])⟩,
      ⟨none, none, (.store 3 (.t 2) (.t 7))⟩])
    .ret)))⟩
theorem L81_ok : lowFn Try.prog Try.f81 [] = some L81 := by kernel_rfl

/-- slices.IndexFunc___assessor_api.Record_assessor_api.Record_ -/
def L82 : LFn := ⟨19, [(.tmp 4)], (.seq (.ops [⟨(some 4), none, (.mv (.c (.v (.int .i64 0))))⟩])
    (.seq (.seq (.ops [⟨(some 6), none, (.mv (.t 0))⟩,
      ⟨(some 7), none, (.len .slc (.t 6))⟩,
      ⟨(some 8), none, (.mv (.c (.v (.int .i64 0))))⟩])
    (.block 0 (.loop (.seq (.ops [⟨(some 9), none, (.bin .int .lss (.t 8) (.t 7))⟩])
    (.seq (.cond (.t 9)
    .skip
    (.exit 0))
    (.seq (.block 1 (.seq (.ops [⟨(some 10), none, (.mv (.t 8))⟩,
      ⟨(some 5), none, (.mv (.t 10))⟩])
    (.seq (.ops [⟨(some 11), none, (.mv (.t 1))⟩,
      ⟨(some 12), none, (.mv (.t 0))⟩,
      ⟨(some 13), none, (.mv (.t 5))⟩,
      ⟨(some 14), none, (.iaddr 2 (.t 12) (.t 13))⟩,
      ⟨(some 15), none, (.load true 2 (.t 14))⟩,
      ⟨(some 16), none, (.call (.t 11) [(.t 15)])⟩])
    (.cond (.t 16)
    (.seq (.ops [⟨(some 17), none, (.mv (.t 5))⟩,
      ⟨(some 4), none, (.mv (.t 17))⟩])
    .ret)
    .skip))))
    (.ops [⟨(some 18), none, (.bin .int .add (.t 8) (.c (.v (.int .i64 1))))⟩,
      ⟨(some 8), none, (.mv (.t 18))⟩])))))))
    (.seq (.ops [⟨(some 4), none, (.mv (.c (.v (.int .i64 (-1)))))⟩])
    .ret)))⟩
theorem L82_ok : lowFn Try.prog Try.f82 [] = some L82 := by kernel_rfl

/-- assessor_types.record$1 -/
def L83 : LFn := ⟨8, [(.tmp 3)], (.seq (.ops [⟨(some 2), none, (.box false (.t 0))⟩,
      ⟨(some 3), none, (.mv (.c (.v (.bool false))))⟩])
    (.seq (.ops [⟨(some 4), none, (.faddr 0 (.t 2))⟩,
      ⟨(some 5), none, (.load false 1 (.t 4))⟩,
      ⟨(some 6), none, (.load false 1 (.t 1))⟩,
      ⟨(some 7), none, (.bin .str .eql (.t 5) (.t 6))⟩,
      ⟨(some 3), none, (.mv (.t 7))⟩])
    .ret))⟩
theorem L83_ok : lowFn Try.prog Try.f83 [] = some L83 := by kernel_rfl

/-- math_bits.Mul -/
def L97 : LFn := ⟨30, [(.tmp 4), (.tmp 5)], (.seq (.ops [⟨(some 4), none, (.mv (.c (.v (.int .u64 0))))⟩,
      ⟨(some 5), none, (.mv (.c (.v (.int .u64 0))))⟩])
    (.seq (.cond (.c (.v (.bool false)))
    (.seq (.ops [⟨(some 11), none, (.mv (.t 0))⟩,
      ⟨(some 12), none, (.conv (.toInt .u32) (.t 11))⟩,
      ⟨(some 13), none, (.mv (.t 1))⟩,
      ⟨(some 14), none, (.conv (.toInt .u32) (.t 13))⟩,
      ⟨(some 15), none, (.call (.c (.fn (.func 102) [] [])) [(.t 12), (.t 14)])⟩,
      ⟨(some 10), none, (.mv (.t 15))⟩,
      ⟨(some 16), none, (.ext (.t 10) 0)⟩,
      ⟨(some 17), none, (.ext (.t 10) 1)⟩,
      ⟨(some 6), none, (.mv (.t 16))⟩,
      ⟨(some 7), none, (.mv (.t 17))⟩])
    (.seq (.ops [⟨(some 18), none, (.mv (.t 6))⟩,
      ⟨(some 19), none, (.conv (.toInt .u64) (.t 18))⟩,
      ⟨(some 20), none, (.mv (.t 7))⟩,
      ⟨(some 21), none, (.conv (.toInt .u64) (.t 20))⟩,
      ⟨(some 4), none, (.mv (.t 19))⟩,
      ⟨(some 5), none, (.mv (.t 21))⟩])
    .ret))
    .skip)
    (.seq (.ops [⟨(some 23), none, (.mv (.t 0))⟩,
      ⟨(some 24), none, (.mv (.t 1))⟩,
      ⟨(some 25), none, (.call (.c (.fn (.func 103) [] [])) [(.t 23), (.t 24)])⟩,
      ⟨(some 22), none, (.mv (.t 25))⟩,
      ⟨(some 26), none, (.ext (.t 22) 0)⟩,
      ⟨(some 27), none, (.ext (.t 22) 1)⟩,
      ⟨(some 8), none, (.mv (.t 26))⟩,
      ⟨(some 9), none, (.mv (.t 27))⟩])
    (.seq (.ops [⟨(some 28), none, (.mv (.t 8))⟩,
      ⟨(some 29), none, (.mv (.t 9))⟩,
      ⟨(some 4), none, (.mv (.t 28))⟩,
      ⟨(some 5), none, (.mv (.t 29))⟩])
    .ret))))⟩
theorem L97_ok : lowFn Try.prog Try.f97 [] = some L97 := by kernel_rfl

/-- math_bits.Mul32 -/
def L102 : LFn := ⟨17, [(.tmp 4), (.tmp 5)], (.seq (.ops [⟨(some 4), none, (.mv (.c (.v (.int .u32 0))))⟩,
      ⟨(some 5), none, (.mv (.c (.v (.int .u32 0))))⟩])
    (.seq (.ops [⟨(some 7), none, (.mv (.t 0))⟩,
      ⟨(some 8), none, (.conv (.toInt .u64) (.t 7))⟩,
      ⟨(some 9), none, (.mv (.t 1))⟩,
      ⟨(some 10), none, (.conv (.toInt .u64) (.t 9))⟩,
      ⟨(some 11), none, (.bin .int .mul (.t 8) (.t 10))⟩,
      ⟨(some 6), none, (.mv (.t 11))⟩])
    (.seq (.ops [⟨(some 12), none, (.mv (.t 6))⟩,
      ⟨(some 13), none, (.bin .int .shr (.t 12) (.c (.v (.int .u64 32))))⟩,
      ⟨(some 14), none, (.conv (.toInt .u32) (.t 13))⟩,
      ⟨(some 15), none, (.mv (.t 6))⟩,
      ⟨(some 16), none, (.conv (.toInt .u32) (.t 15))⟩,
      ⟨(some 4), none, (.mv (.t 14))⟩,
      ⟨(some 5), none, (.mv (.t 16))⟩])
    .ret)))⟩
theorem L102_ok : lowFn Try.prog Try.f102 [] = some L102 := by kernel_rfl

/-- math_bits.Mul64 -/
def L103 : LFn := ⟨51, [(.tmp 4), (.tmp 5)], (.seq (.ops [⟨(some 4), none, (.mv (.c (.v (.int .u64 0))))⟩,
      ⟨(some 5), none, (.mv (.c (.v (.int .u64 0))))⟩])
    (.seq (.ops [⟨(some 14), none, (.mv (.t 0))⟩,
      ⟨(some 15), none, (.bin .int .and (.t 14) (.c (.v (.int .u64 4294967295))))⟩,
      ⟨(some 6), none, (.mv (.t 15))⟩])
    (.seq (.ops [⟨(some 16), none, (.mv (.t 0))⟩,
      ⟨(some 17), none, (.bin .int .shr (.t 16) (.c (.v (.int .u64 32))))⟩,
      ⟨(some 7), none, (.mv (.t 17))⟩])
    (.seq (.ops [⟨(some 18), none, (.mv (.t 1))⟩,
      ⟨(some 19), none, (.bin .int .and (.t 18) (.c (.v (.int .u64 4294967295))))⟩,
      ⟨(some 8), none, (.mv (.t 19))⟩])
    (.seq (.ops [⟨(some 20), none, (.mv (.t 1))⟩,
      ⟨(some 21), none, (.bin .int .shr (.t 20) (.c (.v (.int .u64 32))))⟩,
      ⟨(some 9), none, (.mv (.t 21))⟩])
    (.seq (.ops [⟨(some 22), none, (.mv (.t 6))⟩,
      ⟨(some 23), none, (.mv (.t 8))⟩,
      ⟨(some 24), none, (.bin .int .mul (.t 22) (.t 23))⟩,
      ⟨(some 10), none, (.mv (.t 24))⟩])
    (.seq (.ops [⟨(some 25), none, (.mv (.t 7))⟩,
      ⟨(some 26), none, (.mv (.t 8))⟩,
      ⟨(some 27), none, (.bin .int .mul (.t 25) (.t 26))⟩,
      ⟨(some 28), none, (.mv (.t 10))⟩,
      ⟨(some 29), none, (.bin .int .shr (.t 28) (.c (.v (.int .u64 32))))⟩,
      ⟨(some 30), none, (.bin .int .add (.t 27) (.t 29))⟩,
      ⟨(some 11), none, (.mv (.t 30))⟩])
    (.seq (.ops [⟨(some 31), none, (.mv (.t 11))⟩,
      ⟨(some 32), none, (.bin .int .and (.t 31) (.c (.v (.int .u64 4294967295))))⟩,
      ⟨(some 12), none, (.mv (.t 32))⟩])
    (.seq (.ops [⟨(some 33), none, (.mv (.t 11))⟩,
      ⟨(some 34), none, (.bin .int .shr (.t 33) (.c (.v (.int .u64 32))))⟩,
      ⟨(some 13), none, (.mv (.t 34))⟩])
    (.seq (.ops [⟨(some 35), none, (.mv (.t 12))⟩,
      ⟨(some 36), none, (.mv (.t 6))⟩,
      ⟨(some 37), none, (.mv (.t 9))⟩,
      ⟨(some 38), none, (.bin .int .mul (.t 36) (.t 37))⟩,
      ⟨(some 39), none, (.bin .int .add (.t 35) (.t 38))⟩,
      ⟨(some 12), none, (.mv (.t 39))⟩])
    (.seq (.ops [⟨(some 40), none, (.mv (.t 7))⟩,
      ⟨(some 41), none, (.mv (.t 9))⟩,
      ⟨(some 42), none, (.bin .int .mul (.t 40) (.t 41))⟩,
      ⟨(some 43), none, (.mv (.t 13))⟩,
      ⟨(some 44), none, (.bin .int .add (.t 42) (.t 43))⟩,
      ⟨(some 45), none, (.mv (.t 12))⟩,
      ⟨(some 46), none, (.bin .int .shr (.t 45) (.c (.v (.int .u64 32))))⟩,
      ⟨(some 47), none, (.bin .int .add (.t 44) (.t 46))⟩,
      ⟨(some 4), none, (.mv (.t 47))⟩])
    (.seq (.ops [⟨(some 48), none, (.mv (.t 0))⟩,
      ⟨(some 49), none, (.mv (.t 1))⟩,
      ⟨(some 50), none, (.bin .int .mul (.t 48) (.t 49))⟩,
      ⟨(some 5), none, (.mv (.t 50))⟩])
    .ret))))))))))))⟩
theorem L103_ok : lowFn Try.prog Try.f103 [] = some L103 := by kernel_rfl


end Go.Proofs.Ytdibceakkjmpgaa
