/- The functions, lowered. Printed by a program (wip/tools/pl.py). -/
import Derived.Test.YtdibceakkjmpgaaChecked
import Derived.Test.YtdibceakkjmpgaaAx4
namespace Go.Proofs.Ytdibceakkjmpgaa
open Go Go.Ax
set_option maxRecDepth 100000

/-- assessor_assessorlaw08.TypesSlots -/
def L5s : LFn := ⟨142, [(.tmp 4)], (.seq (.ops [⟨(some 4), none, (.mv (.c (.v (.bool false))))⟩])
    (.seq (.seq (.ops [⟨(some 13), none, (.mv (.t 0))⟩,
      ⟨(some 14), none, (.call (.c (.fn (.func 17) [] [])) [(.t 13)])⟩,
      ⟨(some 15), none, (.not (.t 14))⟩,
      ⟨(some 16), none, (.mv (.t 15))⟩,
      ⟨(some 17), (some (16, false)), (.mv (.t 1))⟩,
      ⟨(some 18), (some (16, false)), (.len .slc (.t 17))⟩,
      ⟨(some 19), (some (16, false)), (.bin .int .gtr (.t 18) (.c (.v (.int .i64 20))))⟩,
      ⟨(some 20), none, (.pick (.t 16) (.c (.v (.bool true))) (.t 19))⟩])
    (.cond (.t 20)
    (.seq (.ops [⟨(some 21), none, (.call (.c (.fn (.func 18) [] [])) [])⟩,
      ⟨(some 4), none, (.mv (.t 21))⟩])
    .ret)
    .skip))
    (.seq (.ops [⟨(some 23), none, (.mv (.t 0))⟩,
      ⟨(some 24), none, (.mv (.t 1))⟩,
      ⟨(some 25), none, (.call (.c (.fn (.func 28) [] [])) [(.t 23), (.t 24)])⟩,
      ⟨(some 22), none, (.mv (.t 25))⟩,
      ⟨(some 26), none, (.ext (.t 22) 0)⟩,
      ⟨(some 27), none, (.ext (.t 22) 1)⟩,
      ⟨(some 5), none, (.mv (.t 26))⟩,
      ⟨(some 6), none, (.mv (.t 27))⟩])
    (.seq (.ops [⟨(some 7), none, (.mv (.c (.v (.slice none 0 0))))⟩,
      ⟨(some 7), none, (.own 3 (.t 7))⟩])
    (.seq (.seq (.ops [⟨(some 28), none, (.mv (.t 1))⟩,
      ⟨(some 29), none, (.len .slc (.t 28))⟩,
      ⟨(some 30), none, (.mv (.c (.v (.int .i64 0))))⟩])
    (.block 0 (.loop (.seq (.ops [⟨(some 31), none, (.bin .int .lss (.t 30) (.t 29))⟩])
    (.seq (.cond (.t 31)
    .skip
    (.exit 0))
    (.seq (.block 1 (.seq (.ops [⟨(some 32), none, (.iaddr 8 (.t 28) (.t 30))⟩,
      ⟨(some 33), none, (.load true 8 (.t 32))⟩,
      ⟨(some 9), none, (.alloc [(.v (.string (mkS []))), (.v (.int .i64 0)), (.v (.int .i64 0)), (.v (.string (mkS []))), (.v (.int .i64 0)), (.v (.int .i64 0)), (.v (.bool false)), (.v (.bool false))])⟩,
      ⟨none, none, (.store 8 (.t 9) (.t 33))⟩])
    (.seq (.seq (.ops [⟨(some 34), none, (.faddr 1 (.t 9))⟩,
      ⟨(some 35), none, (.load true 3 (.t 34))⟩,
      ⟨(some 36), none, (.mv (.t 0))⟩,
      ⟨(some 37), none, (.call (.c (.fn (.func 19) [] [])) [(.t 35), (.t 36)])⟩,
      ⟨(some 38), none, (.not (.t 37))⟩])
    (.cond (.t 38)
    (.seq (.ops [⟨(some 39), none, (.mv (.t 5))⟩,
      ⟨(some 40), none, (.len .slc (.t 39))⟩,
      ⟨(some 41), none, (.bin .int .eql (.t 40) (.c (.v (.int .i64 0))))⟩,
      ⟨(some 42), none, (.mv (.t 41))⟩,
      ⟨(some 43), (some (42, true)), (.mv (.t 6))⟩,
      ⟨(some 44), (some (42, true)), (.bin .int .eql (.t 43) (.c (.v (.int .i64 0))))⟩,
      ⟨(some 45), none, (.pick (.t 42) (.t 44) (.c (.v (.bool false))))⟩,
      ⟨(some 46), none, (.mv (.t 45))⟩,
      ⟨(some 47), (some (46, true)), (.call (.c (.fn (.func 18) [] [])) [])⟩,
      ⟨(some 48), none, (.pick (.t 46) (.t 47) (.c (.v (.bool false))))⟩,
      ⟨(some 4), none, (.mv (.t 48))⟩])
    .ret)
    .skip))
    (.ops [⟨(some 49), none, (.mv (.t 7))⟩,
      ⟨(some 50), none, (.faddr 1 (.t 9))⟩,
      ⟨(some 51), none, (.load true 3 (.t 50))⟩,
      ⟨(some 52), none, (.bsl true 3 1 [(.v (.int .i64 0)), (.v (.int .i64 0)), (.v (.string (mkS [])))] [(0, (.t 51))])⟩,
      ⟨(some 53), none, (.append 3 32 (.t 49) (.t 52))⟩,
      ⟨(some 7), none, (.mv (.t 53))⟩]))))
    (.ops [⟨(some 54), none, (.bin .int .add (.t 30) (.c (.v (.int .i64 1))))⟩,
      ⟨(some 30), none, (.mv (.t 54))⟩])))))))
    (.seq (.ops [⟨(some 10), none, (.mv (.c (.v (.int .i64 0))))⟩])
    (.seq (.seq (.ops [⟨(some 55), none, (.mv (.t 5))⟩,
      ⟨(some 56), none, (.len .slc (.t 55))⟩,
      ⟨(some 57), none, (.mv (.t 1))⟩,
      ⟨(some 58), none, (.len .slc (.t 57))⟩,
      ⟨(some 59), none, (.bin .int .neq (.t 56) (.t 58))⟩])
    (.cond (.t 59)
    (.seq (.ops [⟨(some 4), none, (.mv (.c (.v (.bool false))))⟩])
    .ret)
    .skip))
    (.seq (.seq (.ops [⟨(some 60), none, (.mv (.t 5))⟩,
      ⟨(some 61), none, (.len .slc (.t 60))⟩,
      ⟨(some 62), none, (.mv (.c (.v (.int .i64 0))))⟩])
    (.block 2 (.loop (.seq (.ops [⟨(some 63), none, (.bin .int .lss (.t 62) (.t 61))⟩])
    (.seq (.cond (.t 63)
    .skip
    (.exit 2))
    (.seq (.block 3 (.seq (.ops [⟨(some 64), none, (.mv (.t 62))⟩,
      ⟨(some 65), none, (.iaddr 8 (.t 60) (.t 62))⟩,
      ⟨(some 66), none, (.load true 8 (.t 65))⟩,
      ⟨(some 12), none, (.alloc [(.v (.string (mkS []))), (.v (.int .i64 0)), (.v (.int .i64 0)), (.v (.string (mkS []))), (.v (.int .i64 0)), (.v (.int .i64 0)), (.v (.bool false)), (.v (.bool false))])⟩,
      ⟨(some 11), none, (.mv (.t 64))⟩,
      ⟨none, none, (.store 8 (.t 12) (.t 66))⟩])
    (.seq (.seq (.draw [⟨(some 67), none, (.faddr 4 (.t 12))⟩,
      ⟨(some 68), none, (.load false 1 (.t 67))⟩,
      ⟨(some 69), none, (.mv (.t 10))⟩,
      ⟨(some 70), none, (.bin .int .neq (.t 68) (.t 69))⟩,
      ⟨(some 71), none, (.mv (.t 70))⟩,
      ⟨(some 72), (some (71, false)), (.faddr 0 (.t 12))⟩,
      ⟨(some 73), (some (71, false)), (.load false 1 (.t 72))⟩,
      ⟨(some 74), (some (71, false)), (.mv (.t 1))⟩,
      ⟨(some 75), (some (71, false)), (.mv (.t 11))⟩,
      ⟨(some 76), (some (71, false)), (.iaddr 8 (.t 74) (.t 75))⟩,
      ⟨(some 77), (some (71, false)), (.faddr 0 (.t 76))⟩,
      ⟨(some 78), (some (71, false)), (.load false 1 (.t 77))⟩,
      ⟨(some 79), (some (71, false)), (.bin .str .neq (.t 73) (.t 78))⟩,
      ⟨(some 80), none, (.pick (.t 71) (.c (.v (.bool true))) (.t 79))⟩,
      ⟨(some 81), none, (.mv (.t 80))⟩,
      ⟨(some 82), (some (81, false)), (.faddr 1 (.t 12))⟩,
      ⟨(some 83), (some (81, false)), (.load true 3 (.t 82))⟩,
      ⟨(some 84), (some (81, false)), (.mv (.t 1))⟩,
      ⟨(some 85), (some (81, false)), (.mv (.t 11))⟩,
      ⟨(some 86), (some (81, false)), (.iaddr 8 (.t 84) (.t 85))⟩,
      ⟨(some 87), (some (81, false)), (.faddr 1 (.t 86))⟩,
      ⟨(some 88), (some (81, false)), (.load true 3 (.t 87))⟩,
      ⟨(some 89), (some (81, false)), (.bin (.agg [.int, .int, .str]) .neq (.t 83) (.t 88))⟩,
      ⟨(some 90), none, (.pick (.t 81) (.c (.v (.bool true))) (.t 89))⟩,
      ⟨(some 91), none, (.mv (.t 90))⟩,
      ⟨(some 92), (some (91, false)), (.faddr 5 (.t 12))⟩,
      ⟨(some 93), (some (91, false)), (.load false 1 (.t 92))⟩,
      ⟨(some 94), (some (91, false)), (.mv (.t 1))⟩,
      ⟨(some 95), (some (91, false)), (.mv (.t 11))⟩,
      ⟨(some 96), (some (91, false)), (.iaddr 8 (.t 94) (.t 95))⟩,
      ⟨(some 97), (some (91, false)), (.faddr 5 (.t 96))⟩,
      ⟨(some 98), (some (91, false)), (.load false 1 (.t 97))⟩,
      ⟨(some 99), (some (91, false)), (.bin .int .neq (.t 93) (.t 98))⟩,
      ⟨(some 100), none, (.pick (.t 91) (.c (.v (.bool true))) (.t 99))⟩,
      ⟨(some 101), none, (.mv (.t 100))⟩,
      ⟨(some 102), (some (101, false)), (.faddr 6 (.t 12))⟩,
      ⟨(some 103), (some (101, false)), (.load false 1 (.t 102))⟩,
      ⟨(some 104), (some (101, false)), (.mv (.t 1))⟩,
      ⟨(some 105), (some (101, false)), (.mv (.t 11))⟩,
      ⟨(some 106), (some (101, false)), (.iaddr 8 (.t 104) (.t 105))⟩,
      ⟨(some 107), (some (101, false)), (.faddr 6 (.t 106))⟩,
      ⟨(some 108), (some (101, false)), (.load false 1 (.t 107))⟩,
      ⟨(some 109), (some (101, false)), (.bin .bool .neq (.t 103) (.t 108))⟩,
      ⟨(some 110), none, (.pick (.t 101) (.c (.v (.bool true))) (.t 109))⟩,
      ⟨(some 111), none, (.mv (.t 110))⟩,
      ⟨(some 112), (some (111, false)), (.faddr 7 (.t 12))⟩,
      ⟨(some 113), (some (111, false)), (.load false 1 (.t 112))⟩,
      ⟨(some 114), (some (111, false)), (.mv (.t 1))⟩,
      ⟨(some 115), (some (111, false)), (.mv (.t 11))⟩,
      ⟨(some 116), (some (111, false)), (.iaddr 8 (.t 114) (.t 115))⟩,
      ⟨(some 117), (some (111, false)), (.faddr 7 (.t 116))⟩,
      ⟨(some 118), (some (111, false)), (.load false 1 (.t 117))⟩,
      ⟨(some 119), (some (111, false)), (.bin .bool .neq (.t 113) (.t 118))⟩,
      ⟨(some 120), none, (.pick (.t 111) (.c (.v (.bool true))) (.t 119))⟩] [])
    (.cond (.t 120)
    (.seq (.ops [⟨(some 4), none, (.mv (.c (.v (.bool false))))⟩])
    .ret)
    .skip))
    (.ops [⟨(some 121), none, (.mv (.t 10))⟩,
      ⟨(some 122), none, (.faddr 1 (.t 12))⟩,
      ⟨(some 123), none, (.load true 3 (.t 122))⟩,
      ⟨(some 124), none, (.mv (.t 0))⟩,
      ⟨(some 125), none, (.call (.c (.fn (.func 23) [] [])) [(.t 123), (.t 124)])⟩,
      ⟨(some 126), none, (.bin .int .add (.t 121) (.t 125))⟩,
      ⟨(some 10), none, (.mv (.t 126))⟩]))))
    (.ops [⟨(some 127), none, (.bin .int .add (.t 62) (.c (.v (.int .i64 1))))⟩,
      ⟨(some 62), none, (.mv (.t 127))⟩])))))))
    (.seq (.ops [⟨(some 7), none, (.frz (.t 7))⟩,
      ⟨(some 128), none, (.mv (.t 10))⟩,
      ⟨(some 129), none, (.mv (.t 6))⟩,
      ⟨(some 130), none, (.bin .int .eql (.t 128) (.t 129))⟩,
      ⟨(some 131), none, (.mv (.t 130))⟩,
      ⟨(some 132), (some (131, true)), (.mv (.t 6))⟩,
      ⟨(some 133), (some (131, true)), (.mv (.t 0))⟩,
      ⟨(some 134), (some (131, true)), (.mv (.t 7))⟩,
      ⟨(some 135), (some (131, true)), (.call (.c (.fn (.func 26) [] [])) [(.t 133), (.t 134)])⟩,
      ⟨(some 136), (some (131, true)), (.len .slc (.t 135))⟩,
      ⟨(some 137), (some (131, true)), (.bin .int .eql (.t 132) (.t 136))⟩,
      ⟨(some 138), none, (.pick (.t 131) (.t 137) (.c (.v (.bool false))))⟩,
      ⟨(some 139), none, (.mv (.t 138))⟩,
      ⟨(some 140), (some (139, true)), (.call (.c (.fn (.func 18) [] [])) [])⟩,
      ⟨(some 141), none, (.pick (.t 139) (.t 140) (.c (.v (.bool false))))⟩,
      ⟨(some 4), none, (.mv (.t 141))⟩])
    .ret)))))))))⟩
theorem L5s_ok : lowFn Try.prog Try.f5 [⟨22, 0, (.pre 7 (.frz (.t 7)))⟩, ⟨10, 3, .imm⟩, ⟨4, 1, (.pre 7 (.own 3 (.t 7)))⟩] = some L5s := by kernel_rfl

end Go.Proofs.Ytdibceakkjmpgaa
