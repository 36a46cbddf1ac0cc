/- The functions, lowered. Printed by a program (wip/tools/pl.py). -/
import Derived.Test.YtdgmlepakippmaaChecked
import Derived.Test.YtdgmlepakippmaaAx4
namespace Go.Proofs.Ytdgmlepakippmaa
open Go Go.Ax
set_option maxRecDepth 100000

/-- assessor_assessorlaw11.ValueNext -/
def L3 : LFn := ⟨50, [(.tmp 6)], (.seq (.ops [⟨(some 6), none, (.mv (.c (.v (.bool false))))⟩])
    (.seq (.seq (.ops [⟨(some 11), none, (.mv (.t 0))⟩,
      ⟨(some 12), none, (.len .slc (.t 11))⟩,
      ⟨(some 13), none, (.bin .int .gtr (.t 12) (.c (.v (.int .i64 40))))⟩,
      ⟨(some 14), none, (.mv (.t 13))⟩,
      ⟨(some 15), (some (14, false)), (.mv (.t 1))⟩,
      ⟨(some 16), (some (14, false)), (.len .slc (.t 15))⟩,
      ⟨(some 17), (some (14, false)), (.bin .int .gtr (.t 16) (.c (.v (.int .i64 40))))⟩,
      ⟨(some 18), none, (.pick (.t 14) (.c (.v (.bool true))) (.t 17))⟩,
      ⟨(some 19), none, (.mv (.t 18))⟩,
      ⟨(some 20), (some (19, false)), (.mv (.t 2))⟩,
      ⟨(some 21), (some (19, false)), (.len .slc (.t 20))⟩,
      ⟨(some 22), (some (19, false)), (.bin .int .gtr (.t 21) (.c (.v (.int .i64 40))))⟩,
      ⟨(some 23), none, (.pick (.t 19) (.c (.v (.bool true))) (.t 22))⟩])
    (.cond (.t 23)
    (.seq (.ops [⟨(some 24), none, (.call (.c (.fn (.func 9) [] [])) [])⟩,
      ⟨(some 6), none, (.mv (.t 24))⟩])
    .ret)
    .skip))
    (.seq (.ops [⟨(some 26), none, (.mv (.t 0))⟩,
      ⟨(some 27), none, (.mv (.t 1))⟩,
      ⟨(some 28), none, (.mv (.t 2))⟩,
      ⟨(some 29), none, (.call (.c (.fn (.func 10) [] [])) [(.t 26), (.t 27), (.t 28)])⟩,
      ⟨(some 25), none, (.mv (.t 29))⟩,
      ⟨(some 30), none, (.ext (.t 25) 0)⟩,
      ⟨(some 31), none, (.ext (.t 25) 1)⟩,
      ⟨(some 7), none, (.mv (.t 30))⟩,
      ⟨(some 8), none, (.mv (.t 31))⟩])
    (.seq (.ops [⟨(some 33), none, (.mv (.t 0))⟩,
      ⟨(some 34), none, (.mv (.t 1))⟩,
      ⟨(some 35), none, (.mv (.t 2))⟩,
      ⟨(some 36), none, (.call (.c (.fn (.func 11) [] [])) [(.t 33), (.t 34), (.t 35)])⟩,
      ⟨(some 32), none, (.mv (.t 36))⟩,
      ⟨(some 37), none, (.ext (.t 32) 0)⟩,
      ⟨(some 38), none, (.ext (.t 32) 1)⟩,
      ⟨(some 9), none, (.mv (.t 37))⟩,
      ⟨(some 10), none, (.mv (.t 38))⟩])
    (.seq (.ops [⟨(some 39), none, (.mv (.t 7))⟩,
      ⟨(some 40), none, (.mv (.t 9))⟩,
      ⟨(some 41), none, (.call (.c (.fn (.func 12) [] [])) [(.t 39), (.t 40)])⟩,
      ⟨(some 42), none, (.mv (.t 41))⟩,
      ⟨(some 43), (some (42, true)), (.mv (.t 8))⟩,
      ⟨(some 44), (some (42, true)), (.mv (.t 10))⟩,
      ⟨(some 45), (some (42, true)), (.bin .bool .eql (.t 43) (.t 44))⟩,
      ⟨(some 46), none, (.pick (.t 42) (.t 45) (.c (.v (.bool false))))⟩,
      ⟨(some 47), none, (.mv (.t 46))⟩,
      ⟨(some 48), (some (47, true)), (.call (.c (.fn (.func 9) [] [])) [])⟩,
      ⟨(some 49), none, (.pick (.t 47) (.t 48) (.c (.v (.bool false))))⟩,
      ⟨(some 6), none, (.mv (.t 49))⟩])
    .ret)))))⟩
theorem L3_ok : lowFn Try.prog Try.f3 [] = some L3 := by kernel_rfl

/-- assessor_assessorlaw11.ValueDivides -/
def L4 : LFn := ⟨123, [(.tmp 6)], (.seq (.ops [⟨(some 6), none, (.mv (.c (.v (.bool false))))⟩])
    (.seq (.seq (.ops [⟨(some 21), none, (.mv (.t 0))⟩,
      ⟨(some 22), none, (.bin .int .lss (.t 21) (.c (.v (.int .i64 2))))⟩,
      ⟨(some 23), none, (.mv (.t 22))⟩,
      ⟨(some 24), (some (23, false)), (.mv (.t 0))⟩,
      ⟨(some 25), (some (23, false)), (.bin .int .gtr (.t 24) (.c (.v (.int .i64 8))))⟩,
      ⟨(some 26), none, (.pick (.t 23) (.c (.v (.bool true))) (.t 25))⟩])
    (.cond (.t 26)
    (.seq (.ops [⟨(some 27), none, (.call (.c (.fn (.func 9) [] [])) [])⟩,
      ⟨(some 6), none, (.mv (.t 27))⟩])
    .ret)
    .skip))
    (.seq (.ops [⟨(some 28), none, (.mv (.t 0))⟩,
      ⟨(some 29), none, (.mv (.t 1))⟩,
      ⟨(some 30), none, (.call (.c (.fn (.func 13) [] [])) [(.t 28), (.t 29)])⟩,
      ⟨(some 31), none, (.mv (.t 0))⟩,
      ⟨(some 32), none, (.mv (.t 2))⟩,
      ⟨(some 33), none, (.call (.c (.fn (.func 13) [] [])) [(.t 31), (.t 32)])⟩,
      ⟨(some 7), none, (.mv (.t 30))⟩,
      ⟨(some 8), none, (.mv (.t 33))⟩])
    (.seq (.ops [⟨(some 35), none, (.mv (.t 0))⟩,
      ⟨(some 36), none, (.mv (.t 7))⟩,
      ⟨(some 37), none, (.mv (.t 8))⟩,
      ⟨(some 38), none, (.call (.c (.fn (.func 14) [] [])) [(.t 35), (.c (.v (.string (mkS [47])))), (.t 36), (.t 37)])⟩,
      ⟨(some 34), none, (.mv (.t 38))⟩,
      ⟨(some 39), none, (.ext (.t 34) 0)⟩,
      ⟨(some 40), none, (.ext (.t 34) 1)⟩,
      ⟨(some 41), none, (.ext (.t 34) 2)⟩,
      ⟨(some 9), none, (.mv (.t 39))⟩,
      ⟨(some 10), none, (.mv (.t 40))⟩,
      ⟨(some 11), none, (.mv (.t 41))⟩])
    (.seq (.ops [⟨(some 43), none, (.mv (.t 0))⟩,
      ⟨(some 44), none, (.mv (.t 7))⟩,
      ⟨(some 45), none, (.mv (.t 8))⟩,
      ⟨(some 46), none, (.call (.c (.fn (.func 14) [] [])) [(.t 43), (.c (.v (.string (mkS [37])))), (.t 44), (.t 45)])⟩,
      ⟨(some 42), none, (.mv (.t 46))⟩,
      ⟨(some 47), none, (.ext (.t 42) 0)⟩,
      ⟨(some 48), none, (.ext (.t 42) 1)⟩,
      ⟨(some 49), none, (.ext (.t 42) 2)⟩,
      ⟨(some 12), none, (.mv (.t 47))⟩,
      ⟨(some 13), none, (.mv (.t 48))⟩,
      ⟨(some 14), none, (.mv (.t 49))⟩])
    (.seq (.seq (.ops [⟨(some 50), none, (.mv (.t 11))⟩,
      ⟨(some 51), none, (.bin .int .neq (.t 50) (.c (.v (.int .i64 0))))⟩,
      ⟨(some 52), none, (.mv (.t 51))⟩,
      ⟨(some 53), (some (52, false)), (.mv (.t 14))⟩,
      ⟨(some 54), (some (52, false)), (.bin .int .neq (.t 53) (.c (.v (.int .i64 0))))⟩,
      ⟨(some 55), none, (.pick (.t 52) (.c (.v (.bool true))) (.t 54))⟩,
      ⟨(some 56), none, (.mv (.t 55))⟩,
      ⟨(some 57), (some (56, false)), (.mv (.t 10))⟩,
      ⟨(some 58), (some (56, false)), (.bin .int .eql (.t 57) (.c (.v (.int .i64 1))))⟩,
      ⟨(some 59), (some (56, false)), (.mv (.t 8))⟩,
      ⟨(some 60), (some (56, false)), (.bin .int .eql (.t 59) (.c (.v (.int .i64 0))))⟩,
      ⟨(some 61), (some (56, false)), (.bin .bool .neq (.t 58) (.t 60))⟩,
      ⟨(some 62), none, (.pick (.t 56) (.c (.v (.bool true))) (.t 61))⟩,
      ⟨(some 63), none, (.mv (.t 62))⟩,
      ⟨(some 64), (some (63, false)), (.mv (.t 10))⟩,
      ⟨(some 65), (some (63, false)), (.mv (.t 13))⟩,
      ⟨(some 66), (some (63, false)), (.bin .int .neq (.t 64) (.t 65))⟩,
      ⟨(some 67), none, (.pick (.t 63) (.c (.v (.bool true))) (.t 66))⟩])
    (.cond (.t 67)
    (.seq (.ops [⟨(some 6), none, (.mv (.c (.v (.bool false))))⟩])
    .ret)
    .skip))
    (.seq (.seq (.ops [⟨(some 68), none, (.mv (.t 8))⟩,
      ⟨(some 69), none, (.bin .int .eql (.t 68) (.c (.v (.int .i64 0))))⟩])
    (.cond (.t 69)
    (.seq (.ops [⟨(some 70), none, (.mv (.t 9))⟩,
      ⟨(some 71), none, (.bin .int .eql (.t 70) (.c (.v (.int .i64 0))))⟩,
      ⟨(some 72), none, (.mv (.t 71))⟩,
      ⟨(some 73), (some (72, true)), (.mv (.t 12))⟩,
      ⟨(some 74), (some (72, true)), (.bin .int .eql (.t 73) (.c (.v (.int .i64 0))))⟩,
      ⟨(some 75), none, (.pick (.t 72) (.t 74) (.c (.v (.bool false))))⟩,
      ⟨(some 76), none, (.mv (.t 75))⟩,
      ⟨(some 77), (some (76, true)), (.call (.c (.fn (.func 9) [] [])) [])⟩,
      ⟨(some 78), none, (.pick (.t 76) (.t 77) (.c (.v (.bool false))))⟩,
      ⟨(some 6), none, (.mv (.t 78))⟩])
    .ret)
    .skip))
    (.seq (.ops [⟨(some 80), none, (.mv (.t 0))⟩,
      ⟨(some 81), none, (.mv (.t 9))⟩,
      ⟨(some 82), none, (.mv (.t 8))⟩,
      ⟨(some 83), none, (.call (.c (.fn (.func 14) [] [])) [(.t 80), (.c (.v (.string (mkS [42])))), (.t 81), (.t 82)])⟩,
      ⟨(some 79), none, (.mv (.t 83))⟩,
      ⟨(some 84), none, (.ext (.t 79) 0)⟩,
      ⟨(some 85), none, (.ext (.t 79) 1)⟩,
      ⟨(some 86), none, (.ext (.t 79) 2)⟩,
      ⟨(some 15), none, (.mv (.t 84))⟩,
      ⟨(some 16), none, (.mv (.t 85))⟩,
      ⟨(some 17), none, (.mv (.t 86))⟩])
    (.seq (.ops [⟨(some 88), none, (.mv (.t 0))⟩,
      ⟨(some 89), none, (.mv (.t 15))⟩,
      ⟨(some 90), none, (.mv (.t 12))⟩,
      ⟨(some 91), none, (.call (.c (.fn (.func 14) [] [])) [(.t 88), (.c (.v (.string (mkS [43])))), (.t 89), (.t 90)])⟩,
      ⟨(some 87), none, (.mv (.t 91))⟩,
      ⟨(some 92), none, (.ext (.t 87) 0)⟩,
      ⟨(some 93), none, (.ext (.t 87) 1)⟩,
      ⟨(some 94), none, (.ext (.t 87) 2)⟩,
      ⟨(some 18), none, (.mv (.t 92))⟩,
      ⟨(some 19), none, (.mv (.t 93))⟩,
      ⟨(some 20), none, (.mv (.t 94))⟩])
    (.seq (.ops [⟨(some 95), none, (.mv (.t 18))⟩,
      ⟨(some 96), none, (.mv (.t 7))⟩,
      ⟨(some 97), none, (.bin .int .eql (.t 95) (.t 96))⟩,
      ⟨(some 98), none, (.mv (.t 97))⟩,
      ⟨(some 99), (some (98, true)), (.mv (.t 12))⟩,
      ⟨(some 100), (some (98, true)), (.mv (.t 12))⟩,
      ⟨(some 101), (some (98, true)), (.neg (.t 100))⟩,
      ⟨(some 102), (some (98, true)), (.max2 (.t 99) (.t 101))⟩,
      ⟨(some 103), (some (98, true)), (.mv (.t 8))⟩,
      ⟨(some 104), (some (98, true)), (.mv (.t 8))⟩,
      ⟨(some 105), (some (98, true)), (.neg (.t 104))⟩,
      ⟨(some 106), (some (98, true)), (.max2 (.t 103) (.t 105))⟩,
      ⟨(some 107), (some (98, true)), (.bin .int .lss (.t 102) (.t 106))⟩,
      ⟨(some 108), none, (.pick (.t 98) (.t 107) (.c (.v (.bool false))))⟩,
      ⟨(some 109), none, (.mv (.t 108))⟩,
      ⟨(some 110), (some (109, true)), (.mv (.t 12))⟩,
      ⟨(some 111), (some (109, true)), (.bin .int .eql (.t 110) (.c (.v (.int .i64 0))))⟩,
      ⟨(some 112), (some (109, true)), (.mv (.t 111))⟩,
      ⟨(some 113), (some (112, false)), (.mv (.t 12))⟩,
      ⟨(some 114), (some (112, false)), (.bin .int .lss (.t 113) (.c (.v (.int .i64 0))))⟩,
      ⟨(some 115), (some (112, false)), (.mv (.t 7))⟩,
      ⟨(some 116), (some (112, false)), (.bin .int .lss (.t 115) (.c (.v (.int .i64 0))))⟩,
      ⟨(some 117), (some (112, false)), (.bin .bool .eql (.t 114) (.t 116))⟩,
      ⟨(some 118), (some (109, true)), (.pick (.t 112) (.c (.v (.bool true))) (.t 117))⟩,
      ⟨(some 119), none, (.pick (.t 109) (.t 118) (.c (.v (.bool false))))⟩,
      ⟨(some 120), none, (.mv (.t 119))⟩,
      ⟨(some 121), (some (120, true)), (.call (.c (.fn (.func 9) [] [])) [])⟩,
      ⟨(some 122), none, (.pick (.t 120) (.t 121) (.c (.v (.bool false))))⟩,
      ⟨(some 6), none, (.mv (.t 122))⟩])
    .ret))))))))))⟩
theorem L4_ok : lowFn Try.prog Try.f4 [] = some L4 := by kernel_rfl

/-- assessor_assessorlaw11.ValueOperators -/
def L5 : LFn := ⟨100, [(.tmp 8)], (.seq (.ops [⟨(some 8), none, (.mv (.c (.v (.bool false))))⟩])
    (.seq (.ops [⟨(some 20), none, (.mv (.t 0))⟩,
      ⟨(some 21), none, (.mv (.t 1))⟩,
      ⟨(some 22), none, (.mv (.t 2))⟩,
      ⟨(some 23), none, (.mv (.t 3))⟩,
      ⟨(some 24), none, (.call (.c (.fn (.func 14) [] [])) [(.t 20), (.t 21), (.t 22), (.t 23)])⟩,
      ⟨(some 19), none, (.mv (.t 24))⟩,
      ⟨(some 25), none, (.ext (.t 19) 0)⟩,
      ⟨(some 26), none, (.ext (.t 19) 1)⟩,
      ⟨(some 27), none, (.ext (.t 19) 2)⟩,
      ⟨(some 9), none, (.mv (.t 25))⟩,
      ⟨(some 10), none, (.mv (.t 26))⟩,
      ⟨(some 11), none, (.mv (.t 27))⟩])
    (.seq (.ops [⟨(some 29), none, (.mv (.t 0))⟩,
      ⟨(some 30), none, (.mv (.t 1))⟩,
      ⟨(some 31), none, (.mv (.t 2))⟩,
      ⟨(some 32), none, (.mv (.t 3))⟩,
      ⟨(some 33), none, (.call (.c (.fn (.func 15) [] [])) [(.t 29), (.t 30), (.t 31), (.t 32)])⟩,
      ⟨(some 28), none, (.mv (.t 33))⟩,
      ⟨(some 34), none, (.ext (.t 28) 0)⟩,
      ⟨(some 35), none, (.ext (.t 28) 1)⟩,
      ⟨(some 36), none, (.ext (.t 28) 2)⟩,
      ⟨(some 12), none, (.mv (.t 34))⟩,
      ⟨(some 13), none, (.mv (.t 35))⟩,
      ⟨(some 14), none, (.mv (.t 36))⟩])
    (.seq (.ops [⟨(some 38), none, (.mv (.t 0))⟩,
      ⟨(some 39), none, (.mv (.t 1))⟩,
      ⟨(some 40), none, (.mv (.t 2))⟩,
      ⟨(some 41), none, (.call (.c (.fn (.func 16) [] [])) [(.t 38), (.t 39), (.t 40)])⟩,
      ⟨(some 37), none, (.mv (.t 41))⟩,
      ⟨(some 42), none, (.ext (.t 37) 0)⟩,
      ⟨(some 43), none, (.ext (.t 37) 1)⟩,
      ⟨(some 15), none, (.mv (.t 42))⟩,
      ⟨(some 16), none, (.mv (.t 43))⟩])
    (.seq (.ops [⟨(some 45), none, (.mv (.t 0))⟩,
      ⟨(some 46), none, (.mv (.t 1))⟩,
      ⟨(some 47), none, (.mv (.t 2))⟩,
      ⟨(some 48), none, (.call (.c (.fn (.func 17) [] [])) [(.t 45), (.t 46), (.t 47)])⟩,
      ⟨(some 44), none, (.mv (.t 48))⟩,
      ⟨(some 49), none, (.ext (.t 44) 0)⟩,
      ⟨(some 50), none, (.ext (.t 44) 1)⟩,
      ⟨(some 17), none, (.mv (.t 49))⟩,
      ⟨(some 18), none, (.mv (.t 50))⟩])
    (.seq (.ops [⟨(some 51), none, (.mv (.t 0))⟩,
      ⟨(some 52), none, (.mv (.t 2))⟩,
      ⟨(some 53), none, (.call (.c (.fn (.func 13) [] [])) [(.t 51), (.t 52)])⟩,
      ⟨(some 54), none, (.mv (.t 0))⟩,
      ⟨(some 55), none, (.mv (.t 2))⟩,
      ⟨(some 56), none, (.call (.c (.fn (.func 18) [] [])) [(.t 54), (.t 55)])⟩,
      ⟨(some 57), none, (.bin .int .eql (.t 53) (.t 56))⟩,
      ⟨(some 58), none, (.mv (.t 57))⟩,
      ⟨(some 59), (some (58, true)), (.mv (.t 0))⟩,
      ⟨(some 60), (some (58, true)), (.call (.c (.fn (.func 19) [] [])) [(.t 59)])⟩,
      ⟨(some 61), (some (58, true)), (.mv (.t 0))⟩,
      ⟨(some 62), (some (58, true)), (.call (.c (.fn (.func 20) [] [])) [(.t 61)])⟩,
      ⟨(some 63), (some (58, true)), (.bin .int .eql (.t 60) (.t 62))⟩,
      ⟨(some 64), none, (.pick (.t 58) (.t 63) (.c (.v (.bool false))))⟩,
      ⟨(some 65), none, (.mv (.t 64))⟩,
      ⟨(some 66), (some (65, true)), (.mv (.t 0))⟩,
      ⟨(some 67), (some (65, true)), (.call (.c (.fn (.func 21) [] [])) [(.t 66)])⟩,
      ⟨(some 68), (some (65, true)), (.mv (.t 0))⟩,
      ⟨(some 69), (some (65, true)), (.call (.c (.fn (.func 22) [] [])) [(.t 68)])⟩,
      ⟨(some 70), (some (65, true)), (.bin .int .eql (.t 67) (.t 69))⟩,
      ⟨(some 71), none, (.pick (.t 65) (.t 70) (.c (.v (.bool false))))⟩,
      ⟨(some 72), none, (.mv (.t 71))⟩,
      ⟨(some 73), (some (72, true)), (.mv (.t 9))⟩,
      ⟨(some 74), (some (72, true)), (.mv (.t 12))⟩,
      ⟨(some 75), (some (72, true)), (.bin .int .eql (.t 73) (.t 74))⟩,
      ⟨(some 76), none, (.pick (.t 72) (.t 75) (.c (.v (.bool false))))⟩,
      ⟨(some 77), none, (.mv (.t 76))⟩,
      ⟨(some 78), (some (77, true)), (.mv (.t 10))⟩,
      ⟨(some 79), (some (77, true)), (.mv (.t 13))⟩,
      ⟨(some 80), (some (77, true)), (.bin .int .eql (.t 78) (.t 79))⟩,
      ⟨(some 81), none, (.pick (.t 77) (.t 80) (.c (.v (.bool false))))⟩,
      ⟨(some 82), none, (.mv (.t 81))⟩,
      ⟨(some 83), (some (82, true)), (.mv (.t 11))⟩,
      ⟨(some 84), (some (82, true)), (.mv (.t 14))⟩,
      ⟨(some 85), (some (82, true)), (.bin .int .eql (.t 83) (.t 84))⟩,
      ⟨(some 86), none, (.pick (.t 82) (.t 85) (.c (.v (.bool false))))⟩,
      ⟨(some 87), none, (.mv (.t 86))⟩,
      ⟨(some 88), (some (87, true)), (.mv (.t 15))⟩,
      ⟨(some 89), (some (87, true)), (.mv (.t 17))⟩,
      ⟨(some 90), (some (87, true)), (.bin .int .eql (.t 88) (.t 89))⟩,
      ⟨(some 91), none, (.pick (.t 87) (.t 90) (.c (.v (.bool false))))⟩,
      ⟨(some 92), none, (.mv (.t 91))⟩,
      ⟨(some 93), (some (92, true)), (.mv (.t 16))⟩,
      ⟨(some 94), (some (92, true)), (.mv (.t 18))⟩,
      ⟨(some 95), (some (92, true)), (.bin .int .eql (.t 93) (.t 94))⟩,
      ⟨(some 96), none, (.pick (.t 92) (.t 95) (.c (.v (.bool false))))⟩,
      ⟨(some 97), none, (.mv (.t 96))⟩,
      ⟨(some 98), (some (97, true)), (.call (.c (.fn (.func 9) [] [])) [])⟩,
      ⟨(some 99), none, (.pick (.t 97) (.t 98) (.c (.v (.bool false))))⟩,
      ⟨(some 8), none, (.mv (.t 99))⟩])
    .ret))))))⟩
theorem L5_ok : lowFn Try.prog Try.f5 [] = some L5 := by kernel_rfl

/-- assessor_assessorlaw11.ValueRing -/
def L6 : LFn := ⟨182, [(.tmp 6)], (.seq (.ops [⟨(some 6), none, (.mv (.c (.v (.bool false))))⟩])
    (.seq (.seq (.ops [⟨(some 26), none, (.mv (.t 0))⟩,
      ⟨(some 27), none, (.bin .int .lss (.t 26) (.c (.v (.int .i64 2))))⟩,
      ⟨(some 28), none, (.mv (.t 27))⟩,
      ⟨(some 29), (some (28, false)), (.mv (.t 0))⟩,
      ⟨(some 30), (some (28, false)), (.bin .int .gtr (.t 29) (.c (.v (.int .i64 8))))⟩,
      ⟨(some 31), none, (.pick (.t 28) (.c (.v (.bool true))) (.t 30))⟩,
      ⟨(some 32), none, (.mv (.t 31))⟩,
      ⟨(some 33), (some (32, false)), (.mv (.t 1))⟩,
      ⟨(some 34), (some (32, false)), (.mv (.t 1))⟩,
      ⟨(some 35), (some (32, false)), (.neg (.t 34))⟩,
      ⟨(some 36), (some (32, false)), (.max2 (.t 33) (.t 35))⟩,
      ⟨(some 37), (some (32, false)), (.bin .int .gtr (.t 36) (.c (.v (.int .i64 1048576))))⟩,
      ⟨(some 38), none, (.pick (.t 32) (.c (.v (.bool true))) (.t 37))⟩,
      ⟨(some 39), none, (.mv (.t 38))⟩,
      ⟨(some 40), (some (39, false)), (.mv (.t 2))⟩,
      ⟨(some 41), (some (39, false)), (.mv (.t 2))⟩,
      ⟨(some 42), (some (39, false)), (.neg (.t 41))⟩,
      ⟨(some 43), (some (39, false)), (.max2 (.t 40) (.t 42))⟩,
      ⟨(some 44), (some (39, false)), (.bin .int .gtr (.t 43) (.c (.v (.int .i64 1048576))))⟩,
      ⟨(some 45), none, (.pick (.t 39) (.c (.v (.bool true))) (.t 44))⟩,
      ⟨(some 46), none, (.mv (.t 45))⟩,
      ⟨(some 47), (some (46, false)), (.mv (.t 1))⟩,
      ⟨(some 48), (some (46, false)), (.bin .int .eql (.t 47) (.c (.v (.int .i64 (-9223372036854775808)))))⟩,
      ⟨(some 49), none, (.pick (.t 46) (.c (.v (.bool true))) (.t 48))⟩,
      ⟨(some 50), none, (.mv (.t 49))⟩,
      ⟨(some 51), (some (50, false)), (.mv (.t 2))⟩,
      ⟨(some 52), (some (50, false)), (.bin .int .eql (.t 51) (.c (.v (.int .i64 (-9223372036854775808)))))⟩,
      ⟨(some 53), none, (.pick (.t 50) (.c (.v (.bool true))) (.t 52))⟩])
    (.cond (.t 53)
    (.seq (.ops [⟨(some 54), none, (.call (.c (.fn (.func 9) [] [])) [])⟩,
      ⟨(some 6), none, (.mv (.t 54))⟩])
    .ret)
    .skip))
    (.seq (.ops [⟨(some 55), none, (.mv (.t 0))⟩,
      ⟨(some 56), none, (.mv (.t 1))⟩,
      ⟨(some 57), none, (.call (.c (.fn (.func 13) [] [])) [(.t 55), (.t 56)])⟩,
      ⟨(some 58), none, (.mv (.t 0))⟩,
      ⟨(some 59), none, (.mv (.t 2))⟩,
      ⟨(some 60), none, (.call (.c (.fn (.func 13) [] [])) [(.t 58), (.t 59)])⟩,
      ⟨(some 7), none, (.mv (.t 57))⟩,
      ⟨(some 8), none, (.mv (.t 60))⟩])
    (.seq (.ops [⟨(some 62), none, (.mv (.t 0))⟩,
      ⟨(some 63), none, (.mv (.t 7))⟩,
      ⟨(some 64), none, (.mv (.t 8))⟩,
      ⟨(some 65), none, (.call (.c (.fn (.func 14) [] [])) [(.t 62), (.c (.v (.string (mkS [43])))), (.t 63), (.t 64)])⟩,
      ⟨(some 61), none, (.mv (.t 65))⟩,
      ⟨(some 66), none, (.ext (.t 61) 0)⟩,
      ⟨(some 67), none, (.ext (.t 61) 1)⟩,
      ⟨(some 68), none, (.ext (.t 61) 2)⟩,
      ⟨(some 9), none, (.mv (.t 66))⟩,
      ⟨(some 10), none, (.mv (.t 67))⟩,
      ⟨(some 11), none, (.mv (.t 68))⟩])
    (.seq (.ops [⟨(some 70), none, (.mv (.t 0))⟩,
      ⟨(some 71), none, (.mv (.t 7))⟩,
      ⟨(some 72), none, (.mv (.t 8))⟩,
      ⟨(some 73), none, (.call (.c (.fn (.func 14) [] [])) [(.t 70), (.c (.v (.string (mkS [42])))), (.t 71), (.t 72)])⟩,
      ⟨(some 69), none, (.mv (.t 73))⟩,
      ⟨(some 74), none, (.ext (.t 69) 0)⟩,
      ⟨(some 75), none, (.ext (.t 69) 1)⟩,
      ⟨(some 76), none, (.ext (.t 69) 2)⟩,
      ⟨(some 12), none, (.mv (.t 74))⟩,
      ⟨(some 13), none, (.mv (.t 75))⟩,
      ⟨(some 14), none, (.mv (.t 76))⟩])
    (.seq (.ops [⟨(some 78), none, (.mv (.t 0))⟩,
      ⟨(some 79), none, (.mv (.t 8))⟩,
      ⟨(some 80), none, (.call (.c (.fn (.func 16) [] [])) [(.t 78), (.c (.v (.string (mkS [45])))), (.t 79)])⟩,
      ⟨(some 77), none, (.mv (.t 80))⟩,
      ⟨(some 81), none, (.ext (.t 77) 0)⟩,
      ⟨(some 82), none, (.ext (.t 77) 1)⟩,
      ⟨(some 15), none, (.mv (.t 81))⟩,
      ⟨(some 16), none, (.mv (.t 82))⟩])
    (.seq (.ops [⟨(some 84), none, (.mv (.t 0))⟩,
      ⟨(some 85), none, (.mv (.t 7))⟩,
      ⟨(some 86), none, (.mv (.t 8))⟩,
      ⟨(some 87), none, (.call (.c (.fn (.func 14) [] [])) [(.t 84), (.c (.v (.string (mkS [45])))), (.t 85), (.t 86)])⟩,
      ⟨(some 83), none, (.mv (.t 87))⟩,
      ⟨(some 88), none, (.ext (.t 83) 0)⟩,
      ⟨(some 89), none, (.ext (.t 83) 1)⟩,
      ⟨(some 90), none, (.ext (.t 83) 2)⟩,
      ⟨(some 17), none, (.mv (.t 88))⟩,
      ⟨(some 18), none, (.mv (.t 89))⟩,
      ⟨(some 19), none, (.mv (.t 90))⟩])
    (.seq (.ops [⟨(some 92), none, (.mv (.t 0))⟩,
      ⟨(some 93), none, (.mv (.t 7))⟩,
      ⟨(some 94), none, (.mv (.t 15))⟩,
      ⟨(some 95), none, (.call (.c (.fn (.func 14) [] [])) [(.t 92), (.c (.v (.string (mkS [43])))), (.t 93), (.t 94)])⟩,
      ⟨(some 91), none, (.mv (.t 95))⟩,
      ⟨(some 96), none, (.ext (.t 91) 0)⟩,
      ⟨(some 97), none, (.ext (.t 91) 1)⟩,
      ⟨(some 98), none, (.ext (.t 91) 2)⟩,
      ⟨(some 20), none, (.mv (.t 96))⟩,
      ⟨(some 21), none, (.mv (.t 97))⟩,
      ⟨(some 22), none, (.mv (.t 98))⟩])
    (.seq (.ops [⟨(some 100), none, (.mv (.t 0))⟩,
      ⟨(some 101), none, (.mv (.t 7))⟩,
      ⟨(some 102), none, (.mv (.t 8))⟩,
      ⟨(some 103), none, (.call (.c (.fn (.func 14) [] [])) [(.t 100), (.c (.v (.string (mkS [60])))), (.t 101), (.t 102)])⟩,
      ⟨(some 99), none, (.mv (.t 103))⟩,
      ⟨(some 104), none, (.ext (.t 99) 0)⟩,
      ⟨(some 105), none, (.ext (.t 99) 1)⟩,
      ⟨(some 106), none, (.ext (.t 99) 2)⟩,
      ⟨(some 23), none, (.mv (.t 104))⟩,
      ⟨(some 24), none, (.mv (.t 105))⟩,
      ⟨(some 25), none, (.mv (.t 106))⟩])
    (.seq (.seq (.ops [⟨(some 107), none, (.mv (.t 11))⟩,
      ⟨(some 108), none, (.bin .int .neq (.t 107) (.c (.v (.int .i64 0))))⟩,
      ⟨(some 109), none, (.mv (.t 108))⟩,
      ⟨(some 110), (some (109, false)), (.mv (.t 14))⟩,
      ⟨(some 111), (some (109, false)), (.bin .int .neq (.t 110) (.c (.v (.int .i64 0))))⟩,
      ⟨(some 112), none, (.pick (.t 109) (.c (.v (.bool true))) (.t 111))⟩,
      ⟨(some 113), none, (.mv (.t 112))⟩,
      ⟨(some 114), (some (113, false)), (.mv (.t 16))⟩,
      ⟨(some 115), (some (113, false)), (.bin .int .neq (.t 114) (.c (.v (.int .i64 0))))⟩,
      ⟨(some 116), none, (.pick (.t 113) (.c (.v (.bool true))) (.t 115))⟩,
      ⟨(some 117), none, (.mv (.t 116))⟩,
      ⟨(some 118), (some (117, false)), (.mv (.t 19))⟩,
      ⟨(some 119), (some (117, false)), (.bin .int .neq (.t 118) (.c (.v (.int .i64 0))))⟩,
      ⟨(some 120), none, (.pick (.t 117) (.c (.v (.bool true))) (.t 119))⟩,
      ⟨(some 121), none, (.mv (.t 120))⟩,
      ⟨(some 122), (some (121, false)), (.mv (.t 22))⟩,
      ⟨(some 123), (some (121, false)), (.bin .int .neq (.t 122) (.c (.v (.int .i64 0))))⟩,
      ⟨(some 124), none, (.pick (.t 121) (.c (.v (.bool true))) (.t 123))⟩,
      ⟨(some 125), none, (.mv (.t 124))⟩,
      ⟨(some 126), (some (125, false)), (.mv (.t 25))⟩,
      ⟨(some 127), (some (125, false)), (.bin .int .neq (.t 126) (.c (.v (.int .i64 0))))⟩,
      ⟨(some 128), none, (.pick (.t 125) (.c (.v (.bool true))) (.t 127))⟩])
    (.cond (.t 128)
    (.seq (.ops [⟨(some 6), none, (.mv (.c (.v (.bool false))))⟩])
    .ret)
    .skip))
    (.seq (.ops [⟨(some 129), none, (.mv (.t 7))⟩,
      ⟨(some 130), none, (.mv (.t 0))⟩,
      ⟨(some 131), none, (.call (.c (.fn (.func 19) [] [])) [(.t 130)])⟩,
      ⟨(some 132), none, (.bin .int .geq (.t 129) (.t 131))⟩,
      ⟨(some 133), none, (.mv (.t 132))⟩,
      ⟨(some 134), (some (133, true)), (.mv (.t 7))⟩,
      ⟨(some 135), (some (133, true)), (.mv (.t 0))⟩,
      ⟨(some 136), (some (133, true)), (.call (.c (.fn (.func 21) [] [])) [(.t 135)])⟩,
      ⟨(some 137), (some (133, true)), (.bin .int .leq (.t 134) (.t 136))⟩,
      ⟨(some 138), none, (.pick (.t 133) (.t 137) (.c (.v (.bool false))))⟩,
      ⟨(some 139), none, (.mv (.t 138))⟩,
      ⟨(some 140), (some (139, true)), (.mv (.t 1))⟩,
      ⟨(some 141), (some (139, true)), (.mv (.t 7))⟩,
      ⟨(some 142), (some (139, true)), (.bin .int .sub (.t 140) (.t 141))⟩,
      ⟨(some 143), (some (139, true)), (.mv (.t 0))⟩,
      ⟨(some 144), (some (139, true)), (.bin .int .shl (.c (.v (.int .i64 1))) (.t 143))⟩,
      ⟨(some 145), (some (139, true)), (.bin .int .rem (.t 142) (.t 144))⟩,
      ⟨(some 146), (some (139, true)), (.bin .int .eql (.t 145) (.c (.v (.int .i64 0))))⟩,
      ⟨(some 147), none, (.pick (.t 139) (.t 146) (.c (.v (.bool false))))⟩,
      ⟨(some 148), none, (.mv (.t 147))⟩,
      ⟨(some 149), (some (148, true)), (.mv (.t 9))⟩,
      ⟨(some 150), (some (148, true)), (.mv (.t 0))⟩,
      ⟨(some 151), (some (148, true)), (.mv (.t 1))⟩,
      ⟨(some 152), (some (148, true)), (.mv (.t 2))⟩,
      ⟨(some 153), (some (148, true)), (.bin .int .add (.t 151) (.t 152))⟩,
      ⟨(some 154), (some (148, true)), (.call (.c (.fn (.func 13) [] [])) [(.t 150), (.t 153)])⟩,
      ⟨(some 155), (some (148, true)), (.bin .int .eql (.t 149) (.t 154))⟩,
      ⟨(some 156), none, (.pick (.t 148) (.t 155) (.c (.v (.bool false))))⟩,
      ⟨(some 157), none, (.mv (.t 156))⟩,
      ⟨(some 158), (some (157, true)), (.mv (.t 12))⟩,
      ⟨(some 159), (some (157, true)), (.mv (.t 0))⟩,
      ⟨(some 160), (some (157, true)), (.mv (.t 1))⟩,
      ⟨(some 161), (some (157, true)), (.mv (.t 2))⟩,
      ⟨(some 162), (some (157, true)), (.bin .int .mul (.t 160) (.t 161))⟩,
      ⟨(some 163), (some (157, true)), (.call (.c (.fn (.func 13) [] [])) [(.t 159), (.t 162)])⟩,
      ⟨(some 164), (some (157, true)), (.bin .int .eql (.t 158) (.t 163))⟩,
      ⟨(some 165), none, (.pick (.t 157) (.t 164) (.c (.v (.bool false))))⟩,
      ⟨(some 166), none, (.mv (.t 165))⟩,
      ⟨(some 167), (some (166, true)), (.mv (.t 17))⟩,
      ⟨(some 168), (some (166, true)), (.mv (.t 20))⟩,
      ⟨(some 169), (some (166, true)), (.bin .int .eql (.t 167) (.t 168))⟩,
      ⟨(some 170), none, (.pick (.t 166) (.t 169) (.c (.v (.bool false))))⟩,
      ⟨(some 171), none, (.mv (.t 170))⟩,
      ⟨(some 172), (some (171, true)), (.mv (.t 23))⟩,
      ⟨(some 173), (some (171, true)), (.bin .int .eql (.t 172) (.c (.v (.int .i64 1))))⟩,
      ⟨(some 174), (some (171, true)), (.mv (.t 7))⟩,
      ⟨(some 175), (some (171, true)), (.mv (.t 8))⟩,
      ⟨(some 176), (some (171, true)), (.bin .int .lss (.t 174) (.t 175))⟩,
      ⟨(some 177), (some (171, true)), (.bin .bool .eql (.t 173) (.t 176))⟩,
      ⟨(some 178), none, (.pick (.t 171) (.t 177) (.c (.v (.bool false))))⟩,
      ⟨(some 179), none, (.mv (.t 178))⟩,
      ⟨(some 180), (some (179, true)), (.call (.c (.fn (.func 9) [] [])) [])⟩,
      ⟨(some 181), none, (.pick (.t 179) (.t 180) (.c (.v (.bool false))))⟩,
      ⟨(some 6), none, (.mv (.t 181))⟩])
    .ret)))))))))))⟩
theorem L6_ok : lowFn Try.prog Try.f6 [] = some L6 := by kernel_rfl

/-- assessor_assessorlaw11.ValueCounts -/
def L7 : LFn := ⟨133, [(.tmp 4)], (.seq (.ops [⟨(some 4), none, (.mv (.c (.v (.bool false))))⟩])
    (.seq (.seq (.ops [⟨(some 13), none, (.mv (.t 0))⟩,
      ⟨(some 14), none, (.len .slc (.t 13))⟩,
      ⟨(some 15), none, (.mv (.t 1))⟩,
      ⟨(some 16), none, (.len .slc (.t 15))⟩,
      ⟨(some 17), none, (.bin .int .neq (.t 14) (.t 16))⟩,
      ⟨(some 18), none, (.mv (.t 17))⟩,
      ⟨(some 19), (some (18, false)), (.mv (.t 0))⟩,
      ⟨(some 20), (some (18, false)), (.len .slc (.t 19))⟩,
      ⟨(some 21), (some (18, false)), (.bin .int .gtr (.t 20) (.c (.v (.int .i64 8))))⟩,
      ⟨(some 22), none, (.pick (.t 18) (.c (.v (.bool true))) (.t 21))⟩])
    (.cond (.t 22)
    (.seq (.ops [⟨(some 23), none, (.call (.c (.fn (.func 9) [] [])) [])⟩,
      ⟨(some 4), none, (.mv (.t 23))⟩])
    .ret)
    .skip))
    (.seq (.ops [⟨(some 5), none, (.mv (.c (.v (.int .i64 1))))⟩])
    (.seq (.seq (.ops [⟨(some 24), none, (.mv (.t 0))⟩,
      ⟨(some 25), none, (.len .slc (.t 24))⟩,
      ⟨(some 26), none, (.mv (.c (.v (.int .i64 0))))⟩])
    (.block 0 (.loop (.seq (.ops [⟨(some 27), none, (.bin .int .lss (.t 26) (.t 25))⟩])
    (.seq (.cond (.t 27)
    .skip
    (.exit 0))
    (.seq (.block 1 (.seq (.ops [⟨(some 28), none, (.mv (.t 26))⟩,
      ⟨(some 6), none, (.mv (.t 28))⟩])
    (.seq (.seq (.draw [⟨(some 29), none, (.mv (.t 0))⟩,
      ⟨(some 30), none, (.mv (.t 6))⟩,
      ⟨(some 31), none, (.iaddr 1 (.t 29) (.t 30))⟩,
      ⟨(some 32), none, (.load false 1 (.t 31))⟩,
      ⟨(some 33), none, (.mv (.t 1))⟩,
      ⟨(some 34), none, (.mv (.t 6))⟩,
      ⟨(some 35), none, (.iaddr 1 (.t 33) (.t 34))⟩,
      ⟨(some 36), none, (.load false 1 (.t 35))⟩,
      ⟨(some 37), none, (.bin .int .gtr (.t 32) (.t 36))⟩,
      ⟨(some 38), none, (.mv (.t 37))⟩,
      ⟨(some 39), (some (38, false)), (.mv (.t 0))⟩,
      ⟨(some 40), (some (38, false)), (.mv (.t 6))⟩,
      ⟨(some 41), (some (38, false)), (.iaddr 1 (.t 39) (.t 40))⟩,
      ⟨(some 42), (some (38, false)), (.load false 1 (.t 41))⟩,
      ⟨(some 43), (some (38, false)), (.bin .int .lss (.t 42) (.c (.v (.int .i64 (-1000)))))⟩,
      ⟨(some 44), none, (.pick (.t 38) (.c (.v (.bool true))) (.t 43))⟩,
      ⟨(some 45), none, (.mv (.t 44))⟩,
      ⟨(some 46), (some (45, false)), (.mv (.t 1))⟩,
      ⟨(some 47), (some (45, false)), (.mv (.t 6))⟩,
      ⟨(some 48), (some (45, false)), (.iaddr 1 (.t 46) (.t 47))⟩,
      ⟨(some 49), (some (45, false)), (.load false 1 (.t 48))⟩,
      ⟨(some 50), (some (45, false)), (.bin .int .gtr (.t 49) (.c (.v (.int .i64 1000))))⟩,
      ⟨(some 51), none, (.pick (.t 45) (.c (.v (.bool true))) (.t 50))⟩] [])
    (.cond (.t 51)
    (.seq (.ops [⟨(some 52), none, (.call (.c (.fn (.func 9) [] [])) [])⟩,
      ⟨(some 4), none, (.mv (.t 52))⟩])
    .ret)
    .skip))
    (.seq (.draw [⟨(some 53), none, (.mv (.t 5))⟩,
      ⟨(some 54), none, (.mv (.t 1))⟩,
      ⟨(some 55), none, (.mv (.t 6))⟩,
      ⟨(some 56), none, (.iaddr 1 (.t 54) (.t 55))⟩,
      ⟨(some 57), none, (.load false 1 (.t 56))⟩,
      ⟨(some 58), none, (.mv (.t 0))⟩,
      ⟨(some 59), none, (.mv (.t 6))⟩,
      ⟨(some 60), none, (.iaddr 1 (.t 58) (.t 59))⟩,
      ⟨(some 61), none, (.load false 1 (.t 60))⟩,
      ⟨(some 62), none, (.bin .int .sub (.t 57) (.t 61))⟩,
      ⟨(some 63), none, (.bin .int .add (.t 62) (.c (.v (.int .i64 1))))⟩,
      ⟨(some 64), none, (.bin .int .mul (.t 53) (.t 63))⟩,
      ⟨(some 5), none, (.mv (.t 64))⟩] [])
    (.seq (.ops [⟨(some 65), none, (.mv (.t 5))⟩,
      ⟨(some 66), none, (.bin .int .gtr (.t 65) (.c (.v (.int .i64 200))))⟩])
    (.cond (.t 66)
    (.seq (.ops [⟨(some 67), none, (.call (.c (.fn (.func 9) [] [])) [])⟩,
      ⟨(some 4), none, (.mv (.t 67))⟩])
    .ret)
    .skip))))))
    (.ops [⟨(some 68), none, (.bin .int .add (.t 26) (.c (.v (.int .i64 1))))⟩,
      ⟨(some 26), none, (.mv (.t 68))⟩])))))))
    (.seq (.ops [⟨(some 69), none, (.bsl false 1 0 [(.v (.int .i64 0))] [])⟩,
      ⟨(some 70), none, (.mv (.t 0))⟩,
      ⟨(some 71), none, (.append 1 8 (.t 69) (.t 70))⟩,
      ⟨(some 7), none, (.mv (.t 71))⟩])
    (.seq (.ops [⟨(some 8), none, (.mv (.c (.v (.int .i64 1))))⟩])
    (.block 2 (.loop (.seq (.block 3 (.seq (.ops [⟨(some 75), none, (.mv (.t 0))⟩,
      ⟨(some 76), none, (.mv (.t 1))⟩,
      ⟨(some 77), none, (.mv (.t 7))⟩,
      ⟨(some 78), none, (.call (.c (.fn (.func 10) [] [])) [(.t 75), (.t 76), (.t 77)])⟩,
      ⟨(some 74), none, (.mv (.t 78))⟩,
      ⟨(some 79), none, (.ext (.t 74) 0)⟩,
      ⟨(some 80), none, (.ext (.t 74) 1)⟩,
      ⟨(some 9), none, (.mv (.t 79))⟩,
      ⟨(some 10), none, (.mv (.t 80))⟩])
    (.seq (.seq (.ops [⟨(some 81), none, (.mv (.t 10))⟩,
      ⟨(some 82), none, (.not (.t 81))⟩])
    (.cond (.t 82)
    (.seq (.ops [⟨(some 83), none, (.mv (.t 8))⟩,
      ⟨(some 84), none, (.mv (.t 5))⟩,
      ⟨(some 85), none, (.bin .int .eql (.t 83) (.t 84))⟩,
      ⟨(some 86), none, (.mv (.t 85))⟩,
      ⟨(some 87), (some (86, true)), (.mv (.t 9))⟩,
      ⟨(some 88), (some (86, true)), (.len .slc (.t 87))⟩,
      ⟨(some 89), (some (86, true)), (.bin .int .eql (.t 88) (.c (.v (.int .i64 0))))⟩,
      ⟨(some 90), none, (.pick (.t 86) (.t 89) (.c (.v (.bool false))))⟩,
      ⟨(some 91), none, (.mv (.t 90))⟩,
      ⟨(some 92), (some (91, true)), (.call (.c (.fn (.func 9) [] [])) [])⟩,
      ⟨(some 93), none, (.pick (.t 91) (.t 92) (.c (.v (.bool false))))⟩,
      ⟨(some 4), none, (.mv (.t 93))⟩])
    .ret)
    .skip))
    (.seq (.seq (.ops [⟨(some 94), none, (.mv (.t 8))⟩,
      ⟨(some 95), none, (.mv (.t 5))⟩,
      ⟨(some 96), none, (.bin .int .geq (.t 94) (.t 95))⟩,
      ⟨(some 97), none, (.mv (.t 96))⟩,
      ⟨(some 98), (some (97, false)), (.mv (.t 9))⟩,
      ⟨(some 99), (some (97, false)), (.len .slc (.t 98))⟩,
      ⟨(some 100), (some (97, false)), (.mv (.t 7))⟩,
      ⟨(some 101), (some (97, false)), (.len .slc (.t 100))⟩,
      ⟨(some 102), (some (97, false)), (.bin .int .neq (.t 99) (.t 101))⟩,
      ⟨(some 103), none, (.pick (.t 97) (.c (.v (.bool true))) (.t 102))⟩,
      ⟨(some 104), none, (.mv (.t 103))⟩,
      ⟨(some 105), (some (104, false)), (.mv (.t 7))⟩,
      ⟨(some 106), (some (104, false)), (.mv (.t 9))⟩,
      ⟨(some 107), (some (104, false)), (.call (.c (.fn (.func 23) [] [])) [(.t 105), (.t 106)])⟩,
      ⟨(some 108), (some (104, false)), (.bin .int .geq (.t 107) (.c (.v (.int .i64 0))))⟩,
      ⟨(some 109), none, (.pick (.t 104) (.c (.v (.bool true))) (.t 108))⟩])
    (.cond (.t 109)
    (.seq (.ops [⟨(some 4), none, (.mv (.c (.v (.bool false))))⟩])
    .ret)
    .skip))
    (.seq (.seq (.ops [⟨(some 110), none, (.mv (.t 9))⟩,
      ⟨(some 111), none, (.len .slc (.t 110))⟩,
      ⟨(some 112), none, (.mv (.c (.v (.int .i64 0))))⟩])
    (.block 4 (.loop (.seq (.ops [⟨(some 113), none, (.bin .int .lss (.t 112) (.t 111))⟩])
    (.seq (.cond (.t 113)
    .skip
    (.exit 4))
    (.seq (.block 5 (.seq (.ops [⟨(some 114), none, (.mv (.t 112))⟩,
      ⟨(some 115), none, (.iaddr 1 (.t 110) (.t 112))⟩,
      ⟨(some 116), none, (.load false 1 (.t 115))⟩,
      ⟨(some 11), none, (.mv (.t 114))⟩,
      ⟨(some 12), none, (.mv (.t 116))⟩])
    (.seq (.ops [⟨(some 117), none, (.mv (.t 12))⟩,
      ⟨(some 118), none, (.mv (.t 0))⟩,
      ⟨(some 119), none, (.mv (.t 11))⟩,
      ⟨(some 120), none, (.iaddr 1 (.t 118) (.t 119))⟩,
      ⟨(some 121), none, (.load false 1 (.t 120))⟩,
      ⟨(some 122), none, (.bin .int .lss (.t 117) (.t 121))⟩,
      ⟨(some 123), none, (.mv (.t 122))⟩,
      ⟨(some 124), (some (123, false)), (.mv (.t 12))⟩,
      ⟨(some 125), (some (123, false)), (.mv (.t 1))⟩,
      ⟨(some 126), (some (123, false)), (.mv (.t 11))⟩,
      ⟨(some 127), (some (123, false)), (.iaddr 1 (.t 125) (.t 126))⟩,
      ⟨(some 128), (some (123, false)), (.load false 1 (.t 127))⟩,
      ⟨(some 129), (some (123, false)), (.bin .int .gtr (.t 124) (.t 128))⟩,
      ⟨(some 130), none, (.pick (.t 123) (.c (.v (.bool true))) (.t 129))⟩])
    (.cond (.t 130)
    (.seq (.ops [⟨(some 4), none, (.mv (.c (.v (.bool false))))⟩])
    .ret)
    .skip))))
    (.ops [⟨(some 131), none, (.bin .int .add (.t 112) (.c (.v (.int .i64 1))))⟩,
      ⟨(some 112), none, (.mv (.t 131))⟩])))))))
    (.ops [⟨(some 132), none, (.mv (.t 9))⟩,
      ⟨(some 7), none, (.mv (.t 132))⟩]))))))
    (.ops [⟨(some 72), none, (.mv (.t 8))⟩,
      ⟨(some 73), none, (.bin .int .add (.t 72) (.c (.v (.int .i64 1))))⟩,
      ⟨(some 8), none, (.mv (.t 73))⟩]))))))))))⟩
theorem L7_ok : lowFn Try.prog Try.f7 [] = some L7 := by kernel_rfl

/-- assessor_assessorlaw11.ValueReads -/
def L8 : LFn := ⟨86, [(.tmp 8)], (.seq (.ops [⟨(some 5), none, (.box false (.t 1))⟩,
      ⟨(some 8), none, (.mv (.c (.v (.bool false))))⟩])
    (.seq (.seq (.ops [⟨(some 16), none, (.mv (.t 2))⟩,
      ⟨(some 17), none, (.call (.c (.fn (.func 24) [] [])) [(.t 16)])⟩,
      ⟨(some 18), none, (.not (.t 17))⟩,
      ⟨(some 19), none, (.mv (.t 18))⟩,
      ⟨(some 20), (some (19, false)), (.mv (.t 0))⟩,
      ⟨(some 21), (some (19, false)), (.load true 3 (.t 5))⟩,
      ⟨(some 22), (some (19, false)), (.mv (.t 2))⟩,
      ⟨(some 23), (some (19, false)), (.mv (.t 3))⟩,
      ⟨(some 24), (some (19, false)), (.call (.c (.fn (.func 25) [] [])) [(.t 20), (.t 21), (.t 22), (.t 23)])⟩,
      ⟨(some 25), (some (19, false)), (.not (.t 24))⟩,
      ⟨(some 26), none, (.pick (.t 19) (.c (.v (.bool true))) (.t 25))⟩,
      ⟨(some 27), none, (.mv (.t 26))⟩,
      ⟨(some 28), (some (27, false)), (.faddr 0 (.t 5))⟩,
      ⟨(some 29), (some (27, false)), (.load false 1 (.t 28))⟩,
      ⟨(some 30), (some (27, false)), (.bin .int .eql (.t 29) (.c (.v (.int .i64 4))))⟩,
      ⟨(some 31), (some (27, false)), (.mv (.t 30))⟩,
      ⟨(some 32), (some (31, true)), (.faddr 2 (.t 5))⟩,
      ⟨(some 33), (some (31, true)), (.load false 1 (.t 32))⟩,
      ⟨(some 34), (some (31, true)), (.call (.c (.fn (.func 26) [] [])) [(.t 33)])⟩,
      ⟨(some 35), (some (31, true)), (.not (.t 34))⟩,
      ⟨(some 36), (some (27, false)), (.pick (.t 31) (.t 35) (.c (.v (.bool false))))⟩,
      ⟨(some 37), none, (.pick (.t 27) (.c (.v (.bool true))) (.t 36))⟩])
    (.cond (.t 37)
    (.seq (.ops [⟨(some 38), none, (.call (.c (.fn (.func 9) [] [])) [])⟩,
      ⟨(some 8), none, (.mv (.t 38))⟩])
    .ret)
    .skip))
    (.seq (.ops [⟨(some 39), none, (.load true 3 (.t 5))⟩,
      ⟨(some 40), none, (.mv (.t 2))⟩,
      ⟨(some 41), none, (.mv (.t 3))⟩,
      ⟨(some 42), none, (.call (.c (.fn (.func 27) [] [])) [(.t 39), (.t 40), (.t 41)])⟩,
      ⟨(some 9), none, (.mv (.t 42))⟩])
    (.seq (.ops [⟨(some 44), none, (.mv (.t 0))⟩,
      ⟨(some 45), none, (.load true 3 (.t 5))⟩,
      ⟨(some 46), none, (.mv (.t 2))⟩,
      ⟨(some 47), none, (.mv (.t 9))⟩,
      ⟨(some 48), none, (.call (.c (.fn (.func 28) [] [])) [(.t 44), (.t 45), (.t 46), (.t 47)])⟩,
      ⟨(some 43), none, (.mv (.t 48))⟩,
      ⟨(some 49), none, (.ext (.t 43) 0)⟩,
      ⟨(some 50), none, (.ext (.t 43) 1)⟩,
      ⟨(some 10), none, (.mv (.t 49))⟩,
      ⟨(some 11), none, (.mv (.t 50))⟩])
    (.seq (.ops [⟨(some 52), none, (.mv (.t 9))⟩,
      ⟨(some 53), none, (.call (.c (.fn (.func 29) [] [])) [(.t 52)])⟩,
      ⟨(some 51), none, (.mv (.t 53))⟩,
      ⟨(some 54), none, (.ext (.t 51) 0)⟩,
      ⟨(some 55), none, (.ext (.t 51) 1)⟩,
      ⟨(some 12), none, (.mv (.t 54))⟩,
      ⟨(some 13), none, (.mv (.t 55))⟩])
    (.seq (.draw [⟨(some 57), none, (.mv (.t 0))⟩,
      ⟨(some 58), none, (.load true 3 (.t 5))⟩,
      ⟨(some 59), none, (.mv (.t 2))⟩,
      ⟨(some 60), none, (.mv (.t 9))⟩,
      ⟨(some 61), none, (.mv (.t 12))⟩,
      ⟨(some 62), none, (.call (.c (.fn (.func 31) [] [])) [(.t 60), (.t 61)])⟩,
      ⟨(some 63), none, (.call (.c (.fn (.func 30) [] [])) [(.t 62), (.c (.v (.string (mkS [32, 35, 32, 99, 10]))))])⟩,
      ⟨(some 64), none, (.call (.c (.fn (.func 28) [] [])) [(.t 57), (.t 58), (.t 59), (.t 63)])⟩,
      ⟨(some 56), none, (.mv (.t 64))⟩,
      ⟨(some 65), none, (.ext (.t 56) 0)⟩,
      ⟨(some 66), none, (.ext (.t 56) 1)⟩,
      ⟨(some 14), none, (.mv (.t 65))⟩,
      ⟨(some 15), none, (.mv (.t 66))⟩] [])
    (.seq (.ops [⟨(some 67), none, (.mv (.t 11))⟩,
      ⟨(some 68), none, (.bin .int .eql (.t 67) (.c (.v (.int .i64 0))))⟩,
      ⟨(some 69), none, (.mv (.t 68))⟩,
      ⟨(some 70), (some (69, true)), (.mv (.t 10))⟩,
      ⟨(some 71), (some (69, true)), (.mv (.t 3))⟩,
      ⟨(some 72), (some (69, true)), (.call (.c (.fn (.func 12) [] [])) [(.t 70), (.t 71)])⟩,
      ⟨(some 73), none, (.pick (.t 69) (.t 72) (.c (.v (.bool false))))⟩,
      ⟨(some 74), none, (.mv (.t 73))⟩,
      ⟨(some 75), (some (74, true)), (.mv (.t 15))⟩,
      ⟨(some 76), (some (74, true)), (.bin .int .eql (.t 75) (.c (.v (.int .i64 0))))⟩,
      ⟨(some 77), none, (.pick (.t 74) (.t 76) (.c (.v (.bool false))))⟩,
      ⟨(some 78), none, (.mv (.t 77))⟩,
      ⟨(some 79), (some (78, true)), (.mv (.t 14))⟩,
      ⟨(some 80), (some (78, true)), (.mv (.t 3))⟩,
      ⟨(some 81), (some (78, true)), (.call (.c (.fn (.func 12) [] [])) [(.t 79), (.t 80)])⟩,
      ⟨(some 82), none, (.pick (.t 78) (.t 81) (.c (.v (.bool false))))⟩,
      ⟨(some 83), none, (.mv (.t 82))⟩,
      ⟨(some 84), (some (83, true)), (.call (.c (.fn (.func 9) [] [])) [])⟩,
      ⟨(some 85), none, (.pick (.t 83) (.t 84) (.c (.v (.bool false))))⟩,
      ⟨(some 8), none, (.mv (.t 85))⟩])
    .ret)))))))⟩
theorem L8_ok : lowFn Try.prog Try.f8 [] = some L8 := by kernel_rfl

/-- assessor_assessorlaw11.awake -/
def L9 : LFn := ⟨91, [(.tmp 0)], (.seq (.ops [⟨(some 0), none, (.mv (.c (.v (.bool false))))⟩])
    (.seq (.ops [⟨(some 17), none, (.call (.c (.fn (.func 14) [] [])) [(.c (.v (.int .i64 4))), (.c (.v (.string (mkS [47])))), (.c (.v (.int .i64 (-8)))), (.c (.v (.int .i64 (-1))))])⟩,
      ⟨(some 16), none, (.mv (.t 17))⟩,
      ⟨(some 18), none, (.ext (.t 16) 0)⟩,
      ⟨(some 19), none, (.ext (.t 16) 1)⟩,
      ⟨(some 20), none, (.ext (.t 16) 2)⟩,
      ⟨(some 1), none, (.mv (.t 18))⟩,
      ⟨(some 2), none, (.mv (.t 19))⟩,
      ⟨(some 3), none, (.mv (.t 20))⟩])
    (.seq (.ops [⟨(some 22), none, (.call (.c (.fn (.func 14) [] [])) [(.c (.v (.int .i64 4))), (.c (.v (.string (mkS [37])))), (.c (.v (.int .i64 (-8)))), (.c (.v (.int .i64 (-1))))])⟩,
      ⟨(some 21), none, (.mv (.t 22))⟩,
      ⟨(some 23), none, (.ext (.t 21) 0)⟩,
      ⟨(some 24), none, (.ext (.t 21) 1)⟩,
      ⟨(some 25), none, (.ext (.t 21) 2)⟩,
      ⟨(some 4), none, (.mv (.t 23))⟩,
      ⟨(some 5), none, (.mv (.t 24))⟩,
      ⟨(some 6), none, (.mv (.t 25))⟩])
    (.seq (.ops [⟨(some 27), none, (.call (.c (.fn (.func 14) [] [])) [(.c (.v (.int .i64 4))), (.c (.v (.string (mkS [47])))), (.c (.v (.int .i64 (-7)))), (.c (.v (.int .i64 2)))])⟩,
      ⟨(some 26), none, (.mv (.t 27))⟩,
      ⟨(some 28), none, (.ext (.t 26) 0)⟩,
      ⟨(some 29), none, (.ext (.t 26) 1)⟩,
      ⟨(some 30), none, (.ext (.t 26) 2)⟩,
      ⟨(some 7), none, (.mv (.t 28))⟩,
      ⟨(some 8), none, (.mv (.t 29))⟩,
      ⟨(some 9), none, (.mv (.t 30))⟩])
    (.seq (.ops [⟨(some 32), none, (.call (.c (.fn (.func 14) [] [])) [(.c (.v (.int .i64 4))), (.c (.v (.string (mkS [37])))), (.c (.v (.int .i64 (-7)))), (.c (.v (.int .i64 2)))])⟩,
      ⟨(some 31), none, (.mv (.t 32))⟩,
      ⟨(some 33), none, (.ext (.t 31) 0)⟩,
      ⟨(some 34), none, (.ext (.t 31) 1)⟩,
      ⟨(some 35), none, (.ext (.t 31) 2)⟩,
      ⟨(some 10), none, (.mv (.t 33))⟩,
      ⟨(some 11), none, (.mv (.t 34))⟩,
      ⟨(some 12), none, (.mv (.t 35))⟩])
    (.seq (.ops [⟨(some 36), none, (.build [(.v (.int .i64 0)), (.v (.int .i64 0)), (.v (.string (mkS [])))] [(0, (1, (.c (.v (.int .i64 1)))))])⟩,
      ⟨(some 37), none, (.build [(.v (.string (mkS []))), (.v (.int .i64 0)), (.v (.int .i64 0)), (.v (.string (mkS [])))] [(0, (1, (.c (.v (.string (mkS [112, 120])))))), (1, (3, (.t 36)))])⟩,
      ⟨(some 38), none, (.build [(.v (.int .i64 0)), (.v (.int .i64 0)), (.v (.string (mkS [])))] [(0, (1, (.c (.v (.int .i64 2)))))])⟩,
      ⟨(some 39), none, (.build [(.v (.string (mkS []))), (.v (.int .i64 0)), (.v (.int .i64 0)), (.v (.string (mkS [])))] [(0, (1, (.c (.v (.string (mkS [112, 98])))))), (1, (3, (.t 38)))])⟩,
      ⟨(some 40), none, (.bsl true 4 2 [(.v (.string (mkS []))), (.v (.int .i64 0)), (.v (.int .i64 0)), (.v (.string (mkS [])))] [(0, (.t 37)), (1, (.t 39))])⟩,
      ⟨(some 41), none, (.build [(.v (.string (mkS []))), (.v (.slice none 0 0))] [(0, (1, (.c (.v (.string (mkS [112, 111, 105, 110, 116])))))), (1, (1, (.t 40)))])⟩,
      ⟨(some 42), none, (.bsl true 2 1 [(.v (.string (mkS []))), (.v (.slice none 0 0))] [(0, (.t 41))])⟩,
      ⟨(some 13), none, (.mv (.t 42))⟩])
    (.seq (.ops [⟨(some 44), none, (.bsl true 1 2 [(.v (.int .i64 0))] [(0, (.c (.v (.int .i64 0)))), (1, (.c (.v (.int .i64 0))))])⟩,
      ⟨(some 45), none, (.bsl true 1 2 [(.v (.int .i64 0))] [(0, (.c (.v (.int .i64 1)))), (1, (.c (.v (.int .i64 2))))])⟩,
      ⟨(some 46), none, (.bsl true 1 2 [(.v (.int .i64 0))] [(0, (.c (.v (.int .i64 0)))), (1, (.c (.v (.int .i64 2))))])⟩,
      ⟨(some 47), none, (.call (.c (.fn (.func 10) [] [])) [(.t 44), (.t 45), (.t 46)])⟩,
      ⟨(some 43), none, (.mv (.t 47))⟩,
      ⟨(some 48), none, (.ext (.t 43) 0)⟩,
      ⟨(some 49), none, (.ext (.t 43) 1)⟩,
      ⟨(some 14), none, (.mv (.t 48))⟩,
      ⟨(some 15), none, (.mv (.t 49))⟩])
    (.seq (.ops [⟨(some 50), none, (.call (.c (.fn (.func 13) [] [])) [(.c (.v (.int .i64 4))), (.c (.v (.int .i64 9)))])⟩,
      ⟨(some 51), none, (.bin .int .eql (.t 50) (.c (.v (.int .i64 (-7)))))⟩,
      ⟨(some 52), none, (.mv (.t 51))⟩,
      ⟨(some 53), (some (52, true)), (.mv (.t 1))⟩,
      ⟨(some 54), (some (52, true)), (.bin .int .eql (.t 53) (.c (.v (.int .i64 (-8)))))⟩,
      ⟨(some 55), none, (.pick (.t 52) (.t 54) (.c (.v (.bool false))))⟩,
      ⟨(some 56), none, (.mv (.t 55))⟩,
      ⟨(some 57), (some (56, true)), (.mv (.t 2))⟩,
      ⟨(some 58), (some (56, true)), (.bin .int .eql (.t 57) (.c (.v (.int .i64 0))))⟩,
      ⟨(some 59), none, (.pick (.t 56) (.t 58) (.c (.v (.bool false))))⟩,
      ⟨(some 60), none, (.mv (.t 59))⟩,
      ⟨(some 61), (some (60, true)), (.mv (.t 3))⟩,
      ⟨(some 62), (some (60, true)), (.bin .int .eql (.t 61) (.c (.v (.int .i64 0))))⟩,
      ⟨(some 63), none, (.pick (.t 60) (.t 62) (.c (.v (.bool false))))⟩,
      ⟨(some 64), none, (.mv (.t 63))⟩,
      ⟨(some 65), (some (64, true)), (.mv (.t 4))⟩,
      ⟨(some 66), (some (64, true)), (.bin .int .eql (.t 65) (.c (.v (.int .i64 0))))⟩,
      ⟨(some 67), none, (.pick (.t 64) (.t 66) (.c (.v (.bool false))))⟩,
      ⟨(some 68), none, (.mv (.t 67))⟩,
      ⟨(some 69), (some (68, true)), (.mv (.t 7))⟩,
      ⟨(some 70), (some (68, true)), (.bin .int .eql (.t 69) (.c (.v (.int .i64 (-3)))))⟩,
      ⟨(some 71), none, (.pick (.t 68) (.t 70) (.c (.v (.bool false))))⟩,
      ⟨(some 72), none, (.mv (.t 71))⟩,
      ⟨(some 73), (some (72, true)), (.mv (.t 10))⟩,
      ⟨(some 74), (some (72, true)), (.bin .int .eql (.t 73) (.c (.v (.int .i64 (-1)))))⟩,
      ⟨(some 75), none, (.pick (.t 72) (.t 74) (.c (.v (.bool false))))⟩,
      ⟨(some 76), none, (.mv (.t 75))⟩,
      ⟨(some 77), (some (76, true)), (.build [(.v (.int .i64 0)), (.v (.int .i64 0)), (.v (.string (mkS [])))] [(0, (1, (.c (.v (.int .i64 4))))), (2, (1, (.c (.v (.string (mkS [112, 111, 105, 110, 116]))))))])⟩,
      ⟨(some 78), (some (76, true)), (.mv (.t 13))⟩,
      ⟨(some 79), (some (76, true)), (.bsl true 1 2 [(.v (.int .i64 0))] [(0, (.c (.v (.int .i64 1)))), (1, (.c (.v (.int .i64 0))))])⟩,
      ⟨(some 80), (some (76, true)), (.call (.c (.fn (.func 27) [] [])) [(.t 77), (.t 78), (.t 79)])⟩,
      ⟨(some 81), (some (76, true)), (.bin .str .eql (.t 80) (.c (.v (.string (mkS [112, 111, 105, 110, 116, 40, 49, 44, 32, 102, 97, 108, 115, 101, 41])))))⟩,
      ⟨(some 82), none, (.pick (.t 76) (.t 81) (.c (.v (.bool false))))⟩,
      ⟨(some 83), none, (.mv (.t 82))⟩,
      ⟨(some 84), (some (83, true)), (.mv (.t 14))⟩,
      ⟨(some 85), (some (83, true)), (.bsl true 1 2 [(.v (.int .i64 0))] [(0, (.c (.v (.int .i64 1)))), (1, (.c (.v (.int .i64 0))))])⟩,
      ⟨(some 86), (some (83, true)), (.call (.c (.fn (.func 12) [] [])) [(.t 84), (.t 85)])⟩,
      ⟨(some 87), none, (.pick (.t 83) (.t 86) (.c (.v (.bool false))))⟩,
      ⟨(some 88), none, (.mv (.t 87))⟩,
      ⟨(some 89), (some (88, true)), (.mv (.t 15))⟩,
      ⟨(some 90), none, (.pick (.t 88) (.t 89) (.c (.v (.bool false))))⟩,
      ⟨(some 0), none, (.mv (.t 90))⟩])
    .ret))))))))⟩
theorem L9_ok : lowFn Try.prog Try.f9 [⟨5, 6, .imm⟩, ⟨5, 4, .imm⟩, ⟨6, 0, .imm⟩, ⟨6, 1, .imm⟩, ⟨6, 2, .imm⟩, ⟨7, 29, .imm⟩, ⟨7, 35, .imm⟩] = some L9 := by kernel_rfl

/-- assessor_value.Next -/
def L10 : LFn := ⟨79, [(.tmp 6), (.tmp 7)], (.seq (.ops [⟨(some 6), none, (.mv (.c (.v (.slice none 0 0))))⟩,
      ⟨(some 7), none, (.mv (.c (.v (.bool false))))⟩])
    (.seq (.seq (.ops [⟨(some 12), none, (.mv (.t 0))⟩,
      ⟨(some 13), none, (.len .slc (.t 12))⟩,
      ⟨(some 14), none, (.mv (.t 2))⟩,
      ⟨(some 15), none, (.len .slc (.t 14))⟩,
      ⟨(some 16), none, (.bin .int .neq (.t 13) (.t 15))⟩,
      ⟨(some 17), none, (.mv (.t 16))⟩,
      ⟨(some 18), (some (17, false)), (.mv (.t 1))⟩,
      ⟨(some 19), (some (17, false)), (.len .slc (.t 18))⟩,
      ⟨(some 20), (some (17, false)), (.mv (.t 2))⟩,
      ⟨(some 21), (some (17, false)), (.len .slc (.t 20))⟩,
      ⟨(some 22), (some (17, false)), (.bin .int .neq (.t 19) (.t 21))⟩,
      ⟨(some 23), none, (.pick (.t 17) (.c (.v (.bool true))) (.t 22))⟩])
    (.cond (.t 23)
    (.seq (.ops [⟨(some 6), none, (.mv (.c (.v (.slice none 0 0))))⟩,
      ⟨(some 7), none, (.mv (.c (.v (.bool false))))⟩])
    .ret)
    .skip))
    (.seq (.seq (.ops [⟨(some 24), none, (.mv (.t 2))⟩,
      ⟨(some 25), none, (.len .slc (.t 24))⟩,
      ⟨(some 26), none, (.mv (.c (.v (.int .i64 0))))⟩])
    (.block 0 (.loop (.seq (.ops [⟨(some 27), none, (.bin .int .lss (.t 26) (.t 25))⟩])
    (.seq (.cond (.t 27)
    .skip
    (.exit 0))
    (.seq (.block 1 (.seq (.ops [⟨(some 28), none, (.mv (.t 26))⟩,
      ⟨(some 29), none, (.iaddr 1 (.t 24) (.t 26))⟩,
      ⟨(some 30), none, (.load false 1 (.t 29))⟩,
      ⟨(some 8), none, (.mv (.t 28))⟩,
      ⟨(some 9), none, (.mv (.t 30))⟩])
    (.seq (.ops [⟨(some 31), none, (.mv (.t 9))⟩,
      ⟨(some 32), none, (.mv (.t 0))⟩,
      ⟨(some 33), none, (.mv (.t 8))⟩,
      ⟨(some 34), none, (.iaddr 1 (.t 32) (.t 33))⟩,
      ⟨(some 35), none, (.load false 1 (.t 34))⟩,
      ⟨(some 36), none, (.bin .int .lss (.t 31) (.t 35))⟩,
      ⟨(some 37), none, (.mv (.t 36))⟩,
      ⟨(some 38), (some (37, false)), (.mv (.t 9))⟩,
      ⟨(some 39), (some (37, false)), (.mv (.t 1))⟩,
      ⟨(some 40), (some (37, false)), (.mv (.t 8))⟩,
      ⟨(some 41), (some (37, false)), (.iaddr 1 (.t 39) (.t 40))⟩,
      ⟨(some 42), (some (37, false)), (.load false 1 (.t 41))⟩,
      ⟨(some 43), (some (37, false)), (.bin .int .gtr (.t 38) (.t 42))⟩,
      ⟨(some 44), none, (.pick (.t 37) (.c (.v (.bool true))) (.t 43))⟩])
    (.cond (.t 44)
    (.seq (.ops [⟨(some 6), none, (.mv (.c (.v (.slice none 0 0))))⟩,
      ⟨(some 7), none, (.mv (.c (.v (.bool false))))⟩])
    .ret)
    .skip))))
    (.ops [⟨(some 45), none, (.bin .int .add (.t 26) (.c (.v (.int .i64 1))))⟩,
      ⟨(some 26), none, (.mv (.t 45))⟩])))))))
    (.seq (.ops [⟨(some 46), none, (.bsl false 1 0 [(.v (.int .i64 0))] [])⟩,
      ⟨(some 47), none, (.mv (.t 2))⟩,
      ⟨(some 48), none, (.append 1 8 (.t 46) (.t 47))⟩,
      ⟨(some 10), none, (.mv (.t 48))⟩])
    (.seq (.seq (.ops [⟨(some 49), none, (.mv (.t 2))⟩,
      ⟨(some 50), none, (.len .slc (.t 49))⟩,
      ⟨(some 51), none, (.bin .int .sub (.t 50) (.c (.v (.int .i64 1))))⟩,
      ⟨(some 11), none, (.mv (.t 51))⟩])
    (.block 2 (.loop (.seq (.seq (.ops [⟨(some 52), none, (.mv (.t 11))⟩,
      ⟨(some 53), none, (.bin .int .geq (.t 52) (.c (.v (.int .i64 0))))⟩])
    (.cond (.t 53)
    .skip
    (.exit 2)))
    (.seq (.block 3 (.seq (.seq (.draw [⟨(some 56), none, (.mv (.t 10))⟩,
      ⟨(some 57), none, (.mv (.t 11))⟩,
      ⟨(some 58), none, (.iaddr 1 (.t 56) (.t 57))⟩,
      ⟨(some 59), none, (.load false 1 (.t 58))⟩,
      ⟨(some 60), none, (.mv (.t 1))⟩,
      ⟨(some 61), none, (.mv (.t 11))⟩,
      ⟨(some 62), none, (.iaddr 1 (.t 60) (.t 61))⟩,
      ⟨(some 63), none, (.load false 1 (.t 62))⟩,
      ⟨(some 64), none, (.bin .int .lss (.t 59) (.t 63))⟩] [])
    (.cond (.t 64)
    (.seq (.ops [⟨(some 65), none, (.mv (.t 10))⟩,
      ⟨(some 66), none, (.mv (.t 11))⟩,
      ⟨(some 67), none, (.iaddr 1 (.t 65) (.t 66))⟩,
      ⟨(some 68), none, (.load false 1 (.t 67))⟩,
      ⟨(some 69), none, (.bin .int .add (.t 68) (.c (.v (.int .i64 1))))⟩,
      ⟨(some 70), none, (.iaddr 1 (.t 65) (.t 66))⟩,
      ⟨none, none, (.store 1 (.t 70) (.t 69))⟩])
    (.seq (.ops [⟨(some 71), none, (.mv (.t 10))⟩,
      ⟨(some 6), none, (.mv (.t 71))⟩,
      ⟨(some 7), none, (.mv (.c (.v (.bool true))))⟩,
      ⟨(some 6), none, (.frz (.t 6))⟩])
    .ret))
    .skip))
    (.ops [⟨(some 72), none, (.mv (.t 10))⟩,
      ⟨(some 73), none, (.mv (.t 11))⟩,
      ⟨(some 74), none, (.mv (.t 0))⟩,
      ⟨(some 75), none, (.mv (.t 11))⟩,
      ⟨(some 76), none, (.iaddr 1 (.t 74) (.t 75))⟩,
      ⟨(some 77), none, (.load false 1 (.t 76))⟩,
      ⟨(some 78), none, (.iaddr 1 (.t 72) (.t 73))⟩,
      ⟨none, none, (.store 1 (.t 78) (.t 77))⟩])))
    (.ops [⟨(some 54), none, (.mv (.t 11))⟩,
      ⟨(some 55), none, (.bin .int .sub (.t 54) (.c (.v (.int .i64 1))))⟩,
      ⟨(some 11), none, (.mv (.t 55))⟩]))))))
    (.seq (.ops [⟨(some 6), none, (.mv (.c (.v (.slice none 0 0))))⟩,
      ⟨(some 7), none, (.mv (.c (.v (.bool false))))⟩])
    .ret))))))⟩
theorem L10_ok : lowFn Try.prog Try.f10 [⟨15, 3, (.pre 6 (.frz (.t 6)))⟩] = some L10 := by kernel_rfl

/-- assessor_assessorref11.Next -/
def L11 : LFn := ⟨84, [(.tmp 6), (.tmp 7)], (.seq (.ops [⟨(some 6), none, (.mv (.c (.v (.slice none 0 0))))⟩,
      ⟨(some 7), none, (.mv (.c (.v (.bool false))))⟩])
    (.seq (.seq (.ops [⟨(some 11), none, (.mv (.t 0))⟩,
      ⟨(some 12), none, (.len .slc (.t 11))⟩,
      ⟨(some 13), none, (.mv (.t 2))⟩,
      ⟨(some 14), none, (.len .slc (.t 13))⟩,
      ⟨(some 15), none, (.bin .int .neq (.t 12) (.t 14))⟩,
      ⟨(some 16), none, (.mv (.t 15))⟩,
      ⟨(some 17), (some (16, false)), (.mv (.t 1))⟩,
      ⟨(some 18), (some (16, false)), (.len .slc (.t 17))⟩,
      ⟨(some 19), (some (16, false)), (.mv (.t 2))⟩,
      ⟨(some 20), (some (16, false)), (.len .slc (.t 19))⟩,
      ⟨(some 21), (some (16, false)), (.bin .int .neq (.t 18) (.t 20))⟩,
      ⟨(some 22), none, (.pick (.t 16) (.c (.v (.bool true))) (.t 21))⟩])
    (.cond (.t 22)
    (.seq (.ops [⟨(some 6), none, (.mv (.c (.v (.slice none 0 0))))⟩,
      ⟨(some 7), none, (.mv (.c (.v (.bool false))))⟩])
    .ret)
    .skip))
    (.seq (.seq (.ops [⟨(some 8), none, (.mv (.c (.v (.int .i64 0))))⟩])
    (.block 0 (.loop (.seq (.seq (.ops [⟨(some 23), none, (.mv (.t 8))⟩,
      ⟨(some 24), none, (.mv (.t 2))⟩,
      ⟨(some 25), none, (.len .slc (.t 24))⟩,
      ⟨(some 26), none, (.bin .int .lss (.t 23) (.t 25))⟩])
    (.cond (.t 26)
    .skip
    (.exit 0)))
    (.seq (.block 1 (.seq (.draw [⟨(some 29), none, (.mv (.t 2))⟩,
      ⟨(some 30), none, (.mv (.t 8))⟩,
      ⟨(some 31), none, (.iaddr 1 (.t 29) (.t 30))⟩,
      ⟨(some 32), none, (.load false 1 (.t 31))⟩,
      ⟨(some 33), none, (.mv (.t 0))⟩,
      ⟨(some 34), none, (.mv (.t 8))⟩,
      ⟨(some 35), none, (.iaddr 1 (.t 33) (.t 34))⟩,
      ⟨(some 36), none, (.load false 1 (.t 35))⟩,
      ⟨(some 37), none, (.bin .int .lss (.t 32) (.t 36))⟩,
      ⟨(some 38), none, (.mv (.t 37))⟩,
      ⟨(some 39), (some (38, false)), (.mv (.t 2))⟩,
      ⟨(some 40), (some (38, false)), (.mv (.t 8))⟩,
      ⟨(some 41), (some (38, false)), (.iaddr 1 (.t 39) (.t 40))⟩,
      ⟨(some 42), (some (38, false)), (.load false 1 (.t 41))⟩,
      ⟨(some 43), (some (38, false)), (.mv (.t 1))⟩,
      ⟨(some 44), (some (38, false)), (.mv (.t 8))⟩,
      ⟨(some 45), (some (38, false)), (.iaddr 1 (.t 43) (.t 44))⟩,
      ⟨(some 46), (some (38, false)), (.load false 1 (.t 45))⟩,
      ⟨(some 47), (some (38, false)), (.bin .int .gtr (.t 42) (.t 46))⟩,
      ⟨(some 48), none, (.pick (.t 38) (.c (.v (.bool true))) (.t 47))⟩] [])
    (.cond (.t 48)
    (.seq (.ops [⟨(some 6), none, (.mv (.c (.v (.slice none 0 0))))⟩,
      ⟨(some 7), none, (.mv (.c (.v (.bool false))))⟩])
    .ret)
    .skip)))
    (.ops [⟨(some 27), none, (.mv (.t 8))⟩,
      ⟨(some 28), none, (.bin .int .add (.t 27) (.c (.v (.int .i64 1))))⟩,
      ⟨(some 8), none, (.mv (.t 28))⟩]))))))
    (.seq (.ops [⟨(some 49), none, (.bsl false 1 0 [(.v (.int .i64 0))] [])⟩,
      ⟨(some 50), none, (.mv (.t 2))⟩,
      ⟨(some 51), none, (.append 1 8 (.t 49) (.t 50))⟩,
      ⟨(some 9), none, (.mv (.t 51))⟩])
    (.seq (.seq (.ops [⟨(some 52), none, (.mv (.t 2))⟩,
      ⟨(some 53), none, (.len .slc (.t 52))⟩,
      ⟨(some 54), none, (.bin .int .sub (.t 53) (.c (.v (.int .i64 1))))⟩,
      ⟨(some 10), none, (.mv (.t 54))⟩])
    (.block 2 (.loop (.seq (.seq (.ops [⟨(some 55), none, (.mv (.t 10))⟩,
      ⟨(some 56), none, (.bin .int .geq (.t 55) (.c (.v (.int .i64 0))))⟩])
    (.cond (.t 56)
    .skip
    (.exit 2)))
    (.seq (.block 3 (.seq (.seq (.draw [⟨(some 59), none, (.mv (.t 9))⟩,
      ⟨(some 60), none, (.mv (.t 10))⟩,
      ⟨(some 61), none, (.iaddr 1 (.t 59) (.t 60))⟩,
      ⟨(some 62), none, (.load false 1 (.t 61))⟩,
      ⟨(some 63), none, (.mv (.t 1))⟩,
      ⟨(some 64), none, (.mv (.t 10))⟩,
      ⟨(some 65), none, (.iaddr 1 (.t 63) (.t 64))⟩,
      ⟨(some 66), none, (.load false 1 (.t 65))⟩,
      ⟨(some 67), none, (.bin .int .lss (.t 62) (.t 66))⟩] [])
    (.cond (.t 67)
    (.seq (.ops [⟨(some 68), none, (.mv (.t 9))⟩,
      ⟨(some 69), none, (.mv (.t 10))⟩,
      ⟨(some 70), none, (.mv (.t 9))⟩,
      ⟨(some 71), none, (.mv (.t 10))⟩,
      ⟨(some 72), none, (.iaddr 1 (.t 70) (.t 71))⟩,
      ⟨(some 73), none, (.load false 1 (.t 72))⟩,
      ⟨(some 74), none, (.bin .int .add (.t 73) (.c (.v (.int .i64 1))))⟩,
      ⟨(some 75), none, (.iaddr 1 (.t 68) (.t 69))⟩,
      ⟨none, none, (.store 1 (.t 75) (.t 74))⟩])
    (.seq (.ops [⟨(some 76), none, (.mv (.t 9))⟩,
      ⟨(some 6), none, (.mv (.t 76))⟩,
      ⟨(some 7), none, (.mv (.c (.v (.bool true))))⟩,
      ⟨(some 6), none, (.frz (.t 6))⟩])
    .ret))
    .skip))
    (.ops [⟨(some 77), none, (.mv (.t 9))⟩,
      ⟨(some 78), none, (.mv (.t 10))⟩,
      ⟨(some 79), none, (.mv (.t 0))⟩,
      ⟨(some 80), none, (.mv (.t 10))⟩,
      ⟨(some 81), none, (.iaddr 1 (.t 79) (.t 80))⟩,
      ⟨(some 82), none, (.load false 1 (.t 81))⟩,
      ⟨(some 83), none, (.iaddr 1 (.t 77) (.t 78))⟩,
      ⟨none, none, (.store 1 (.t 83) (.t 82))⟩])))
    (.ops [⟨(some 57), none, (.mv (.t 10))⟩,
      ⟨(some 58), none, (.bin .int .sub (.t 57) (.c (.v (.int .i64 1))))⟩,
      ⟨(some 10), none, (.mv (.t 58))⟩]))))))
    (.seq (.ops [⟨(some 6), none, (.mv (.c (.v (.slice none 0 0))))⟩,
      ⟨(some 7), none, (.mv (.c (.v (.bool false))))⟩])
    .ret))))))⟩
theorem L11_ok : lowFn Try.prog Try.f11 [⟨14, 3, (.pre 6 (.frz (.t 6)))⟩] = some L11 := by kernel_rfl

/-- assessor_assessorref01.Ints -/
def L12 : LFn := ⟨26, [(.tmp 4)], (.seq (.ops [⟨(some 4), none, (.mv (.c (.v (.bool false))))⟩])
    (.seq (.seq (.ops [⟨(some 6), none, (.mv (.t 0))⟩,
      ⟨(some 7), none, (.len .slc (.t 6))⟩,
      ⟨(some 8), none, (.mv (.t 1))⟩,
      ⟨(some 9), none, (.len .slc (.t 8))⟩,
      ⟨(some 10), none, (.bin .int .neq (.t 7) (.t 9))⟩])
    (.cond (.t 10)
    (.seq (.ops [⟨(some 4), none, (.mv (.c (.v (.bool false))))⟩])
    .ret)
    .skip))
    (.seq (.seq (.ops [⟨(some 5), none, (.mv (.c (.v (.int .i64 0))))⟩])
    (.block 0 (.loop (.seq (.seq (.ops [⟨(some 11), none, (.mv (.t 5))⟩,
      ⟨(some 12), none, (.mv (.t 0))⟩,
      ⟨(some 13), none, (.len .slc (.t 12))⟩,
      ⟨(some 14), none, (.bin .int .lss (.t 11) (.t 13))⟩])
    (.cond (.t 14)
    .skip
    (.exit 0)))
    (.seq (.block 1 (.seq (.draw [⟨(some 17), none, (.mv (.t 0))⟩,
      ⟨(some 18), none, (.mv (.t 5))⟩,
      ⟨(some 19), none, (.iaddr 1 (.t 17) (.t 18))⟩,
      ⟨(some 20), none, (.load false 1 (.t 19))⟩,
      ⟨(some 21), none, (.mv (.t 1))⟩,
      ⟨(some 22), none, (.mv (.t 5))⟩,
      ⟨(some 23), none, (.iaddr 1 (.t 21) (.t 22))⟩,
      ⟨(some 24), none, (.load false 1 (.t 23))⟩,
      ⟨(some 25), none, (.bin .int .neq (.t 20) (.t 24))⟩] [])
    (.cond (.t 25)
    (.seq (.ops [⟨(some 4), none, (.mv (.c (.v (.bool false))))⟩])
    .ret)
    .skip)))
    (.ops [⟨(some 15), none, (.mv (.t 5))⟩,
      ⟨(some 16), none, (.bin .int .add (.t 15) (.c (.v (.int .i64 1))))⟩,
      ⟨(some 5), none, (.mv (.t 16))⟩]))))))
    (.seq (.ops [⟨(some 4), none, (.mv (.c (.v (.bool true))))⟩])
    .ret))))⟩
theorem L12_ok : lowFn Try.prog Try.f12 [] = some L12 := by kernel_rfl

/-- assessor_value.Wrap -/
def L13 : LFn := ⟨16, [(.tmp 4)], (.seq (.ops [⟨(some 4), none, (.mv (.c (.v (.int .i64 0))))⟩])
    (.seq (.seq (.ops [⟨(some 6), none, (.mv (.t 0))⟩,
      ⟨(some 7), none, (.call (.c (.fn (.func 32) [] [])) [(.t 6)])⟩,
      ⟨(some 8), none, (.not (.t 7))⟩])
    (.cond (.t 8)
    (.seq (.ops [⟨(some 4), none, (.mv (.c (.v (.int .i64 0))))⟩])
    .ret)
    .skip))
    (.seq (.ops [⟨(some 9), none, (.mv (.t 0))⟩,
      ⟨(some 10), none, (.bin .int .sub (.c (.v (.int .i64 64))) (.t 9))⟩,
      ⟨(some 5), none, (.mv (.t 10))⟩])
    (.seq (.ops [⟨(some 11), none, (.mv (.t 1))⟩,
      ⟨(some 12), none, (.mv (.t 5))⟩,
      ⟨(some 13), none, (.bin .int .shl (.t 11) (.t 12))⟩,
      ⟨(some 14), none, (.mv (.t 5))⟩,
      ⟨(some 15), none, (.bin .int .shr (.t 13) (.t 14))⟩,
      ⟨(some 4), none, (.mv (.t 15))⟩])
    .ret))))⟩
theorem L13_ok : lowFn Try.prog Try.f13 [] = some L13 := by kernel_rfl

/-- assessor_value.Binary -/
def L14 : LFn := ⟨73, [(.tmp 8), (.tmp 9), (.tmp 10)], (.seq (.ops [⟨(some 8), none, (.mv (.c (.v (.int .i64 0))))⟩,
      ⟨(some 9), none, (.mv (.c (.v (.int .i64 0))))⟩,
      ⟨(some 10), none, (.mv (.c (.v (.int .i64 0))))⟩])
    (.seq (.seq (.ops [⟨(some 15), none, (.mv (.t 0))⟩,
      ⟨(some 16), none, (.call (.c (.fn (.func 32) [] [])) [(.t 15)])⟩,
      ⟨(some 17), none, (.not (.t 16))⟩])
    (.cond (.t 17)
    (.seq (.ops [⟨(some 8), none, (.mv (.c (.v (.int .i64 0))))⟩,
      ⟨(some 9), none, (.mv (.c (.v (.int .i64 0))))⟩,
      ⟨(some 10), none, (.mv (.c (.v (.int .i64 2))))⟩])
    .ret)
    .skip))
    (.seq (.ops [⟨(some 19), none, (.call (.c (.fn (.func 33) [] [])) [])⟩,
      ⟨(some 20), none, (.mv (.t 1))⟩,
      ⟨(some 21), none, (.look .str (.v .nilFunc) true (.t 19) (.t 20))⟩,
      ⟨(some 18), none, (.mv (.t 21))⟩,
      ⟨(some 22), none, (.ext (.t 18) 0)⟩,
      ⟨(some 23), none, (.ext (.t 18) 1)⟩,
      ⟨(some 11), none, (.mv (.t 22))⟩,
      ⟨(some 12), none, (.mv (.t 23))⟩])
    (.seq (.seq (.ops [⟨(some 24), none, (.mv (.t 12))⟩,
      ⟨(some 25), none, (.not (.t 24))⟩])
    (.cond (.t 25)
    (.seq (.ops [⟨(some 8), none, (.mv (.c (.v (.int .i64 0))))⟩,
      ⟨(some 9), none, (.mv (.c (.v (.int .i64 0))))⟩,
      ⟨(some 10), none, (.mv (.c (.v (.int .i64 1))))⟩])
    .ret)
    .skip))
    (.seq (.ops [⟨(some 26), none, (.mv (.t 1))⟩,
      ⟨(some 27), none, (.bin .str .eql (.t 26) (.c (.v (.string (mkS [97, 110, 100])))))⟩,
      ⟨(some 28), none, (.mv (.t 27))⟩,
      ⟨(some 29), (some (28, false)), (.mv (.t 1))⟩,
      ⟨(some 30), (some (28, false)), (.bin .str .eql (.t 29) (.c (.v (.string (mkS [111, 114])))))⟩,
      ⟨(some 31), none, (.pick (.t 28) (.c (.v (.bool true))) (.t 30))⟩,
      ⟨(some 13), none, (.mv (.t 31))⟩])
    (.seq (.seq (.ops [⟨(some 32), none, (.mv (.t 13))⟩,
      ⟨(some 33), none, (.mv (.t 32))⟩,
      ⟨(some 34), (some (33, true)), (.mv (.t 2))⟩,
      ⟨(some 35), (some (33, true)), (.call (.c (.fn (.func 34) [] [])) [(.t 34)])⟩,
      ⟨(some 36), (some (33, true)), (.mv (.t 35))⟩,
      ⟨(some 37), (some (36, true)), (.mv (.t 3))⟩,
      ⟨(some 38), (some (36, true)), (.call (.c (.fn (.func 34) [] [])) [(.t 37)])⟩,
      ⟨(some 39), (some (33, true)), (.pick (.t 36) (.t 38) (.c (.v (.bool false))))⟩,
      ⟨(some 40), (some (33, true)), (.not (.t 39))⟩,
      ⟨(some 41), none, (.pick (.t 33) (.t 40) (.c (.v (.bool false))))⟩,
      ⟨(some 42), none, (.mv (.t 41))⟩,
      ⟨(some 43), (some (42, false)), (.mv (.t 0))⟩,
      ⟨(some 44), (some (42, false)), (.mv (.t 2))⟩,
      ⟨(some 45), (some (42, false)), (.call (.c (.fn (.func 35) [] [])) [(.t 43), (.t 44)])⟩,
      ⟨(some 46), (some (42, false)), (.mv (.t 45))⟩,
      ⟨(some 47), (some (46, true)), (.mv (.t 0))⟩,
      ⟨(some 48), (some (46, true)), (.mv (.t 3))⟩,
      ⟨(some 49), (some (46, true)), (.call (.c (.fn (.func 35) [] [])) [(.t 47), (.t 48)])⟩,
      ⟨(some 50), (some (42, false)), (.pick (.t 46) (.t 49) (.c (.v (.bool false))))⟩,
      ⟨(some 51), (some (42, false)), (.not (.t 50))⟩,
      ⟨(some 52), none, (.pick (.t 42) (.c (.v (.bool true))) (.t 51))⟩])
    (.cond (.t 52)
    (.seq (.ops [⟨(some 8), none, (.mv (.c (.v (.int .i64 0))))⟩,
      ⟨(some 9), none, (.mv (.c (.v (.int .i64 0))))⟩,
      ⟨(some 10), none, (.mv (.c (.v (.int .i64 2))))⟩])
    .ret)
    .skip))
    (.seq (.seq (.ops [⟨(some 53), none, (.mv (.t 3))⟩,
      ⟨(some 54), none, (.bin .int .eql (.t 53) (.c (.v (.int .i64 0))))⟩,
      ⟨(some 55), none, (.mv (.t 54))⟩,
      ⟨(some 56), (some (55, true)), (.mv (.t 1))⟩,
      ⟨(some 57), (some (55, true)), (.bin .str .eql (.t 56) (.c (.v (.string (mkS [47])))))⟩,
      ⟨(some 58), (some (55, true)), (.mv (.t 57))⟩,
      ⟨(some 59), (some (58, false)), (.mv (.t 1))⟩,
      ⟨(some 60), (some (58, false)), (.bin .str .eql (.t 59) (.c (.v (.string (mkS [37])))))⟩,
      ⟨(some 61), (some (55, true)), (.pick (.t 58) (.c (.v (.bool true))) (.t 60))⟩,
      ⟨(some 62), none, (.pick (.t 55) (.t 61) (.c (.v (.bool false))))⟩])
    (.cond (.t 62)
    (.seq (.ops [⟨(some 8), none, (.mv (.c (.v (.int .i64 0))))⟩,
      ⟨(some 9), none, (.mv (.c (.v (.int .i64 1))))⟩,
      ⟨(some 10), none, (.mv (.c (.v (.int .i64 0))))⟩])
    .ret)
    .skip))
    (.seq (.ops [⟨(some 63), none, (.mv (.t 11))⟩,
      ⟨(some 64), none, (.mv (.t 2))⟩,
      ⟨(some 65), none, (.mv (.t 3))⟩,
      ⟨(some 66), none, (.call (.t 63) [(.t 64), (.t 65)])⟩,
      ⟨(some 14), none, (.mv (.t 66))⟩])
    (.seq (.seq (.ops [⟨(some 67), none, (.mv (.t 1))⟩,
      ⟨(some 68), none, (.call (.c (.fn (.func 36) [] [])) [(.c (.v (.string (mkS [43, 45, 42, 47, 37])))), (.t 67)])⟩])
    (.cond (.t 68)
    (.ops [⟨(some 69), none, (.mv (.t 0))⟩,
      ⟨(some 70), none, (.mv (.t 14))⟩,
      ⟨(some 71), none, (.call (.c (.fn (.func 13) [] [])) [(.t 69), (.t 70)])⟩,
      ⟨(some 14), none, (.mv (.t 71))⟩])
    .skip))
    (.seq (.ops [⟨(some 72), none, (.mv (.t 14))⟩,
      ⟨(some 8), none, (.mv (.t 72))⟩,
      ⟨(some 9), none, (.mv (.c (.v (.int .i64 0))))⟩,
      ⟨(some 10), none, (.mv (.c (.v (.int .i64 0))))⟩])
    .ret))))))))))⟩
theorem L14_ok : lowFn Try.prog Try.f14 [] = some L14 := by kernel_rfl

/-- assessor_assessorref11.Binary -/
def L15 : LFn := ⟨148, [(.tmp 8), (.tmp 9), (.tmp 10)], (.seq (.ops [⟨(some 8), none, (.mv (.c (.v (.int .i64 0))))⟩,
      ⟨(some 9), none, (.mv (.c (.v (.int .i64 0))))⟩,
      ⟨(some 10), none, (.mv (.c (.v (.int .i64 0))))⟩])
    (.seq (.seq (.ops [⟨(some 13), none, (.mv (.t 0))⟩,
      ⟨(some 14), none, (.call (.c (.fn (.func 37) [] [])) [(.t 13)])⟩,
      ⟨(some 15), none, (.not (.t 14))⟩])
    (.cond (.t 15)
    (.seq (.ops [⟨(some 8), none, (.mv (.c (.v (.int .i64 0))))⟩,
      ⟨(some 9), none, (.mv (.c (.v (.int .i64 0))))⟩,
      ⟨(some 10), none, (.mv (.c (.v (.int .i64 2))))⟩])
    .ret)
    .skip))
    (.seq (.seq (.ops [⟨(some 16), none, (.bsl true 1 13 [(.v (.string (mkS [])))] [(0, (.c (.v (.string (mkS [43]))))), (1, (.c (.v (.string (mkS [45]))))), (2, (.c (.v (.string (mkS [42]))))), (3, (.c (.v (.string (mkS [47]))))), (4, (.c (.v (.string (mkS [37]))))), (5, (.c (.v (.string (mkS [61, 61]))))), (6, (.c (.v (.string (mkS [33, 61]))))), (7, (.c (.v (.string (mkS [60]))))), (8, (.c (.v (.string (mkS [60, 61]))))), (9, (.c (.v (.string (mkS [62]))))), (10, (.c (.v (.string (mkS [62, 61]))))), (11, (.c (.v (.string (mkS [97, 110, 100]))))), (12, (.c (.v (.string (mkS [111, 114])))))])⟩,
      ⟨(some 17), none, (.mv (.t 1))⟩,
      ⟨(some 18), none, (.call (.c (.fn (.func 38) [] [])) [(.t 16), (.t 17)])⟩,
      ⟨(some 19), none, (.not (.t 18))⟩])
    (.cond (.t 19)
    (.seq (.ops [⟨(some 8), none, (.mv (.c (.v (.int .i64 0))))⟩,
      ⟨(some 9), none, (.mv (.c (.v (.int .i64 0))))⟩,
      ⟨(some 10), none, (.mv (.c (.v (.int .i64 1))))⟩])
    .ret)
    .skip))
    (.seq (.ops [⟨(some 20), none, (.mv (.t 1))⟩,
      ⟨(some 21), none, (.bin .str .eql (.t 20) (.c (.v (.string (mkS [97, 110, 100])))))⟩,
      ⟨(some 22), none, (.mv (.t 21))⟩,
      ⟨(some 23), (some (22, false)), (.mv (.t 1))⟩,
      ⟨(some 24), (some (22, false)), (.bin .str .eql (.t 23) (.c (.v (.string (mkS [111, 114])))))⟩,
      ⟨(some 25), none, (.pick (.t 22) (.c (.v (.bool true))) (.t 24))⟩,
      ⟨(some 11), none, (.mv (.t 25))⟩])
    (.seq (.seq (.ops [⟨(some 26), none, (.mv (.t 11))⟩,
      ⟨(some 27), none, (.mv (.t 26))⟩,
      ⟨(some 28), (some (27, true)), (.mv (.t 2))⟩,
      ⟨(some 29), (some (27, true)), (.call (.c (.fn (.func 39) [] [])) [(.t 28)])⟩,
      ⟨(some 30), (some (27, true)), (.not (.t 29))⟩,
      ⟨(some 31), (some (27, true)), (.mv (.t 30))⟩,
      ⟨(some 32), (some (31, false)), (.mv (.t 3))⟩,
      ⟨(some 33), (some (31, false)), (.call (.c (.fn (.func 39) [] [])) [(.t 32)])⟩,
      ⟨(some 34), (some (31, false)), (.not (.t 33))⟩,
      ⟨(some 35), (some (27, true)), (.pick (.t 31) (.c (.v (.bool true))) (.t 34))⟩,
      ⟨(some 36), none, (.pick (.t 27) (.t 35) (.c (.v (.bool false))))⟩,
      ⟨(some 37), none, (.mv (.t 36))⟩,
      ⟨(some 38), (some (37, false)), (.mv (.t 0))⟩,
      ⟨(some 39), (some (37, false)), (.mv (.t 2))⟩,
      ⟨(some 40), (some (37, false)), (.call (.c (.fn (.func 40) [] [])) [(.t 38), (.t 39)])⟩,
      ⟨(some 41), (some (37, false)), (.not (.t 40))⟩,
      ⟨(some 42), (some (37, false)), (.mv (.t 41))⟩,
      ⟨(some 43), (some (42, true)), (.mv (.t 11))⟩,
      ⟨(some 44), (some (42, true)), (.not (.t 43))⟩,
      ⟨(some 45), (some (37, false)), (.pick (.t 42) (.t 44) (.c (.v (.bool false))))⟩,
      ⟨(some 46), none, (.pick (.t 37) (.c (.v (.bool true))) (.t 45))⟩,
      ⟨(some 47), none, (.mv (.t 46))⟩,
      ⟨(some 48), (some (47, false)), (.mv (.t 0))⟩,
      ⟨(some 49), (some (47, false)), (.mv (.t 3))⟩,
      ⟨(some 50), (some (47, false)), (.call (.c (.fn (.func 40) [] [])) [(.t 48), (.t 49)])⟩,
      ⟨(some 51), (some (47, false)), (.not (.t 50))⟩,
      ⟨(some 52), (some (47, false)), (.mv (.t 51))⟩,
      ⟨(some 53), (some (52, true)), (.mv (.t 11))⟩,
      ⟨(some 54), (some (52, true)), (.not (.t 53))⟩,
      ⟨(some 55), (some (47, false)), (.pick (.t 52) (.t 54) (.c (.v (.bool false))))⟩,
      ⟨(some 56), none, (.pick (.t 47) (.c (.v (.bool true))) (.t 55))⟩])
    (.cond (.t 56)
    (.seq (.ops [⟨(some 8), none, (.mv (.c (.v (.int .i64 0))))⟩,
      ⟨(some 9), none, (.mv (.c (.v (.int .i64 0))))⟩,
      ⟨(some 10), none, (.mv (.c (.v (.int .i64 2))))⟩])
    .ret)
    .skip))
    (.seq (.seq (.ops [⟨(some 57), none, (.mv (.t 1))⟩,
      ⟨(some 58), none, (.bin .str .eql (.t 57) (.c (.v (.string (mkS [47])))))⟩,
      ⟨(some 59), none, (.mv (.t 58))⟩,
      ⟨(some 60), (some (59, false)), (.mv (.t 1))⟩,
      ⟨(some 61), (some (59, false)), (.bin .str .eql (.t 60) (.c (.v (.string (mkS [37])))))⟩,
      ⟨(some 62), none, (.pick (.t 59) (.c (.v (.bool true))) (.t 61))⟩,
      ⟨(some 63), none, (.mv (.t 62))⟩,
      ⟨(some 64), (some (63, true)), (.mv (.t 3))⟩,
      ⟨(some 65), (some (63, true)), (.bin .int .eql (.t 64) (.c (.v (.int .i64 0))))⟩,
      ⟨(some 66), none, (.pick (.t 63) (.t 65) (.c (.v (.bool false))))⟩])
    (.cond (.t 66)
    (.seq (.ops [⟨(some 8), none, (.mv (.c (.v (.int .i64 0))))⟩,
      ⟨(some 9), none, (.mv (.c (.v (.int .i64 1))))⟩,
      ⟨(some 10), none, (.mv (.c (.v (.int .i64 0))))⟩])
    .ret)
    .skip))
    (.seq (.ops [⟨(some 12), none, (.mv (.c (.v (.int .i64 0))))⟩])
    (.seq (.seq (.ops [⟨(some 67), none, (.mv (.t 1))⟩])
    (.block 0 (.seq (.ops [⟨(some 69), none, (.bin .str .eql (.t 67) (.c (.v (.string (mkS [43])))))⟩,
      ⟨(some 68), none, (.mv (.t 69))⟩])
    (.cond (.t 68)
    (.ops [⟨(some 70), none, (.mv (.t 0))⟩,
      ⟨(some 71), none, (.mv (.t 2))⟩,
      ⟨(some 72), none, (.mv (.t 3))⟩,
      ⟨(some 73), none, (.bin .int .add (.t 71) (.t 72))⟩,
      ⟨(some 74), none, (.call (.c (.fn (.func 18) [] [])) [(.t 70), (.t 73)])⟩,
      ⟨(some 12), none, (.mv (.t 74))⟩])
    (.seq (.ops [⟨(some 76), none, (.bin .str .eql (.t 67) (.c (.v (.string (mkS [45])))))⟩,
      ⟨(some 75), none, (.mv (.t 76))⟩])
    (.cond (.t 75)
    (.ops [⟨(some 77), none, (.mv (.t 0))⟩,
      ⟨(some 78), none, (.mv (.t 2))⟩,
      ⟨(some 79), none, (.mv (.t 3))⟩,
      ⟨(some 80), none, (.bin .int .sub (.t 78) (.t 79))⟩,
      ⟨(some 81), none, (.call (.c (.fn (.func 18) [] [])) [(.t 77), (.t 80)])⟩,
      ⟨(some 12), none, (.mv (.t 81))⟩])
    (.seq (.ops [⟨(some 83), none, (.bin .str .eql (.t 67) (.c (.v (.string (mkS [42])))))⟩,
      ⟨(some 82), none, (.mv (.t 83))⟩])
    (.cond (.t 82)
    (.ops [⟨(some 84), none, (.mv (.t 0))⟩,
      ⟨(some 85), none, (.mv (.t 2))⟩,
      ⟨(some 86), none, (.mv (.t 3))⟩,
      ⟨(some 87), none, (.bin .int .mul (.t 85) (.t 86))⟩,
      ⟨(some 88), none, (.call (.c (.fn (.func 18) [] [])) [(.t 84), (.t 87)])⟩,
      ⟨(some 12), none, (.mv (.t 88))⟩])
    (.seq (.ops [⟨(some 90), none, (.bin .str .eql (.t 67) (.c (.v (.string (mkS [47])))))⟩,
      ⟨(some 89), none, (.mv (.t 90))⟩])
    (.cond (.t 89)
    (.ops [⟨(some 91), none, (.mv (.t 0))⟩,
      ⟨(some 92), none, (.mv (.t 2))⟩,
      ⟨(some 93), none, (.mv (.t 3))⟩,
      ⟨(some 94), none, (.bin .int .quo (.t 92) (.t 93))⟩,
      ⟨(some 95), none, (.call (.c (.fn (.func 18) [] [])) [(.t 91), (.t 94)])⟩,
      ⟨(some 12), none, (.mv (.t 95))⟩])
    (.seq (.ops [⟨(some 97), none, (.bin .str .eql (.t 67) (.c (.v (.string (mkS [37])))))⟩,
      ⟨(some 96), none, (.mv (.t 97))⟩])
    (.cond (.t 96)
    (.ops [⟨(some 98), none, (.mv (.t 2))⟩,
      ⟨(some 99), none, (.mv (.t 3))⟩,
      ⟨(some 100), none, (.bin .int .rem (.t 98) (.t 99))⟩,
      ⟨(some 12), none, (.mv (.t 100))⟩])
    (.seq (.ops [⟨(some 102), none, (.bin .str .eql (.t 67) (.c (.v (.string (mkS [61, 61])))))⟩,
      ⟨(some 101), none, (.mv (.t 102))⟩])
    (.cond (.t 101)
    (.ops [⟨(some 103), none, (.mv (.t 2))⟩,
      ⟨(some 104), none, (.mv (.t 3))⟩,
      ⟨(some 105), none, (.bin .int .eql (.t 103) (.t 104))⟩,
      ⟨(some 106), none, (.call (.c (.fn (.func 41) [] [])) [(.t 105)])⟩,
      ⟨(some 12), none, (.mv (.t 106))⟩])
    (.seq (.ops [⟨(some 108), none, (.bin .str .eql (.t 67) (.c (.v (.string (mkS [33, 61])))))⟩,
      ⟨(some 107), none, (.mv (.t 108))⟩])
    (.cond (.t 107)
    (.ops [⟨(some 109), none, (.mv (.t 2))⟩,
      ⟨(some 110), none, (.mv (.t 3))⟩,
      ⟨(some 111), none, (.bin .int .neq (.t 109) (.t 110))⟩,
      ⟨(some 112), none, (.call (.c (.fn (.func 41) [] [])) [(.t 111)])⟩,
      ⟨(some 12), none, (.mv (.t 112))⟩])
    (.seq (.ops [⟨(some 114), none, (.bin .str .eql (.t 67) (.c (.v (.string (mkS [60])))))⟩,
      ⟨(some 113), none, (.mv (.t 114))⟩])
    (.cond (.t 113)
    (.ops [⟨(some 115), none, (.mv (.t 2))⟩,
      ⟨(some 116), none, (.mv (.t 3))⟩,
      ⟨(some 117), none, (.bin .int .lss (.t 115) (.t 116))⟩,
      ⟨(some 118), none, (.call (.c (.fn (.func 41) [] [])) [(.t 117)])⟩,
      ⟨(some 12), none, (.mv (.t 118))⟩])
    (.seq (.ops [⟨(some 120), none, (.bin .str .eql (.t 67) (.c (.v (.string (mkS [60, 61])))))⟩,
      ⟨(some 119), none, (.mv (.t 120))⟩])
    (.cond (.t 119)
    (.ops [⟨(some 121), none, (.mv (.t 2))⟩,
      ⟨(some 122), none, (.mv (.t 3))⟩,
      ⟨(some 123), none, (.bin .int .leq (.t 121) (.t 122))⟩,
      ⟨(some 124), none, (.call (.c (.fn (.func 41) [] [])) [(.t 123)])⟩,
      ⟨(some 12), none, (.mv (.t 124))⟩])
    (.seq (.ops [⟨(some 126), none, (.bin .str .eql (.t 67) (.c (.v (.string (mkS [62])))))⟩,
      ⟨(some 125), none, (.mv (.t 126))⟩])
    (.cond (.t 125)
    (.ops [⟨(some 127), none, (.mv (.t 2))⟩,
      ⟨(some 128), none, (.mv (.t 3))⟩,
      ⟨(some 129), none, (.bin .int .gtr (.t 127) (.t 128))⟩,
      ⟨(some 130), none, (.call (.c (.fn (.func 41) [] [])) [(.t 129)])⟩,
      ⟨(some 12), none, (.mv (.t 130))⟩])
    (.seq (.ops [⟨(some 132), none, (.bin .str .eql (.t 67) (.c (.v (.string (mkS [62, 61])))))⟩,
      ⟨(some 131), none, (.mv (.t 132))⟩])
    (.cond (.t 131)
    (.ops [⟨(some 133), none, (.mv (.t 2))⟩,
      ⟨(some 134), none, (.mv (.t 3))⟩,
      ⟨(some 135), none, (.bin .int .geq (.t 133) (.t 134))⟩,
      ⟨(some 136), none, (.call (.c (.fn (.func 41) [] [])) [(.t 135)])⟩,
      ⟨(some 12), none, (.mv (.t 136))⟩])
    (.seq (.ops [⟨(some 138), none, (.bin .str .eql (.t 67) (.c (.v (.string (mkS [97, 110, 100])))))⟩,
      ⟨(some 137), none, (.mv (.t 138))⟩])
    (.cond (.t 137)
    (.ops [⟨(some 139), none, (.mv (.t 2))⟩,
      ⟨(some 140), none, (.mv (.t 3))⟩,
      ⟨(some 141), none, (.min2 (.t 139) (.t 140))⟩,
      ⟨(some 12), none, (.mv (.t 141))⟩])
    (.seq (.ops [⟨(some 143), none, (.bin .str .eql (.t 67) (.c (.v (.string (mkS [111, 114])))))⟩,
      ⟨(some 142), none, (.mv (.t 143))⟩])
    (.cond (.t 142)
    (.ops [⟨(some 144), none, (.mv (.t 2))⟩,
      ⟨(some 145), none, (.mv (.t 3))⟩,
      ⟨(some 146), none, (.max2 (.t 144) (.t 145))⟩,
      ⟨(some 12), none, (.mv (.t 146))⟩])
    .skip))))))))))))))))))))))))))))
    (.seq (.ops [⟨(some 147), none, (.mv (.t 12))⟩,
      ⟨(some 8), none, (.mv (.t 147))⟩,
      ⟨(some 9), none, (.mv (.c (.v (.int .i64 0))))⟩,
      ⟨(some 10), none, (.mv (.c (.v (.int .i64 0))))⟩])
    .ret)))))))))⟩
theorem L15_ok : lowFn Try.prog Try.f15 [⟨3, 0, .imm⟩] = some L15 := by kernel_rfl

/-- assessor_value.Unary -/
def L16 : LFn := ⟨42, [(.tmp 6), (.tmp 7)], (.seq (.ops [⟨(some 6), none, (.mv (.c (.v (.int .i64 0))))⟩,
      ⟨(some 7), none, (.mv (.c (.v (.int .i64 0))))⟩])
    (.seq (.block 0 (.seq (.ops [⟨(some 9), none, (.mv (.t 0))⟩,
      ⟨(some 10), none, (.call (.c (.fn (.func 32) [] [])) [(.t 9)])⟩,
      ⟨(some 11), none, (.not (.t 10))⟩,
      ⟨(some 8), none, (.mv (.t 11))⟩])
    (.cond (.t 8)
    (.seq (.ops [⟨(some 6), none, (.mv (.c (.v (.int .i64 0))))⟩,
      ⟨(some 7), none, (.mv (.c (.v (.int .i64 2))))⟩])
    .ret)
    (.seq (.ops [⟨(some 13), none, (.mv (.t 1))⟩,
      ⟨(some 14), none, (.bin .str .neq (.t 13) (.c (.v (.string (mkS [45])))))⟩,
      ⟨(some 15), none, (.mv (.t 14))⟩,
      ⟨(some 16), (some (15, true)), (.mv (.t 1))⟩,
      ⟨(some 17), (some (15, true)), (.bin .str .neq (.t 16) (.c (.v (.string (mkS [110, 111, 116])))))⟩,
      ⟨(some 18), none, (.pick (.t 15) (.t 17) (.c (.v (.bool false))))⟩,
      ⟨(some 12), none, (.mv (.t 18))⟩])
    (.cond (.t 12)
    (.seq (.ops [⟨(some 6), none, (.mv (.c (.v (.int .i64 0))))⟩,
      ⟨(some 7), none, (.mv (.c (.v (.int .i64 1))))⟩])
    .ret)
    (.seq (.ops [⟨(some 20), none, (.mv (.t 1))⟩,
      ⟨(some 21), none, (.bin .str .eql (.t 20) (.c (.v (.string (mkS [110, 111, 116])))))⟩,
      ⟨(some 22), none, (.mv (.t 21))⟩,
      ⟨(some 23), (some (22, true)), (.mv (.t 2))⟩,
      ⟨(some 24), (some (22, true)), (.call (.c (.fn (.func 34) [] [])) [(.t 23)])⟩,
      ⟨(some 25), (some (22, true)), (.not (.t 24))⟩,
      ⟨(some 26), none, (.pick (.t 22) (.t 25) (.c (.v (.bool false))))⟩,
      ⟨(some 27), none, (.mv (.t 26))⟩,
      ⟨(some 28), (some (27, false)), (.mv (.t 0))⟩,
      ⟨(some 29), (some (27, false)), (.mv (.t 2))⟩,
      ⟨(some 30), (some (27, false)), (.call (.c (.fn (.func 35) [] [])) [(.t 28), (.t 29)])⟩,
      ⟨(some 31), (some (27, false)), (.not (.t 30))⟩,
      ⟨(some 32), none, (.pick (.t 27) (.c (.v (.bool true))) (.t 31))⟩,
      ⟨(some 19), none, (.mv (.t 32))⟩])
    (.cond (.t 19)
    (.seq (.ops [⟨(some 6), none, (.mv (.c (.v (.int .i64 0))))⟩,
      ⟨(some 7), none, (.mv (.c (.v (.int .i64 2))))⟩])
    .ret)
    (.seq (.ops [⟨(some 34), none, (.mv (.t 1))⟩,
      ⟨(some 35), none, (.bin .str .eql (.t 34) (.c (.v (.string (mkS [110, 111, 116])))))⟩,
      ⟨(some 33), none, (.mv (.t 35))⟩])
    (.cond (.t 33)
    (.seq (.ops [⟨(some 36), none, (.mv (.t 2))⟩,
      ⟨(some 37), none, (.bin .int .sub (.c (.v (.int .i64 1))) (.t 36))⟩,
      ⟨(some 6), none, (.mv (.t 37))⟩,
      ⟨(some 7), none, (.mv (.c (.v (.int .i64 0))))⟩])
    .ret)
    .skip)))))))))
    (.seq (.ops [⟨(some 38), none, (.mv (.t 0))⟩,
      ⟨(some 39), none, (.mv (.t 2))⟩,
      ⟨(some 40), none, (.neg (.t 39))⟩,
      ⟨(some 41), none, (.call (.c (.fn (.func 13) [] [])) [(.t 38), (.t 40)])⟩,
      ⟨(some 6), none, (.mv (.t 41))⟩,
      ⟨(some 7), none, (.mv (.c (.v (.int .i64 0))))⟩])
    .ret)))⟩
theorem L16_ok : lowFn Try.prog Try.f16 [] = some L16 := by kernel_rfl

/-- assessor_assessorref11.Unary -/
def L17 : LFn := ⟨29, [(.tmp 6), (.tmp 7)], (.seq (.ops [⟨(some 6), none, (.mv (.c (.v (.int .i64 0))))⟩,
      ⟨(some 7), none, (.mv (.c (.v (.int .i64 0))))⟩])
    (.seq (.seq (.ops [⟨(some 8), none, (.mv (.t 0))⟩,
      ⟨(some 9), none, (.call (.c (.fn (.func 37) [] [])) [(.t 8)])⟩,
      ⟨(some 10), none, (.not (.t 9))⟩])
    (.cond (.t 10)
    (.seq (.ops [⟨(some 6), none, (.mv (.c (.v (.int .i64 0))))⟩,
      ⟨(some 7), none, (.mv (.c (.v (.int .i64 2))))⟩])
    .ret)
    .skip))
    (.seq (.seq (.ops [⟨(some 11), none, (.mv (.t 1))⟩])
    (.block 0 (.seq (.ops [⟨(some 13), none, (.bin .str .eql (.t 11) (.c (.v (.string (mkS [45])))))⟩,
      ⟨(some 12), none, (.mv (.t 13))⟩])
    (.cond (.t 12)
    (.seq (.seq (.ops [⟨(some 14), none, (.mv (.t 0))⟩,
      ⟨(some 15), none, (.mv (.t 2))⟩,
      ⟨(some 16), none, (.call (.c (.fn (.func 40) [] [])) [(.t 14), (.t 15)])⟩,
      ⟨(some 17), none, (.not (.t 16))⟩])
    (.cond (.t 17)
    (.seq (.ops [⟨(some 6), none, (.mv (.c (.v (.int .i64 0))))⟩,
      ⟨(some 7), none, (.mv (.c (.v (.int .i64 2))))⟩])
    .ret)
    .skip))
    (.seq (.ops [⟨(some 18), none, (.mv (.t 0))⟩,
      ⟨(some 19), none, (.mv (.t 2))⟩,
      ⟨(some 20), none, (.neg (.t 19))⟩,
      ⟨(some 21), none, (.call (.c (.fn (.func 18) [] [])) [(.t 18), (.t 20)])⟩,
      ⟨(some 6), none, (.mv (.t 21))⟩,
      ⟨(some 7), none, (.mv (.c (.v (.int .i64 0))))⟩])
    .ret))
    (.seq (.ops [⟨(some 23), none, (.bin .str .eql (.t 11) (.c (.v (.string (mkS [110, 111, 116])))))⟩,
      ⟨(some 22), none, (.mv (.t 23))⟩])
    (.cond (.t 22)
    (.seq (.seq (.ops [⟨(some 24), none, (.mv (.t 2))⟩,
      ⟨(some 25), none, (.call (.c (.fn (.func 39) [] [])) [(.t 24)])⟩,
      ⟨(some 26), none, (.not (.t 25))⟩])
    (.cond (.t 26)
    (.seq (.ops [⟨(some 6), none, (.mv (.c (.v (.int .i64 0))))⟩,
      ⟨(some 7), none, (.mv (.c (.v (.int .i64 2))))⟩])
    .ret)
    .skip))
    (.seq (.ops [⟨(some 27), none, (.mv (.t 2))⟩,
      ⟨(some 28), none, (.bin .int .sub (.c (.v (.int .i64 1))) (.t 27))⟩,
      ⟨(some 6), none, (.mv (.t 28))⟩,
      ⟨(some 7), none, (.mv (.c (.v (.int .i64 0))))⟩])
    .ret))
    .skip))))))
    (.seq (.ops [⟨(some 6), none, (.mv (.c (.v (.int .i64 0))))⟩,
      ⟨(some 7), none, (.mv (.c (.v (.int .i64 1))))⟩])
    .ret))))⟩
theorem L17_ok : lowFn Try.prog Try.f17 [] = some L17 := by kernel_rfl

/-- assessor_assessorref11.Wrap -/
def L18 : LFn := ⟨29, [(.tmp 4)], (.seq (.ops [⟨(some 4), none, (.mv (.c (.v (.int .i64 0))))⟩])
    (.seq (.seq (.ops [⟨(some 5), none, (.mv (.t 0))⟩,
      ⟨(some 6), none, (.call (.c (.fn (.func 37) [] [])) [(.t 5)])⟩,
      ⟨(some 7), none, (.not (.t 6))⟩])
    (.cond (.t 7)
    (.seq (.ops [⟨(some 4), none, (.mv (.c (.v (.int .i64 0))))⟩])
    .ret)
    .skip))
    (.seq (.ops [⟨(some 8), none, (.mv (.t 1))⟩,
      ⟨(some 9), none, (.mv (.t 0))⟩,
      ⟨(some 10), none, (.call (.c (.fn (.func 42) [] [])) [(.t 9)])⟩,
      ⟨(some 11), none, (.bin .int .rem (.t 8) (.t 10))⟩,
      ⟨(some 1), none, (.mv (.t 11))⟩])
    (.seq (.seq (.ops [⟨(some 12), none, (.mv (.t 1))⟩,
      ⟨(some 13), none, (.mv (.t 0))⟩,
      ⟨(some 14), none, (.call (.c (.fn (.func 20) [] [])) [(.t 13)])⟩,
      ⟨(some 15), none, (.bin .int .lss (.t 12) (.t 14))⟩])
    (.cond (.t 15)
    (.seq (.ops [⟨(some 16), none, (.mv (.t 1))⟩,
      ⟨(some 17), none, (.mv (.t 0))⟩,
      ⟨(some 18), none, (.call (.c (.fn (.func 42) [] [])) [(.t 17)])⟩,
      ⟨(some 19), none, (.bin .int .add (.t 16) (.t 18))⟩,
      ⟨(some 4), none, (.mv (.t 19))⟩])
    .ret)
    .skip))
    (.seq (.seq (.ops [⟨(some 20), none, (.mv (.t 1))⟩,
      ⟨(some 21), none, (.mv (.t 0))⟩,
      ⟨(some 22), none, (.call (.c (.fn (.func 22) [] [])) [(.t 21)])⟩,
      ⟨(some 23), none, (.bin .int .gtr (.t 20) (.t 22))⟩])
    (.cond (.t 23)
    (.seq (.ops [⟨(some 24), none, (.mv (.t 1))⟩,
      ⟨(some 25), none, (.mv (.t 0))⟩,
      ⟨(some 26), none, (.call (.c (.fn (.func 42) [] [])) [(.t 25)])⟩,
      ⟨(some 27), none, (.bin .int .sub (.t 24) (.t 26))⟩,
      ⟨(some 4), none, (.mv (.t 27))⟩])
    .ret)
    .skip))
    (.seq (.ops [⟨(some 28), none, (.mv (.t 1))⟩,
      ⟨(some 4), none, (.mv (.t 28))⟩])
    .ret))))))⟩
theorem L18_ok : lowFn Try.prog Try.f18 [] = some L18 := by kernel_rfl

/-- assessor_value.Least -/
def L19 : LFn := ⟨9, [(.tmp 2)], (.seq (.ops [⟨(some 2), none, (.mv (.c (.v (.int .i64 0))))⟩])
    (.seq (.seq (.ops [⟨(some 3), none, (.mv (.t 0))⟩,
      ⟨(some 4), none, (.call (.c (.fn (.func 32) [] [])) [(.t 3)])⟩,
      ⟨(some 5), none, (.not (.t 4))⟩])
    (.cond (.t 5)
    (.seq (.ops [⟨(some 2), none, (.mv (.c (.v (.int .i64 0))))⟩])
    .ret)
    .skip))
    (.seq (.ops [⟨(some 6), none, (.mv (.t 0))⟩,
      ⟨(some 7), none, (.bin .int .sub (.t 6) (.c (.v (.int .i64 1))))⟩,
      ⟨(some 8), none, (.bin .int .shl (.c (.v (.int .i64 (-1)))) (.t 7))⟩,
      ⟨(some 2), none, (.mv (.t 8))⟩])
    .ret)))⟩
theorem L19_ok : lowFn Try.prog Try.f19 [] = some L19 := by kernel_rfl

/-- assessor_assessorref11.Least -/
def L20 : LFn := ⟨10, [(.tmp 2)], (.seq (.ops [⟨(some 2), none, (.mv (.c (.v (.int .i64 0))))⟩])
    (.seq (.seq (.ops [⟨(some 3), none, (.mv (.t 0))⟩,
      ⟨(some 4), none, (.call (.c (.fn (.func 37) [] [])) [(.t 3)])⟩,
      ⟨(some 5), none, (.not (.t 4))⟩])
    (.cond (.t 5)
    (.seq (.ops [⟨(some 2), none, (.mv (.c (.v (.int .i64 0))))⟩])
    .ret)
    .skip))
    (.seq (.ops [⟨(some 6), none, (.mv (.t 0))⟩,
      ⟨(some 7), none, (.bin .int .sub (.t 6) (.c (.v (.int .i64 1))))⟩,
      ⟨(some 8), none, (.call (.c (.fn (.func 42) [] [])) [(.t 7)])⟩,
      ⟨(some 9), none, (.neg (.t 8))⟩,
      ⟨(some 2), none, (.mv (.t 9))⟩])
    .ret)))⟩
theorem L20_ok : lowFn Try.prog Try.f20 [] = some L20 := by kernel_rfl

/-- assessor_value.Greatest -/
def L21 : LFn := ⟨10, [(.tmp 2)], (.seq (.ops [⟨(some 2), none, (.mv (.c (.v (.int .i64 0))))⟩])
    (.seq (.seq (.ops [⟨(some 3), none, (.mv (.t 0))⟩,
      ⟨(some 4), none, (.call (.c (.fn (.func 32) [] [])) [(.t 3)])⟩,
      ⟨(some 5), none, (.not (.t 4))⟩])
    (.cond (.t 5)
    (.seq (.ops [⟨(some 2), none, (.mv (.c (.v (.int .i64 0))))⟩])
    .ret)
    .skip))
    (.seq (.ops [⟨(some 6), none, (.mv (.t 0))⟩,
      ⟨(some 7), none, (.bin .int .sub (.t 6) (.c (.v (.int .i64 1))))⟩,
      ⟨(some 8), none, (.bin .int .shl (.c (.v (.int .i64 1))) (.t 7))⟩,
      ⟨(some 9), none, (.bin .int .sub (.t 8) (.c (.v (.int .i64 1))))⟩,
      ⟨(some 2), none, (.mv (.t 9))⟩])
    .ret)))⟩
theorem L21_ok : lowFn Try.prog Try.f21 [] = some L21 := by kernel_rfl

/-- assessor_assessorref11.Greatest -/
def L22 : LFn := ⟨10, [(.tmp 2)], (.seq (.ops [⟨(some 2), none, (.mv (.c (.v (.int .i64 0))))⟩])
    (.seq (.seq (.ops [⟨(some 3), none, (.mv (.t 0))⟩,
      ⟨(some 4), none, (.call (.c (.fn (.func 37) [] [])) [(.t 3)])⟩,
      ⟨(some 5), none, (.not (.t 4))⟩])
    (.cond (.t 5)
    (.seq (.ops [⟨(some 2), none, (.mv (.c (.v (.int .i64 0))))⟩])
    .ret)
    .skip))
    (.seq (.ops [⟨(some 6), none, (.mv (.t 0))⟩,
      ⟨(some 7), none, (.bin .int .sub (.t 6) (.c (.v (.int .i64 1))))⟩,
      ⟨(some 8), none, (.call (.c (.fn (.func 42) [] [])) [(.t 7)])⟩,
      ⟨(some 9), none, (.bin .int .sub (.t 8) (.c (.v (.int .i64 1))))⟩,
      ⟨(some 2), none, (.mv (.t 9))⟩])
    .ret)))⟩
theorem L22_ok : lowFn Try.prog Try.f22 [] = some L22 := by kernel_rfl

/-- slices.Compare___int_int_ -/
def L23 : LFn := ⟨36, [(.tmp 4)], (.seq (.ops [⟨(some 4), none, (.mv (.c (.v (.int .i64 0))))⟩])
    (.seq (.seq (.ops [⟨(some 9), none, (.mv (.t 0))⟩,
      ⟨(some 10), none, (.len .slc (.t 9))⟩,
      ⟨(some 11), none, (.mv (.c (.v (.int .i64 0))))⟩])
    (.block 0 (.loop (.seq (.ops [⟨(some 12), none, (.bin .int .lss (.t 11) (.t 10))⟩])
    (.seq (.cond (.t 12)
    .skip
    (.exit 0))
    (.seq (.block 1 (.seq (.ops [⟨(some 13), none, (.mv (.t 11))⟩,
      ⟨(some 14), none, (.iaddr 1 (.t 9) (.t 11))⟩,
      ⟨(some 15), none, (.load false 1 (.t 14))⟩,
      ⟨(some 5), none, (.mv (.t 13))⟩,
      ⟨(some 6), none, (.mv (.t 15))⟩])
    (.seq (.seq (.ops [⟨(some 16), none, (.mv (.t 5))⟩,
      ⟨(some 17), none, (.mv (.t 1))⟩,
      ⟨(some 18), none, (.len .slc (.t 17))⟩,
      ⟨(some 19), none, (.bin .int .geq (.t 16) (.t 18))⟩])
    (.cond (.t 19)
    (.seq (.ops [⟨(some 4), none, (.mv (.c (.v (.int .i64 1))))⟩])
    .ret)
    .skip))
    (.seq (.ops [⟨(some 20), none, (.mv (.t 1))⟩,
      ⟨(some 21), none, (.mv (.t 5))⟩,
      ⟨(some 22), none, (.iaddr 1 (.t 20) (.t 21))⟩,
      ⟨(some 23), none, (.load false 1 (.t 22))⟩,
      ⟨(some 7), none, (.mv (.t 23))⟩])
    (.seq (.ops [⟨(some 24), none, (.mv (.t 6))⟩,
      ⟨(some 25), none, (.mv (.t 7))⟩,
      ⟨(some 26), none, (.call (.c (.fn (.func 43) [] [])) [(.t 24), (.t 25)])⟩,
      ⟨(some 8), none, (.mv (.t 26))⟩])
    (.seq (.ops [⟨(some 27), none, (.mv (.t 8))⟩,
      ⟨(some 28), none, (.bin .int .neq (.t 27) (.c (.v (.int .i64 0))))⟩])
    (.cond (.t 28)
    (.seq (.ops [⟨(some 29), none, (.mv (.t 8))⟩,
      ⟨(some 4), none, (.mv (.t 29))⟩])
    .ret)
    .skip)))))))
    (.ops [⟨(some 30), none, (.bin .int .add (.t 11) (.c (.v (.int .i64 1))))⟩,
      ⟨(some 11), none, (.mv (.t 30))⟩])))))))
    (.seq (.seq (.ops [⟨(some 31), none, (.mv (.t 0))⟩,
      ⟨(some 32), none, (.len .slc (.t 31))⟩,
      ⟨(some 33), none, (.mv (.t 1))⟩,
      ⟨(some 34), none, (.len .slc (.t 33))⟩,
      ⟨(some 35), none, (.bin .int .lss (.t 32) (.t 34))⟩])
    (.cond (.t 35)
    (.seq (.ops [⟨(some 4), none, (.mv (.c (.v (.int .i64 (-1)))))⟩])
    .ret)
    .skip))
    (.seq (.ops [⟨(some 4), none, (.mv (.c (.v (.int .i64 0))))⟩])
    .ret))))⟩
theorem L23_ok : lowFn Try.prog Try.f23 [] = some L23 := by kernel_rfl

/-- assessor_value.Valid -/
def L25 : LFn := ⟨55, [(.tmp 8)], (.seq (.ops [⟨(some 5), none, (.box false (.t 1))⟩,
      ⟨(some 8), none, (.mv (.c (.v (.bool false))))⟩])
    (.seq (.seq (.ops [⟨(some 12), none, (.mv (.t 0))⟩,
      ⟨(some 13), none, (.call (.c (.fn (.func 32) [] [])) [(.t 12)])⟩,
      ⟨(some 14), none, (.not (.t 13))⟩,
      ⟨(some 15), none, (.mv (.t 14))⟩,
      ⟨(some 16), (some (15, false)), (.load true 3 (.t 5))⟩,
      ⟨(some 17), (some (15, false)), (.mv (.t 2))⟩,
      ⟨(some 18), (some (15, false)), (.call (.c (.fn (.func 44) [] [])) [(.t 16), (.t 17)])⟩,
      ⟨(some 19), (some (15, false)), (.not (.t 18))⟩,
      ⟨(some 20), none, (.pick (.t 15) (.c (.v (.bool true))) (.t 19))⟩])
    (.cond (.t 20)
    (.seq (.ops [⟨(some 8), none, (.mv (.c (.v (.bool false))))⟩])
    .ret)
    .skip))
    (.seq (.ops [⟨(some 21), none, (.mv (.t 2))⟩,
      ⟨(some 22), none, (.load true 3 (.t 5))⟩,
      ⟨(some 23), none, (.bsl true 3 1 [(.v (.int .i64 0)), (.v (.int .i64 0)), (.v (.string (mkS [])))] [(0, (.t 22))])⟩,
      ⟨(some 24), none, (.call (.c (.fn (.func 45) [] [])) [(.t 21), (.t 23)])⟩,
      ⟨(some 9), none, (.mv (.t 24))⟩])
    (.seq (.seq (.ops [⟨(some 25), none, (.mv (.t 9))⟩,
      ⟨(some 26), none, (.len .slc (.t 25))⟩,
      ⟨(some 27), none, (.mv (.t 3))⟩,
      ⟨(some 28), none, (.len .slc (.t 27))⟩,
      ⟨(some 29), none, (.bin .int .neq (.t 26) (.t 28))⟩])
    (.cond (.t 29)
    (.seq (.ops [⟨(some 8), none, (.mv (.c (.v (.bool false))))⟩])
    .ret)
    .skip))
    (.seq (.seq (.ops [⟨(some 30), none, (.mv (.t 3))⟩,
      ⟨(some 31), none, (.len .slc (.t 30))⟩,
      ⟨(some 32), none, (.mv (.c (.v (.int .i64 0))))⟩])
    (.block 0 (.loop (.seq (.ops [⟨(some 33), none, (.bin .int .lss (.t 32) (.t 31))⟩])
    (.seq (.cond (.t 33)
    .skip
    (.exit 0))
    (.seq (.block 1 (.seq (.ops [⟨(some 34), none, (.mv (.t 32))⟩,
      ⟨(some 35), none, (.iaddr 1 (.t 30) (.t 32))⟩,
      ⟨(some 36), none, (.load false 1 (.t 35))⟩,
      ⟨(some 10), none, (.mv (.t 34))⟩,
      ⟨(some 11), none, (.mv (.t 36))⟩])
    (.seq (.ops [⟨(some 37), none, (.mv (.t 9))⟩,
      ⟨(some 38), none, (.mv (.t 10))⟩,
      ⟨(some 39), none, (.iaddr 3 (.t 37) (.t 38))⟩,
      ⟨(some 40), none, (.faddr 0 (.t 39))⟩,
      ⟨(some 41), none, (.load false 1 (.t 40))⟩,
      ⟨(some 42), none, (.bin .int .eql (.t 41) (.c (.v (.int .i64 2))))⟩,
      ⟨(some 43), none, (.mv (.t 42))⟩,
      ⟨(some 44), (some (43, true)), (.mv (.t 11))⟩,
      ⟨(some 45), (some (43, true)), (.call (.c (.fn (.func 34) [] [])) [(.t 44)])⟩,
      ⟨(some 46), (some (43, true)), (.not (.t 45))⟩,
      ⟨(some 47), none, (.pick (.t 43) (.t 46) (.c (.v (.bool false))))⟩,
      ⟨(some 48), none, (.mv (.t 47))⟩,
      ⟨(some 49), (some (48, false)), (.mv (.t 0))⟩,
      ⟨(some 50), (some (48, false)), (.mv (.t 11))⟩,
      ⟨(some 51), (some (48, false)), (.call (.c (.fn (.func 35) [] [])) [(.t 49), (.t 50)])⟩,
      ⟨(some 52), (some (48, false)), (.not (.t 51))⟩,
      ⟨(some 53), none, (.pick (.t 48) (.c (.v (.bool true))) (.t 52))⟩])
    (.cond (.t 53)
    (.seq (.ops [⟨(some 8), none, (.mv (.c (.v (.bool false))))⟩])
    .ret)
    .skip))))
    (.ops [⟨(some 54), none, (.bin .int .add (.t 32) (.c (.v (.int .i64 1))))⟩,
      ⟨(some 32), none, (.mv (.t 54))⟩])))))))
    (.seq (.ops [⟨(some 8), none, (.mv (.c (.v (.bool true))))⟩])
    .ret))))))⟩
theorem L25_ok : lowFn Try.prog Try.f25 [⟨3, 2, .imm⟩] = some L25 := by kernel_rfl

/-- assessor_value.Format -/
def L27 : LFn := ⟨74, [(.tmp 6)], (.seq (.ops [⟨(some 3), none, (.box false (.t 0))⟩,
      ⟨(some 6), none, (.mv (.c (.v (.string (mkS [])))))⟩])
    (.seq (.ops [⟨(some 12), none, (.mv (.t 1))⟩,
      ⟨(some 13), none, (.load true 3 (.t 3))⟩,
      ⟨(some 14), none, (.bsl true 3 1 [(.v (.int .i64 0)), (.v (.int .i64 0)), (.v (.string (mkS [])))] [(0, (.t 13))])⟩,
      ⟨(some 15), none, (.call (.c (.fn (.func 45) [] [])) [(.t 12), (.t 14)])⟩,
      ⟨(some 7), none, (.mv (.t 15))⟩])
    (.seq (.seq (.ops [⟨(some 16), none, (.load true 3 (.t 3))⟩,
      ⟨(some 17), none, (.mv (.t 1))⟩,
      ⟨(some 18), none, (.call (.c (.fn (.func 44) [] [])) [(.t 16), (.t 17)])⟩,
      ⟨(some 19), none, (.not (.t 18))⟩,
      ⟨(some 20), none, (.mv (.t 19))⟩,
      ⟨(some 21), (some (20, false)), (.mv (.t 7))⟩,
      ⟨(some 22), (some (20, false)), (.len .slc (.t 21))⟩,
      ⟨(some 23), (some (20, false)), (.mv (.t 2))⟩,
      ⟨(some 24), (some (20, false)), (.len .slc (.t 23))⟩,
      ⟨(some 25), (some (20, false)), (.bin .int .neq (.t 22) (.t 24))⟩,
      ⟨(some 26), none, (.pick (.t 20) (.c (.v (.bool true))) (.t 25))⟩])
    (.cond (.t 26)
    (.seq (.ops [⟨(some 6), none, (.mv (.c (.v (.string (mkS [])))))⟩])
    .ret)
    .skip))
    (.seq (.ops [⟨(some 8), none, (.mv (.c (.v (.slice none 0 0))))⟩,
      ⟨(some 8), none, (.own 1 (.t 8))⟩])
    (.seq (.seq (.ops [⟨(some 27), none, (.mv (.t 2))⟩,
      ⟨(some 28), none, (.len .slc (.t 27))⟩,
      ⟨(some 29), none, (.mv (.c (.v (.int .i64 0))))⟩])
    (.block 0 (.loop (.seq (.ops [⟨(some 30), none, (.bin .int .lss (.t 29) (.t 28))⟩])
    (.seq (.cond (.t 30)
    .skip
    (.exit 0))
    (.seq (.block 1 (.seq (.ops [⟨(some 31), none, (.mv (.t 29))⟩,
      ⟨(some 32), none, (.iaddr 1 (.t 27) (.t 29))⟩,
      ⟨(some 33), none, (.load false 1 (.t 32))⟩,
      ⟨(some 9), none, (.mv (.t 31))⟩,
      ⟨(some 10), none, (.mv (.t 33))⟩])
    (.block 2 (.seq (.ops [⟨(some 38), none, (.mv (.t 7))⟩,
      ⟨(some 39), none, (.mv (.t 9))⟩,
      ⟨(some 40), none, (.iaddr 3 (.t 38) (.t 39))⟩,
      ⟨(some 41), none, (.faddr 0 (.t 40))⟩,
      ⟨(some 42), none, (.load false 1 (.t 41))⟩,
      ⟨(some 43), none, (.bin .int .neq (.t 42) (.c (.v (.int .i64 2))))⟩,
      ⟨(some 37), none, (.mv (.t 43))⟩])
    (.cond (.t 37)
    (.ops [⟨(some 44), none, (.mv (.t 8))⟩,
      ⟨(some 45), none, (.mv (.t 10))⟩,
      ⟨(some 46), none, (.call (.c (.fn (.func 49) [] [])) [(.t 45)])⟩,
      ⟨(some 47), none, (.bsl true 1 1 [(.v (.string (mkS [])))] [(0, (.t 46))])⟩,
      ⟨(some 48), none, (.append 1 16 (.t 44) (.t 47))⟩,
      ⟨(some 8), none, (.mv (.t 48))⟩])
    (.seq (.ops [⟨(some 50), none, (.mv (.t 10))⟩,
      ⟨(some 51), none, (.bin .int .neq (.t 50) (.c (.v (.int .i64 0))))⟩,
      ⟨(some 49), none, (.mv (.t 51))⟩])
    (.cond (.t 49)
    (.ops [⟨(some 52), none, (.mv (.t 8))⟩,
      ⟨(some 53), none, (.bsl true 1 1 [(.v (.string (mkS [])))] [(0, (.c (.v (.string (mkS [116, 114, 117, 101])))))])⟩,
      ⟨(some 54), none, (.append 1 16 (.t 52) (.t 53))⟩,
      ⟨(some 8), none, (.mv (.t 54))⟩])
    (.ops [⟨(some 34), none, (.mv (.t 8))⟩,
      ⟨(some 35), none, (.bsl true 1 1 [(.v (.string (mkS [])))] [(0, (.c (.v (.string (mkS [102, 97, 108, 115, 101])))))])⟩,
      ⟨(some 36), none, (.append 1 16 (.t 34) (.t 35))⟩,
      ⟨(some 8), none, (.mv (.t 36))⟩]))))))))
    (.ops [⟨(some 55), none, (.bin .int .add (.t 29) (.c (.v (.int .i64 1))))⟩,
      ⟨(some 29), none, (.mv (.t 55))⟩])))))))
    (.seq (.ops [⟨(some 8), none, (.frz (.t 8))⟩,
      ⟨(some 56), none, (.mv (.t 8))⟩,
      ⟨(some 57), none, (.call (.c (.fn (.func 30) [] [])) [(.t 56), (.c (.v (.string (mkS [44, 32]))))])⟩,
      ⟨(some 11), none, (.mv (.t 57))⟩])
    (.seq (.seq (.ops [⟨(some 58), none, (.faddr 0 (.t 3))⟩,
      ⟨(some 59), none, (.load false 1 (.t 58))⟩])
    (.block 3 (.seq (.ops [⟨(some 61), none, (.bin .int .eql (.t 59) (.c (.v (.int .i64 3))))⟩,
      ⟨(some 60), none, (.mv (.t 61))⟩])
    (.cond (.t 60)
    (.seq (.ops [⟨(some 62), none, (.mv (.t 11))⟩,
      ⟨(some 63), none, (.bin .str .add (.c (.v (.string (mkS [91])))) (.t 62))⟩,
      ⟨(some 64), none, (.bin .str .add (.t 63) (.c (.v (.string (mkS [93])))))⟩,
      ⟨(some 6), none, (.mv (.t 64))⟩])
    .ret)
    (.seq (.ops [⟨(some 66), none, (.bin .int .eql (.t 59) (.c (.v (.int .i64 4))))⟩,
      ⟨(some 65), none, (.mv (.t 66))⟩])
    (.cond (.t 65)
    (.seq (.ops [⟨(some 67), none, (.faddr 2 (.t 3))⟩,
      ⟨(some 68), none, (.load false 1 (.t 67))⟩,
      ⟨(some 69), none, (.bin .str .add (.t 68) (.c (.v (.string (mkS [40])))))⟩,
      ⟨(some 70), none, (.mv (.t 11))⟩,
      ⟨(some 71), none, (.bin .str .add (.t 69) (.t 70))⟩,
      ⟨(some 72), none, (.bin .str .add (.t 71) (.c (.v (.string (mkS [41])))))⟩,
      ⟨(some 6), none, (.mv (.t 72))⟩])
    .ret)
    .skip))))))
    (.seq (.ops [⟨(some 73), none, (.mv (.t 11))⟩,
      ⟨(some 6), none, (.mv (.t 73))⟩])
    .ret))))))))⟩
theorem L27_ok : lowFn Try.prog Try.f27 [⟨14, 0, (.pre 8 (.frz (.t 8)))⟩, ⟨1, 2, .imm⟩, ⟨10, 3, .imm⟩, ⟨12, 1, .imm⟩, ⟨8, 1, .imm⟩, ⟨4, 1, (.pre 8 (.own 1 (.t 8)))⟩] = some L27 := by kernel_rfl

/-- assessor_value.Parse -/
def L28 : LFn := ⟨111, [(.tmp 8), (.tmp 9)], (.seq (.ops [⟨(some 4), none, (.box false (.t 0))⟩,
      ⟨(some 5), none, (.box false (.t 1))⟩,
      ⟨(some 8), none, (.mv (.c (.v (.slice none 0 0))))⟩,
      ⟨(some 9), none, (.mv (.c (.v (.int .i64 0))))⟩])
    (.seq (.seq (.ops [⟨(some 24), none, (.load false 1 (.t 4))⟩,
      ⟨(some 25), none, (.call (.c (.fn (.func 32) [] [])) [(.t 24)])⟩,
      ⟨(some 26), none, (.not (.t 25))⟩])
    (.cond (.t 26)
    (.seq (.ops [⟨(some 8), none, (.mv (.c (.v (.slice none 0 0))))⟩,
      ⟨(some 9), none, (.mv (.c (.v (.int .i64 2))))⟩])
    .ret)
    .skip))
    (.seq (.seq (.ops [⟨(some 27), none, (.load true 3 (.t 5))⟩,
      ⟨(some 28), none, (.mv (.t 2))⟩,
      ⟨(some 29), none, (.call (.c (.fn (.func 44) [] [])) [(.t 27), (.t 28)])⟩,
      ⟨(some 30), none, (.not (.t 29))⟩])
    (.cond (.t 30)
    (.seq (.ops [⟨(some 8), none, (.mv (.c (.v (.slice none 0 0))))⟩,
      ⟨(some 9), none, (.mv (.c (.v (.int .i64 5))))⟩])
    .ret)
    .skip))
    (.seq (.ops [⟨(some 32), none, (.mv (.t 3))⟩,
      ⟨(some 33), none, (.call (.c (.fn (.func 50) [] [])) [(.t 32)])⟩,
      ⟨(some 31), none, (.mv (.t 33))⟩,
      ⟨(some 34), none, (.ext (.t 31) 0)⟩,
      ⟨(some 35), none, (.ext (.t 31) 1)⟩,
      ⟨(some 10), none, (.alloc [(.v (.slice none 0 0))])⟩,
      ⟨none, none, (.store 1 (.t 10) (.t 34))⟩,
      ⟨(some 11), none, (.mv (.t 35))⟩])
    (.seq (.seq (.ops [⟨(some 36), none, (.mv (.t 11))⟩,
      ⟨(some 37), none, (.bin .int .neq (.t 36) (.c (.v (.int .i64 0))))⟩])
    (.cond (.t 37)
    (.seq (.ops [⟨(some 8), none, (.mv (.c (.v (.slice none 0 0))))⟩,
      ⟨(some 9), none, (.mv (.c (.v (.int .i64 8))))⟩])
    .ret)
    .skip))
    (.seq (.ops [⟨(some 38), none, (.mv (.t 3))⟩,
      ⟨(some 39), none, (.load false 1 (.t 10))⟩,
      ⟨(some 40), none, (.call (.c (.fn (.func 51) [] [])) [(.t 38), (.t 39)])⟩,
      ⟨(some 12), none, (.alloc [(.v (.slice none 0 0))])⟩,
      ⟨none, none, (.store 1 (.t 12) (.t 40))⟩])
    (.seq (.ops [⟨(some 13), none, (.alloc [(.v (.int .i64 0))])⟩,
      ⟨none, none, (.store 1 (.t 13) (.c (.v (.int .i64 0))))⟩])
    (.seq (.ops [⟨(some 41), none, (.mkfn (.func 52) [] [(.t 12), (.t 13), (.t 10)])⟩,
      ⟨(some 14), none, (.alloc [(.v .nilFunc)])⟩,
      ⟨none, none, (.store 1 (.t 14) (.t 41))⟩])
    (.seq (.ops [⟨(some 15), none, (.alloc [(.v (.bool false))])⟩,
      ⟨none, none, (.store 1 (.t 15) (.c (.v (.bool true))))⟩])
    (.seq (.ops [⟨(some 42), none, (.mkfn (.func 53) [] [(.t 14), (.t 12), (.t 13), (.t 15), (.t 4)])⟩,
      ⟨(some 16), none, (.mv (.t 42))⟩])
    (.seq (.ops [⟨(some 17), none, (.mv (.c (.v (.string (mkS [])))))⟩,
      ⟨(some 18), none, (.mv (.c (.v (.string (mkS [])))))⟩])
    (.seq (.seq (.ops [⟨(some 43), none, (.faddr 0 (.t 5))⟩,
      ⟨(some 44), none, (.load false 1 (.t 43))⟩])
    (.block 0 (.seq (.ops [⟨(some 46), none, (.bin .int .eql (.t 44) (.c (.v (.int .i64 3))))⟩,
      ⟨(some 45), none, (.mv (.t 46))⟩])
    (.cond (.t 45)
    (.ops [⟨(some 17), none, (.mv (.c (.v (.string (mkS [91])))))⟩,
      ⟨(some 18), none, (.mv (.c (.v (.string (mkS [93])))))⟩])
    (.seq (.ops [⟨(some 48), none, (.bin .int .eql (.t 44) (.c (.v (.int .i64 4))))⟩,
      ⟨(some 47), none, (.mv (.t 48))⟩])
    (.cond (.t 47)
    (.seq (.ops [⟨(some 17), none, (.mv (.c (.v (.string (mkS [40])))))⟩,
      ⟨(some 18), none, (.mv (.c (.v (.string (mkS [41])))))⟩])
    (.seq (.ops [⟨(some 49), none, (.load false 1 (.t 14))⟩,
      ⟨(some 50), none, (.faddr 2 (.t 5))⟩,
      ⟨(some 51), none, (.load false 1 (.t 50))⟩,
      ⟨(some 52), none, (.call (.t 49) [(.t 51)])⟩,
      ⟨(some 53), none, (.not (.t 52))⟩])
    (.cond (.t 53)
    (.seq (.ops [⟨(some 8), none, (.mv (.c (.v (.slice none 0 0))))⟩,
      ⟨(some 9), none, (.mv (.c (.v (.int .i64 3))))⟩])
    .ret)
    .skip)))
    .skip))))))
    (.seq (.seq (.ops [⟨(some 54), none, (.mv (.t 17))⟩,
      ⟨(some 55), none, (.bin .str .neq (.t 54) (.c (.v (.string (mkS [])))))⟩,
      ⟨(some 56), none, (.mv (.t 55))⟩,
      ⟨(some 57), (some (56, true)), (.load false 1 (.t 14))⟩,
      ⟨(some 58), (some (56, true)), (.mv (.t 17))⟩,
      ⟨(some 59), (some (56, true)), (.call (.t 57) [(.t 58)])⟩,
      ⟨(some 60), (some (56, true)), (.not (.t 59))⟩,
      ⟨(some 61), none, (.pick (.t 56) (.t 60) (.c (.v (.bool false))))⟩])
    (.cond (.t 61)
    (.seq (.ops [⟨(some 8), none, (.mv (.c (.v (.slice none 0 0))))⟩,
      ⟨(some 9), none, (.mv (.c (.v (.int .i64 3))))⟩])
    .ret)
    .skip))
    (.seq (.ops [⟨(some 19), none, (.mv (.c (.v (.slice none 0 0))))⟩,
      ⟨(some 19), none, (.own 1 (.t 19))⟩])
    (.seq (.seq (.ops [⟨(some 62), none, (.mv (.t 2))⟩,
      ⟨(some 63), none, (.load true 3 (.t 5))⟩,
      ⟨(some 64), none, (.bsl true 3 1 [(.v (.int .i64 0)), (.v (.int .i64 0)), (.v (.string (mkS [])))] [(0, (.t 63))])⟩,
      ⟨(some 65), none, (.call (.c (.fn (.func 45) [] [])) [(.t 62), (.t 64)])⟩,
      ⟨(some 66), none, (.len .slc (.t 65))⟩,
      ⟨(some 67), none, (.mv (.c (.v (.int .i64 0))))⟩])
    (.block 1 (.loop (.seq (.ops [⟨(some 68), none, (.bin .int .lss (.t 67) (.t 66))⟩])
    (.seq (.cond (.t 68)
    .skip
    (.exit 1))
    (.seq (.block 2 (.seq (.ops [⟨(some 69), none, (.mv (.t 67))⟩,
      ⟨(some 70), none, (.iaddr 3 (.t 65) (.t 67))⟩,
      ⟨(some 71), none, (.load true 3 (.t 70))⟩,
      ⟨(some 21), none, (.alloc [(.v (.int .i64 0)), (.v (.int .i64 0)), (.v (.string (mkS [])))])⟩,
      ⟨(some 20), none, (.mv (.t 69))⟩,
      ⟨none, none, (.store 3 (.t 21) (.t 71))⟩])
    (.seq (.seq (.ops [⟨(some 72), none, (.mv (.t 20))⟩,
      ⟨(some 73), none, (.bin .int .gtr (.t 72) (.c (.v (.int .i64 0))))⟩,
      ⟨(some 74), none, (.mv (.t 73))⟩,
      ⟨(some 75), (some (74, true)), (.load false 1 (.t 14))⟩,
      ⟨(some 76), (some (74, true)), (.call (.t 75) [(.c (.v (.string (mkS [44]))))])⟩,
      ⟨(some 77), (some (74, true)), (.not (.t 76))⟩,
      ⟨(some 78), none, (.pick (.t 74) (.t 77) (.c (.v (.bool false))))⟩])
    (.cond (.t 78)
    (.seq (.ops [⟨(some 8), none, (.mv (.c (.v (.slice none 0 0))))⟩,
      ⟨(some 9), none, (.mv (.c (.v (.int .i64 3))))⟩])
    .ret)
    .skip))
    (.seq (.ops [⟨(some 80), none, (.mv (.t 16))⟩,
      ⟨(some 81), none, (.load true 3 (.t 21))⟩,
      ⟨(some 82), none, (.call (.t 80) [(.t 81)])⟩,
      ⟨(some 79), none, (.mv (.t 82))⟩,
      ⟨(some 83), none, (.ext (.t 79) 0)⟩,
      ⟨(some 84), none, (.ext (.t 79) 1)⟩,
      ⟨(some 22), none, (.mv (.t 83))⟩,
      ⟨(some 23), none, (.mv (.t 84))⟩])
    (.seq (.seq (.ops [⟨(some 85), none, (.mv (.t 23))⟩,
      ⟨(some 86), none, (.not (.t 85))⟩])
    (.cond (.t 86)
    (.seq (.ops [⟨(some 8), none, (.mv (.c (.v (.slice none 0 0))))⟩,
      ⟨(some 9), none, (.mv (.c (.v (.int .i64 3))))⟩])
    .ret)
    .skip))
    (.ops [⟨(some 87), none, (.mv (.t 19))⟩,
      ⟨(some 88), none, (.mv (.t 22))⟩,
      ⟨(some 89), none, (.bsl true 1 1 [(.v (.int .i64 0))] [(0, (.t 88))])⟩,
      ⟨(some 90), none, (.append 1 8 (.t 87) (.t 89))⟩,
      ⟨(some 19), none, (.mv (.t 90))⟩]))))))
    (.ops [⟨(some 91), none, (.bin .int .add (.t 67) (.c (.v (.int .i64 1))))⟩,
      ⟨(some 67), none, (.mv (.t 91))⟩])))))))
    (.seq (.seq (.ops [⟨(some 92), none, (.mv (.t 18))⟩,
      ⟨(some 93), none, (.bin .str .neq (.t 92) (.c (.v (.string (mkS [])))))⟩,
      ⟨(some 94), none, (.mv (.t 93))⟩,
      ⟨(some 95), (some (94, true)), (.load false 1 (.t 14))⟩,
      ⟨(some 96), (some (94, true)), (.mv (.t 18))⟩,
      ⟨(some 97), (some (94, true)), (.call (.t 95) [(.t 96)])⟩,
      ⟨(some 98), (some (94, true)), (.not (.t 97))⟩,
      ⟨(some 99), none, (.pick (.t 94) (.t 98) (.c (.v (.bool false))))⟩,
      ⟨(some 100), none, (.mv (.t 99))⟩,
      ⟨(some 101), (some (100, false)), (.load false 1 (.t 10))⟩,
      ⟨(some 102), (some (100, false)), (.load false 1 (.t 13))⟩,
      ⟨(some 103), (some (100, false)), (.iaddr 4 (.t 101) (.t 102))⟩,
      ⟨(some 104), (some (100, false)), (.faddr 0 (.t 103))⟩,
      ⟨(some 105), (some (100, false)), (.load false 1 (.t 104))⟩,
      ⟨(some 106), (some (100, false)), (.bin .int .neq (.t 105) (.c (.v (.int .i64 5))))⟩,
      ⟨(some 107), none, (.pick (.t 100) (.c (.v (.bool true))) (.t 106))⟩])
    (.cond (.t 107)
    (.seq (.ops [⟨(some 8), none, (.mv (.c (.v (.slice none 0 0))))⟩,
      ⟨(some 9), none, (.mv (.c (.v (.int .i64 3))))⟩])
    .ret)
    .skip))
    (.seq (.seq (.ops [⟨(some 108), none, (.load false 1 (.t 15))⟩,
      ⟨(some 109), none, (.not (.t 108))⟩])
    (.cond (.t 109)
    (.seq (.ops [⟨(some 8), none, (.mv (.c (.v (.slice none 0 0))))⟩,
      ⟨(some 9), none, (.mv (.c (.v (.int .i64 2))))⟩])
    .ret)
    .skip))
    (.seq (.ops [⟨(some 110), none, (.mv (.t 19))⟩,
      ⟨(some 8), none, (.mv (.t 110))⟩,
      ⟨(some 9), none, (.mv (.c (.v (.int .i64 0))))⟩,
      ⟨(some 8), none, (.frz (.t 8))⟩])
    .ret))))))))))))))))))⟩
theorem L28_ok : lowFn Try.prog Try.f28 [⟨24, 2, .imm⟩, ⟨32, 2, .imm⟩, ⟨38, 3, (.pre 8 (.frz (.t 8)))⟩, ⟨23, 1, (.pre 19 (.own 1 (.t 19)))⟩] = some L28 := by kernel_rfl

/-- assessor_value.isWidth -/
def L32 : LFn := ⟨9, [(.tmp 2)], (.seq (.ops [⟨(some 2), none, (.mv (.c (.v (.bool false))))⟩])
    (.seq (.ops [⟨(some 3), none, (.mv (.t 0))⟩,
      ⟨(some 4), none, (.bin .int .geq (.t 3) (.c (.v (.int .i64 2))))⟩,
      ⟨(some 5), none, (.mv (.t 4))⟩,
      ⟨(some 6), (some (5, true)), (.mv (.t 0))⟩,
      ⟨(some 7), (some (5, true)), (.bin .int .leq (.t 6) (.c (.v (.int .i64 8))))⟩,
      ⟨(some 8), none, (.pick (.t 5) (.t 7) (.c (.v (.bool false))))⟩,
      ⟨(some 2), none, (.mv (.t 8))⟩])
    .ret))⟩
theorem L32_ok : lowFn Try.prog Try.f32 [] = some L32 := by kernel_rfl

/-- assessor_value.operators -/
def L33 : LFn := ⟨3, [(.tmp 0)], (.seq (.ops [⟨(some 0), none, (.mv (.c (.v (.map none))))⟩])
    (.seq (.ops [⟨(some 1), none, .mkmap⟩,
      ⟨none, none, (.ins .str (.t 1) (.c (.v (.string (mkS [43])))) (.c (.fn (.func 60) [] [])))⟩,
      ⟨none, none, (.ins .str (.t 1) (.c (.v (.string (mkS [45])))) (.c (.fn (.func 61) [] [])))⟩,
      ⟨none, none, (.ins .str (.t 1) (.c (.v (.string (mkS [42])))) (.c (.fn (.func 62) [] [])))⟩,
      ⟨none, none, (.ins .str (.t 1) (.c (.v (.string (mkS [47])))) (.c (.fn (.func 63) [] [])))⟩,
      ⟨none, none, (.ins .str (.t 1) (.c (.v (.string (mkS [37])))) (.c (.fn (.func 64) [] [])))⟩,
      ⟨none, none, (.ins .str (.t 1) (.c (.v (.string (mkS [61, 61])))) (.c (.fn (.func 65) [] [])))⟩,
      ⟨none, none, (.ins .str (.t 1) (.c (.v (.string (mkS [33, 61])))) (.c (.fn (.func 67) [] [])))⟩,
      ⟨none, none, (.ins .str (.t 1) (.c (.v (.string (mkS [60])))) (.c (.fn (.func 68) [] [])))⟩,
      ⟨none, none, (.ins .str (.t 1) (.c (.v (.string (mkS [60, 61])))) (.c (.fn (.func 69) [] [])))⟩,
      ⟨none, none, (.ins .str (.t 1) (.c (.v (.string (mkS [62])))) (.c (.fn (.func 70) [] [])))⟩,
      ⟨none, none, (.ins .str (.t 1) (.c (.v (.string (mkS [62, 61])))) (.c (.fn (.func 71) [] [])))⟩,
      ⟨none, none, (.ins .str (.t 1) (.c (.v (.string (mkS [97, 110, 100])))) (.c (.fn (.func 72) [] [])))⟩,
      ⟨none, none, (.ins .str (.t 1) (.c (.v (.string (mkS [111, 114])))) (.c (.fn (.func 73) [] [])))⟩,
      ⟨(some 2), none, (.mv (.t 1))⟩,
      ⟨(some 0), none, (.mv (.t 2))⟩,
      ⟨(some 0), none, (.frz (.t 0))⟩])
    .ret))⟩
theorem L33_ok : lowFn Try.prog Try.f33 [⟨1, 16, (.pre 0 (.frz (.t 0)))⟩] = some L33 := by kernel_rfl

/-- assessor_value.isBool -/
def L34 : LFn := ⟨9, [(.tmp 2)], (.seq (.ops [⟨(some 2), none, (.mv (.c (.v (.bool false))))⟩])
    (.seq (.ops [⟨(some 3), none, (.mv (.t 0))⟩,
      ⟨(some 4), none, (.bin .int .eql (.t 3) (.c (.v (.int .i64 0))))⟩,
      ⟨(some 5), none, (.mv (.t 4))⟩,
      ⟨(some 6), (some (5, false)), (.mv (.t 0))⟩,
      ⟨(some 7), (some (5, false)), (.bin .int .eql (.t 6) (.c (.v (.int .i64 1))))⟩,
      ⟨(some 8), none, (.pick (.t 5) (.c (.v (.bool true))) (.t 7))⟩,
      ⟨(some 2), none, (.mv (.t 8))⟩])
    .ret))⟩
theorem L34_ok : lowFn Try.prog Try.f34 [] = some L34 := by kernel_rfl

/-- assessor_value.isInt -/
def L35 : LFn := ⟨15, [(.tmp 4)], (.seq (.ops [⟨(some 4), none, (.mv (.c (.v (.bool false))))⟩])
    (.seq (.ops [⟨(some 5), none, (.mv (.t 1))⟩,
      ⟨(some 6), none, (.mv (.t 0))⟩,
      ⟨(some 7), none, (.call (.c (.fn (.func 19) [] [])) [(.t 6)])⟩,
      ⟨(some 8), none, (.bin .int .geq (.t 5) (.t 7))⟩,
      ⟨(some 9), none, (.mv (.t 8))⟩,
      ⟨(some 10), (some (9, true)), (.mv (.t 1))⟩,
      ⟨(some 11), (some (9, true)), (.mv (.t 0))⟩,
      ⟨(some 12), (some (9, true)), (.call (.c (.fn (.func 21) [] [])) [(.t 11)])⟩,
      ⟨(some 13), (some (9, true)), (.bin .int .leq (.t 10) (.t 12))⟩,
      ⟨(some 14), none, (.pick (.t 9) (.t 13) (.c (.v (.bool false))))⟩,
      ⟨(some 4), none, (.mv (.t 14))⟩])
    .ret))⟩
theorem L35_ok : lowFn Try.prog Try.f35 [] = some L35 := by kernel_rfl

/-- assessor_assessorref11.Width -/
def L37 : LFn := ⟨9, [(.tmp 2)], (.seq (.ops [⟨(some 2), none, (.mv (.c (.v (.bool false))))⟩])
    (.seq (.ops [⟨(some 3), none, (.mv (.t 0))⟩,
      ⟨(some 4), none, (.bin .int .geq (.t 3) (.c (.v (.int .i64 2))))⟩,
      ⟨(some 5), none, (.mv (.t 4))⟩,
      ⟨(some 6), (some (5, true)), (.mv (.t 0))⟩,
      ⟨(some 7), (some (5, true)), (.bin .int .leq (.t 6) (.c (.v (.int .i64 8))))⟩,
      ⟨(some 8), none, (.pick (.t 5) (.t 7) (.c (.v (.bool false))))⟩,
      ⟨(some 2), none, (.mv (.t 8))⟩])
    .ret))⟩
theorem L37_ok : lowFn Try.prog Try.f37 [] = some L37 := by kernel_rfl

/-- assessor_assessorref11.isBit -/
def L39 : LFn := ⟨9, [(.tmp 2)], (.seq (.ops [⟨(some 2), none, (.mv (.c (.v (.bool false))))⟩])
    (.seq (.ops [⟨(some 3), none, (.mv (.t 0))⟩,
      ⟨(some 4), none, (.bin .int .eql (.t 3) (.c (.v (.int .i64 0))))⟩,
      ⟨(some 5), none, (.mv (.t 4))⟩,
      ⟨(some 6), (some (5, false)), (.mv (.t 0))⟩,
      ⟨(some 7), (some (5, false)), (.bin .int .eql (.t 6) (.c (.v (.int .i64 1))))⟩,
      ⟨(some 8), none, (.pick (.t 5) (.c (.v (.bool true))) (.t 7))⟩,
      ⟨(some 2), none, (.mv (.t 8))⟩])
    .ret))⟩
theorem L39_ok : lowFn Try.prog Try.f39 [] = some L39 := by kernel_rfl

/-- assessor_assessorref11.isInt -/
def L40 : LFn := ⟨15, [(.tmp 4)], (.seq (.ops [⟨(some 4), none, (.mv (.c (.v (.bool false))))⟩])
    (.seq (.ops [⟨(some 5), none, (.mv (.t 1))⟩,
      ⟨(some 6), none, (.mv (.t 0))⟩,
      ⟨(some 7), none, (.call (.c (.fn (.func 20) [] [])) [(.t 6)])⟩,
      ⟨(some 8), none, (.bin .int .geq (.t 5) (.t 7))⟩,
      ⟨(some 9), none, (.mv (.t 8))⟩,
      ⟨(some 10), (some (9, true)), (.mv (.t 1))⟩,
      ⟨(some 11), (some (9, true)), (.mv (.t 0))⟩,
      ⟨(some 12), (some (9, true)), (.call (.c (.fn (.func 22) [] [])) [(.t 11)])⟩,
      ⟨(some 13), (some (9, true)), (.bin .int .leq (.t 10) (.t 12))⟩,
      ⟨(some 14), none, (.pick (.t 9) (.t 13) (.c (.v (.bool false))))⟩,
      ⟨(some 4), none, (.mv (.t 14))⟩])
    .ret))⟩
theorem L40_ok : lowFn Try.prog Try.f40 [] = some L40 := by kernel_rfl

/-- assessor_assessorref11.bit -/
def L41 : LFn := ⟨4, [(.tmp 2)], (.seq (.ops [⟨(some 2), none, (.mv (.c (.v (.int .i64 0))))⟩])
    (.seq (.seq (.ops [⟨(some 3), none, (.mv (.t 0))⟩])
    (.cond (.t 3)
    (.seq (.ops [⟨(some 2), none, (.mv (.c (.v (.int .i64 1))))⟩])
    .ret)
    .skip))
    (.seq (.ops [⟨(some 2), none, (.mv (.c (.v (.int .i64 0))))⟩])
    .ret)))⟩
theorem L41_ok : lowFn Try.prog Try.f41 [] = some L41 := by kernel_rfl

/-- assessor_assessorref11.power -/
def L42 : LFn := ⟨13, [(.tmp 2)], (.seq (.ops [⟨(some 2), none, (.mv (.c (.v (.int .i64 0))))⟩])
    (.seq (.ops [⟨(some 3), none, (.mv (.c (.v (.int .i64 1))))⟩])
    (.seq (.seq (.ops [⟨(some 4), none, (.mv (.c (.v (.int .i64 0))))⟩])
    (.block 0 (.loop (.seq (.seq (.ops [⟨(some 5), none, (.mv (.t 4))⟩,
      ⟨(some 6), none, (.mv (.t 0))⟩,
      ⟨(some 7), none, (.bin .int .lss (.t 5) (.t 6))⟩])
    (.cond (.t 7)
    .skip
    (.exit 0)))
    (.seq (.block 1 (.ops [⟨(some 10), none, (.mv (.t 3))⟩,
      ⟨(some 11), none, (.bin .int .mul (.c (.v (.int .i64 2))) (.t 10))⟩,
      ⟨(some 3), none, (.mv (.t 11))⟩]))
    (.ops [⟨(some 8), none, (.mv (.t 4))⟩,
      ⟨(some 9), none, (.bin .int .add (.t 8) (.c (.v (.int .i64 1))))⟩,
      ⟨(some 4), none, (.mv (.t 9))⟩]))))))
    (.seq (.ops [⟨(some 12), none, (.mv (.t 3))⟩,
      ⟨(some 2), none, (.mv (.t 12))⟩])
    .ret))))⟩
theorem L42_ok : lowFn Try.prog Try.f42 [] = some L42 := by kernel_rfl

/-- cmp.Compare_int_ -/
def L43 : LFn := ⟨20, [(.tmp 4)], (.seq (.ops [⟨(some 4), none, (.mv (.c (.v (.int .i64 0))))⟩])
    (.seq (.ops [⟨(some 7), none, (.mv (.t 0))⟩,
      ⟨(some 8), none, (.call (.c (.fn (.func 75) [] [])) [(.t 7)])⟩,
      ⟨(some 5), none, (.mv (.t 8))⟩])
    (.seq (.ops [⟨(some 9), none, (.mv (.t 1))⟩,
      ⟨(some 10), none, (.call (.c (.fn (.func 75) [] [])) [(.t 9)])⟩,
      ⟨(some 6), none, (.mv (.t 10))⟩])
    (.seq (.seq (.ops [⟨(some 11), none, (.mv (.t 5))⟩])
    (.cond (.t 11)
    (.seq (.seq (.ops [⟨(some 12), none, (.mv (.t 6))⟩])
    (.cond (.t 12)
    (.seq (.ops [⟨(some 4), none, (.mv (.c (.v (.int .i64 0))))⟩])
    .ret)
    .skip))
    (.seq (.ops [⟨(some 4), none, (.mv (.c (.v (.int .i64 (-1)))))⟩])
    .ret))
    .skip))
    (.seq (.seq (.ops [⟨(some 13), none, (.mv (.t 6))⟩])
    (.cond (.t 13)
    (.seq (.ops [⟨(some 4), none, (.mv (.c (.v (.int .i64 1))))⟩])
    .ret)
    .skip))
    (.seq (.seq (.ops [⟨(some 14), none, (.mv (.t 0))⟩,
      ⟨(some 15), none, (.mv (.t 1))⟩,
      ⟨(some 16), none, (.bin .int .lss (.t 14) (.t 15))⟩])
    (.cond (.t 16)
    (.seq (.ops [⟨(some 4), none, (.mv (.c (.v (.int .i64 (-1)))))⟩])
    .ret)
    .skip))
    (.seq (.seq (.ops [⟨(some 17), none, (.mv (.t 0))⟩,
      ⟨(some 18), none, (.mv (.t 1))⟩,
      ⟨(some 19), none, (.bin .int .gtr (.t 17) (.t 18))⟩])
    (.cond (.t 19)
    (.seq (.ops [⟨(some 4), none, (.mv (.c (.v (.int .i64 1))))⟩])
    .ret)
    .skip))
    (.seq (.ops [⟨(some 4), none, (.mv (.c (.v (.int .i64 0))))⟩])
    .ret))))))))⟩
theorem L43_ok : lowFn Try.prog Try.f43 [] = some L43 := by kernel_rfl

/-- assessor_value.decimal -/
def L49 : LFn := ⟨15, [(.tmp 2)], (.seq (.ops [⟨(some 2), none, (.mv (.c (.v (.string (mkS [])))))⟩])
    (.seq (.seq (.ops [⟨(some 3), none, (.mv (.t 0))⟩,
      ⟨(some 4), none, (.bin .int .lss (.t 3) (.c (.v (.int .i64 0))))⟩])
    (.cond (.t 4)
    (.seq (.ops [⟨(some 5), none, (.mv (.t 0))⟩,
      ⟨(some 6), none, (.bin .int .add (.t 5) (.c (.v (.int .i64 1))))⟩,
      ⟨(some 7), none, (.neg (.t 6))⟩,
      ⟨(some 8), none, (.conv (.toInt .u64) (.t 7))⟩,
      ⟨(some 9), none, (.bin .int .add (.t 8) (.c (.v (.int .u64 1))))⟩,
      ⟨(some 10), none, (.call (.c (.fn (.func 81) [] [])) [(.t 9)])⟩,
      ⟨(some 11), none, (.bin .str .add (.c (.v (.string (mkS [45])))) (.t 10))⟩,
      ⟨(some 2), none, (.mv (.t 11))⟩])
    .ret)
    .skip))
    (.seq (.ops [⟨(some 12), none, (.mv (.t 0))⟩,
      ⟨(some 13), none, (.conv (.toInt .u64) (.t 12))⟩,
      ⟨(some 14), none, (.call (.c (.fn (.func 81) [] [])) [(.t 13)])⟩,
      ⟨(some 2), none, (.mv (.t 14))⟩])
    .ret)))⟩
theorem L49_ok : lowFn Try.prog Try.f49 [] = some L49 := by kernel_rfl

/-- assessor_value.Parse$1 -/
def L52 : LFn := ⟨22, [(.tmp 5)], (.seq (.ops [⟨(some 5), none, (.mv (.c (.v (.bool false))))⟩])
    (.seq (.seq (.ops [⟨(some 6), none, (.load false 1 (.t 1))⟩,
      ⟨(some 7), none, (.load false 1 (.t 2))⟩,
      ⟨(some 8), none, (.iaddr 1 (.t 6) (.t 7))⟩,
      ⟨(some 9), none, (.load false 1 (.t 8))⟩,
      ⟨(some 10), none, (.mv (.t 0))⟩,
      ⟨(some 11), none, (.bin .str .neq (.t 9) (.t 10))⟩,
      ⟨(some 12), none, (.mv (.t 11))⟩,
      ⟨(some 13), (some (12, false)), (.load false 1 (.t 3))⟩,
      ⟨(some 14), (some (12, false)), (.load false 1 (.t 2))⟩,
      ⟨(some 15), (some (12, false)), (.iaddr 4 (.t 13) (.t 14))⟩,
      ⟨(some 16), (some (12, false)), (.faddr 0 (.t 15))⟩,
      ⟨(some 17), (some (12, false)), (.load false 1 (.t 16))⟩,
      ⟨(some 18), (some (12, false)), (.bin .int .eql (.t 17) (.c (.v (.int .i64 5))))⟩,
      ⟨(some 19), none, (.pick (.t 12) (.c (.v (.bool true))) (.t 18))⟩])
    (.cond (.t 19)
    (.seq (.ops [⟨(some 5), none, (.mv (.c (.v (.bool false))))⟩])
    .ret)
    .skip))
    (.seq (.ops [⟨(some 20), none, (.load false 1 (.t 2))⟩,
      ⟨(some 21), none, (.bin .int .add (.t 20) (.c (.v (.int .i64 1))))⟩,
      ⟨none, none, (.store 1 (.t 2) (.t 21))⟩])
    (.seq (.ops [⟨(some 5), none, (.mv (.c (.v (.bool true))))⟩])
    .ret))))⟩
theorem L52_ok : lowFn Try.prog Try.f52 [] = some L52 := by kernel_rfl

/-- assessor_value.Parse$2 -/
def L53 : LFn := ⟨43, [(.tmp 7), (.tmp 8)], (.seq (.ops [⟨(some 6), none, (.box false (.t 0))⟩,
      ⟨(some 7), none, (.mv (.c (.v (.int .i64 0))))⟩,
      ⟨(some 8), none, (.mv (.c (.v (.bool false))))⟩])
    (.seq (.seq (.ops [⟨(some 12), none, (.faddr 0 (.t 6))⟩,
      ⟨(some 13), none, (.load false 1 (.t 12))⟩,
      ⟨(some 14), none, (.bin .int .eql (.t 13) (.c (.v (.int .i64 2))))⟩])
    (.cond (.t 14)
    (.seq (.seq (.ops [⟨(some 15), none, (.load false 1 (.t 1))⟩,
      ⟨(some 16), none, (.call (.t 15) [(.c (.v (.string (mkS [116, 114, 117, 101]))))])⟩])
    (.cond (.t 16)
    (.seq (.ops [⟨(some 7), none, (.mv (.c (.v (.int .i64 1))))⟩,
      ⟨(some 8), none, (.mv (.c (.v (.bool true))))⟩])
    .ret)
    .skip))
    (.seq (.ops [⟨(some 17), none, (.load false 1 (.t 1))⟩,
      ⟨(some 18), none, (.call (.t 17) [(.c (.v (.string (mkS [102, 97, 108, 115, 101]))))])⟩,
      ⟨(some 7), none, (.mv (.c (.v (.int .i64 0))))⟩,
      ⟨(some 8), none, (.mv (.t 18))⟩])
    .ret))
    .skip))
    (.seq (.ops [⟨(some 19), none, (.load false 1 (.t 1))⟩,
      ⟨(some 20), none, (.call (.t 19) [(.c (.v (.string (mkS [45]))))])⟩,
      ⟨(some 9), none, (.mv (.t 20))⟩])
    (.seq (.ops [⟨(some 22), none, (.load false 1 (.t 2))⟩,
      ⟨(some 23), none, (.load false 1 (.t 3))⟩,
      ⟨(some 24), none, (.iaddr 1 (.t 22) (.t 23))⟩,
      ⟨(some 25), none, (.load false 1 (.t 24))⟩,
      ⟨(some 26), none, (.call (.c (.fn (.func 54) [] [])) [(.t 25)])⟩,
      ⟨(some 21), none, (.mv (.t 26))⟩,
      ⟨(some 27), none, (.ext (.t 21) 0)⟩,
      ⟨(some 28), none, (.ext (.t 21) 1)⟩,
      ⟨(some 10), none, (.mv (.t 27))⟩,
      ⟨(some 11), none, (.mv (.t 28))⟩])
    (.seq (.seq (.ops [⟨(some 29), none, (.mv (.t 11))⟩,
      ⟨(some 30), none, (.not (.t 29))⟩])
    (.cond (.t 30)
    (.seq (.ops [⟨(some 7), none, (.mv (.c (.v (.int .i64 0))))⟩,
      ⟨(some 8), none, (.mv (.c (.v (.bool false))))⟩])
    .ret)
    .skip))
    (.seq (.ops [⟨(some 31), none, (.load false 1 (.t 3))⟩,
      ⟨(some 32), none, (.bin .int .add (.t 31) (.c (.v (.int .i64 1))))⟩,
      ⟨none, none, (.store 1 (.t 3) (.t 32))⟩])
    (.seq (.seq (.ops [⟨(some 33), none, (.mv (.t 9))⟩])
    (.cond (.t 33)
    (.ops [⟨(some 34), none, (.mv (.t 10))⟩,
      ⟨(some 35), none, (.neg (.t 34))⟩,
      ⟨(some 10), none, (.mv (.t 35))⟩])
    .skip))
    (.seq (.ops [⟨(some 36), none, (.load false 1 (.t 4))⟩,
      ⟨(some 37), none, (.mv (.t 36))⟩,
      ⟨(some 38), (some (37, true)), (.load false 1 (.t 5))⟩,
      ⟨(some 39), (some (37, true)), (.mv (.t 10))⟩,
      ⟨(some 40), (some (37, true)), (.call (.c (.fn (.func 35) [] [])) [(.t 38), (.t 39)])⟩,
      ⟨(some 41), none, (.pick (.t 37) (.t 40) (.c (.v (.bool false))))⟩,
      ⟨none, none, (.store 1 (.t 4) (.t 41))⟩])
    (.seq (.ops [⟨(some 42), none, (.mv (.t 10))⟩,
      ⟨(some 7), none, (.mv (.t 42))⟩,
      ⟨(some 8), none, (.mv (.c (.v (.bool true))))⟩])
    .ret)))))))))⟩
theorem L53_ok : lowFn Try.prog Try.f53 [] = some L53 := by kernel_rfl

/-- assessor_value.operators$1 -/
def L60 : LFn := ⟨8, [(.tmp 4)], (.seq (.ops [⟨(some 4), none, (.mv (.c (.v (.int .i64 0))))⟩])
    (.seq (.ops [⟨(some 5), none, (.mv (.t 0))⟩,
      ⟨(some 6), none, (.mv (.t 1))⟩,
      ⟨(some 7), none, (.bin .int .add (.t 5) (.t 6))⟩,
      ⟨(some 4), none, (.mv (.t 7))⟩])
    .ret))⟩
theorem L60_ok : lowFn Try.prog Try.f60 [] = some L60 := by kernel_rfl

/-- assessor_value.operators$2 -/
def L61 : LFn := ⟨8, [(.tmp 4)], (.seq (.ops [⟨(some 4), none, (.mv (.c (.v (.int .i64 0))))⟩])
    (.seq (.ops [⟨(some 5), none, (.mv (.t 0))⟩,
      ⟨(some 6), none, (.mv (.t 1))⟩,
      ⟨(some 7), none, (.bin .int .sub (.t 5) (.t 6))⟩,
      ⟨(some 4), none, (.mv (.t 7))⟩])
    .ret))⟩
theorem L61_ok : lowFn Try.prog Try.f61 [] = some L61 := by kernel_rfl

/-- assessor_value.operators$3 -/
def L62 : LFn := ⟨8, [(.tmp 4)], (.seq (.ops [⟨(some 4), none, (.mv (.c (.v (.int .i64 0))))⟩])
    (.seq (.ops [⟨(some 5), none, (.mv (.t 0))⟩,
      ⟨(some 6), none, (.mv (.t 1))⟩,
      ⟨(some 7), none, (.bin .int .mul (.t 5) (.t 6))⟩,
      ⟨(some 4), none, (.mv (.t 7))⟩])
    .ret))⟩
theorem L62_ok : lowFn Try.prog Try.f62 [] = some L62 := by kernel_rfl

/-- assessor_value.operators$4 -/
def L63 : LFn := ⟨8, [(.tmp 4)], (.seq (.ops [⟨(some 4), none, (.mv (.c (.v (.int .i64 0))))⟩])
    (.seq (.ops [⟨(some 5), none, (.mv (.t 0))⟩,
      ⟨(some 6), none, (.mv (.t 1))⟩,
      ⟨(some 7), none, (.bin .int .quo (.t 5) (.t 6))⟩,
      ⟨(some 4), none, (.mv (.t 7))⟩])
    .ret))⟩
theorem L63_ok : lowFn Try.prog Try.f63 [] = some L63 := by kernel_rfl

/-- assessor_value.operators$5 -/
def L64 : LFn := ⟨8, [(.tmp 4)], (.seq (.ops [⟨(some 4), none, (.mv (.c (.v (.int .i64 0))))⟩])
    (.seq (.ops [⟨(some 5), none, (.mv (.t 0))⟩,
      ⟨(some 6), none, (.mv (.t 1))⟩,
      ⟨(some 7), none, (.bin .int .rem (.t 5) (.t 6))⟩,
      ⟨(some 4), none, (.mv (.t 7))⟩])
    .ret))⟩
theorem L64_ok : lowFn Try.prog Try.f64 [] = some L64 := by kernel_rfl

/-- assessor_value.operators$6 -/
def L65 : LFn := ⟨9, [(.tmp 4)], (.seq (.ops [⟨(some 4), none, (.mv (.c (.v (.int .i64 0))))⟩])
    (.seq (.ops [⟨(some 5), none, (.mv (.t 0))⟩,
      ⟨(some 6), none, (.mv (.t 1))⟩,
      ⟨(some 7), none, (.bin .int .eql (.t 5) (.t 6))⟩,
      ⟨(some 8), none, (.call (.c (.fn (.func 66) [] [])) [(.t 7)])⟩,
      ⟨(some 4), none, (.mv (.t 8))⟩])
    .ret))⟩
theorem L65_ok : lowFn Try.prog Try.f65 [] = some L65 := by kernel_rfl

/-- assessor_value.truth -/
def L66 : LFn := ⟨4, [(.tmp 2)], (.seq (.ops [⟨(some 2), none, (.mv (.c (.v (.int .i64 0))))⟩])
    (.seq (.seq (.ops [⟨(some 3), none, (.mv (.t 0))⟩])
    (.cond (.t 3)
    (.seq (.ops [⟨(some 2), none, (.mv (.c (.v (.int .i64 1))))⟩])
    .ret)
    .skip))
    (.seq (.ops [⟨(some 2), none, (.mv (.c (.v (.int .i64 0))))⟩])
    .ret)))⟩
theorem L66_ok : lowFn Try.prog Try.f66 [] = some L66 := by kernel_rfl

/-- assessor_value.operators$7 -/
def L67 : LFn := ⟨9, [(.tmp 4)], (.seq (.ops [⟨(some 4), none, (.mv (.c (.v (.int .i64 0))))⟩])
    (.seq (.ops [⟨(some 5), none, (.mv (.t 0))⟩,
      ⟨(some 6), none, (.mv (.t 1))⟩,
      ⟨(some 7), none, (.bin .int .neq (.t 5) (.t 6))⟩,
      ⟨(some 8), none, (.call (.c (.fn (.func 66) [] [])) [(.t 7)])⟩,
      ⟨(some 4), none, (.mv (.t 8))⟩])
    .ret))⟩
theorem L67_ok : lowFn Try.prog Try.f67 [] = some L67 := by kernel_rfl

/-- assessor_value.operators$8 -/
def L68 : LFn := ⟨9, [(.tmp 4)], (.seq (.ops [⟨(some 4), none, (.mv (.c (.v (.int .i64 0))))⟩])
    (.seq (.ops [⟨(some 5), none, (.mv (.t 0))⟩,
      ⟨(some 6), none, (.mv (.t 1))⟩,
      ⟨(some 7), none, (.bin .int .lss (.t 5) (.t 6))⟩,
      ⟨(some 8), none, (.call (.c (.fn (.func 66) [] [])) [(.t 7)])⟩,
      ⟨(some 4), none, (.mv (.t 8))⟩])
    .ret))⟩
theorem L68_ok : lowFn Try.prog Try.f68 [] = some L68 := by kernel_rfl

/-- assessor_value.operators$9 -/
def L69 : LFn := ⟨9, [(.tmp 4)], (.seq (.ops [⟨(some 4), none, (.mv (.c (.v (.int .i64 0))))⟩])
    (.seq (.ops [⟨(some 5), none, (.mv (.t 0))⟩,
      ⟨(some 6), none, (.mv (.t 1))⟩,
      ⟨(some 7), none, (.bin .int .leq (.t 5) (.t 6))⟩,
      ⟨(some 8), none, (.call (.c (.fn (.func 66) [] [])) [(.t 7)])⟩,
      ⟨(some 4), none, (.mv (.t 8))⟩])
    .ret))⟩
theorem L69_ok : lowFn Try.prog Try.f69 [] = some L69 := by kernel_rfl

/-- assessor_value.operators$10 -/
def L70 : LFn := ⟨9, [(.tmp 4)], (.seq (.ops [⟨(some 4), none, (.mv (.c (.v (.int .i64 0))))⟩])
    (.seq (.ops [⟨(some 5), none, (.mv (.t 0))⟩,
      ⟨(some 6), none, (.mv (.t 1))⟩,
      ⟨(some 7), none, (.bin .int .gtr (.t 5) (.t 6))⟩,
      ⟨(some 8), none, (.call (.c (.fn (.func 66) [] [])) [(.t 7)])⟩,
      ⟨(some 4), none, (.mv (.t 8))⟩])
    .ret))⟩
theorem L70_ok : lowFn Try.prog Try.f70 [] = some L70 := by kernel_rfl

/-- assessor_value.operators$11 -/
def L71 : LFn := ⟨9, [(.tmp 4)], (.seq (.ops [⟨(some 4), none, (.mv (.c (.v (.int .i64 0))))⟩])
    (.seq (.ops [⟨(some 5), none, (.mv (.t 0))⟩,
      ⟨(some 6), none, (.mv (.t 1))⟩,
      ⟨(some 7), none, (.bin .int .geq (.t 5) (.t 6))⟩,
      ⟨(some 8), none, (.call (.c (.fn (.func 66) [] [])) [(.t 7)])⟩,
      ⟨(some 4), none, (.mv (.t 8))⟩])
    .ret))⟩
theorem L71_ok : lowFn Try.prog Try.f71 [] = some L71 := by kernel_rfl

/-- assessor_value.operators$12 -/
def L72 : LFn := ⟨8, [(.tmp 4)], (.seq (.ops [⟨(some 4), none, (.mv (.c (.v (.int .i64 0))))⟩])
    (.seq (.ops [⟨(some 5), none, (.mv (.t 0))⟩,
      ⟨(some 6), none, (.mv (.t 1))⟩,
      ⟨(some 7), none, (.min2 (.t 5) (.t 6))⟩,
      ⟨(some 4), none, (.mv (.t 7))⟩])
    .ret))⟩
theorem L72_ok : lowFn Try.prog Try.f72 [] = some L72 := by kernel_rfl

/-- assessor_value.operators$13 -/
def L73 : LFn := ⟨8, [(.tmp 4)], (.seq (.ops [⟨(some 4), none, (.mv (.c (.v (.int .i64 0))))⟩])
    (.seq (.ops [⟨(some 5), none, (.mv (.t 0))⟩,
      ⟨(some 6), none, (.mv (.t 1))⟩,
      ⟨(some 7), none, (.max2 (.t 5) (.t 6))⟩,
      ⟨(some 4), none, (.mv (.t 7))⟩])
    .ret))⟩
theorem L73_ok : lowFn Try.prog Try.f73 [] = some L73 := by kernel_rfl

/-- cmp.isNaN_int_ -/
def L75 : LFn := ⟨6, [(.tmp 2)], (.seq (.ops [⟨(some 2), none, (.mv (.c (.v (.bool false))))⟩])
    (.seq (.ops [⟨(some 3), none, (.mv (.t 0))⟩,
      ⟨(some 4), none, (.mv (.t 0))⟩,
      ⟨(some 5), none, (.bin .int .neq (.t 3) (.t 4))⟩,
      ⟨(some 2), none, (.mv (.t 5))⟩])
    .ret))⟩
theorem L75_ok : lowFn Try.prog Try.f75 [] = some L75 := by kernel_rfl

/-- assessor_value.digits -/
def L81 : LFn := ⟨16, [(.tmp 2)], (.seq (.ops [⟨(some 2), none, (.mv (.c (.v (.string (mkS [])))))⟩])
    (.seq (.seq (.ops [⟨(some 3), none, (.mv (.t 0))⟩,
      ⟨(some 4), none, (.bin .int .lss (.t 3) (.c (.v (.int .u64 10))))⟩])
    (.cond (.t 4)
    (.seq (.ops [⟨(some 5), none, (.mv (.t 0))⟩,
      ⟨(some 6), none, (.bin .int .add (.c (.v (.int .u64 48))) (.t 5))⟩,
      ⟨(some 7), none, (.conv (.toInt .i32) (.t 6))⟩,
      ⟨(some 8), none, (.conv .runeStr (.t 7))⟩,
      ⟨(some 2), none, (.mv (.t 8))⟩])
    .ret)
    .skip))
    (.seq (.ops [⟨(some 9), none, (.mv (.t 0))⟩,
      ⟨(some 10), none, (.bin .int .quo (.t 9) (.c (.v (.int .u64 10))))⟩,
      ⟨(some 11), none, (.call (.c (.fn (.func 81) [] [])) [(.t 10)])⟩,
      ⟨(some 12), none, (.mv (.t 0))⟩,
      ⟨(some 13), none, (.bin .int .rem (.t 12) (.c (.v (.int .u64 10))))⟩,
      ⟨(some 14), none, (.call (.c (.fn (.func 81) [] [])) [(.t 13)])⟩,
      ⟨(some 15), none, (.bin .str .add (.t 11) (.t 14))⟩,
      ⟨(some 2), none, (.mv (.t 15))⟩])
    .ret)))⟩
theorem L81_ok : lowFn Try.prog Try.f81 [] = some L81 := by kernel_rfl


end Go.Proofs.Ytdgmlepakippmaa
