/- Parts, merged by a program (wip/tools/merge2.py): Fv Shelf Vl1 Ft Ax3 Ax23 Ax26 Ty1 Ty2 Ty3 Va1 Va2 Va3 Ty4 Ty5 Va4 Va5 Va6 Va7 Vb2 Mc1 Fl Lx1 Lx2 Lx3 Lx4 Lx5 Lx6 Mc2 Mc3 Ax28 Ax29 Ax30 Ax37 Ax38 Ax39. -/
import Derived.Test.YtaipgalanpcgoaaGreatM2
import Derived.Test.YtaipgalanpcgoaaGreatChecked
import Derived.Shelf.Strings.Search1
import Derived.Shelf.Strings.Search2
import Derived.Shelf.Strings.Search3
import Derived.Shelf.LaysM
import Derived.Shelf.Strings.Shaped
import Derived.Test.YtaipgalanpcgoaaGreatProg
import Derived.KernelRfl
import Derived.Shelf.Strings.OnBuilder
import Derived.RecoverIn
namespace Go.Proofs.YtaipgalanpcgoaaGreat
open Go Go.Ax
set_option maxRecDepth 100000
set_option linter.unusedSimpArgs false
set_option maxHeartbeats 4000000
def L6 : LFn := ⟨99,[(.tmp 8)],(sO [oX 4 (.box false (.t 0)),oX 6 (.box false (.t 2)),oX 8 (.mv (kB false))] (.seq (sO [oA 21 1 4,oM 22 1,oA 23 2 6,oX 24 (y3 12 21 22 23),oX 25 (.not (.t 24)),oM 26 25,oW 27 26 3,oF 28 26 (.len .slc (.t 27)),oF 29 26 (bI .gtr (.t 28) (kI 60)),oP 30 26 (kB true) (.t 29)] (cD 30 (sO [oX 31 (y0 8),oM 8 31] .ret) .skip)) (sO [oA 33 1 4,oM 34 1,oA 35 2 6,oM 36 3,oX 37 (y4 17 33 34 35 36),oM 32 37,oE 38 32 0,oE 39 32 1,oE 40 32 2,oE 41 32 3,oX 9 (.alloc [i0,zAg]),oS 2 9 38,oM 10 39,oM 11 40,oM 12 41] (sO [oA 43 1 4,oM 44 1,oA 45 2 6,oM 46 3,oX 47 (y4 19 43 44 45 46),oM 42 47,oE 48 42 0,oE 49 42 1,oE 50 42 2,oE 51 42 3,oX 13 (.alloc [i0,zAg]),oS 2 13 48,oM 14 49,oM 15 50,oM 16 51] (sO [oA 53 1 4,oM 54 1,oA 55 2 6,oM 56 3,oX 57 (y4 20 53 54 55 56),oM 52 57,oE 58 52 0,oE 59 52 1,oM 17 58,oM 18 59] (sO [oA 61 1 4,oM 62 1,oA 63 2 6,oM 64 3,oX 65 (y4 21 61 62 63 64),oM 60 65,oE 66 60 0,oE 67 60 1,oM 19 66,oM 20 67] (sO [oA 68 2 9,oA 69 2 13,oX 70 (y2 22 68 69),oM 71 70,oU 72 71 10,oU 73 71 14,oT 74 71 (bI .eql (.t 72) (.t 73)),oP 75 71 (.t 74) (kB false),oM 76 75,oU 77 76 11,oU 78 76 15,oT 79 76 (bI .eql (.t 77) (.t 78)),oP 80 76 (.t 79) (kB false),oM 81 80,oU 82 81 12,oU 83 81 16,oT 84 81 (bI .eql (.t 82) (.t 83)),oP 85 81 (.t 84) (kB false),oM 86 85,oU 87 86 17,oU 88 86 19,oT 89 86 (bI .eql (.t 87) (.t 88)),oP 90 86 (.t 89) (kB false),oM 91 90,oU 92 91 18,oU 93 91 20,oT 94 91 (bI .eql (.t 92) (.t 93)),oP 95 91 (.t 94) (kB false),oM 96 95,oT 97 96 (y0 8),oP 98 96 (.t 97) (kB false),oM 8 98] .ret)))))))⟩
theorem L6_ok : zAa Tryz.prog Tryz.f6 [] = some L6 := by kernel_rfl
def L8 : LFn := ⟨66,[(.tmp 0)],(sO [oX 0 (.mv (kB false))] (sO [oX 14 (cF 24 [(.c (.v (.string (mkS [112,114,111,99,32,102,40,120,58,32,105,110,116,41,58,32,105,110,116,32,123,32,114,101,116,117,114,110,32,54,32,47,32,120,59,32,125]))))]),oM 13 14,oE 15 13 0,oE 16 13 1,oE 17 13 2,oX 1 (.alloc [i0,s0,i0,i0,zAg,zAg,zAg,zAg,zAg]),oS 9 1 15,oM 2 16,oM 3 17] (sO [oA 19 9 1,oX 20 (y1 25 19),oM 18 20,oE 21 18 0,oE 22 18 1,oX 4 (.alloc [zAg]),oS 1 4 21,oM 5 22] (sO [oA 24 1 4,oX 25 (.build [i0,i0] [(0,(1,(kI 4)))]),oX 26 (.bsl true 1 1 [i0] [(0,(kI 0))]),oX 27 (cF 17 [(.t 24),(kI 0),(.t 25),(.t 26)]),oM 23 27,oE 28 23 0,oE 29 23 1,oE 30 23 2,oE 31 23 3,oX 6 (.alloc [i0,zAg]),oS 2 6 28,oM 7 29,oM 8 30,oM 9 31] (sO [oX 33 (.bsl true 1 3 [i0] [(0,(kI 5)),(1,(kI 1)),(2,(kI 3))]),oX 34 (cF 9 [(kI 4),(kI 6),(.t 33)]),oM 32 34,oE 35 32 0,oE 36 32 1,oE 37 32 2,oM 10 35,oM 11 36,oM 12 37] (sO [oA 38 2 6,oX 39 (.build [i0,zAg] [(0,(1,(kI 1)))]),oX 40 (y2 22 38 39),oM 41 40,oU 42 41 7,oT 43 41 (bI .eql (.t 42) (kI 0)),oP 44 41 (.t 43) (kB false),oM 45 44,oU 46 45 8,oT 47 45 (bI .eql (.t 46) (kI 2)),oP 48 45 (.t 47) (kB false),oM 49 48,oU 50 49 9,oT 51 49 (bI .eql (.t 50) (kI 0)),oP 52 49 (.t 51) (kB false),oM 53 52,oU 54 53 10,oT 55 53 (.bsl true 1 2 [i0] [(0,(kI 5)),(1,(kI (-2)))]),oT 56 53 (y2 11 54 55),oP 57 53 (.t 56) (kB false),oM 58 57,oU 59 58 11,oT 60 58 (bI .eql (.t 59) (kI 0)),oP 61 58 (.t 60) (kB false),oM 62 61,oU 63 62 12,oT 64 62 (bI .eql (.t 63) (kI 0)),oP 65 62 (.t 64) (kB false),oM 0 65] .ret))))))⟩
theorem L8_ok : zAa Tryz.prog Tryz.f8 [⟨3,2,.imm⟩,⟨4,0,.imm⟩,⟨5,17,.imm⟩] = some L8 := by kernel_rfl
def L11 : LFn := ⟨26,[(.tmp 4)],(sO [oX 4 (.mv (kB false))] (.seq (sO [oM 6 0,oX 7 (.len .slc (.t 6)),oM 8 1,oX 9 (.len .slc (.t 8)),oB 10 .neq 7 9] (cD 10 (sO [oX 4 (.mv (kB false))] .ret) .skip)) (.seq (sO [oC 5 0] (.block 0 (.loop (.seq (sO [oM 11 5,oM 12 0,oX 13 (.len .slc (.t 12)),oB 14 .lss 11 13] (cD 14 .skip (.exit 0))) (.seq (.block 1 (.seq (.draw [oM 17 0,oM 18 5,oI 19 1 17 18,oL 20 19,oM 21 1,oM 22 5,oI 23 1 21 22,oL 24 23,oB 25 .neq 20 24] []) (cD 25 (sO [oX 4 (.mv (kB false))] .ret) .skip))) (.ops [oM 15 5,oV 16 .add 15 1,oM 5 16])))))) (sO [oX 4 (.mv (kB true))] .ret))))⟩
theorem L11_ok : zAa Tryz.prog Tryz.f11 [] = some L11 := by kernel_rfl
def L12 : LFn := ⟨27,[(.tmp 6)],(sO [oX 3 (.box false (.t 0)),oX 5 (.box false (.t 2)),oX 6 (.mv (kB false))] (sO [oA 10 1 3,oM 11 1,oD 12 1 5,oL 13 12,oX 14 (y3 23 10 11 13),oM 9 14,oE 15 9 0,oE 16 9 1,oM 7 15,oM 8 16] (sO [oA 17 1 3,oX 18 (y1 35 17),oM 19 18,oU 20 19 8,oT 21 19 (bI .neq (.t 20) (kI 0)),oU 22 19 21,oW 23 22 7,oF 24 22 (bI .leq (.t 23) (kI 100000)),oT 25 19 (.pick (.t 22) (kB true) (.t 24)),oP 26 19 (.t 25) (kB false),oM 6 26] .ret)))⟩
theorem L12_ok : zAa Tryz.prog Tryz.f12 [] = some L12 := by kernel_rfl
def L14 : LFn := ⟨16,[(.tmp 2)],(sO [oX 1 (.box false (.t 0)),oX 2 (.mv (kB false))] (sO [oD 3 0 1,oL 4 3,oX 5 (y1 32 4),oM 6 5,oT 7 6 (.faddr 1 (.t 1)),oT 8 6 (.load false 1 (.t 7)),oT 9 6 (bI .geq (.t 8) (kI 0)),oP 10 6 (.t 9) (kB false),oM 11 10,oT 12 11 (.faddr 1 (.t 1)),oT 13 11 (.load false 1 (.t 12)),oT 14 11 (bI .leq (.t 13) (kI 8)),oP 15 11 (.t 14) (kB false),oM 2 15] .ret))⟩
theorem L14_ok : zAa Tryz.prog Tryz.f14 [] = some L14 := by kernel_rfl
def L15 : LFn := ⟨10,[(.tmp 2)],(sO [oC 2 0] (.seq (sO [oM 3 0,oX 4 (y1 32 3),oX 5 (.not (.t 4))] (cD 5 (sO [oC 2 0] .ret) .skip)) (sO [oM 6 0,oV 7 .sub 6 1,oX 8 (y1 40 7),oX 9 (.neg (.t 8)),oM 2 9] .ret)))⟩
theorem L15_ok : zAa Tryz.prog Tryz.f15 [] = some L15 := by kernel_rfl
def L16 : LFn := ⟨10,[(.tmp 2)],(sO [oC 2 0] (.seq (sO [oM 3 0,oX 4 (y1 32 3),oX 5 (.not (.t 4))] (cD 5 (sO [oC 2 0] .ret) .skip)) (sO [oM 6 0,oV 7 .sub 6 1,oX 8 (y1 40 7),oV 9 .sub 8 1,oM 2 9] .ret)))⟩
theorem L16_ok : zAa Tryz.prog Tryz.f16 [] = some L16 := by kernel_rfl
def L18 : LFn := ⟨73,[(.tmp 8),(.tmp 9),(.tmp 10)],(sO [oC 8 0,oC 9 0,oC 10 0] (.seq (sO [oM 15 0,oX 16 (y1 43 15),oX 17 (.not (.t 16))] (cD 17 (sO [oC 8 0,oC 9 0,oC 10 2] .ret) .skip)) (sO [oX 19 (y0 44),oM 20 1,oX 21 (.look .str (.v .nilFunc) true (.t 19) (.t 20)),oM 18 21,oE 22 18 0,oE 23 18 1,oM 11 22,oM 12 23] (.seq (sO [oM 24 12,oX 25 (.not (.t 24))] (cD 25 (sO [oC 8 0,oC 9 0,oC 10 1] .ret) .skip)) (sO [oM 26 1,oX 27 (.bin .str .eql (.t 26) (.c (.v (.string (mkS [97,110,100]))))),oM 28 27,oW 29 28 1,oF 30 28 (.bin .str .eql (.t 29) (.c (.v (.string (mkS [111,114]))))),oP 31 28 (kB true) (.t 30),oM 13 31] (.seq (sO [oM 32 13,oM 33 32,oU 34 33 2,oT 35 33 (y1 45 34),oU 36 33 35,oU 37 36 3,oT 38 36 (y1 45 37),oT 39 33 (.pick (.t 36) (.t 38) (kB false)),oT 40 33 (.not (.t 39)),oP 41 33 (.t 40) (kB false),oM 42 41,oW 43 42 0,oW 44 42 2,oF 45 42 (y2 46 43 44),oW 46 42 45,oU 47 46 0,oU 48 46 3,oT 49 46 (y2 46 47 48),oF 50 42 (.pick (.t 46) (.t 49) (kB false)),oF 51 42 (.not (.t 50)),oP 52 42 (kB true) (.t 51)] (cD 52 (sO [oC 8 0,oC 9 0,oC 10 2] .ret) .skip)) (.seq (sO [oM 53 3,oV 54 .eql 53 0,oM 55 54,oU 56 55 1,oT 57 55 (.bin .str .eql (.t 56) (.c (.v (.string (mkS [47]))))),oU 58 55 57,oW 59 58 1,oF 60 58 (.bin .str .eql (.t 59) (.c (.v (.string (mkS [37]))))),oT 61 55 (.pick (.t 58) (kB true) (.t 60)),oP 62 55 (.t 61) (kB false)] (cD 62 (sO [oC 8 0,oC 9 1,oC 10 0] .ret) .skip)) (sO [oM 63 11,oM 64 2,oM 65 3,oX 66 (.call (.t 63) [(.t 64),(.t 65)]),oM 14 66] (.seq (sO [oM 67 1,oX 68 (cF 47 [(.c (.v (.string (mkS [43,45,42,47,37])))),(.t 67)])] (cD 68 (.ops [oM 69 0,oM 70 14,oX 71 (y2 48 69 70),oM 14 71]) .skip)) (sO [oM 72 14,oM 8 72,oC 9 0,oC 10 0] .ret))))))))))⟩
theorem L18_ok : zAa Tryz.prog Tryz.f18 [] = some L18 := by kernel_rfl
def L22 : LFn := ⟨17,[(.tmp 4)],(sO [oX 2 (.box false (.t 0)),oX 3 (.box false (.t 1)),oX 4 (.mv (kB false))] (sO [oD 5 0 2,oL 6 5,oD 7 0 3,oL 8 7,oB 9 .eql 6 8,oM 10 9,oT 11 10 (.faddr 1 (.t 2)),oT 12 10 (.load false 1 (.t 11)),oT 13 10 (.faddr 1 (.t 3)),oT 14 10 (.load false 1 (.t 13)),oT 15 10 (y2 11 12 14),oP 16 10 (.t 15) (kB false),oM 4 16] .ret))⟩
theorem L22_ok : zAa Tryz.prog Tryz.f22 [] = some L22 := by kernel_rfl
def L32 : LFn := ⟨9,[(.tmp 2)],(sO [oX 2 (.mv (kB false))] (sO [oM 3 0,oV 4 .geq 3 2,oM 5 4,oU 6 5 0,oT 7 5 (bI .leq (.t 6) (kI 8)),oP 8 5 (.t 7) (kB false),oM 2 8] .ret))⟩
theorem L32_ok : zAa Tryz.prog Tryz.f32 [] = some L32 := by kernel_rfl
def L33 : LFn := ⟨29,[(.tmp 4)],(sO [oC 4 0] (.seq (sO [oM 5 0,oX 6 (y1 32 5),oX 7 (.not (.t 6))] (cD 7 (sO [oC 4 0] .ret) .skip)) (sO [oM 8 1,oM 9 0,oX 10 (y1 40 9),oB 11 .rem 8 10,oM 1 11] (.seq (sO [oM 12 1,oM 13 0,oX 14 (y1 15 13),oB 15 .lss 12 14] (cD 15 (sO [oM 16 1,oM 17 0,oX 18 (y1 40 17),oB 19 .add 16 18,oM 4 19] .ret) .skip)) (.seq (sO [oM 20 1,oM 21 0,oX 22 (y1 16 21),oB 23 .gtr 20 22] (cD 23 (sO [oM 24 1,oM 25 0,oX 26 (y1 40 25),oB 27 .sub 24 26,oM 4 27] .ret) .skip)) (sO [oM 28 1,oM 4 28] .ret))))))⟩
theorem L33_ok : zAa Tryz.prog Tryz.f33 [] = some L33 := by kernel_rfl
def L40 : LFn := ⟨13,[(.tmp 2)],(sO [oC 2 0] (sO [oC 3 1] (.seq (sO [oC 4 0] (.block 0 (.loop (.seq (sO [oM 5 4,oM 6 0,oB 7 .lss 5 6] (cD 7 .skip (.exit 0))) (.seq (.block 1 (.ops [oM 10 3,oX 11 (bI .mul (kI 2) (.t 10)),oM 3 11])) (.ops [oM 8 4,oV 9 .add 8 1,oM 4 9])))))) (sO [oM 12 3,oM 2 12] .ret))))⟩
theorem L40_ok : zAa Tryz.prog Tryz.f40 [] = some L40 := by kernel_rfl
def L43 : LFn := ⟨9,[(.tmp 2)],(sO [oX 2 (.mv (kB false))] (sO [oM 3 0,oV 4 .geq 3 2,oM 5 4,oU 6 5 0,oT 7 5 (bI .leq (.t 6) (kI 8)),oP 8 5 (.t 7) (kB false),oM 2 8] .ret))⟩
theorem L43_ok : zAa Tryz.prog Tryz.f43 [] = some L43 := by kernel_rfl
def L44 : LFn := ⟨3,[(.tmp 0)],(sO [oX 0 (.mv (.c (.v (.map none))))] (sO [⟨(some 1),none,.mkmap⟩,oN (.ins .str (.t 1) (.c (.v (.string (mkS [43])))) (.c (.fn (.func 75) [] []))),oN (.ins .str (.t 1) (.c (.v (.string (mkS [45])))) (.c (.fn (.func 76) [] []))),oN (.ins .str (.t 1) (.c (.v (.string (mkS [42])))) (.c (.fn (.func 77) [] []))),oN (.ins .str (.t 1) (.c (.v (.string (mkS [47])))) (.c (.fn (.func 78) [] []))),oN (.ins .str (.t 1) (.c (.v (.string (mkS [37])))) (.c (.fn (.func 79) [] []))),oN (.ins .str (.t 1) (.c (.v (.string (mkS [61,61])))) (.c (.fn (.func 80) [] []))),oN (.ins .str (.t 1) (.c (.v (.string (mkS [33,61])))) (.c (.fn (.func 82) [] []))),oN (.ins .str (.t 1) (.c (.v (.string (mkS [60])))) (.c (.fn (.func 83) [] []))),oN (.ins .str (.t 1) (.c (.v (.string (mkS [60,61])))) (.c (.fn (.func 84) [] []))),oN (.ins .str (.t 1) (.c (.v (.string (mkS [62])))) (.c (.fn (.func 85) [] []))),oN (.ins .str (.t 1) (.c (.v (.string (mkS [62,61])))) (.c (.fn (.func 86) [] []))),oN (.ins .str (.t 1) (.c (.v (.string (mkS [97,110,100])))) (.c (.fn (.func 87) [] []))),oN (.ins .str (.t 1) (.c (.v (.string (mkS [111,114])))) (.c (.fn (.func 88) [] []))),oM 2 1,oM 0 2,oX 0 (.frz (.t 0))] .ret))⟩
theorem L44_ok : zAa Tryz.prog Tryz.f44 [⟨1,16,(.pre 0 (.frz (.t 0)))⟩] = some L44 := by kernel_rfl
def L46 : LFn := ⟨15,[(.tmp 4)],(sO [oX 4 (.mv (kB false))] (sO [oM 5 1,oM 6 0,oX 7 (y1 59 6),oB 8 .geq 5 7,oM 9 8,oU 10 9 1,oU 11 9 0,oT 12 9 (y1 60 11),oT 13 9 (bI .leq (.t 10) (.t 12)),oP 14 9 (.t 13) (kB false),oM 4 14] .ret))⟩
theorem L46_ok : zAa Tryz.prog Tryz.f46 [] = some L46 := by kernel_rfl
def L48 : LFn := ⟨16,[(.tmp 4)],(sO [oC 4 0] (.seq (sO [oM 6 0,oX 7 (y1 43 6),oX 8 (.not (.t 7))] (cD 8 (sO [oC 4 0] .ret) .skip)) (sO [oM 9 0,oX 10 (bI .sub (kI 64) (.t 9)),oM 5 10] (sO [oM 11 1,oM 12 5,oB 13 .shl 11 12,oM 14 5,oB 15 .shr 13 14,oM 4 15] .ret))))⟩
theorem L48_ok : zAa Tryz.prog Tryz.f48 [] = some L48 := by kernel_rfl
def L59 : LFn := ⟨9,[(.tmp 2)],(sO [oC 2 0] (.seq (sO [oM 3 0,oX 4 (y1 43 3),oX 5 (.not (.t 4))] (cD 5 (sO [oC 2 0] .ret) .skip)) (sO [oM 6 0,oV 7 .sub 6 1,oX 8 (bI .shl (kI (-1)) (.t 7)),oM 2 8] .ret)))⟩
theorem L59_ok : zAa Tryz.prog Tryz.f59 [] = some L59 := by kernel_rfl
def L60 : LFn := ⟨10,[(.tmp 2)],(sO [oC 2 0] (.seq (sO [oM 3 0,oX 4 (y1 43 3),oX 5 (.not (.t 4))] (cD 5 (sO [oC 2 0] .ret) .skip)) (sO [oM 6 0,oV 7 .sub 6 1,oX 8 (bI .shl (kI 1) (.t 7)),oV 9 .sub 8 1,oM 2 9] .ret)))⟩
theorem L60_ok : zAa Tryz.prog Tryz.f60 [] = some L60 := by kernel_rfl
def L62 : LFn := ⟨148,[(.tmp 8),(.tmp 9),(.tmp 10)],(sO [oC 8 0,oC 9 0,oC 10 0] (.seq (sO [oM 13 0,oX 14 (y1 32 13),oX 15 (.not (.t 14))] (cD 15 (sO [oC 8 0,oC 9 0,oC 10 2] .ret) .skip)) (.seq (sO [oX 16 (.bsl true 1 13 [s0] [(0,(.c (.v (.string (mkS [43]))))),(1,(.c (.v (.string (mkS [45]))))),(2,(.c (.v (.string (mkS [42]))))),(3,(.c (.v (.string (mkS [47]))))),(4,(.c (.v (.string (mkS [37]))))),(5,(.c (.v (.string (mkS [61,61]))))),(6,(.c (.v (.string (mkS [33,61]))))),(7,(.c (.v (.string (mkS [60]))))),(8,(.c (.v (.string (mkS [60,61]))))),(9,(.c (.v (.string (mkS [62]))))),(10,(.c (.v (.string (mkS [62,61]))))),(11,(.c (.v (.string (mkS [97,110,100]))))),(12,(.c (.v (.string (mkS [111,114])))))]),oM 17 1,oX 18 (y2 118 16 17),oX 19 (.not (.t 18))] (cD 19 (sO [oC 8 0,oC 9 0,oC 10 1] .ret) .skip)) (sO [oM 20 1,oX 21 (.bin .str .eql (.t 20) (.c (.v (.string (mkS [97,110,100]))))),oM 22 21,oW 23 22 1,oF 24 22 (.bin .str .eql (.t 23) (.c (.v (.string (mkS [111,114]))))),oP 25 22 (kB true) (.t 24),oM 11 25] (.seq (sO [oM 26 11,oM 27 26,oU 28 27 2,oT 29 27 (y1 119 28),oT 30 27 (.not (.t 29)),oU 31 27 30,oW 32 31 3,oF 33 31 (y1 119 32),oF 34 31 (.not (.t 33)),oT 35 27 (.pick (.t 31) (kB true) (.t 34)),oP 36 27 (.t 35) (kB false),oM 37 36,oW 38 37 0,oW 39 37 2,oF 40 37 (y2 120 38 39),oF 41 37 (.not (.t 40)),oW 42 37 41,oU 43 42 11,oT 44 42 (.not (.t 43)),oF 45 37 (.pick (.t 42) (.t 44) (kB false)),oP 46 37 (kB true) (.t 45),oM 47 46,oW 48 47 0,oW 49 47 3,oF 50 47 (y2 120 48 49),oF 51 47 (.not (.t 50)),oW 52 47 51,oU 53 52 11,oT 54 52 (.not (.t 53)),oF 55 47 (.pick (.t 52) (.t 54) (kB false)),oP 56 47 (kB true) (.t 55)] (cD 56 (sO [oC 8 0,oC 9 0,oC 10 2] .ret) .skip)) (.seq (sO [oM 57 1,oX 58 (.bin .str .eql (.t 57) (.c (.v (.string (mkS [47]))))),oM 59 58,oW 60 59 1,oF 61 59 (.bin .str .eql (.t 60) (.c (.v (.string (mkS [37]))))),oP 62 59 (kB true) (.t 61),oM 63 62,oU 64 63 3,oT 65 63 (bI .eql (.t 64) (kI 0)),oP 66 63 (.t 65) (kB false)] (cD 66 (sO [oC 8 0,oC 9 1,oC 10 0] .ret) .skip)) (sO [oC 12 0] (.seq (sO [oM 67 1] (.block 0 (sO [oX 69 (.bin .str .eql (.t 67) (.c (.v (.string (mkS [43]))))),oM 68 69] (cD 68 (.ops [oM 70 0,oM 71 2,oM 72 3,oB 73 .add 71 72,oX 74 (y2 33 70 73),oM 12 74]) (sO [oX 76 (.bin .str .eql (.t 67) (.c (.v (.string (mkS [45]))))),oM 75 76] (cD 75 (.ops [oM 77 0,oM 78 2,oM 79 3,oB 80 .sub 78 79,oX 81 (y2 33 77 80),oM 12 81]) (sO [oX 83 (.bin .str .eql (.t 67) (.c (.v (.string (mkS [42]))))),oM 82 83] (cD 82 (.ops [oM 84 0,oM 85 2,oM 86 3,oB 87 .mul 85 86,oX 88 (y2 33 84 87),oM 12 88]) (sO [oX 90 (.bin .str .eql (.t 67) (.c (.v (.string (mkS [47]))))),oM 89 90] (cD 89 (.ops [oM 91 0,oM 92 2,oM 93 3,oB 94 .quo 92 93,oX 95 (y2 33 91 94),oM 12 95]) (sO [oX 97 (.bin .str .eql (.t 67) (.c (.v (.string (mkS [37]))))),oM 96 97] (cD 96 (.ops [oM 98 2,oM 99 3,oB 100 .rem 98 99,oM 12 100]) (sO [oX 102 (.bin .str .eql (.t 67) (.c (.v (.string (mkS [61,61]))))),oM 101 102] (cD 101 (.ops [oM 103 2,oM 104 3,oB 105 .eql 103 104,oX 106 (y1 121 105),oM 12 106]) (sO [oX 108 (.bin .str .eql (.t 67) (.c (.v (.string (mkS [33,61]))))),oM 107 108] (cD 107 (.ops [oM 109 2,oM 110 3,oB 111 .neq 109 110,oX 112 (y1 121 111),oM 12 112]) (sO [oX 114 (.bin .str .eql (.t 67) (.c (.v (.string (mkS [60]))))),oM 113 114] (cD 113 (.ops [oM 115 2,oM 116 3,oB 117 .lss 115 116,oX 118 (y1 121 117),oM 12 118]) (sO [oX 120 (.bin .str .eql (.t 67) (.c (.v (.string (mkS [60,61]))))),oM 119 120] (cD 119 (.ops [oM 121 2,oM 122 3,oB 123 .leq 121 122,oX 124 (y1 121 123),oM 12 124]) (sO [oX 126 (.bin .str .eql (.t 67) (.c (.v (.string (mkS [62]))))),oM 125 126] (cD 125 (.ops [oM 127 2,oM 128 3,oB 129 .gtr 127 128,oX 130 (y1 121 129),oM 12 130]) (sO [oX 132 (.bin .str .eql (.t 67) (.c (.v (.string (mkS [62,61]))))),oM 131 132] (cD 131 (.ops [oM 133 2,oM 134 3,oB 135 .geq 133 134,oX 136 (y1 121 135),oM 12 136]) (sO [oX 138 (.bin .str .eql (.t 67) (.c (.v (.string (mkS [97,110,100]))))),oM 137 138] (cD 137 (.ops [oM 139 2,oM 140 3,oX 141 (.min2 (.t 139) (.t 140)),oM 12 141]) (sO [oX 143 (.bin .str .eql (.t 67) (.c (.v (.string (mkS [111,114]))))),oM 142 143] (cD 142 (.ops [oM 144 2,oM 145 3,oX 146 (.max2 (.t 144) (.t 145)),oM 12 146]) .skip)))))))))))))))))))))))))))) (sO [oM 147 12,oM 8 147,oC 9 0,oC 10 0] .ret)))))))))⟩
theorem L62_ok : zAa Tryz.prog Tryz.f62 [⟨3,0,.imm⟩] = some L62 := by kernel_rfl
def L75 : LFn := ⟨8,[(.tmp 4)],(sO [oC 4 0] (sO [oM 5 0,oM 6 1,oB 7 .add 5 6,oM 4 7] .ret))⟩
theorem L75_ok : zAa Tryz.prog Tryz.f75 [] = some L75 := by kernel_rfl
def L76 : LFn := ⟨8,[(.tmp 4)],(sO [oC 4 0] (sO [oM 5 0,oM 6 1,oB 7 .sub 5 6,oM 4 7] .ret))⟩
theorem L76_ok : zAa Tryz.prog Tryz.f76 [] = some L76 := by kernel_rfl
def L77 : LFn := ⟨8,[(.tmp 4)],(sO [oC 4 0] (sO [oM 5 0,oM 6 1,oB 7 .mul 5 6,oM 4 7] .ret))⟩
theorem L77_ok : zAa Tryz.prog Tryz.f77 [] = some L77 := by kernel_rfl
def L78 : LFn := ⟨8,[(.tmp 4)],(sO [oC 4 0] (sO [oM 5 0,oM 6 1,oB 7 .quo 5 6,oM 4 7] .ret))⟩
theorem L78_ok : zAa Tryz.prog Tryz.f78 [] = some L78 := by kernel_rfl
def L79 : LFn := ⟨8,[(.tmp 4)],(sO [oC 4 0] (sO [oM 5 0,oM 6 1,oB 7 .rem 5 6,oM 4 7] .ret))⟩
theorem L79_ok : zAa Tryz.prog Tryz.f79 [] = some L79 := by kernel_rfl
def L80 : LFn := ⟨9,[(.tmp 4)],(sO [oC 4 0] (sO [oM 5 0,oM 6 1,oB 7 .eql 5 6,oX 8 (y1 81 7),oM 4 8] .ret))⟩
theorem L80_ok : zAa Tryz.prog Tryz.f80 [] = some L80 := by kernel_rfl
def L81 : LFn := ⟨4,[(.tmp 2)],(sO [oC 2 0] (.seq (sO [oM 3 0] (cD 3 (sO [oC 2 1] .ret) .skip)) (sO [oC 2 0] .ret)))⟩
theorem L81_ok : zAa Tryz.prog Tryz.f81 [] = some L81 := by kernel_rfl
def L82 : LFn := ⟨9,[(.tmp 4)],(sO [oC 4 0] (sO [oM 5 0,oM 6 1,oB 7 .neq 5 6,oX 8 (y1 81 7),oM 4 8] .ret))⟩
theorem L82_ok : zAa Tryz.prog Tryz.f82 [] = some L82 := by kernel_rfl
def L83 : LFn := ⟨9,[(.tmp 4)],(sO [oC 4 0] (sO [oM 5 0,oM 6 1,oB 7 .lss 5 6,oX 8 (y1 81 7),oM 4 8] .ret))⟩
theorem L83_ok : zAa Tryz.prog Tryz.f83 [] = some L83 := by kernel_rfl
def L84 : LFn := ⟨9,[(.tmp 4)],(sO [oC 4 0] (sO [oM 5 0,oM 6 1,oB 7 .leq 5 6,oX 8 (y1 81 7),oM 4 8] .ret))⟩
theorem L84_ok : zAa Tryz.prog Tryz.f84 [] = some L84 := by kernel_rfl
def L85 : LFn := ⟨9,[(.tmp 4)],(sO [oC 4 0] (sO [oM 5 0,oM 6 1,oB 7 .gtr 5 6,oX 8 (y1 81 7),oM 4 8] .ret))⟩
theorem L85_ok : zAa Tryz.prog Tryz.f85 [] = some L85 := by kernel_rfl
def L86 : LFn := ⟨9,[(.tmp 4)],(sO [oC 4 0] (sO [oM 5 0,oM 6 1,oB 7 .geq 5 6,oX 8 (y1 81 7),oM 4 8] .ret))⟩
theorem L86_ok : zAa Tryz.prog Tryz.f86 [] = some L86 := by kernel_rfl
def L120 : LFn := ⟨15,[(.tmp 4)],(sO [oX 4 (.mv (kB false))] (sO [oM 5 1,oM 6 0,oX 7 (y1 15 6),oB 8 .geq 5 7,oM 9 8,oU 10 9 1,oU 11 9 0,oT 12 9 (y1 16 11),oT 13 9 (bI .leq (.t 10) (.t 12)),oP 14 9 (.t 13) (kB false),oM 4 14] .ret))⟩
theorem L120_ok : zAa Tryz.prog Tryz.f120 [] = some L120 := by kernel_rfl
def L121 : LFn := ⟨4,[(.tmp 2)],(sO [oC 2 0] (.seq (sO [oM 3 0] (cD 3 (sO [oC 2 1] .ret) .skip)) (sO [oC 2 0] .ret)))⟩
theorem L121_ok : zAa Tryz.prog Tryz.f121 [] = some L121 := by kernel_rfl
end Go.Proofs.YtaipgalanpcgoaaGreat
namespace Go.Proofs
open Go.Shelf
set_option linter.unusedSimpArgs false
set_option maxHeartbeats 4000000
def Tryz.lays144_ren : Go.Shelf.Ren := ⟨fun | 144 => 47 | 143 => 89 | 219 => 134 | 217 => 181 | 225 => 182 | 224 => 183 | 267 => 184 | 266 => 227 | 314 => 228 | n => n,fun | 9 => 9 | 4 => 4 | 3 => 3 | 5 => 5 | 46 => 249 | 146 => 285 | 51 => 284 | n => n,fun | 1 => 0 | n => n⟩
theorem Tryz.lays144 : Go.Proofs.Lays.n144 Tryz.prog Tryz.lays144_ren := {
 mixed := by kernel_rfl
 f143 := Tryz.func89.trans (congrArg some (by kernel_rfl))
 f144 := Tryz.func47.trans (congrArg some (by kernel_rfl))
 f217 := Tryz.func181.trans (congrArg some (by kernel_rfl))
 f219 := Tryz.func134.trans (congrArg some (by kernel_rfl))
 f224 := Tryz.func183.trans (congrArg some (by kernel_rfl))
 f225 := Tryz.func182.trans (congrArg some (by kernel_rfl))
 f266 := Tryz.func227.trans (congrArg some (by kernel_rfl))
 f267 := Tryz.func184.trans (congrArg some (by kernel_rfl))
 f314 := Tryz.func228.trans (congrArg some (by kernel_rfl))
 t3 := Tryz.underlying3
 a3 := Tryz.isAgg3
 z3 := Tryz.sizeOf3
 v3 := Tryz.zeroValue3
 t4 := Tryz.underlying4
 a4 := Tryz.isAgg4
 z4 := Tryz.sizeOf4
 v4 := Tryz.zeroValue4
 t5 := Tryz.underlying5
 a5 := Tryz.isAgg5
 z5 := Tryz.sizeOf5
 v5 := Tryz.zeroValue5
 t9 := Tryz.underlying9
 a9 := Tryz.isAgg9
 z9 := Tryz.sizeOf9
 v9 := Tryz.zeroValue9
 t46 := Tryz.underlying249
 a46 := Tryz.isAgg249
 z46 := Tryz.sizeOf249
 v46 := Tryz.zeroValue249
 t51 := Tryz.underlying284
 a51 := Tryz.isAgg284
 z51 := Tryz.sizeOf284
 v51 := Tryz.zeroValue284
 t146 := Tryz.underlying285
 a146 := Tryz.isAgg285
 z146 := Tryz.sizeOf285
 v146 := Tryz.zeroValue285
 g1 := by kernel_rfl }
open Go.RowKit Go.Lib in
theorem Tryz.strings_Contains (s sub : ByteArray) (m : Int) (w : World) (hs : s.size < 4294967281) (hm : w.cell? ⟨0,0,none⟩ = some (.int .i64 m)) :
  Calls Tryz.prog 47 #[.string s,.string sub] w fun e w' => e = .returned (.bool (Lib.contains s.data.toList sub.data.toList)) ∧ w' = w := Any.strings_Contains Tryz.lays144 s sub m w hs hm
end Go.Proofs
namespace Go.Proofs.YtaipgalanpcgoaaGreat
open Go Go.Ax Go.RowKit
set_option maxRecDepth 100000
set_option linter.unusedSimpArgs false
set_option linter.unusedVariables false
set_option maxHeartbeats 4000000
theorem zNW {w : World} {M : Nat → Prop} {ρ : Nat → Ax.Loc} {n : Nat} {x y : AV} {vs : Array Value} (h : RepL w M ρ n [x, y] vs) : ∃ a b, vs = #[a, b] ∧ Rep w M ρ n x a ∧ Rep w M ρ n y b := by
 obtain ⟨h1, h2⟩ := h
 match vs, h1 with
 | ⟨[a, b]⟩, _ => exact ⟨a, b, rfl, h2 0 x a rfl rfl, h2 1 y b rfl rfl⟩
theorem zNP (l : List UInt8) : (mkS l).size = l.length := rfl
theorem zEB (s p : List UInt8) (hs : s.length < 4294967281) (H : zC) : ACall Tryz.prog 47 [str s, str p] H fun x H' => x = bool (Lib.contains s p) ∧ H' = H := by
 refine ⟨⟨_, Tryz.func47, by kernel_rfl, by kernel_rfl⟩, fun X ρ w vs hrel hargs => ?_⟩
 obtain ⟨a, b, rfl, ha, hb⟩ := zNW hargs
 have ha := zJM ha
 have hb := zJM hb
 subst ha
 subst hb
 obtain ⟨-, m, hm⟩ := hrel.gl 0 (by simp [glbs])
 refine (Tryz.strings_Contains (mkS s) (mkS p) m w (by rw [zNP]; exact hs) hm).mono ?_
 rintro e w' ⟨rfl, rfl⟩
 exact ⟨_, _, H, ρ, rfl, ⟨rfl, rfl⟩, hrel, .v _ _, Fut.refl _ _ _⟩
end Go.Proofs.YtaipgalanpcgoaaGreat
namespace Go.Proofs.YtaipgalanpcgoaaGreat
open Go Go.Ax
set_option maxRecDepth 100000
set_option linter.unusedSimpArgs false
set_option maxHeartbeats 4000000
def L28 : LFn := ⟨9,[(.tmp 4)],(sO [oX 4 (.mv (kB false))] (sO [oM 5 0,oM 6 1,oX 7 (y2 58 5 6),oV 8 .geq 7 0,oM 4 8] .ret))⟩
theorem L28_ok : zAa Tryz.prog Tryz.f28 [] = some L28 := by kernel_rfl
def L31 : LFn := ⟨8,[(.tmp 2)],(sO [oX 2 (.mv (.c zAg))] (.seq (sO [oM 3 0,oX 4 (.isnil false (.t 3))] (cD 4 (sO [oX 2 (.mv (.c zAg))] .ret) .skip)) (sO [oX 5 (.bsl false 1 0 [i0] []),oM 6 0,oX 7 (.append 1 8 (.t 5) (.t 6)),oM 2 7] .ret)))⟩
theorem L31_ok : zAa Tryz.prog Tryz.f31 [] = some L31 := by kernel_rfl
def L58 : LFn := ⟨19,[(.tmp 4)],(sO [oC 4 0] (.seq (sO [oM 6 0,oX 7 (.len .slc (.t 6)),oC 8 0] (.block 0 (.loop (sO [oB 9 .lss 8 7] (.seq (cD 9 .skip (.exit 0)) (.seq (.block 1 (sO [oM 10 8,oM 5 10] (sO [oM 11 1,oM 12 0,oM 13 5,oI 14 1 12 13,oL 15 14,oX 16 (.call (.t 11) [(.t 15)])] (cD 16 (sO [oM 17 5,oM 4 17] .ret) .skip)))) (.ops [oV 18 .add 8 1,oM 8 18]))))))) (sO [oC 4 (-1)] .ret)))⟩
theorem L58_ok : zAa Tryz.prog Tryz.f58 [] = some L58 := by kernel_rfl
def L129 : LFn := ⟨9,[(.tmp 4)],(sO [oX 4 (.mv (kB false))] (sO [oM 5 0,oM 6 1,oX 7 (y2 176 5 6),oV 8 .geq 7 0,oM 4 8] .ret))⟩
theorem L129_ok : zAa Tryz.prog Tryz.f129 [] = some L129 := by kernel_rfl
def L176 : LFn := ⟨19,[(.tmp 4)],(sO [oC 4 0] (.seq (sO [oM 6 0,oX 7 (.len .slc (.t 6)),oC 8 0] (.block 0 (.loop (sO [oB 9 .lss 8 7] (.seq (cD 9 .skip (.exit 0)) (.seq (.block 1 (sO [oM 10 8,oM 5 10] (sO [oM 11 1,oM 12 0,oM 13 5,oI 14 6 12 13,oA 15 6 14,oX 16 (.call (.t 11) [(.t 15)])] (cD 16 (sO [oM 17 5,oM 4 17] .ret) .skip)))) (.ops [oV 18 .add 8 1,oM 8 18]))))))) (sO [oC 4 (-1)] .ret)))⟩
theorem L176_ok : zAa Tryz.prog Tryz.f176 [] = some L176 := by kernel_rfl
end Go.Proofs.YtaipgalanpcgoaaGreat
namespace Go.Ax
open Go Go.RowKit
set_option linter.unusedSimpArgs false
section
variable {P : Program} {k : List Item} {Q : Out → Env → zC → Prop} {e : Env} {H : zC} {d : Option Nat} {l : List LO}
def goK (P : Program) (r : Res) (e : Env) (d : Option Nat) (l : List LO) (k : List Item) (Q : Out → Env → zC → Prop) : Prop :=
 r.ok ∧ zAj P (.ops l :: k) Q .normal (ups e d r.x) r.H
def opK (P : Program) (op : LOp) (e : Env) (H : zC) (d : Option Nat) (l : List LO) (k : List Item) (Q : Out → Env → zC → Prop) : Prop :=
 aop P op e H fun x H' => zAj P (.ops l :: k) Q .normal (ups e d x) H'
def zUR (P : Program) (f : AV) (args : List AV) (H : zC) (e : Env) (d : Option Nat) (l : List LO) (k : List Item) (Q : Out → Env → zC → Prop) : Prop :=
 zGl P f args H fun x H' => zAj P (.ops l :: k) Q .normal (ups e d x) H'
def zRM (P : Program) (f : FuncId) (args : List AV) (H : zC) (e : Env) (d : Option Nat) (l : List LO) (k : List Item) (Q : Out → Env → zC → Prop) : Prop :=
 ACall P f args H fun x H' => zAj P (.ops l :: k) Q .normal (ups e d x) H'
def nilK (P : Program) (neg : Bool) (x : AV) (e : Env) (H : zC) (d : Option Nat) (l : List LO) (k : List Item) (Q : Out → Env → zC → Prop) : Prop :=
 slcK H x ∧ ∀ b, nilOk x b → zAj P (.ops l :: k) Q .normal (ups e d (bool (b ^^ neg))) H
def gK (P : Program) (x : AV) (want : Bool) (op : LOp) (e : Env) (t : Nat) (H : zC) (d : Option Nat) (l : List LO) (k : List Item) (Q : Out → Env → zC → Prop) : Prop :=
 match x with
 | .v (.bool b) => if b = true then (if want = true then opK P op (up e t (bool true)) H d l k Q else zAj P (.ops l :: k) Q .normal (ups (up e t (bool true)) d zAJ) H)
   else (if want = true then zAj P (.ops l :: k) Q .normal (ups (up e t (bool false)) d zAJ) H else opK P op (up e t (bool false)) H d l k Q)
 | .v (.tuple _) => zAj P (.ops l :: k) Q .normal (ups e d zAJ) H
 | _ => False
def zQT (P : Program) (c a b : AV) (e : Env) (H : zC) (d : Option Nat) (l : List LO) (k : List Item) (Q : Out → Env → zC → Prop) : Prop :=
 match c with
 | .v (.bool t) => if t = true then zAj P (.ops l :: k) Q .normal (ups e d a) H else zAj P (.ops l :: k) Q .normal (ups e d b) H
 | _ => False
def cK (P : Program) (v : AV) (x : LX) (a b : LCode) (e : Env) (H : zC) (k : List Item) (Q : Out → Env → zC → Prop) : Prop :=
 match v with
 | .v (.bool t) => if t = true then zAj P (.code a :: k) Q .normal (zH7 e x true) H else zAj P (.code b :: k) Q .normal (zH7 e x false) H
 | _ => False
@[push_cast] theorem goK_mk (p : Prop) (x : AV) (H' : zC) : goK P ⟨p, x, H'⟩ e d l k Q = (p ∧ zAj P (.ops l :: k) Q .normal (ups e d x) H') := rfl
@[push_cast] theorem zXl (p q : Prop) (x : AV) (H' : zC) : Res.also p ⟨q, x, H'⟩ = ⟨p ∧ q, x, H'⟩ := rfl
@[push_cast] theorem rk_nil (o : Out) : zAj P [] Q o e H = Q o e H := rfl
@[push_cast] theorem zWg : zAj P (.code .skip :: k) Q .normal e H = zAj P k Q .normal e H := rfl
@[push_cast] theorem rk_seq (a b : LCode) : zAj P (.code (.seq a b) :: k) Q .normal e H = zAj P (.code a :: .code b :: k) Q .normal e H := by
 show awp P a e H _ = awp P a e H _
 congr 1
 funext o e' H'
 cases o <;> rfl
@[push_cast] theorem zVi (id : Nat) (c : LCode) : zAj P (.code (.block id c) :: k) Q .normal e H = zAj P (.code c :: .blk id :: k) Q .normal e H := by
 show awp P c e H _ = awp P c e H _
 rfl
@[push_cast] theorem zQD (c : LCode) (v : Value) : zAj P (.code c :: k) Q (.pan v) e H = zAj P k Q (.pan v) e H := rfl
@[push_cast] theorem zSi (id : Nat) (v : Value) : zAj P (.blk id :: k) Q (.pan v) e H = zAj P k Q (.pan v) e H := rfl
@[push_cast] theorem zTc (R : Env → zC → Prop) (v : Value) : zAj P (.lp R :: k) Q (.pan v) e H = zAj P k Q (.pan v) e H := rfl
@[push_cast] theorem zWh (id : Nat) : zAj P (.code (.exit id) :: k) Q .normal e H = zAj P k Q (.exit id) e H := rfl
@[push_cast] theorem rk_ret : zAj P (.code .ret :: k) Q .normal e H = zAj P k Q .ret e H := rfl
@[push_cast] theorem zO3 (c : LCode) (id : Nat) : zAj P (.code c :: k) Q (.exit id) e H = zAj P k Q (.exit id) e H := rfl
@[push_cast] theorem zQC (c : LCode) : zAj P (.code c :: k) Q .ret e H = zAj P k Q .ret e H := rfl
@[push_cast] theorem rk_blk : ∀ (id : Nat), zAj P (.blk id :: k) Q .normal e H = zAj P k Q .normal e H := fun _ => rfl
@[push_cast] theorem zQE (id j : Nat) : zAj P (.blk id :: k) Q (.exit j) e H = if j = id then zAj P k Q .normal e H else zAj P k Q (.exit j) e H := rfl
@[push_cast] theorem zSh (id : Nat) : zAj P (.blk id :: k) Q .ret e H = zAj P k Q .ret e H := rfl
@[push_cast] theorem rk_lp (R : Env → zC → Prop) : zAj P (.lp R :: k) Q .normal e H = R e H := rfl
@[push_cast] theorem zSg (R : Env → zC → Prop) (j : Nat) : zAj P (.lp R :: k) Q (.exit j) e H = zAj P k Q (.exit j) e H := rfl
@[push_cast] theorem zTb (R : Env → zC → Prop) : zAj P (.lp R :: k) Q .ret e H = zAj P k Q .ret e H := rfl
@[push_cast] theorem rk_ops (l : List LO) : zAj P (.code (.ops l) :: k) Q .normal e H = zAj P (.ops l :: k) Q .normal e H := rfl
@[push_cast] theorem zS9 : zAj P (.ops [] :: k) Q .normal e H = zAj P k Q .normal e H := rfl
@[push_cast] theorem rk_op (op : LOp) : zAj P (.ops (⟨d, none, op⟩ :: l) :: k) Q .normal e H = opK P op e H d l k Q := rfl
@[push_cast] theorem rk_opg (t : Nat) (want : Bool) (op : LOp) : zAj P (.ops (⟨d, some (t, want), op⟩ :: l) :: k) Q .normal e H = gK P (e t) want op e t H d l k Q := by
 simp only [zAj, zA8, gK, opK]
 try (cases e t with
 | v x => cases x <;> rfl
 | _ => rfl)
@[push_cast] theorem zWj (x : LX) (a b : LCode) : zAj P (.code (.cond x a b) :: k) Q .normal e H = cK P (ev e x) x a b e H k Q := by
 simp only [zAj, awp, cK]
 cases ev e x with
 | v x => cases x <;> rfl
 | _ => rfl
@[push_cast] theorem zXe (t : Bool) (x : LX) (a b : LCode) : cK P (.v (.bool t)) x a b e H k Q = if t = true then zAj P (.code a :: k) Q .normal (zH7 e x true) H else zAj P (.code b :: k) Q .normal (zH7 e x false) H := rfl
@[push_cast] theorem gK_t (b : Bool) (op : LOp) (t : Nat) : gK P (.v (.bool b)) true op e t H d l k Q = if b = true then opK P op (up e t (bool true)) H d l k Q else zAj P (.ops l :: k) Q .normal (ups (up e t (bool false)) d zAJ) H := by simp [gK]
@[push_cast] theorem gK_f (b : Bool) (op : LOp) (t : Nat) : gK P (.v (.bool b)) false op e t H d l k Q = if b = true then zAj P (.ops l :: k) Q .normal (ups (up e t (bool true)) d zAJ) H else opK P op (up e t (bool false)) H d l k Q := by simp [gK]
@[push_cast] theorem gK_u (us : Array Value) (want : Bool) (op : LOp) (t : Nat) : gK P (.v (.tuple us)) want op e t H d l k Q = zAj P (.ops l :: k) Q .normal (ups e d zAJ) H := rfl
@[push_cast] theorem opK_mv (x : LX) : opK P (.mv x) e H d l k Q = zAj P (.ops l :: k) Q .normal (ups e d (ev e x)) H := by simp [opK, aop, zB2]
@[push_cast] theorem zVt (c a b : LX) : opK P (.pick c a b) e H d l k Q = zQT P (ev e c) (ev e a) (ev e b) e H d l k Q := by
 simp only [opK, aop, zQT]
 cases ev e c with
 | v x => cases x <;> rfl
 | _ => rfl
@[push_cast] theorem zWp (t : Bool) (a b : AV) : zQT P (.v (.bool t)) a b e H d l k Q = if t = true then zAj P (.ops l :: k) Q .normal (ups e d a) H else zAj P (.ops l :: k) Q .normal (ups e d b) H := rfl
@[push_cast] theorem zTZ (zs : List AV) : opK P (.alloc zs) e H d l k Q = goK P ⟨c1s zs = true, .ptr H.length 0 0, H ++ [.box zs]⟩ e d l k Q := rfl
@[push_cast] theorem zWP (imm : Bool) (x : LX) : opK P (.box imm x) e H d l k Q = goK P (rBox imm (ev e x) H) e d l k Q := rfl
@[push_cast] theorem zTY (zs : List AV) (ps : List (Nat × Nat × LX)) : opK P (.build zs ps) e H d l k Q = goK P (rBuild zs (ps.map fun (o, n, x) => (o, n, ev e x)) H) e d l k Q := rfl
@[push_cast] theorem zWO (imm : Bool) (sz len : Nat) (zs : List AV) (ps : List (Nat × LX)) : opK P (.bsl imm sz len zs ps) e H d l k Q = goK P (rBsl imm sz len zs (ps.map fun (i, x) => (i, ev e x)) H) e d l k Q := rfl
@[push_cast] theorem zTU : opK P .mkmap e H d l k Q = goK P ⟨True, .om H.length 0, H ++ [.map 0 [] []]⟩ e d l k Q := rfl
@[push_cast] theorem keyV_v (x : Value) : zPr (.v x) = .v x := rfl
@[push_cast] theorem zWK (kd : KD) (m x y : LX) : opK P (.ins kd m x y) e H d l k Q = goK P (rIns kd (ev e m) (zPr (ev e x)) (ev e y) H) e d l k Q := rfl
@[push_cast] theorem zVx (ag : Bool) (n : Nat) (p : LX) : opK P (.load ag n p) e H d l k Q = goK P (rLoad ag n (ev e p) H) e d l k Q := rfl
@[push_cast] theorem zTR (n : Nat) (p x : LX) : opK P (.store n p x) e H d l k Q = goK P (rStore n (ev e p) (ev e x) H) e d l k Q := rfl
@[push_cast] theorem zSn (x : LX) : opK P (.nilchk x) e H d l k Q = goK P (rNil (ev e x) H) e d l k Q := rfl
@[push_cast] theorem zWQ (kd : KD) (op : BinOp) (x y : LX) : opK P (.bin kd op x y) e H d l k Q = goK P (rBin kd op (ev e x) (ev e y) H) e d l k Q := rfl
@[push_cast] theorem zWE (x : LX) : opK P (.not x) e H d l k Q = goK P (rNot (ev e x) H) e d l k Q := rfl
@[push_cast] theorem zWF (x : LX) : opK P (.neg x) e H d l k Q = goK P (rNeg (ev e x) H) e d l k Q := rfl
@[push_cast] theorem zVv (f : Fn) (a b : List LX) : opK P (.mkfn f a b) e H d l k Q = goK P ⟨True, .fn f (a.map (ev e)) (b.map (ev e)), H⟩ e d l k Q := rfl
@[push_cast] theorem zWG (sz bytes : Nat) (zs : List AV) (len cap : LX) : opK P (.msl sz bytes zs len cap) e H d l k Q = goK P (rMsl sz bytes zs (ev e len) (ev e cap) H) e d l k Q := rfl
@[push_cast] theorem zTS (lk : LK) (n : Nat) (x : LX) (lo hi : Option LX) : opK P (.slice lk n x lo hi) e H d l k Q = goK P (rSlice lk n (ev e x) (lo.map (ev e)) (hi.map (ev e)) H) e d l k Q := rfl
@[push_cast] theorem zTX (off : Nat) (p : LX) : opK P (.faddr off p) e H d l k Q = goK P (rFaddr off (ev e p) H) e d l k Q := rfl
@[push_cast] theorem zTW (sz : Nat) (x i : LX) : opK P (.iaddr sz x i) e H d l k Q = goK P (rIaddr sz (ev e x) (ev e i) H) e d l k Q := rfl
@[push_cast] theorem zWL (x i : LX) : opK P (.idx x i) e H d l k Q = goK P (rIdx (ev e x) (ev e i) H) e d l k Q := rfl
@[push_cast] theorem zVw (kd : KD) (zero : AV) (ok : Bool) (m x : LX) : opK P (.look kd zero ok m x) e H d l k Q = goK P (rLook kd zero ok (ev e m) (zPr (ev e x)) H) e d l k Q := rfl
@[push_cast] theorem zWN (x : LX) (i : Nat) : opK P (.ext x i) e H d l k Q = goK P (rExt (ev e x) i H) e d l k Q := rfl
@[push_cast] theorem zWJ (lk : LK) (x : LX) : opK P (.len lk x) e H d l k Q = goK P (rLen lk (ev e x) H) e d l k Q := rfl
@[push_cast] theorem zSp (sz bytes : Nat) (s x : LX) : opK P (.append sz bytes s x) e H d l k Q = goK P (rAppend sz bytes (ev e s) (ev e x) H) e d l k Q := rfl
@[push_cast] theorem zVy (sz : Nat) (s x : LX) : opK P (.copy sz s x) e H d l k Q = goK P (rCopy sz (ev e s) (ev e x) H) e d l k Q := rfl
@[push_cast] theorem zWH (x y : LX) : opK P (.min2 x y) e H d l k Q = goK P (rMin (ev e x) (ev e y) H) e d l k Q := rfl
@[push_cast] theorem zVu (neg : Bool) (x : LX) : opK P (.nili neg x) e H d l k Q = goK P (rNilI neg (ev e x) H) e d l k Q := rfl
@[push_cast] theorem zVA (t : TypeId) (z : AV) (x : LX) : opK P (.asrt t z x) e H d l k Q = goK P (rAsrt t z (ev e x) H) e d l k Q := rfl
@[push_cast] theorem zSm (x : LX) : opK P (.rangem x) e H d l k Q = goK P (rRangeM (ev e x) H) e d l k Q := rfl
@[push_cast] theorem zSo (x : LX) : opK P (.entrym x) e H d l k Q = goK P (rEntryM (ev e x) H) e d l k Q := rfl
def zQ8 (P : Program) (x : AV) (e : Env) (H : zC) (d : Option Nat) (l : List LO) (k : List Item) (Q : Out → Env → zC → Prop) : Prop :=
 nextA x H fun x H' => zAj P (.ops l :: k) Q .normal (ups e d x) H'
@[push_cast] theorem zTT (x : LX) : opK P (.nextm x) e H d l k Q = zQ8 P (ev e x) e H d l k Q := rfl
theorem zOb {r : Nat} {ks : List Value} {vs : List AV} {left : List Nat} {cur : Option Nat} (hr : H[r]? = some (.mit ks vs left cur)) (h0 : left = [] → zAj P (.ops l :: k) Q .normal (ups e d (.tup [bool false])) H)
  (h1 : ∀ i ∈ left, zAj P (.ops l :: k) Q .normal (ups e d (.tup [bool true, .v (ks.getD i default), vs.getD i .any])) (H.set r (.mit ks vs (left.filter fun j => !decide (j = i)) (some i)))) : zQ8 P (.ptr r 0 0) e H d l k Q := by
 simp only [zQ8, nextA, zOa, hr]
 exact ⟨h0, h1⟩
@[push_cast] theorem zWI (x y : LX) : opK P (.max2 x y) e H d l k Q = goK P (rMax (ev e x) (ev e y) H) e d l k Q := rfl
@[push_cast] theorem zWM (x : LX) : opK P (.frz x) e H d l k Q = goK P (rFrz (ev e x) H) e d l k Q := rfl
@[push_cast] theorem zWD (sz : Nat) (x : LX) : opK P (.own sz x) e H d l k Q = goK P (rOwn sz (ev e x) H) e d l k Q := rfl
@[push_cast] theorem zTV (neg : Bool) (x : LX) : opK P (.isnil neg x) e H d l k Q = nilK P neg (ev e x) e H d l k Q := rfl
@[push_cast] theorem zVz (f : LX) (args : List LX) : opK P (.call f args) e H d l k Q = zUR P (ev e f) (args.map (ev e)) H e d l k Q := rfl
@[push_cast] theorem zVJ (f : FuncId) (a b args : List AV) : zUR P (.fn (.func f) a b) args H e d l k Q = zRM P f (a ++ args ++ b) H e d l k Q := rfl
def callY (P : Program) (f : Nat) (args : List AV) (H : zC) (e : Env) (d : Option Nat) (l : List LO) (k : List Item) (Q : Out → Env → zC → Prop) : Prop :=
 AYield P f args H fun x H' => zAj P (.ops l :: k) Q .normal (ups e d x) H'
def zPA (P : Program) (f : AV) (args : List AV) (H : zC) (e : Env) (d : Option Nat) (k : List Item) (Q : Out → Env → zC → Prop) : Prop :=
 zEc P f args H (fun y H' => zAj P k Q .normal (ups e d y) H') fun v H' => zAj P k Q (.pan v) e H'
def zKj (P : Program) (f : FuncId) (args : List AV) (H : zC) (e : Env) (d : Option Nat) (k : List Item) (Q : Out → Env → zC → Prop) : Prop :=
 ACallX P f args H (fun y H' => zAj P k Q .normal (ups e d y) H') fun v H' => zAj P k Q (.pan v) e H'
@[push_cast] theorem zVh (f : LX) (args : List LX) : zAj P (.code (.callp d f args) :: k) Q .normal e H = zPA P (ev e f) (args.map (ev e)) H e d k Q := rfl
@[push_cast] theorem zUP (f : FuncId) (a b args : List AV) : zPA P (.fn (.func f) a b) args H e d k Q = zKj P f (a ++ args ++ b) H e d k Q := rfl
theorem zJ {f : FuncId} {args : List AV} {R : AV → zC → Prop} {Z : Value → zC → Prop} (h : ACallX P f args H R Z) (hk : ∀ y H', R y H' → zAj P k Q .normal (ups e d y) H') (hz : ∀ v H', Z v H' → zAj P k Q (.pan v) e H') : zKj P f args H e d k Q := h.mono hk hz
theorem zE {f : FuncId} {args : List AV} {x : AV} (h : ACall P f args H fun y H' => y = x ∧ H' = H) (hk : zAj P k Q .normal (ups e d x) H) : zKj P f args H e d k Q :=
 (h.mono (R' := fun y H' => zAj P k Q .normal (ups e d y) H') fun y H' ⟨h1, h2⟩ => by subst h1; subst h2; exact hk).x _
def zWq (P : Program) (d : Nat) (t : TypeId) (x : Option Value) (e : Env) (H : zC) (k : List Item) (Q : Out → Env → zC → Prop) : Prop := ∃ v, x = some v ∧ zAj P k Q (.pan (.iface t v)) (up e d (.v (.iface t v))) H
@[push_cast] theorem rk_pan (d0 : Nat) (t : TypeId) (x : LX) : zAj P (.code (.pan d0 t x) :: k) Q .normal e H = zWq P d0 t (zOS (ev e x)) e H k Q := rfl
@[push_cast] theorem zTt (d0 : Nat) (t : TypeId) (v : Value) : zWq P d0 t (some v) e H k Q = zAj P k Q (.pan (.iface t v)) (up e d0 (.v (.iface t v))) H := by simp [zWq]
def tiK (P : Program) (c : Bool) (o : LO) (e : Env) (H : zC) (em : Env) (k : List Item) (Q : Out → Env → zC → Prop) : Prop :=
 aTI P c o e H (fun e' H' => zAj P k Q .normal e' H') fun v H' => zAj P k Q (.pan v) em H'
def tiG (P : Program) (x : AV) (want : Bool) (f : LX) (args : List LX) (e : Env) (H : zC) (d : Option Nat) (em : Env) (k : List Item) (Q : Out → Env → zC → Prop) : Prop :=
 match x with
 | .v (.bool b) => if b = want then zEc P (ev e f) (args.map (ev e)) H (fun y H' => zAj P k Q .normal (ups e d y) H') (fun v H' => zAj P k Q (.pan v) em H') else zAj P k Q .normal (ups e d zAJ) H
 | .v (.tuple _) => zAj P k Q .normal (ups e d zAJ) H
 | _ => False
def zMZ (P : Program) (f : AV) (args : List AV) (H : zC) (e : Env) (d : Option Nat) (em : Env) (k : List Item) (Q : Out → Env → zC → Prop) : Prop :=
 zEc P f args H (fun y H' => zAj P k Q .normal (ups e d y) H') fun v H' => zAj P k Q (.pan v) em H'
def zJs (P : Program) (f : FuncId) (args : List AV) (H : zC) (e : Env) (d : Option Nat) (em : Env) (k : List Item) (Q : Out → Env → zC → Prop) : Prop :=
 ACallX P f args H (fun y H' => zAj P k Q .normal (ups e d y) H') fun v H' => zAj P k Q (.pan v) em H'
@[push_cast] theorem zUO (f : FuncId) (em : Env) (a b args : List AV) : zMZ P (.fn (.func f) a b) args H e d em k Q = zJs P f (a ++ args ++ b) H e d em k Q := rfl
theorem zAU {f : FuncId} {em : Env} {args : List AV} {R : AV → zC → Prop} {Z : Value → zC → Prop} (h : ACallX P f args H R Z) (hk : ∀ y H', R y H' → zAj P k Q .normal (ups e d y) H') (hz : ∀ v H', Z v H' → zAj P k Q (.pan v) em H') : zJs P f args H e d em k Q := h.mono hk hz
theorem zBy {f : FuncId} {em : Env} {args : List AV} {x : AV} (h : ACall P f args H fun y H' => y = x ∧ H' = H) (hk : zAj P k Q .normal (ups e d x) H) : zJs P f args H e d em k Q :=
 (h.mono (R' := fun y H' => zAj P k Q .normal (ups e d y) H') fun y H' ⟨h1, h2⟩ => by subst h1; subst h2; exact hk).x _
@[push_cast] theorem rk_ti (o : LO) : zAj P (.code (.ti o) :: k) Q .normal e H = tiK P true o e H e k Q := rfl
@[push_cast] theorem zVc (f : LX) (args : List LX) (em : Env) : tiK P true ⟨d, none, .call f args⟩ e H em k Q = zMZ P (ev e f) (args.map (ev e)) H e d em k Q := rfl
@[push_cast] theorem zSJ (t : Nat) (want : Bool) (f : LX) (args : List LX) (em : Env) : tiK P true ⟨d, some (t, want), .call f args⟩ e H em k Q = tiG P (e t) want f args e H d em k Q := rfl
def panX (P : Program) (x : AV) (em : Env) (H : zC) (k : List Item) (Q : Out → Env → zC → Prop) : Prop := ∃ t z, x = .v (.iface t z) ∧ zAj P k Q (.pan (.iface t z)) em H
@[push_cast] theorem zV6 (x : LX) (em : Env) : tiK P true ⟨d, none, .panicv x⟩ e H em k Q = panX P (ev e x) em H k Q := rfl
@[push_cast] theorem panX_v (t : TypeId) (z : Value) (em : Env) : panX P (.v (.iface t z)) em H k Q = zAj P k Q (.pan (.iface t z)) em H := propext ⟨by rintro ⟨_, _, h, h2⟩; cases h; exact h2, fun h => ⟨_, _, rfl, h⟩⟩
@[push_cast] theorem tiG_b (b want : Bool) (f : LX) (args : List LX) (em : Env) : tiG P (.v (.bool b)) want f args e H d em k Q = if b = want then zMZ P (ev e f) (args.map (ev e)) H e d em k Q else zAj P k Q .normal (ups e d zAJ) H := rfl
@[push_cast] theorem zVf (hd : List LO) (tl : List (LO × Bool × List Nat)) (gs : List LO) : zAj P (.code (.drawX hd tl gs) :: k) Q .normal e H = zAj P (.opq hd [] :: .opx hd tl gs (zOf e hd tl) :: k) Q .normal e H := rfl
@[push_cast] theorem zSf (hd : List LO) (gs : List LO) (em : Env) : zAj P (.opx hd [] gs em :: k) Q .normal e H = zAj P (.ops gs :: k) Q .normal e H := rfl
@[push_cast] theorem zVe (hd : List LO) (e1 : Env) (js : List Nat) (gs : List LO) (em : Env) : zAj P (.keepx hd e1 js [] gs em :: k) Q .normal e H = (zDh P hd e1 H js ∧ zAj P (.ops gs :: k) Q .normal e H) := rfl
@[push_cast] theorem rk_opx (c : Bool) (o : LO) (js : List Nat) (tl : List (LO × Bool × List Nat)) (hd gs : List LO) (em : Env) : zAj P (.opx hd ((o, c, js) :: tl) gs em :: k) Q .normal e H = tiK P c o e H em (.keepx hd e js tl gs em :: k) Q := rfl
@[push_cast] theorem zTd (c : Bool) (o : LO) (js js1 : List Nat) (tl : List (LO × Bool × List Nat)) (hd gs : List LO) (e1 em : Env) : zAj P (.keepx hd e1 js1 ((o, c, js) :: tl) gs em :: k) Q .normal e H = (zDh P hd e1 H js1 ∧ tiK P c o e H em (.keepx hd e1 js tl gs em :: k) Q) := rfl
@[push_cast] theorem tiK_f (o : LO) (em : Env) : tiK P false o e H em k Q = zAj P (.ops [o] :: k) Q .normal e H := rfl
@[push_cast] theorem zO2 (hd : List LO) (e1 : Env) (js : List Nat) (tl : List (LO × Bool × List Nat)) (gs : List LO) (em : Env) (v : Value) : zAj P (.keepx hd e1 js tl gs em :: k) Q (.pan v) e H = zAj P k Q (.pan v) e H := rfl
@[push_cast] theorem zUk (hd : List LO) (e1 : Env) : zDh P hd e1 H [] = True := by simp [zDh]
def zFa (P : Program) (o : LO) (e1 : Env) (H : zC) : Prop := zBc P [o] e1 H fun e' => e' = e1
@[push_cast] theorem zSs (hd : List LO) (e1 : Env) (j : Nat) (js : List Nat) : zDh P hd e1 H (j :: js) = (zFa P (hd.getD j default) e1 H ∧ zDh P hd e1 H js) := by simp [zDh, zFa]
theorem zFB (e1 : Env) (t : Nat) (x : AV) : (up e1 t x = e1) = (e1 t = x) := by
 apply propext
 constructor
 ·intro h; have := congrFun h t; simpa [up] using this.symm
 ·intro h; funext u; simp only [up]; split <;> simp_all
def zFY (r : Res) (e1 : Env) (t : Nat) (H : zC) : Prop := r.ok ∧ r.H = H ∧ e1 t = r.x
@[push_cast] theorem zVD (p : Prop) (x : AV) (H' : zC) (e1 : Env) (t : Nat) : zFY ⟨p, x, H'⟩ e1 t H = (p ∧ H' = H ∧ e1 t = x) := rfl
@[push_cast] theorem zSt (e1 : Env) (t : Nat) (ag : Bool) (m : Nat) (p : LX) : zFa P ⟨some t, none, .load ag m p⟩ e1 H = zFY (rLoad ag m (ev e1 p) H) e1 t H := by
 simp only [zFa, zBc, zDk, zB2, ups, zFY, zFB]
@[push_cast] theorem zPs (e1 : Env) (t : Nat) (p : LX) : zFa P ⟨some t, none, .nilchk p⟩ e1 H = zFY (rNil (ev e1 p) H) e1 t H := by
 simp only [zFa, zBc, zDk, zB2, ups, zFY, zFB]
@[push_cast] theorem zRg (e1 : Env) (t : Nat) (m : Nat) (p : LX) : zFa P ⟨some t, none, .faddr m p⟩ e1 H = zFY (rFaddr m (ev e1 p) H) e1 t H := by
 simp only [zFa, zBc, zDk, zB2, ups, zFY, zFB]
@[push_cast] theorem zRf (e1 : Env) (t : Nat) (m : Nat) (p i : LX) : zFa P ⟨some t, none, .iaddr m p i⟩ e1 H = zFY (rIaddr m (ev e1 p) (ev e1 i) H) e1 t H := by
 simp only [zFa, zBc, zDk, zB2, ups, zFY, zFB]
@[push_cast] theorem zRe (e1 : Env) (t : Nat) (lk : LK) (n : Nat) (x : LX) (lo hi : Option LX) : zFa P ⟨some t, none, .slice lk n x lo hi⟩ e1 H = zFY (rSlice lk n (ev e1 x) (lo.map (ev e1)) (hi.map (ev e1)) H) e1 t H := by
 simp only [zFa, zBc, zDk, zB2, ups, zFY, zFB]
@[push_cast] theorem zJC (cs : List AV) : zOS (.agg cs) = (zG1 cs).map fun l => .agg l.toArray := rfl
@[push_cast] theorem zHH : zG1 [] = some [] := rfl
@[push_cast] theorem zKq (v : Value) (l : List AV) : zG1 (.v v :: l) = (zG1 l).map (v :: ·) := rfl
theorem zA {f : FuncId} {args : List AV} {x : AV} (h : ACall P f args H fun y H' => y = x ∧ H' = H) (hk : zAj P (.ops l :: k) Q .normal (ups e d x) H) : zRM P f args H e d l k Q :=
 h.mono fun y H' ⟨hy, hH⟩ => by subst hy; subst hH; exact hk
theorem zL {f : FuncId} {args : List AV} {R : AV → zC → Prop} (h : ACall P f args H R) (hk : ∀ y H', R y H' → zAj P (.ops l :: k) Q .normal (ups e d y) H') : zRM P f args H e d l k Q :=
 h.mono hk
theorem zI0 {c : LCode} (I : Env → zC → Prop) (μ : Env → zC → Nat) (h0 : I e H)
  (h : ∀ e H, I e H → zAj P (.code c :: .lp (fun e' H' => I e' H' ∧ μ e' H' < μ e H) :: k) Q .normal e H) : zAj P (.code (.loop c) :: k) Q .normal e H := by
 refine ⟨I, μ, h0, fun e H hI => ?_⟩
 have h1 : awp P c e H (zAj P (.lp (fun e' H' => I e' H' ∧ μ e' H' < μ e H) :: k) Q) := h e H hI
 have : (zAj P (.lp (fun e' H' => I e' H' ∧ μ e' H' < μ e H) :: k) Q) = (fun o e' H' => match o with | .normal => I e' H' ∧ μ e' H' < μ e H | o => zAj P k Q o e' H') := by
  funext o e' H'; cases o <;> rfl
 rw [this] at h1
 exact h1
def gqK (P : Program) (r : Res) (e : Env) (H : zC) (d : Option Nat) (l tl : List LO) (k : List Item) (Q : Out → Env → zC → Prop) : Prop :=
 r.ok ∧ r.H = H ∧ zAj P (.opq l tl :: k) Q .normal (ups e d r.x) H
def oqK (P : Program) (op : LOp) (e : Env) (H : zC) (d : Option Nat) (l tl : List LO) (k : List Item) (Q : Out → Env → zC → Prop) : Prop :=
 zDk P op e H fun x => zAj P (.opq l tl :: k) Q .normal (ups e d x) H
def zRJ (P : Program) (f : AV) (args : List AV) (H : zC) (e : Env) (d : Option Nat) (l tl : List LO) (k : List Item) (Q : Out → Env → zC → Prop) : Prop :=
 match f with
 | .fn (.func f) a b => ∃ x, APure P f (a ++ args ++ b) x ∧ clL (a ++ args ++ b) = true ∧ zAj P (.opq l tl :: k) Q .normal (ups e d x) H
 | _ => False
def zPB (P : Program) (f : FuncId) (args : List AV) (H : zC) (e : Env) (d : Option Nat) (l tl : List LO) (k : List Item) (Q : Out → Env → zC → Prop) : Prop :=
 ∃ x, APure P f args x ∧ clL args = true ∧ zAj P (.opq l tl :: k) Q .normal (ups e d x) H
def gqG (P : Program) (x : AV) (want : Bool) (op : LOp) (e : Env) (t : Nat) (H : zC) (d : Option Nat) (l tl : List LO) (k : List Item) (Q : Out → Env → zC → Prop) : Prop :=
 match x with
 | .v (.bool b) => if b = true then (if want = true then oqK P op (up e t (bool true)) H d l tl k Q else zAj P (.opq l tl :: k) Q .normal (ups (up e t (bool true)) d zAJ) H)
   else (if want = true then zAj P (.opq l tl :: k) Q .normal (ups (up e t (bool false)) d zAJ) H else oqK P op (up e t (bool false)) H d l tl k Q)
 | .v (.tuple _) => zAj P (.opq l tl :: k) Q .normal (ups e d zAJ) H
 | _ => False
variable {tl : List LO}
@[push_cast] theorem gqK_mk (p : Prop) (x : AV) (H' : zC) : gqK P ⟨p, x, H'⟩ e H d l tl k Q = (p ∧ H' = H ∧ zAj P (.opq l tl :: k) Q .normal (ups e d x) H) := rfl
@[push_cast] theorem zWi (hd tl : List LO) : zAj P (.code (.draw hd tl) :: k) Q .normal e H = zAj P (.opq hd tl :: k) Q .normal e H := rfl
@[push_cast] theorem zTa : zAj P (.opq [] tl :: k) Q .normal e H = zAj P (.ops tl :: k) Q .normal e H := rfl
@[push_cast] theorem rk_oq (op : LOp) : zAj P (.opq (⟨d, none, op⟩ :: l) tl :: k) Q .normal e H = oqK P op e H d l tl k Q := rfl
@[push_cast] theorem rk_oqg (t : Nat) (want : Bool) (op : LOp) : zAj P (.opq (⟨d, some (t, want), op⟩ :: l) tl :: k) Q .normal e H = gqG P (e t) want op e t H d l tl k Q := by
 simp only [zAj, zBc, gqG, oqK]
 cases e t with
 | v x => cases x <;> rfl
 | _ => rfl
@[push_cast] theorem gqG_t (b : Bool) (op : LOp) (t : Nat) : gqG P (.v (.bool b)) true op e t H d l tl k Q = if b = true then oqK P op (up e t (bool true)) H d l tl k Q else zAj P (.opq l tl :: k) Q .normal (ups (up e t (bool false)) d zAJ) H := by simp [gqG]
@[push_cast] theorem gqG_f (b : Bool) (op : LOp) (t : Nat) : gqG P (.v (.bool b)) false op e t H d l tl k Q = if b = true then zAj P (.opq l tl :: k) Q .normal (ups (up e t (bool true)) d zAJ) H else oqK P op (up e t (bool false)) H d l tl k Q := by simp [gqG]
@[push_cast] theorem oqK_mv (x : LX) : oqK P (.mv x) e H d l tl k Q = zAj P (.opq l tl :: k) Q .normal (ups e d (ev e x)) H := by simp [oqK, zDk, zB2]
@[push_cast] theorem zVn (c a b : LX) : oqK P (.pick c a b) e H d l tl k Q = match ev e c with | .v (.bool t) => (if t = true then zAj P (.opq l tl :: k) Q .normal (ups e d (ev e a)) H else zAj P (.opq l tl :: k) Q .normal (ups e d (ev e b)) H) | _ => False := rfl
@[push_cast] theorem zTA (zs : List AV) (ps : List (Nat × Nat × LX)) : oqK P (.build zs ps) e H d l tl k Q = gqK P (rBuild zs (ps.map fun (o, n, x) => (o, n, ev e x)) H) e H d l tl k Q := rfl
@[push_cast] theorem zWu (imm : Bool) (sz len : Nat) (zs : List AV) (ps : List (Nat × LX)) : oqK P (.bsl imm sz len zs ps) e H d l tl k Q = gqK P (rBsl imm sz len zs (ps.map fun (i, x) => (i, ev e x)) H) e H d l tl k Q := rfl
@[push_cast] theorem zVr (ag : Bool) (n : Nat) (p : LX) : oqK P (.load ag n p) e H d l tl k Q = gqK P (rLoad ag n (ev e p) H) e H d l tl k Q := rfl
@[push_cast] theorem zSl (x : LX) : oqK P (.nilchk x) e H d l tl k Q = gqK P (rNil (ev e x) H) e H d l tl k Q := rfl
@[push_cast] theorem zWv (kd : KD) (op : BinOp) (x y : LX) : oqK P (.bin kd op x y) e H d l tl k Q = gqK P (rBin kd op (ev e x) (ev e y) H) e H d l tl k Q := rfl
@[push_cast] theorem zWr (x : LX) : oqK P (.neg x) e H d l tl k Q = gqK P (rNeg (ev e x) H) e H d l tl k Q := rfl
@[push_cast] theorem zTw (lk : LK) (n : Nat) (x : LX) (lo hi : Option LX) : oqK P (.slice lk n x lo hi) e H d l tl k Q = gqK P (rSlice lk n (ev e x) (lo.map (ev e)) (hi.map (ev e)) H) e H d l tl k Q := rfl
@[push_cast] theorem zTy (off : Nat) (p : LX) : oqK P (.faddr off p) e H d l tl k Q = gqK P (rFaddr off (ev e p) H) e H d l tl k Q := rfl
@[push_cast] theorem zTx (sz : Nat) (x i : LX) : oqK P (.iaddr sz x i) e H d l tl k Q = gqK P (rIaddr sz (ev e x) (ev e i) H) e H d l tl k Q := rfl
@[push_cast] theorem zVq (kd : KD) (zero : AV) (ok : Bool) (m x : LX) : oqK P (.look kd zero ok m x) e H d l tl k Q = gqK P (rLook kd zero ok (ev e m) (zPr (ev e x)) H) e H d l tl k Q := rfl
@[push_cast] theorem zWt (x : LX) (i : Nat) : oqK P (.ext x i) e H d l tl k Q = gqK P (rExt (ev e x) i H) e H d l tl k Q := rfl
@[push_cast] theorem zWs (lk : LK) (x : LX) : oqK P (.len lk x) e H d l tl k Q = gqK P (rLen lk (ev e x) H) e H d l tl k Q := rfl
@[push_cast] theorem zVp (x y z : LX) : oqK P (.max3 x y z) e H d l tl k Q = gqK P (rMax3 (ev e x) (ev e y) (ev e z) H) e H d l tl k Q := rfl
@[push_cast] theorem zVs (f : LX) (args : List LX) : oqK P (.call f args) e H d l tl k Q = zRJ P (ev e f) (args.map (ev e)) H e d l tl k Q := by
 simp only [oqK, zDk, zRJ]
 cases ev e f with
 | fn f a b => cases f <;> rfl
 | _ => rfl
def zRL (P : Program) (f : AV) (args : List AV) (H : zC) (e : Env) (d : Option Nat) (l tl : List LO) (k : List Item) (Q : Out → Env → zC → Prop) : Prop :=
 match f with
 | .fn (.func f) a b => ∃ x, ACall P f (a ++ args ++ b) H (fun y H' => y = x ∧ H' = H) ∧ zAj P (.opq l tl :: k) Q .normal (ups e d x) H
 | _ => False
def zPD (P : Program) (f : FuncId) (args : List AV) (H : zC) (e : Env) (d : Option Nat) (l tl : List LO) (k : List Item) (Q : Out → Env → zC → Prop) : Prop :=
 ∃ x, ACall P f args H (fun y H' => y = x ∧ H' = H) ∧ zAj P (.opq l tl :: k) Q .normal (ups e d x) H
@[push_cast] theorem zTz (f : LX) (args : List LX) : oqK P (.callh f args) e H d l tl k Q = zRL P (ev e f) (args.map (ev e)) H e d l tl k Q := by
 simp only [oqK, zDk, zRL]
 cases ev e f with
 | fn f a b => cases f <;> rfl
 | _ => rfl
@[push_cast] theorem zVK (f : FuncId) (a b args : List AV) : zRL P (.fn (.func f) a b) args H e d l tl k Q = zPD P f (a ++ args ++ b) H e d l tl k Q := rfl
theorem zAG {f : FuncId} {args : List AV} {x : AV} (h : ACall P f args H (fun y H' => y = x ∧ H' = H)) (hk : zAj P (.opq l tl :: k) Q .normal (ups e d x) H) : zPD P f args H e d l tl k Q := ⟨x, h, hk⟩
@[push_cast] theorem zVI (f : FuncId) (a b args : List AV) : zRJ P (.fn (.func f) a b) args H e d l tl k Q = zPB P f (a ++ args ++ b) H e d l tl k Q := rfl
theorem zN {f : FuncId} {args : List AV} {x : AV} (h : APure P f args x) (hc : clL args = true) (hk : zAj P (.opq l tl :: k) Q .normal (ups e d x) H) : zPB P f args H e d l tl k Q := ⟨x, h, hc, hk⟩
@[push_cast] theorem zVa (t : Nat) (x : AV) : ups e (some t) x = up e t x := rfl
@[push_cast] theorem zVb (x : AV) : ups e none x = e := rfl
@[push_cast] theorem zPV (t : Nat) (x : AV) : up e t x t = x := by simp [up]
@[push_cast] theorem up_at (t u : Nat) (x : AV) : up e t x u = if u = t then x else e u := rfl
@[push_cast] theorem ev_t (n : Nat) : ev e (.t n) = e n := rfl
@[push_cast] theorem ev_c (x : AV) : ev e (.c x) = x := rfl
@[push_cast] theorem zWW (n : Nat) (b : Bool) : zH7 e (.t n) b = up e n (bool b) := rfl
@[push_cast] theorem zTe (res : List RV) (R : AV → zC → Prop) (Z : Value → zC → Prop) : zI1 res R Z .ret e H = ((zAO e H res).ok ∧ R (zAO e H res).x H) := rfl
@[push_cast] theorem zO5 (res : List RV) (R : AV → zC → Prop) (Z : Value → zC → Prop) : zI1 res R Z .normal e H = ((zAO e H res).ok ∧ R (zAO e H res).x H) := rfl
@[push_cast] theorem zTf (res : List RV) (R : AV → zC → Prop) (Z : Value → zC → Prop) (v : Value) : zI1 res R Z (.pan v) e H = Z v H := rfl
@[push_cast] theorem zVj (res : List RV) (R : AV → zC → Prop) : zSj res R .ret e H = ((zAO e H res).ok ∧ R (zAO e H res).x H) := rfl
@[push_cast] theorem zQF (res : List RV) (R : AV → zC → Prop) : zSj res R .normal e H = ((zAO e H res).ok ∧ R (zAO e H res).x H) := rfl
@[push_cast] theorem zWn (r : RV) : zAO e H [r] = zC3 e H r := rfl
@[push_cast] theorem zWm (a b : RV) : zAO e H [a, b] = ⟨(zC3 e H a).ok ∧ (zC3 e H b).ok, .tup [(zC3 e H a).x, (zC3 e H b).x], H⟩ := by simp [zAO]
@[push_cast] theorem zWl (a b c : RV) : zAO e H [a, b, c] = ⟨(zC3 e H a).ok ∧ (zC3 e H b).ok ∧ (zC3 e H c).ok, .tup [(zC3 e H a).x, (zC3 e H b).x, (zC3 e H c).x], H⟩ := by simp [zAO]
@[push_cast] theorem zWk (a b c d : RV) : zAO e H [a, b, c, d] = ⟨(zC3 e H a).ok ∧ (zC3 e H b).ok ∧ (zC3 e H c).ok ∧ (zC3 e H d).ok, .tup [(zC3 e H a).x, (zC3 e H b).x, (zC3 e H c).x, (zC3 e H d).x], H⟩ := by simp [zAO]
@[push_cast] theorem zVk (t : Nat) : zC3 e H (.tmp t) = ⟨True, e t, H⟩ := rfl
@[push_cast] theorem zTg (t : Nat) (ag : Bool) (n : Nat) : zC3 e H (.cell t ag n) = rLoad ag n (e t) H := rfl
@[push_cast] theorem zUC (i : Nat) : zDi [] i = e0 := rfl
@[push_cast] theorem zSu (x : AV) (l : List AV) (i : Nat) : zDi (x :: l) i = up (zDi l (i + 1)) i x := rfl
end
attribute [push_cast] rBox.eq_1 fillA.eq_1 fillA.eq_2 rBuild.eq_1 fillS.eq_1 fillS.eq_2 rBsl.eq_1 rIns.eq_1 rIns.eq_2 rLoadO.eq_1 rLoadO.eq_2 rLoadO.eq_3 isVer.eq_1 isVer.eq_2 isVer.eq_3 isVer.eq_4 isBox.eq_1 isBox.eq_2 isArr.eq_1 isArr.eq_2 rLoad.eq_1 rLoad.eq_2 rLoad.eq_3 rLoad.eq_4 rStoreO.eq_1 rStoreO.eq_2 rStoreO.eq_3 rStore.eq_1 rStore.eq_2 rStore.eq_3 rNil.eq_1 rNil.eq_2 rNil.eq_3 rNil.eq_4 rNil.eq_5 rNil.eq_6 cEq.eq_1 cEq.eq_2 cEq.eq_3 iBin.eq_1 iBin.eq_2 iBin.eq_3 iBin.eq_4 iBin.eq_5 iBin.eq_6 iBin.eq_7 iBin.eq_8 iBin.eq_9 iBin.eq_10 iBin.eq_11 iBin.eq_12 iBin.eq_13 iBin.eq_14 iBin.eq_15 iBin.eq_16 sBin.eq_1 sBin.eq_2 sBin.eq_3 sBin.eq_4 sBin.eq_5 sBin.eq_6 sBin.eq_7 sBin.eq_8 eqRes.eq_1 eqRes.eq_2 eqRes.eq_3 isKD.eq_1 isKD.eq_2 isKD.eq_3 isKD.eq_4 rBin.eq_1 rBin.eq_2 rBin.eq_3 rBin.eq_4 rBin.eq_5 rBin.eq_6 rBin.eq_7 rNot.eq_1 rNot.eq_2 rNeg.eq_1 rNeg.eq_2 rConv.eq_1 rConv.eq_2 rConv.eq_3 rConv.eq_4 rConv.eq_5 rConv.eq_6 rConv.eq_7 rConv.eq_8 rMsl.eq_1 rMsl.eq_2 bnd.eq_1 bnd.eq_2 bnd.eq_3 rSliceN.eq_1 rSliceN.eq_2 rSliceN.eq_3 rSliceN.eq_4 rSliceN.eq_5 lenOf.eq_1 lenOf.eq_2 lenOf.eq_3 lenOf.eq_4 lenOf.eq_5 lenOf.eq_6 lenOf.eq_7 lenOf.eq_8 rSlice.eq_1 lkOk.eq_1 lkOk.eq_2 lkOk.eq_3 lkOk.eq_4 lkOk.eq_5 lkOk.eq_6 lkOk.eq_7 verOk.eq_1 verOk.eq_2 rLen.eq_1 rFaddr.eq_1 rFaddr.eq_2 rFaddr.eq_3 rFaddr.eq_4 rFld.eq_1 rFld.eq_2 rIaddr.eq_1 rIaddr.eq_2 rIaddr.eq_3 rIdx.eq_1 rIdx.eq_2 lookV.eq_1 lookV.eq_2 rLookN.eq_1 rLook.eq_1 rLook.eq_2 rLook.eq_3 rExt.eq_1 rExt.eq_2 rAppendO.eq_1 rAppendO.eq_2 rAppendO.eq_3 rAppendN.eq_1 rAppendN.eq_2 rAppend.eq_1 rAppend.eq_2 rAppend.eq_3 rAppend.eq_4 rAppendC.eq_1 rAppendC.eq_2 rCopy.eq_1 rCopy.eq_2 rMin.eq_1 rMin.eq_2 rMax.eq_1 rMax3.eq_1 rNilI.eq_1 rMkif.eq_1 rNilI.eq_2 rAsrt.eq_1 rAsrt.eq_2 vA.eq_1 rRangeM.eq_1 rEntryM.eq_1 rEntryO.eq_1 rMax.eq_2 rFrz.eq_1 rFrz.eq_2 rFrz.eq_3 rFrz.eq_4 rFrz.eq_5 rFrz.eq_6 rFrz.eq_7 rFrzN.eq_1 rFrzN.eq_2 rFrzN.eq_3 rFrzO.eq_1 rFrzfO.eq_1 rFrzfO.eq_2 rFrzf.eq_1 rOwn.eq_1 rOwn.eq_2 cellsOf.eq_1 cellsOf.eq_2 c1.eq_1 c1.eq_2 c1.eq_3 c1.eq_4 one.eq_1 one.eq_2 one.eq_3 cellsV.eq_1 splice.eq_1 osRows.eq_1 rowsOf.eq_1 rowsOf.eq_2 rowsOf.eq_3 rowsOf.eq_4 rowsOf.eq_5 rowsOf.eq_6 szOk.eq_1 szOk.eq_2 szOk.eq_3 szOk.eq_4 szOk.eq_5 szOk.eq_6 nilOk.eq_1 nilOk.eq_2 nilOk.eq_3 nilOk.eq_4 slcK.eq_1 slcK.eq_2 slcK.eq_3 slcK.eq_4 slcK.eq_5 kIs.eq_1 kIs.eq_2 kIs.eq_3 kIs.eq_4 AV.cl.eq_1 AV.cl.eq_2 AV.cl.eq_3 AV.cl.eq_4 AV.cl.eq_5 AV.cl.eq_6 AV.cl.eq_7 AV.cl.eq_8 kCmp.eq_1 kCmp.eq_2 kCmp.eq_3 kCmp.eq_4
@[push_cast] theorem zVZ (H : zC) (x : Value) : verOk H (.v x) = True := rfl
@[push_cast] theorem zU2 (H : zC) (sz : Nat) (xs : List (List AV)) : verOk H (.sl sz xs) = True := rfl
@[push_cast] theorem zPE (l : List UInt8) : bs (mkS l) = l := by simp [bs, mkS]
theorem zMe (s : ByteArray) : mkS (bs s) = s := by cases s; simp [bs, mkS]
@[push_cast] theorem zXi : c1s [] = true := rfl
@[push_cast] theorem zVL (x : AV) (l : List AV) : c1s (x :: l) = (c1 x && c1s l) := rfl
@[push_cast] theorem zW9 : clL [] = true := rfl
@[push_cast] theorem zVH (x : AV) (l : List AV) : clL (x :: l) = (x.cl && clL l) := by simp [clL]
@[push_cast] theorem zBQ (n : Int) (h : -9223372036854775808 ≤ n) (h' : n < 9223372036854775808) : IntKind.i64.wrap n = n := by
 simp [IntKind.wrap, IntKind.bits, IntKind.signed]
 split <;> omega
attribute [push_cast] List.map_cons List.map_nil List.cons_append List.nil_append List.append_nil List.length_cons List.length_nil List.take_zero List.take_nil List.take_succ_cons List.drop_zero List.drop_nil List.drop_succ_cons List.headD_cons
 zYh zYT List.set_cons_zero List.set_cons_succ List.getD_cons_zero List.getD_cons_succ List.replicate_succ List.replicate_zero zXT zXr
 if_true if_false ite_true ite_false true_and and_true zYj Option.map_none zYn Option.getD_none Option.isSome_some zXB zXQ zYA zXE zYS beq_iff_eq ne_eq not_true not_false_eq_true
 false_and and_false zXH Bool.not_true zZU Bool.and_true zZW zZF zZX Bool.or_true Bool.or_false Bool.true_or Bool.false_or Bool.not_not Bool.not_eq_eq_eq_not ite_not
 zX5 List.mem_nil_iff zYU forall_eq forall_eq_or_imp forall_const or_true true_or or_false false_or implies_true and_self or_self zXG zYX eq_self
@[push_cast] theorem zUM (x : Value) : cellsOf (.v x) = [(.v x)] := rfl
@[push_cast] theorem cl_v (x : Value) : AV.cl (.v x) = true := by simp [AV.cl]
@[push_cast] theorem zSv (a : Nat) (b : List (List AV)) : cellsOf (.sl a b) = [(.sl a b)] := rfl
@[push_cast] theorem c1_sl (a : Nat) (b : List (List AV)) : c1 (.sl a b) = true := rfl
@[push_cast] theorem cl_sl (a : Nat) (b : List (List AV)) : AV.cl (.sl a b) = true := by simp [AV.cl]
@[push_cast] theorem cl_vp (a : List AV) (b : Nat) : AV.cl (.vp a b) = true := by simp [AV.cl]
@[push_cast] theorem zSy (a : Fn) (b c : List AV) : cellsOf (.fn a b c) = [(.fn a b c)] := rfl
@[push_cast] theorem c1_fn (a : Fn) (b c : List AV) : c1 (.fn a b c) = true := rfl
@[push_cast] theorem zSx (a : List Value) (b : List AV) : cellsOf (.mp a b) = [(.mp a b)] := rfl
@[push_cast] theorem c1_mp (a : List Value) (b : List AV) : c1 (.mp a b) = true := rfl
@[push_cast] theorem cl_mp (a : List Value) (b : List AV) : AV.cl (.mp a b) = true := by simp [AV.cl]
@[push_cast] theorem zSw (a b c d : Nat) : cellsOf (.os a b c d) = [(.os a b c d)] := rfl
@[push_cast] theorem c1_os (a b c d : Nat) : c1 (.os a b c d) = true := rfl
@[push_cast] theorem zRI (a b c : Nat) : cellsOf (.ptr a b c) = [(.ptr a b c)] := rfl
@[push_cast] theorem c1_ptr (a b c : Nat) : c1 (.ptr a b c) = true := rfl
@[push_cast] theorem zWS (k : IntKind) (n : Int) : one (.int k n) = true := rfl
@[push_cast] theorem zVB (b : Bool) : one (.bool b) = true := rfl
@[push_cast] theorem zSq (s : ByteArray) : one (.string s) = true := rfl
@[push_cast] theorem zT0 (a : Option Addr) (l c : Nat) : one (.slice a l c) = true := rfl
@[push_cast] theorem zW4 {α : Type} (H : List α) (x : α) (l : List α) : (H ++ x :: l)[H.length]? = some x := by simp
@[push_cast] theorem zV7 {α : Type} (H : List α) (x y : α) (l : List α) : (H ++ x :: l).set H.length y = H ++ y :: l := by simp
@[push_cast] theorem zAc {α : Type} (H l : List α) (k : Nat) : (H ++ l)[H.length + k]? = l[k]? := by rw [zXz (by omega)]; congr 1; omega
@[push_cast] theorem zV8 {α : Type} (H l : List α) (k : Nat) (y : α) : (H ++ l).set (H.length + k) y = H ++ l.set k y := by rw [zYw _ _ (by omega)]; congr 2; omega
attribute [push_cast] List.append_assoc
set_option linter.unusedVariables false
section
variable {P : Program} {k : List Item} {Q : Out → Env → zC → Prop} {e : Env} {H : zC}
theorem zBY : ∀ {l : List LO} {e : Env} {H : zC} {K K' : Env → zC → Prop}, zA8 P l e H K → (∀ e H, K e H → K' e H) → zA8 P l e H K'
 | [], _, _, _, _, h, hK => hK _ _ h
 | o :: l, _, _, _, _, h, hK => by
  refine zEW ?_
  rcases zED h with ⟨h1, h2⟩ | ⟨h1, h2⟩
  ·exact .inl ⟨h1, zD2 h2 fun x H' hh => zBY hh hK⟩
  ·exact .inr ⟨h1, zBY h2 hK⟩
theorem zID {op : LOp} {K K' : AV → Prop} (h : zDk P op e H K) (hK : ∀ x, K x → K' x) : zDk P op e H K' := by
 cases op <;> simp only [zDk] at h ⊢ <;> first | exact ⟨h.1, h.2.1, hK _ h.2.2⟩ | exact h.elim | skip
 case call f args =>
  split at h
  ·obtain ⟨x, h1, h2, h3⟩ := h; exact ⟨x, h1, h2, hK _ h3⟩
  ·exact h.elim
 case callh f args =>
  split at h
  ·obtain ⟨x, h1, h3⟩ := h; exact ⟨x, h1, hK _ h3⟩
  ·exact h.elim
 case pick c a b =>
  split at h
  ·split at h
   ·rename_i hb; rw [if_pos hb]; exact hK _ h
   ·rename_i hb; rw [if_neg hb]; exact hK _ h
  ·exact h.elim
theorem zB6 : ∀ {l : List LO} {e : Env} {K K' : Env → Prop}, zBc P l e H K → (∀ e, K e → K' e) → zBc P l e H K'
 | [], _, _, _, h, hK => hK _ h
 | o :: l, e, _, _, h, hK => by
  simp only [zBc] at h ⊢
  split at h
  ·exact zID h fun x hh => zB6 hh hK
  ·rename_i t want hg
   split at h
   ·rename_i b hb
    cases b <;> cases want <;> simp only [if_true, zXH, if_false] at h ⊢ <;> first | exact zB6 h hK | exact zID h fun x hh => zB6 hh hK
   ·exact zB6 h hK
   ·exact h.elim
theorem zKL {st : zR9} {K K' : Out → Prop} (h : zRc st K) (hK : ∀ o, K o → K' o) : zRc st K' := by
 cases st with
 | ready => exact hK _ h
 | busy => exact h
 | done o => cases o <;> exact hK _ h
theorem zGX {hd : List LO} {e1 : Env} : ∀ {l : List (LO × List Nat)} {e : Env} {H : zC} {K K' : Env → zC → Prop}, zEX P hd e1 l e H K → (∀ e H, K e H → K' e H) → zEX P hd e1 l e H K'
 | [], _, _, _, _, h, hK => hK _ _ h
 | (o, js) :: l, _, _, _, _, h, hK => zBY (h : zA8 P [o] _ _ _) fun e H hh => ⟨hh.1, zGX hh.2 hK⟩
theorem zKo {c : Bool} {lo : LO} {K K' : Env → zC → Prop} {Z Z' : Value → zC → Prop} (h : aTI P c lo e H K Z) (hK : ∀ e H, K e H → K' e H) (hZ : ∀ v H', Z v H' → Z' v H') : aTI P c lo e H K' Z' := by
 unfold aTI at h ⊢
 split at h
 ·exact zDJ h (fun h => zGg h (fun _ _ => hK _ _) hZ) (hK _ _)
 ·exact zDJ h (fun ⟨t, z, h1, h2⟩ => ⟨t, z, h1, hZ _ _ h2⟩) (hK _ _)
 ·exact zBY h fun _ _ => hK _ _
theorem zGV {hd : List LO} {e1 : Env} : ∀ {l : List (LO × Bool × List Nat)} {e : Env} {H : zC} {K K' : Env → zC → Prop} {Z Z' : Value → zC → Prop}, zEE P hd e1 l e H K Z → (∀ e H, K e H → K' e H) → (∀ v H', Z v H' → Z' v H') → zEE P hd e1 l e H K' Z'
 | [], _, _, _, _, _, _, h, hK, _ => hK _ _ h
 | (o, c, js) :: l, _, _, _, _, _, _, h, hK, hZ => zKo (h : aTI P c o _ _ _ _) (fun e H hh => ⟨hh.1, zGV hh.2 hK hZ⟩) hZ
theorem zFt : ∀ {c : LCode} {e : Env} {H : zC} {K K' : Out → Env → zC → Prop}, awp P c e H K → (∀ o e H, K o e H → K' o e H) → awp P c e H K' := by
 intro c
 induction c with
 | skip => intro e H K K' h hK; exact hK _ _ _ h
 | ops l => intro e H K K' h hK; exact zBY h fun e H hh => hK _ _ _ hh
 | draw hd tl => intro e H K K' h hK; exact zB6 h fun e hh => zBY hh fun e H hh => hK _ _ _ hh
 | drawA hd tl gs => intro e H K K' h hK; exact zB6 h fun e hh => zGX hh fun e H hh => zBY hh fun e H hh => hK _ _ _ hh
 | seq a b iha ihb =>
  intro e H K K' h hK
  refine iha h fun o e' H' hh => ?_
  cases o with
  | normal => exact ihb hh hK
  | exit id => exact hK _ _ _ hh
  | ret => exact hK _ _ _ hh
  | pan v => exact hK _ _ _ hh
 | cond x a b iha ihb =>
  intro e H K K' h hK
  simp only [awp] at h ⊢
  split at h
  ·rename_i t ht
   cases t with
   | true => rw [if_pos rfl] at h ⊢; exact iha h hK
   | false => rw [if_neg (by simp)] at h ⊢; exact ihb h hK
  ·exact h.elim
 | block id c ih =>
  intro e H K K' h hK
  refine ih h fun o e' H' hh => ?_
  cases o with
  | normal => exact hK _ _ _ hh
  | exit j =>
   simp only at hh ⊢
   split
   ·rename_i hj; rw [if_pos hj] at hh; exact hK _ _ _ hh
   ·rename_i hj; rw [if_neg hj] at hh; exact hK _ _ _ hh
  | ret => exact hK _ _ _ hh
  | pan v => exact hK _ _ _ hh
 | loop c ih =>
  intro e H K K' h hK
  obtain ⟨I, μ, h1, h2⟩ := h
  refine ⟨I, μ, h1, fun e H hI => ih (h2 e H hI) fun o e' H' hh => ?_⟩
  cases o with
  | normal => exact hh
  | exit id => exact hK _ _ _ hh
  | ret => exact hK _ _ _ hh
  | pan v => exact hK _ _ _ hh
 | range g ps a b iha ihb =>
  intro e H K K' h hK
  simp only [awp] at h ⊢
  split at h
  ·intro l lr hy
   exact (h l lr hy).mono fun x H' ⟨st, h1, h2⟩ => ⟨st, h1, zKL h2 fun o => hK _ _ _⟩
  ·exact h.elim
 | exit id => intro e H K K' h hK; exact hK _ _ _ h
 | ret => intro e H K K' h hK; exact hK _ _ _ h
 | callp d f args =>
  intro e H K K' h hK
  simp only [awp] at h ⊢
  cases hf : ev e f with
  | fn g first caps =>
   rw [hf] at h
   cases g with
   | func k => exact ACallX.mono h (fun _ _ hh => hK _ _ _ hh) fun _ _ hh => hK _ _ _ hh
   | _ => exact h.elim
  | _ => rw [hf] at h; exact h.elim
 | pan d t x => intro e H K K' ⟨v, h1, h2⟩ hK; exact ⟨v, h1, hK _ _ _ h2⟩
 | ti o => intro e H K K' h hK; exact zKo h (fun _ _ hh => hK _ _ _ hh) fun _ _ hh => hK _ _ _ hh
 | drawX hd tl gs => intro e H K K' h hK; exact zB6 h fun e hh => zGV hh (fun e H hh => zBY hh fun e H hh => hK _ _ _ hh) fun _ _ hh => hK _ _ _ hh
theorem zWY {p : Nat → Prop} (h : ∃ n, p n) : ∃ n, p n ∧ ∀ m, p m → n ≤ m := by
 obtain ⟨n, hn⟩ := h
 induction n using Nat.strongRecOn with
 | _ n ih =>
  by_cases hh : ∃ m, m < n ∧ p m
  ·obtain ⟨m, hm, hp⟩ := hh; exact ih m hm hp
  ·exact ⟨n, hn, fun m hm => zZr fun hlt => hh ⟨m, hlt, hm⟩⟩
inductive Nx {σ : Type} (I : σ → Env → zC → Prop) (μ : σ → Nat) (s : σ) (e : Env) (H : zC) : Prop where
 | mk (s' : σ) (h : I s' e H) (hm : μ s' < μ s)
open Classical in
theorem zAh {σ : Type} {c : LCode} (I : σ → Env → zC → Prop) (μ : σ → Nat) (s : σ) (h0 : I s e H)
  (h : ∀ s e H, I s e H → zAj P (.code c :: .lp (Nx I μ s) :: k) Q .normal e H) : zAj P (.code (.loop c) :: k) Q .normal e H := by
 have hex : ∀ e H, (∃ s, I s e H) → ∃ n, (∃ s, I s e H ∧ μ s = n) ∧ ∀ m, (∃ s, I s e H ∧ μ s = m) → n ≤ m := fun e H ⟨s, hs⟩ => zWY ⟨_, s, hs, rfl⟩
 refine zI0 (fun e H => ∃ s, I s e H) (fun e H => if hx : ∃ s, I s e H then Classical.choose (hex e H hx) else 0) ⟨s, h0⟩ ?_
 intro e H hs
 obtain ⟨⟨s, hI, hm⟩, _⟩ := zYO (hex e H hs)
 refine zFt (h s e H hI) fun o e' H' hh => ?_
 cases o with
 | normal =>
  obtain ⟨s', hI', hlt⟩ := hh
  refine ⟨⟨s', hI'⟩, ?_⟩
  rw [dif_pos ⟨s', hI'⟩, dif_pos hs]
  have := (zYO (hex e' H' ⟨s', hI'⟩)).2 _ ⟨s', hI', rfl⟩
  omega
 | exit id => exact hh
 | ret => exact hh
 | pan v => exact hh
end
@[push_cast] theorem zSe (i : Nat) : ((i : Int) + 1).toNat = i + 1 := by omega
@[push_cast] theorem zSd (i : Nat) : ((i : Int) + 2).toNat = i + 2 := by omega
attribute [push_cast] Nat.add_sub_cancel_left
@[push_cast] theorem zOX {α β : Type} (f : α → β) (l : List α) : (l.map f).take l.length = l.map f := by
 rw [zXR (by simp)]
def LCode.sub : List Nat → LCode → LCode
 | [], c => c
 | 0 :: l, .seq a _ => a.sub l
 | 1 :: l, .seq _ b => b.sub l
 | 0 :: l, .cond _ a _ => a.sub l
 | 1 :: l, .cond _ _ b => b.sub l
 | _ :: l, .block _ c => c.sub l
 | _ :: l, .loop c => c.sub l
 | _, c => c
section
variable {P : Program} {t e : TypeId} {xs : List AV}
def zBP (n : Int) : Prop := -9223372036854775808 ≤ n ∧ n ≤ 9223372036854775807
theorem zCt (hu : P.underlying t = some (.int .i64)) (h : Val P t xs) : ∃ n : Int, xs = [int n] ∧ zBP n := by
 cases h with
 | int hu' hw =>
  rw [hu] at hu'
  cases hu'
  refine ⟨_, rfl, ?_⟩
  simp [Lit.wf, IntKind.min, IntKind.max, IntKind.signed, IntKind.bits] at hw
  unfold zBP; omega
 | bool hu' => rw [hu] at hu'; cases hu'
 | str hu' => rw [hu] at hu'; cases hu'
 | sl hu' => rw [hu] at hu'; cases hu'
 | st hu' => rw [hu] at hu'; cases hu'
theorem zPI (hu : P.underlying t = some .string) (h : Val P t xs) : ∃ s : List UInt8, xs = [str s] ∧ s.length ≤ 9223372036854775807 := by
 cases h with
 | str hu' hs =>
  rename_i s
  refine ⟨bs s, by rw [str, zMe], ?_⟩
  have : (bs s).length = s.size := by simp [bs]
  unfold maxLen at hs
  omega
 | int hu' => rw [hu] at hu'; cases hu'
 | bool hu' => rw [hu] at hu'; cases hu'
 | sl hu' => rw [hu] at hu'; cases hu'
 | st hu' => rw [hu] at hu'; cases hu'
theorem zGm {k : Nat} (hu : P.underlying t = some (.slice e)) (hk : P.cellsOf e = k) (h : Val P t xs) : ∃ rows, xs = [.sl k rows] ∧ rows.length ≤ 9223372036854775807 ∧ ∀ x ∈ rows, Val P e x := by
 cases h with
 | sl hu' hl hr =>
  rw [hu] at hu'
  cases hu'
  subst hk
  unfold maxLen at hl
  exact ⟨_, rfl, by omega, hr⟩
 | int hu' => rw [hu] at hu'; cases hu'
 | bool hu' => rw [hu] at hu'; cases hu'
 | str hu' => rw [hu] at hu'; cases hu'
 | st hu' => rw [hu] at hu'; cases hu'
theorem zHI {fs : Array Field} {k : Nat} (hu : P.underlying t = some (.struct fs)) (hk : P.cellsOf t = k) (h : Val P t xs) : xs.length = k ∧ ∀ (i : Nat) (f : Field), fs[i]? = some f → Val P f.type ((xs.drop f.offset).take (P.cellsOf f.type)) := by
 cases h with
 | st hu' hl hr =>
  rw [hu] at hu'
  cases hu'
  exact ⟨hl.trans hk, hr⟩
 | int hu' => rw [hu] at hu'; cases hu'
 | bool hu' => rw [hu] at hu'; cases hu'
 | str hu' => rw [hu] at hu'; cases hu'
 | sl hu' => rw [hu] at hu'; cases hu'
theorem zBR {fs : Array Field} (hf : ∀ (i : Nat) (f : Field), fs[i]? = some f → Val P f.type ((xs.drop f.offset).take (P.cellsOf f.type))) (i t' off k : Nat) (h : (fs[i]?).map (fun f => (f.type, f.offset)) = some (t', off)) (hk : P.cellsOf t' = k) : Val P t' ((xs.drop off).take k) := by
 cases hh : fs[i]? with
 | none => rw [hh] at h; cases h
 | some f =>
  rw [hh] at h
  simp only [zYj, zXt, zXO] at h
  have := hf i f hh
  rw [h.1, h.2, hk] at this
  exact this
theorem zG2 {α : Type} {enc : α → List AV} {ok : α → Prop} {rows : List (List AV)} (h : ∀ x ∈ rows, Val P e x) (ho : ∀ x, Val P e x → ∃ a, x = enc a ∧ ok a) : ∃ l : List α, rows = l.map enc ∧ ∀ a ∈ l, ok a := by
 induction rows with
 | nil => exact ⟨[], rfl, by simp⟩
 | cons x rows ih =>
  obtain ⟨a, rfl, ha⟩ := ho x (h x (by simp))
  obtain ⟨l, rfl, hl⟩ := ih fun y hy => h y (by simp [hy])
  exact ⟨a :: l, rfl, by simp only [zX5, forall_eq_or_imp]; exact ⟨ha, hl⟩⟩
end
@[push_cast] theorem zQ6 : one .nilFunc = true := rfl
attribute [push_cast] Option.bind_some Bool.true_xor Bool.false_xor Bool.xor_false Bool.xor_true
def zJN (sz r ver off len : Nat) (ys : List (List AV)) (x : AV) (H : zC) : Option HO → Res
 | some (.arr ver' sz' xs) => ⟨ver = ver' ∧ sz' = sz ∧ szOk H sz x ∧ off + len ≤ xs.length, int (min ys.length len : Nat), H.set r (.arr ver sz (xs.take off ++ ys.take (min ys.length len) ++ xs.drop (off + min ys.length len)))⟩
 | _ => .no H
def zLM (sz : Nat) (s x : AV) (H : zC) : Option (List (List AV)) → Res
 | some ys => match s with
  | .os r ver off len => zJN sz r ver off len ys x H H[r]?
  | _ => .no H
 | none => .no H
@[push_cast] theorem zVm (sz : Nat) (s x : AV) (H : zC) : rCopy sz s x H = zLM sz s x H (rowsOf H x) := by
 unfold rCopy zLM zJN
 cases rowsOf H x with
 | none => cases s <;> rfl
 | some ys => cases s <;> rfl
@[push_cast] theorem zTm (sz r ver off len : Nat) (x : AV) (H : zC) (ys : List (List AV)) : zLM sz (.os r ver off len) x H (some ys) = zJN sz r ver off len ys x H H[r]? := rfl
@[push_cast] theorem zSk (sz r ver off len ver' sz' : Nat) (ys xs : List (List AV)) (x : AV) (H : zC) : zJN sz r ver off len ys x H (some (.arr ver' sz' xs)) = ⟨ver = ver' ∧ sz' = sz ∧ szOk H sz x ∧ off + len ≤ xs.length, int (min ys.length len : Nat), H.set r (.arr ver sz (xs.take off ++ ys.take (min ys.length len) ++ xs.drop (off + min ys.length len)))⟩ := rfl
attribute [push_cast] List.length_replicate
theorem zQ {α : Type} [Inhabited α] {l : List α} {enc : α → List AV} {j : Nat} (h : j < l.length) : (l.map enc).getD j [] = enc (l.getD j default) := by
 simp [zXC, h]
theorem zAq {α : Type} [Inhabited α] {l : List α} {j : Nat} (h : j < l.length) : l.getD j default ∈ l := by
 simp [zXC, h]
theorem zBT {α : Type} [Inhabited α] {l : List α} {j : Nat} (h : j < l.length) : l.take (j + 1) = l.take j ++ [l.getD j default] := by
 rw [zZA h]; simp [zXC, h]
theorem zF3 {α : Type} [Inhabited α] {l : List α} {j : Nat} (h : j < l.length) : l.drop j = l.getD j default :: l.drop (j + 1) := by
 rw [zYp h]; simp [zXC, h]
theorem zDS {x : AV} {a : Int} {b : Int} (h : x = int a) (h2 : a = b) : x = int b := h.trans (by rw [h2])
theorem zBu {j : Nat} {p : Nat → Prop} (h : ∀ i, i < j → p i) (hj : p j) : ∀ i, i < j + 1 → p i := fun i hi => by
 by_cases e : i = j
 ·rw [e]; exact hj
 ·exact h i (by omega)
theorem zO {a b : Int} (h : a < b) : decide (a < b) = true := zXU h
theorem zT {a b : Int} (h : ¬ a < b) : decide (a < b) = false := zX9 h
theorem zAd {a b : Int} (h : a ≤ b) : decide (a ≤ b) = true := zXU h
theorem zAn {a b : Int} (h : ¬ a ≤ b) : decide (a ≤ b) = false := zX9 h
theorem zAi {a b : Int} (h : a = b) : decide (a = b) = true := zXU h
theorem zX {a b : Int} (h : ¬ a = b) : decide (a = b) = false := zX9 h
attribute [push_cast] decide_true decide_false
def zIH : Option Nat → Int
 | some i => i
 | none => -1
theorem zIj {α : Type} [Inhabited α] {l : List α} {p : α → Bool} {j : Nat} (h : j < l.length) (hp : p (l.getD j default) = true) (hb : ∀ i, i < j → p (l.getD i default) = false) : l.findIdx? p = some j := by
 rw [zYV]
 have e : ∀ i (hi : i < l.length), l.getD i default = l[i] := fun i hi => by simp [zXC, hi]
 refine ⟨h, by rw [← e j h]; exact hp, fun i hi => ?_⟩
 have := hb i hi
 rw [e i (by omega)] at this
 simp [this]
theorem zIk {α : Type} [Inhabited α] {l : List α} {p : α → Bool} (hb : ∀ i, i < l.length → p (l.getD i default) = false) : l.findIdx? p = none := by
 rw [zZu]
 intro x hx
 obtain ⟨i, hi, rfl⟩ := zYB.1 hx
 have := hb i hi
 simpa [zXC, hi] using this
theorem zKn {α : Type} (l : List α) {n : Nat} (h : l.length ≤ n) : l.take n = l := zXR h
end Go.Ax
namespace Go.Proofs.YtaipgalanpcgoaaGreat
open Go Go.Ax
set_option maxRecDepth 100000
set_option linter.unusedSimpArgs false
set_option linter.unusedVariables false
set_option maxHeartbeats 4000000
abbrev zAe (k : FuncId) (args : List AV) (H : zC) (x : AV) : Prop := ACall Tryz.prog k args H fun y H' => y = x ∧ H' = H
structure Ty where
 k : Int
 len : Int
 rc : List UInt8
 deriving Inhabited, DecidableEq
structure Fd where
 name : List UInt8
 ty : Ty
 deriving Inhabited, DecidableEq
structure Rc where
 name : List UInt8
 fields : List Fd
 deriving Inhabited, DecidableEq
structure Vr where
 name : List UInt8
 ty : Ty
 slot : Int
 node : Int
 var_ : Bool
 loop_ : Bool
 deriving Inhabited, DecidableEq
def fdR (f : Fd) : List AV := [str f.name, int f.ty.k, int f.ty.len, str f.ty.rc]
def rcR (r : Rc) : List AV := [str r.name, .sl 4 (r.fields.map fdR)]
def big (n : Nat) : Prop := n ≤ 9223372036854775807
structure Ty.Ok (t : Ty) : Prop where
 k : zBP t.k
 len : zBP t.len
 rc : big t.rc.length
structure Fd.Ok (f : Fd) : Prop where
 name : big f.name.length
 ty : f.ty.Ok
structure Rc.Ok (r : Rc) : Prop where
 name : big r.name.length
 len : big r.fields.length
 fields : ∀ f ∈ r.fields, f.Ok
structure Vr.Ok (v : Vr) : Prop where
 name : big v.name.length
 ty : v.ty.Ok
 slot : zBP v.slot
 node : zBP v.node
def idxF (rs : List Rc) (nm : List UInt8) : Option Nat := rs.findIdx? fun r => decide (r.name = nm)
def recV (rs : List Rc) (nm : List UInt8) : AV := match idxF rs nm with
 | some i => .tup [.agg (rcR (rs.getD i default)), bool true]
 | none => .tup [.agg [str [], zAg], bool false]
abbrev u64 (n : Int) : AV := .v (.int .u64 n)
structure Few (rs : List Rc) : Prop where
 len : rs.length ≤ 20
 fields : ∀ r ∈ rs, r.fields.length ≤ 20
def wOk (w : Int) : Prop := 2 ≤ w ∧ w ≤ 8
instance (w : Int) : Decidable (wOk w) := inferInstanceAs (Decidable (_ ∧ _))
def hf (w : Int) : Int := 2 ^ (w.toNat - 1)
def leF (w : Int) : Int := if wOk w then -hf w else 0
def grF (w : Int) : Int := if wOk w then hf w - 1 else 0
def wrF (w n : Int) : Int := if wOk w then (n + hf w) % (2 * hf w) - hf w else 0
theorem zFy {w : Int} (h : wOk w) : w = 2 ∨ w = 3 ∨ w = 4 ∨ w = 5 ∨ w = 6 ∨ w = 7 ∨ w = 8 := by unfold wOk at h; omega
theorem zBI (w : Int) (H : zC) : zAe 43 [int w] H (bool (decide (wOk w))) := by
 refine enter Tryz.func43 L43_ok (zXs rfl) ?_
 by_cases h1 : 2 ≤ w
 ·by_cases h2 : w ≤ 8
  ·repeat' (simp -implicitDefEqProofs (disch := omega) only [L43, zAd, push_cast, simprocAttr, ↓reduceIte])
   simp [wOk, h1, h2]
  ·repeat' (simp -implicitDefEqProofs (disch := omega) only [L43, zAd, zAn, push_cast, simprocAttr, ↓reduceIte])
   simp [wOk, h1, h2]
 ·repeat' (simp -implicitDefEqProofs (disch := omega) only [L43, zAn, push_cast, simprocAttr, ↓reduceIte])
  simp [wOk, h1]
theorem zLe (n : Int) : IntKind.i64.wrap n = (n + 9223372036854775808) % 18446744073709551616 - 9223372036854775808 := by
 simp only [IntKind.wrap, IntKind.bits, IntKind.signed]
 simp
 split <;> omega
theorem zNp (w n : Int) (hn : zBP n) (H : zC) : zAe 48 [int w, int n] H (int (wrF w n)) := by
 refine enter Tryz.func48 L48_ok (zXs rfl) ?_
 by_cases h : wOk w
 ·have hd : decide (wOk w) = true := by simp [h]
  have e : wrF w n = (n + hf w) % (2 * hf w) - hf w := by unfold wrF; rw [if_pos h]
  rw [e]
  clear e
  unfold zBP at hn
  rcases zFy h with rfl | rfl | rfl | rfl | rfl | rfl | rfl
  all_goals
   repeat' (first | refine zA (zBI _ _) ?_ | simp -implicitDefEqProofs (disch := omega) only [L48, hd, push_cast, simprocAttr, ↓reduceIte])
   simp [hf, zLe, IntKind.bits]
   rw [Int.fdiv_eq_ediv_of_nonneg _ (by decide)]
   omega
 ·have hd : decide (wOk w) = false := by simp [h]
  have e : wrF w n = 0 := by unfold wrF; rw [if_neg h]
  repeat' (first | refine zA (zBI _ _) ?_ | simp -implicitDefEqProofs (disch := omega) only [L48, hd, e, push_cast, simprocAttr, ↓reduceIte])
theorem zGB (w : Int) (H : zC) : zAe 59 [int w] H (int (leF w)) := by
 refine enter Tryz.func59 L59_ok (zXs rfl) ?_
 by_cases h : wOk w
 ·have hd : decide (wOk w) = true := by simp [h]
  have e : leF w = -hf w := by unfold leF; rw [if_pos h]
  rw [e]
  clear e
  rcases zFy h with rfl | rfl | rfl | rfl | rfl | rfl | rfl
  all_goals
   repeat' (first | refine zA (zBI _ _) ?_ | simp -implicitDefEqProofs (disch := omega) only [L59, hd, push_cast, simprocAttr, ↓reduceIte])
   simp [hf, zLe, IntKind.bits]
 ·have hd : decide (wOk w) = false := by simp [h]
  have e : leF w = 0 := by unfold leF; rw [if_neg h]
  repeat' (first | refine zA (zBI _ _) ?_ | simp -implicitDefEqProofs (disch := omega) only [L59, hd, e, push_cast, simprocAttr, ↓reduceIte])
theorem zEw (w : Int) (H : zC) : zAe 60 [int w] H (int (grF w)) := by
 refine enter Tryz.func60 L60_ok (zXs rfl) ?_
 by_cases h : wOk w
 ·have hd : decide (wOk w) = true := by simp [h]
  have e : grF w = hf w - 1 := by unfold grF; rw [if_pos h]
  rw [e]
  clear e
  rcases zFy h with rfl | rfl | rfl | rfl | rfl | rfl | rfl
  all_goals
   repeat' (first | refine zA (zBI _ _) ?_ | simp -implicitDefEqProofs (disch := omega) only [L60, hd, push_cast, simprocAttr, ↓reduceIte])
   simp [hf, zLe, IntKind.bits]
 ·have hd : decide (wOk w) = false := by simp [h]
  have e : grF w = 0 := by unfold grF; rw [if_neg h]
  repeat' (first | refine zA (zBI _ _) ?_ | simp -implicitDefEqProofs (disch := omega) only [L60, hd, e, push_cast, simprocAttr, ↓reduceIte])
theorem zGo (b : Bool) (H : zC) : zAe 81 [bool b] H (int (if b = true then 1 else 0)) := by
 refine enter Tryz.func81 L81_ok (zXs rfl) ?_
 cases b
 ·repeat' (simp -implicitDefEqProofs (disch := omega) only [L81, push_cast, simprocAttr, ↓reduceIte])
 ·repeat' (simp -implicitDefEqProofs (disch := omega) only [L81, push_cast, simprocAttr, ↓reduceIte])
def inI (w n : Int) : Prop := leF w ≤ n ∧ n ≤ grF w
instance (w n : Int) : Decidable (inI w n) := inferInstanceAs (Decidable (_ ∧ _))
theorem zGD (w n : Int) (H : zC) : zAe 46 [int w, int n] H (bool (decide (inI w n))) := by
 refine enter Tryz.func46 L46_ok (zXs rfl) ?_
 by_cases h1 : leF w ≤ n
 ·by_cases h2 : n ≤ grF w
  ·repeat' (first | refine zA (zGB _ _) ?_ | refine zA (zEw _ _) ?_ | simp -implicitDefEqProofs (disch := omega) only [L46, zAd, push_cast, simprocAttr, ↓reduceIte])
   simp [inI, h1, h2]
  ·repeat' (first | refine zA (zGB _ _) ?_ | refine zA (zEw _ _) ?_ | simp -implicitDefEqProofs (disch := omega) only [L46, zAd, zAn, push_cast, simprocAttr, ↓reduceIte])
   simp [inI, h1, h2]
 ·repeat' (first | refine zA (zGB _ _) ?_ | simp -implicitDefEqProofs (disch := omega) only [L46, zAn, push_cast, simprocAttr, ↓reduceIte])
  simp [inI, h1]
def isB (n : Int) : Prop := n = 0 ∨ n = 1
instance (n : Int) : Decidable (isB n) := inferInstanceAs (Decidable (_ ∨ _))
theorem zTQ (a b : Int) (H : zC) : zAe 75 [int a, int b] H (int (IntKind.i64.wrap (a + b))) := by
 refine enter Tryz.func75 L75_ok (zXs rfl) ?_
 repeat' (simp -implicitDefEqProofs (disch := omega) only [L75, push_cast, simprocAttr, ↓reduceIte])
theorem zTM (a b : Int) (H : zC) : zAe 76 [int a, int b] H (int (IntKind.i64.wrap (a - b))) := by
 refine enter Tryz.func76 L76_ok (zXs rfl) ?_
 repeat' (simp -implicitDefEqProofs (disch := omega) only [L76, push_cast, simprocAttr, ↓reduceIte])
theorem zTP (a b : Int) (H : zC) : zAe 77 [int a, int b] H (int (IntKind.i64.wrap (a * b))) := by
 refine enter Tryz.func77 L77_ok (zXs rfl) ?_
 repeat' (simp -implicitDefEqProofs (disch := omega) only [L77, push_cast, simprocAttr, ↓reduceIte])
theorem zTO (a b : Int) (hb : b ≠ 0) (H : zC) : zAe 78 [int a, int b] H (int (IntKind.i64.wrap (a.tdiv b))) := by
 refine enter Tryz.func78 L78_ok (zXs rfl) ?_
 repeat' (simp -implicitDefEqProofs (disch := omega) only [L78, push_cast, simprocAttr, ↓reduceIte])
 exact hb
theorem zTN (a b : Int) (hb : b ≠ 0) (H : zC) : zAe 79 [int a, int b] H (int (a.tmod b)) := by
 refine enter Tryz.func79 L79_ok (zXs rfl) ?_
 repeat' (simp -implicitDefEqProofs (disch := omega) only [L79, push_cast, simprocAttr, ↓reduceIte])
 exact hb
theorem zWC (a b : Int) (H : zC) : zAe 80 [int a, int b] H (int ((if a = b then 1 else 0))) := by
 refine enter Tryz.func80 L80_ok (zXs rfl) ?_
 repeat' (first | refine zA (zGo _ _) ?_ | simp -implicitDefEqProofs (disch := omega) only [L80, push_cast, simprocAttr, ↓reduceIte])
theorem zWx (a b : Int) (H : zC) : zAe 82 [int a, int b] H (int ((if a = b then 0 else 1))) := by
 refine enter Tryz.func82 L82_ok (zXs rfl) ?_
 repeat' (first | refine zA (zGo _ _) ?_ | simp -implicitDefEqProofs (disch := omega) only [L82, push_cast, simprocAttr, ↓reduceIte])
theorem zWy (a b : Int) (H : zC) : zAe 83 [int a, int b] H (int ((if a < b then 1 else 0))) := by
 refine enter Tryz.func83 L83_ok (zXs rfl) ?_
 repeat' (first | refine zA (zGo _ _) ?_ | simp -implicitDefEqProofs (disch := omega) only [L83, push_cast, simprocAttr, ↓reduceIte])
theorem zWz (a b : Int) (H : zC) : zAe 84 [int a, int b] H (int ((if a ≤ b then 1 else 0))) := by
 refine enter Tryz.func84 L84_ok (zXs rfl) ?_
 repeat' (first | refine zA (zGo _ _) ?_ | simp -implicitDefEqProofs (disch := omega) only [L84, push_cast, simprocAttr, ↓reduceIte])
theorem zWA (a b : Int) (H : zC) : zAe 85 [int a, int b] H (int ((if b < a then 1 else 0))) := by
 refine enter Tryz.func85 L85_ok (zXs rfl) ?_
 repeat' (first | refine zA (zGo _ _) ?_ | simp -implicitDefEqProofs (disch := omega) only [L85, push_cast, simprocAttr, ↓reduceIte])
theorem zWB (a b : Int) (H : zC) : zAe 86 [int a, int b] H (int ((if b ≤ a then 1 else 0))) := by
 refine enter Tryz.func86 L86_ok (zXs rfl) ?_
 repeat' (first | refine zA (zGo _ _) ?_ | simp -implicitDefEqProofs (disch := omega) only [L86, push_cast, simprocAttr, ↓reduceIte])
def zH1 : List Value := [.string (mkS [43]), .string (mkS [45]), .string (mkS [42]), .string (mkS [47]), .string (mkS [37]), .string (mkS [61, 61]), .string (mkS [33, 61]), .string (mkS [60]), .string (mkS [60, 61]), .string (mkS [62]), .string (mkS [62, 61]), .string (mkS [97, 110, 100]), .string (mkS [111, 114])]
def zI6 : List AV := [.fn (.func 75) [] [], .fn (.func 76) [] [], .fn (.func 77) [] [], .fn (.func 78) [] [], .fn (.func 79) [] [], .fn (.func 80) [] [], .fn (.func 82) [] [], .fn (.func 83) [] [], .fn (.func 84) [] [], .fn (.func 85) [] [], .fn (.func 86) [] [], .fn (.func 87) [] [], .fn (.func 88) [] []]
theorem zCr (H : zC) : zAe 44 [] H (.mp zH1 zI6) := by
 refine ACall.drop (R := fun x => x = .mp zH1 zI6) ?_
 refine enter Tryz.func44 L44_ok (zXs rfl) ?_
 repeat' (simp -implicitDefEqProofs (disch := omega) only [L44, push_cast, zXq])
 simp [kEq, zH1, zI6, bs, mkS]
theorem zEO (o : List UInt8) : (∀ k' ∈ zH1, kCmp (.string (mkS o)) k' = true) = True := by simp [zH1, kCmp]
def opL : List (List UInt8) := [[43], [45], [42], [47], [37], [61, 61], [33, 61], [60], [60, 61], [62], [62, 61], [97, 110, 100], [111, 114]]
theorem zQZ : zDQ (.string (mkS [43])) zH1 zI6 = some (.fn (.func 75) [] []) := rfl
theorem zQX : zDQ (.string (mkS [45])) zH1 zI6 = some (.fn (.func 76) [] []) := rfl
theorem zQY : zDQ (.string (mkS [42])) zH1 zI6 = some (.fn (.func 77) [] []) := rfl
theorem zLX : zDQ (.string (mkS [47])) zH1 zI6 = some (.fn (.func 78) [] []) := rfl
theorem zLW : zDQ (.string (mkS [37])) zH1 zI6 = some (.fn (.func 79) [] []) := rfl
theorem zTG : zDQ (.string (mkS [61, 61])) zH1 zI6 = some (.fn (.func 80) [] []) := rfl
theorem zTB : zDQ (.string (mkS [33, 61])) zH1 zI6 = some (.fn (.func 82) [] []) := rfl
theorem zTC : zDQ (.string (mkS [60])) zH1 zI6 = some (.fn (.func 83) [] []) := rfl
theorem zTD : zDQ (.string (mkS [60, 61])) zH1 zI6 = some (.fn (.func 84) [] []) := rfl
theorem zTE : zDQ (.string (mkS [62])) zH1 zI6 = some (.fn (.func 85) [] []) := rfl
theorem zTF : zDQ (.string (mkS [62, 61])) zH1 zI6 = some (.fn (.func 86) [] []) := rfl
abbrev andS : List UInt8 := [97, 110, 100]
abbrev orS : List UInt8 := [111, 114]
abbrev zR3 : List UInt8 := [43, 45, 42, 47, 37]
def zGe (n f e : Int) : AV := .tup [int n, int f, int e]
section
variable {w a b : Int} {o : List UInt8} {k : FuncId}
theorem zDG (hw : wOk w) (hget : zDQ (.string (mkS o)) zH1 zI6 = some (.fn (.func k) [] [])) (h1 : ¬ o = andS) (h2 : ¬ o = orS) (ha : inI w a) (hb : inI w b) (hz : b ≠ 0 ∨ (¬ o = [47] ∧ ¬ o = [37])) (f : Int)
  (hf : ∀ H, zAe k [int a, int b] H (int f)) (hk : clL [int a, int b] = true) (hr : zBP f) (H : zC) :
  zAe 18 [int w, str o, int a, int b] H (zGe (if Lib.contains zR3 o = true then wrF w f else f) 0 0) := by
 refine enter Tryz.func18 L18_ok (zXs rfl) ?_
 have hd : decide (wOk w) = true := by simp [hw]
 have e1 : decide (o = andS) = false := by simp [h1]
 have e2 : decide (o = orS) = false := by simp [h2]
 have e3 : decide (inI w a) = true := by simp [ha]
 have e4 : decide (inI w b) = true := by simp [hb]
 by_cases hb0 : b = 0
 ·have h3 : ¬ o = [47] ∧ ¬ o = [37] := by simpa [hb0] using hz
  have e5 : decide (o = [47]) = false := by simp [h3.1]
  have e6 : decide (o = [37]) = false := by simp [h3.2]
  cases hc : Lib.contains zR3 o
  ·repeat' (first | refine zA (zBI _ _) ?_ | refine zA (zCr _) ?_ | refine zA (zGD _ _ _) ?_ | refine zA (hf _) ?_ | refine zA (zEB zR3 o (by decide) _) ?_ | simp -implicitDefEqProofs (disch := omega) only [L18, hd, zEO, hget, e1, e2, e3, e4, e5, e6, hc, zAi, push_cast, simprocAttr, ↓reduceIte])
   rfl
  ·repeat' (first | refine zA (zBI _ _) ?_ | refine zA (zCr _) ?_ | refine zA (zGD _ _ _) ?_ | refine zA (hf _) ?_ | refine zA (zEB zR3 o (by decide) _) ?_ | refine zA (zNp w f hr _) ?_ | simp -implicitDefEqProofs (disch := omega) only [L18, hd, zEO, hget, e1, e2, e3, e4, e5, e6, hc, zAi, push_cast, simprocAttr, ↓reduceIte])
   rfl
 ·cases hc : Lib.contains zR3 o
  ·repeat' (first | refine zA (zBI _ _) ?_ | refine zA (zCr _) ?_ | refine zA (zGD _ _ _) ?_ | refine zA (hf _) ?_ | refine zA (zEB zR3 o (by decide) _) ?_ | simp -implicitDefEqProofs (disch := omega) only [L18, hd, zEO, hget, e1, e2, e3, e4, hc, zX, push_cast, simprocAttr, ↓reduceIte])
   rfl
  ·repeat' (first | refine zA (zBI _ _) ?_ | refine zA (zCr _) ?_ | refine zA (zGD _ _ _) ?_ | refine zA (hf _) ?_ | refine zA (zEB zR3 o (by decide) _) ?_ | refine zA (zNp w f hr _) ?_ | simp -implicitDefEqProofs (disch := omega) only [L18, hd, zEO, hget, e1, e2, e3, e4, hc, zX, push_cast, simprocAttr, ↓reduceIte])
   rfl
theorem zKl (hw : wOk w) (ho : o = [47] ∨ o = [37]) (ha : inI w a) (hb : inI w 0) (H : zC) : zAe 18 [int w, str o, int a, int 0] H (zGe 0 1 0) := by
 refine enter Tryz.func18 L18_ok (zXs rfl) ?_
 have hd : decide (wOk w) = true := by simp [hw]
 have e3 : decide (inI w a) = true := by simp [ha]
 have e4 : decide (inI w 0) = true := by simp [hb]
 rcases ho with rfl | rfl
 ·repeat' (first | refine zA (zBI _ _) ?_ | refine zA (zCr _) ?_ | refine zA (zGD _ _ _) ?_ | simp -implicitDefEqProofs (disch := omega) only [L18, hd, zEO, zLX, e3, e4, push_cast, simprocAttr, ↓reduceIte])
  rfl
 ·repeat' (first | refine zA (zBI _ _) ?_ | refine zA (zCr _) ?_ | refine zA (zGD _ _ _) ?_ | simp -implicitDefEqProofs (disch := omega) only [L18, hd, zEO, zLW, e3, e4, push_cast, simprocAttr, ↓reduceIte] | split)
  all_goals first | rfl | (exfalso; rename_i h; revert h; decide)
end
section
variable {w a : Int} {o : List UInt8}
theorem zCy (hw : wOk w) (h : inI w a) : -128 ≤ a ∧ a ≤ 127 := by
 unfold inI leF grF at h
 rw [if_pos hw, if_pos hw] at h
 rcases zFy hw with rfl | rfl | rfl | rfl | rfl | rfl | rfl <;> simp [hf] at h <;> omega
end
def iR (n : Int) : List AV := [int n]
theorem zUl (l m : List Int) (hl : big l.length) (H : zC) : zAe 11 [.sl 1 (l.map iR), .sl 1 (m.map iR)] H (bool (decide (l = m))) := by
 refine enter Tryz.func11 L11_ok (zXs rfl) ?_
 unfold big at hl
 by_cases hlen : l.length = m.length
 ·repeat' (simp -implicitDefEqProofs (disch := omega) only [L11, zAi, push_cast, simprocAttr, ↓reduceIte])
  refine zAh (fun (j : Nat) e' H' => e' 0 = .sl 1 (l.map iR) ∧ e' 1 = .sl 1 (m.map iR) ∧ e' 5 = int j ∧ H = H' ∧ j ≤ l.length ∧ l.take j = m.take j) (fun j => l.length - j) 0 ?_ ?_
  ·exact ⟨rfl, rfl, rfl, rfl, zXJ _, rfl⟩
  rintro j e' H' ⟨h0, h1, h5, rfl, hj, ht⟩
  by_cases hlt : j < l.length
  ·by_cases he : l.getD j default = m.getD j default
   ·repeat' (first | refine zXx (by omega) ?_ | simp -implicitDefEqProofs (disch := omega) only [h0, h1, h5, zQ, iR, he, zO, push_cast, simprocAttr, ↓reduceIte])
    refine .mk (j + 1) ⟨h0, h1, rfl, rfl, hlt, ?_⟩ (by omega)
    rw [zBT hlt, zBT (by omega), ht, he]
   ·have hd : decide (l = m) = false := by
     simp only [zXQ]
     intro h; exact he (by rw [h])
    repeat' (first | refine zXx (by omega) ?_ | simp -implicitDefEqProofs (disch := omega) only [h0, h1, h5, zQ, iR, zO, zX, push_cast, simprocAttr, ↓reduceIte])
    rw [hd]
  ·have hd : decide (l = m) = true := by
    simp only [zXB]
    have := ht
    rwa [zXR (by omega), zXR (by omega)] at this
   repeat' (simp -implicitDefEqProofs (disch := omega) only [h0, h5, zT, push_cast, simprocAttr, ↓reduceIte])
   rw [hd]
 ·have hd : decide (l = m) = false := by
   simp only [zXQ]
   intro h; exact hlen (by rw [h])
  repeat' (simp -implicitDefEqProofs (disch := omega) only [L11, zX, push_cast, simprocAttr, ↓reduceIte])
  rw [hd]
def zSz (low high l : List Int) : Prop := low.length = l.length ∧ high.length = l.length ∧ ∀ i, i < l.length → low.getD i default ≤ l.getD i default ∧ l.getD i default ≤ high.getD i default
instance (low high l : List Int) : Decidable (zSz low high l) := inferInstanceAs (Decidable (_ ∧ _ ∧ _))
def nextA : Option (List Int) → AV
 | some l => .tup [.sl 1 (l.map iR), bool true]
 | none => .tup [zAg, bool false]
theorem zRR {w a b : Int} (hw : wOk w) (ha : inI w a) (hb : inI w b) (hz : b ≠ 0) (H : zC) : zAe 18 [int w, str [47], int a, int b] H (zGe (wrF w (a.tdiv b)) 0 0) := by
 have h1 := zCy hw ha
 have h2 : -128 ≤ a.tdiv b ∧ a.tdiv b ≤ 128 := by
  have := Int.natAbs_tdiv_le_natAbs a b
  omega
 have e : IntKind.i64.wrap (a.tdiv b) = a.tdiv b := zBQ _ (by omega) (by omega)
 have := zDG hw zLX (by decide) (by decide) ha hb (.inl hz) (a.tdiv b) (fun H => by rw [← e]; exact zTO a b hz H) rfl (by unfold zBP; omega) H
 exact this
theorem zRQ {w a b : Int} (hw : wOk w) (ha : inI w a) (hb : inI w b) (hz : b ≠ 0) (H : zC) : zAe 18 [int w, str [37], int a, int b] H (zGe (wrF w (a.tmod b)) 0 0) := by
 have h1 := zCy hw ha
 have h2 : -128 ≤ a.tmod b ∧ a.tmod b ≤ 128 := by
  have := Int.tmod_add_mul_tdiv a b
  have h3 : (a.tmod b).natAbs ≤ a.natAbs := by rw [zZS]; exact Nat.mod_le _ _
  omega
 have := zDG hw zLW (by decide) (by decide) ha hb (.inl hz) (a.tmod b) (fun H => zTN a b hz H) rfl (by unfold zBP; omega) H
 exact this
section
variable {w : Int}
theorem zCA (hw : wOk w) : 2 ≤ hf w ∧ hf w ≤ 128 := by
 rcases zFy hw with rfl | rfl | rfl | rfl | rfl | rfl | rfl <;> simp [hf]
theorem zBM (hw : wOk w) (n : Int) : inI w n ↔ -hf w ≤ n ∧ n < hf w := by
 unfold inI leF grF
 rw [if_pos hw, if_pos hw]
 omega
theorem zD5 (hw : wOk w) (n : Int) : inI w (wrF w n) := by
 rw [zBM hw]
 unfold wrF
 rw [if_pos hw]
 have h := zCA hw
 have h1 := Int.emod_nonneg (n + hf w) (b := 2 * hf w) (by omega)
 have h2 := Int.emod_lt_of_pos (n + hf w) (b := 2 * hf w) (by omega)
 omega
theorem zIN (hw : wOk w) (n : Int) : ∃ k, wrF w n = n + k * (2 * hf w) := by
 unfold wrF
 rw [if_pos hw]
 refine ⟨-((n + hf w) / (2 * hf w)), ?_⟩
 have := Int.emod_add_mul_ediv (n + hf w) (2 * hf w)
 rw [Int.neg_mul, Int.mul_comm ((n + hf w) / (2 * hf w))]
 omega
theorem zUm (hw : wOk w) {x y k : Int} (hx : inI w x) (hy : inI w y) (h : x = y + k * (2 * hf w)) : x = y := by
 rw [zBM hw] at hx hy
 have hp := zCA hw
 have hk : k = 0 := by
  rcases Int.lt_trichotomy k 0 with h1 | h1 | h1
  ·have : k * (2 * hf w) ≤ (-1) * (2 * hf w) := zZC (by omega) (by omega)
   omega
  ·exact h1
  ·have : 1 * (2 * hf w) ≤ k * (2 * hf w) := zZC (by omega) (by omega)
   omega
 subst hk
 omega
theorem zLg (hw : wOk w) {n : Int} (h : inI w n) : wrF w n = n := by
 obtain ⟨k, hk⟩ := zIN hw n
 exact zUm hw (zD5 hw n) h hk
theorem zLh (hw : wOk w) {x y k : Int} (h : x = y + k * (2 * hf w)) : wrF w x = wrF w y := by
 obtain ⟨a, ha⟩ := zIN hw x
 obtain ⟨b, hb⟩ := zIN hw y
 refine zUm hw (k := a + k - b) (zD5 hw x) (zD5 hw y) ?_
 rw [ha, hb, h, Int.sub_mul, Int.add_mul]
 omega
theorem zH4 {a b : Int} (h1 : -128 ≤ a) (h2 : a ≤ 128) (h3 : -128 ≤ b) (h4 : b ≤ 128) : -16384 ≤ a * b ∧ a * b ≤ 16384 := by
 have h5 : (a * b).natAbs ≤ 128 * 128 := by
  rw [Int.natAbs_mul]
  exact Nat.mul_le_mul (by omega) (by omega)
 omega
variable {a b : Int}
theorem zRT (hw : wOk w) (ha : inI w a) (hb : inI w b) (H : zC) : zAe 18 [int w, str [43], int a, int b] H (zGe (wrF w (a + b)) 0 0) := by
 have h1 := zCy hw ha
 have h2 := zCy hw hb
 have e : IntKind.i64.wrap (a + b) = a + b := zBQ _ (by omega) (by omega)
 exact zDG hw zQZ (by decide) (by decide) ha hb (.inr (by decide)) (a + b) (fun H => by have := zTQ a b H; rwa [e] at this) rfl (by unfold zBP; omega) H
theorem zRP (hw : wOk w) (ha : inI w a) (hb : inI w b) (H : zC) : zAe 18 [int w, str [45], int a, int b] H (zGe (wrF w (a - b)) 0 0) := by
 have h1 := zCy hw ha
 have h2 := zCy hw hb
 have e : IntKind.i64.wrap (a - b) = a - b := zBQ _ (by omega) (by omega)
 exact zDG hw zQX (by decide) (by decide) ha hb (.inr (by decide)) (a - b) (fun H => by have := zTM a b H; rwa [e] at this) rfl (by unfold zBP; omega) H
theorem zRS (hw : wOk w) (ha : inI w a) (hb : inI w b) (H : zC) : zAe 18 [int w, str [42], int a, int b] H (zGe (wrF w (a * b)) 0 0) := by
 have h1 := zCy hw ha
 have h2 := zCy hw hb
 have h3 := zH4 (a := a) (b := b) (by omega) (by omega) (by omega) (by omega)
 have e : IntKind.i64.wrap (a * b) = a * b := zBQ _ (by omega) (by omega)
 exact zDG hw zQY (by decide) (by decide) ha hb (.inr (by decide)) (a * b) (fun H => by have := zTP a b H; rwa [e] at this) rfl (by unfold zBP; omega) H
theorem zLr (hw : wOk w) {x y : Int} (hx : inI w x) : inI w (x.tmod y) := by
 rw [zBM hw] at *
 have hp := zCA hw
 have h3 : (x.tmod y).natAbs ≤ x.natAbs := by rw [zZS]; exact Nat.mod_le _ _
 by_cases h : 0 ≤ x
 ·have := Int.tmod_nonneg y h
  omega
 ·have : x.tmod y ≤ 0 := by
   have := Int.tmod_nonneg y (a := -x) (by omega)
   rw [Int.neg_tmod] at this
   omega
  omega
end
inductive Ins where
 | mk (op a b : Int) (body els : List Ins)
instance : Inhabited Ins := ⟨.mk 0 0 0 [] []⟩
def Ins.op : Ins → Int | .mk o _ _ _ _ => o
def Ins.a : Ins → Int | .mk _ a _ _ _ => a
def Ins.b : Ins → Int | .mk _ _ b _ _ => b
def Ins.body : Ins → List Ins | .mk _ _ _ l _ => l
def Ins.els : Ins → List Ins | .mk _ _ _ _ l => l
mutual
def zAp : Ins → List AV
 | .mk o a b l m => [int o, int a, int b, .sl 5 (zMv l), .sl 5 (zMv m)]
def zMv : List Ins → List (List AV)
 | [] => []
 | x :: l => zAp x :: zMv l
end
theorem zAI : ∀ l : List Ins, zMv l = l.map zAp
 | [] => rfl
 | x :: l => by simp [zMv, zAI l]
theorem zDv (x : Ins) : zAp x = [int x.op, int x.a, int x.b, .sl 5 (x.body.map zAp), .sl 5 (x.els.map zAp)] := by
 cases x; simp [zAp, zAI, Ins.op, Ins.a, Ins.b, Ins.body, Ins.els]
mutual
def zBs : Ins → Nat
 | .mk _ _ _ l m => zM l + zM m + 1
def zM : List Ins → Nat
 | [] => 0
 | x :: l => zBs x + zM l
end
mutual
def zCz : Ins → Nat
 | .mk _ _ _ l m => max (zAy l) (zAy m) + 1
def zAy : List Ins → Nat
 | [] => 0
 | x :: l => max (zCz x) (zAy l)
end
theorem zCj (x : Ins) : zBs x = zM x.body + zM x.els + 1 := by cases x; rfl
theorem zMx (x : Ins) : zCz x = max (zAy x.body) (zAy x.els) + 1 := by cases x; rfl
theorem zJ4 (x : Ins) : 0 < zBs x := by rw [zCj]; omega
theorem zDx : ∀ a b : List Ins, zM (a ++ b) = zM a + zM b
 | [], b => by simp [zM]
 | x :: a, b => by simp only [zYH, zM, zDx a b]; omega
theorem zDw : ∀ a b : List Ins, zAy (a ++ b) = max (zAy a) (zAy b)
 | [], b => by simp [zAy]
 | x :: a, b => by simp only [zYH, zAy, zDw a b]; omega
theorem zFZ {x : Ins} : ∀ {l : List Ins}, x ∈ l → zBs x ≤ zM l
 | y :: l, h => by
  simp only [zM]
  rcases zX5.1 h with rfl | h
  ·omega
  ·have := zFZ h; omega
theorem zR : ∀ l : List Ins, l.length ≤ zM l
 | [] => by simp
 | x :: l => by have := zR l; have := zJ4 x; simp only [zM, zXI]; omega
mutual
theorem zRo : ∀ x : Ins, zCz x ≤ zBs x
 | .mk _ _ _ l m => by simp only [zCz, zBs]; have := zAk l; have := zAk m; omega
theorem zAk : ∀ l : List Ins, zAy l ≤ zM l
 | [] => zXL _
 | x :: l => by simp only [zAy, zM]; have := zRo x; have := zAk l; omega
end
theorem zAf {l : List Ins} {j : Nat} (h : j < l.length) : zM (l.take (j + 1)) = zM (l.take j) + zBs (l.getD j default) := by
 rw [zBT h, zDx]; simp [zM]
theorem zAN {l : List Ins} {j : Nat} (h : j < l.length) : zAy (l.take (j + 1)) = max (zAy (l.take j)) (zCz (l.getD j default)) := by
 rw [zBT h, zDw]; simp [zAy]
theorem zAl (l : List Ins) (j : Nat) : zM (l.take j) ≤ zM l := by
 have h := zDx (l.take j) (l.drop j)
 rw [zZd] at h
 omega
theorem Ins.indL {p : List Ins → Prop} (h : ∀ l, (∀ x ∈ l, p x.body ∧ p x.els) → p l) (l : List Ins) : p l := by
 have aux : ∀ (c : Nat) (l : List Ins), zM l ≤ c → p l := by
  intro c
  induction c with
  | zero =>
   intro l hl
   refine h l fun x hx => ?_
   have := zFZ hx; have := zJ4 x; omega
  | succ c ih =>
   intro l hl
   refine h l fun x hx => ?_
   have h1 := zFZ hx
   rw [zCj] at h1
   exact ⟨ih _ (by omega), ih _ (by omega)⟩
 exact aux _ l (zXL _)
structure Pr where
 name : List UInt8
 par : Int
 slots : Int
 res : Int
 outs : List Int
 body : List Ins
instance : Inhabited Pr := ⟨⟨[], 0, 0, 0, [], []⟩⟩
def prR (q : Pr) : List AV := [str q.name, int q.par, int q.slots, int q.res, .sl 1 (q.outs.map iR), .sl 5 (q.body.map zAp)]
abbrev zAM (ps : List Pr) : AV := .sl 6 (ps.map prR)
theorem zDd {r : List AV} : ∀ {l : List (List AV)}, r ∈ l → zBG r ≤ zBd l
 | x :: l, h => by
  simp only [zBd]
  rcases zX5.1 h with rfl | h
  ·omega
  ·have := zDd h; omega
theorem zEC (i : Int) : AV.bulk (int i) = 1 := by simp [AV.bulk]
theorem zM4 (l : List UInt8) : AV.bulk (str l) = l.length + 1 := by simp [AV.bulk, mkS, ByteArray.size]
theorem zFs (k : Nat) (rows : List (List AV)) : AV.bulk (.sl k rows) = zBd rows + 1 := by simp [AV.bulk]
theorem zOF (x : Ins) : zBG (zAp x) = zBd (x.body.map zAp) + zBd (x.els.map zAp) + 5 := by
 rw [zDv]
 simp only [zBG, zEC, zFs]
 omega
mutual
theorem zMy : ∀ x : Ins, zBs x ≤ zBG (zAp x)
 | .mk _ _ _ l m => by
  rw [zOF]
  have := zDT l
  have := zDT m
  simp only [zBs, Ins.body, Ins.els]
  omega
theorem zDT : ∀ l : List Ins, zM l ≤ zBd (l.map zAp)
 | [] => zXL _
 | x :: l => by
  simp only [zM, zYx, zBd]
  have := zMy x
  have := zDT l
  omega
end
theorem zGT : ∀ l : List Int, zBd (l.map iR) = l.length
 | [] => rfl
 | x :: l => by simp only [zYx, zBd, iR, zBG, zEC, zGT l, zXI]; omega
theorem zM3 (q : Pr) : q.name.length + q.outs.length + zM q.body + 6 ≤ zBG (prR q) := by
 have := zDT q.body
 simp only [prR, zBG, zEC, zM4, zFs, zGT]
 omega
def zA3 : List Pr → Nat
 | [] => 0
 | q :: l => zM q.body + zA3 l
theorem zDr : ∀ a b : List Pr, zA3 (a ++ b) = zA3 a + zA3 b
 | [], b => by simp [zA3]
 | x :: a, b => by simp only [zYH, zA3, zDr a b]; omega
theorem zBf {l : List Pr} {j : Nat} (h : j < l.length) : zA3 (l.take (j + 1)) = zA3 (l.take j) + zM (l.getD j default).body := by
 rw [zBT h, zDr]; simp [zA3]
theorem zDN (l : List Pr) (j : Nat) : zA3 (l.take j) ≤ zA3 l := by
 have h := zDr (l.take j) (l.drop j)
 rw [zZd] at h
 omega
structure Pr.Sml (q : Pr) : Prop where
 nm : q.name.length ≤ 1048576
 os : q.outs.length ≤ 1048576
 bd : zM q.body ≤ 1048576
structure zB0 (ps : List Pr) : Prop where
 len : ps.length ≤ 1048576
 cnt : zA3 ps ≤ 1048576
 each : ∀ q ∈ ps, q.Sml
theorem zRG : ∀ (ps : List Pr) {b : Nat}, zBd (ps.map prR) ≤ b → b ≤ 1048576 → zB0 ps := by
 intro ps b hb hb'
 have aux : ∀ ps : List Pr, ps.length + zA3 ps ≤ zBd (ps.map prR) := by
  intro ps
  induction ps with
  | nil => simp [zA3]
  | cons q ps ih =>
   have := zM3 q
   simp only [zXI, zA3, zYx, zBd]
   omega
 have h := aux ps
 refine ⟨by omega, by omega, fun q hq => ?_⟩
 have h1 := zDd (List.mem_map_of_mem (f := prR) hq)
 have h2 := zM3 q
 exact ⟨by omega, by omega, by omega⟩
inductive Ins.Ok : Ins → Prop
 | mk {x : Ins} : zBP x.op → zBP x.a → zBP x.b → (∀ y ∈ x.body, Ins.Ok y) → (∀ y ∈ x.els, Ins.Ok y) → x.Ok
structure Pr.Ok (q : Pr) : Prop where
 par : zBP q.par
 slots : zBP q.slots
 res : zBP q.res
 outs : ∀ n ∈ q.outs, zBP n
 body : ∀ x ∈ q.body, x.Ok
theorem zM1 : Tryz.prog.cellsOf 114 = 5 := by kernel_rfl
theorem zM0 : Tryz.prog.cellsOf 37 = 1 := by kernel_rfl
theorem zRN : Tryz.prog.cellsOf 22 = 1 := by kernel_rfl
theorem zEb : Tryz.prog.cellsOf 3 = 1 := by kernel_rfl
theorem zUS : Tryz.prog.cellsOf 9 = 1 := by kernel_rfl
theorem c_pr : Tryz.prog.cellsOf 39 = 6 := by kernel_rfl
theorem zXb : Tryz.prog.cellsOf 29 = 1 := by kernel_rfl
theorem zUT : Tryz.prog.cellsOf 31 = 1 := by kernel_rfl
theorem zOE : Tryz.prog.cellsOf 33 = 2 := by kernel_rfl
theorem zHb {α : Type} {enc : α → List AV} {ok : α → Prop} {rows : List (List AV)} (h : ∀ r ∈ rows, ∃ a, r = enc a ∧ ok a) : ∃ l : List α, rows = l.map enc ∧ ∀ a ∈ l, ok a := by
 induction rows with
 | nil => exact ⟨[], rfl, by simp⟩
 | cons x rows ih =>
  obtain ⟨a, rfl, ha⟩ := h x (by simp)
  obtain ⟨l, rfl, hl⟩ := ih fun y hy => h y (by simp [hy])
  exact ⟨a :: l, rfl, by simp only [zX5, forall_eq_or_imp]; exact ⟨ha, hl⟩⟩
theorem zN9 : ∀ (b : Nat) {xs : List AV}, zBG xs ≤ b → Val Tryz.prog 114 xs → ∃ x : Ins, xs = zAp x ∧ x.Ok := by
 intro b
 induction b with
 | zero =>
  intro xs hb h
  obtain ⟨hl, hf⟩ := zHI Tryz.underlying114 zM1 h
  match xs, hl with
  | x :: l, _ =>
   simp only [zBG] at hb
   cases x with
   | v v => cases v <;> simp [AV.bulk] at hb
   | _ => simp [AV.bulk] at hb
 | succ b ih =>
  intro xs hb h
  obtain ⟨hl, hf⟩ := zHI Tryz.underlying114 zM1 h
  obtain ⟨x0, x1, x2, x3, x4, rfl⟩ : ∃ a b c d e, xs = [a, b, c, d, e] := by
   match xs, hl with
   | [a, b, c, d, e], _ => exact ⟨a, b, c, d, e, rfl⟩
  obtain ⟨x, hx, hx'⟩ := zCt Tryz.underlying3 (zBR hf 0 3 0 1 rfl zEb)
  obtain ⟨y, hy, hy'⟩ := zCt Tryz.underlying3 (zBR hf 1 3 1 1 rfl zEb)
  obtain ⟨z, hz, hz'⟩ := zCt Tryz.underlying3 (zBR hf 2 3 2 1 rfl zEb)
  obtain ⟨r1, hr1, hr1', hrows1⟩ := zGm Tryz.underlying37 zM1 (zBR hf 3 37 3 1 rfl zM0)
  obtain ⟨r2, hr2, hr2', hrows2⟩ := zGm Tryz.underlying37 zM1 (zBR hf 4 37 4 1 rfl zM0)
  simp only [zXv, zXw, zYM, zY4, zX0, and_true] at hx hy hz hr1 hr2
  subst hx; subst hy; subst hz; subst hr1; subst hr2
  have hbr : zBd r1 ≤ b ∧ zBd r2 ≤ b := by simp only [zBG, zEC, zFs] at hb; omega
  obtain ⟨l1, rfl, hok1⟩ := zHb (enc := zAp) (ok := Ins.Ok) fun r hr => ih (zX3 (zDd hr) hbr.1) (hrows1 r hr)
  obtain ⟨l2, rfl, hok2⟩ := zHb (enc := zAp) (ok := Ins.Ok) fun r hr => ih (zX3 (zDd hr) hbr.2) (hrows2 r hr)
  exact ⟨.mk x y z l1 l2, by simp [zAp, zAI], .mk hx' hy' hz' hok1 hok2⟩
theorem zQ2 {xs : List AV} (h : Val Tryz.prog 39 xs) : ∃ q : Pr, xs = prR q ∧ q.Ok := by
 obtain ⟨hl, hf⟩ := zHI Tryz.underlying39 c_pr h
 obtain ⟨x0, x1, x2, x3, x4, x5, rfl⟩ : ∃ a b c d e f, xs = [a, b, c, d, e, f] := by
  match xs, hl with
  | [a, b, c, d, e, f], _ => exact ⟨a, b, c, d, e, f, rfl⟩
 obtain ⟨n, hn, hn'⟩ := zPI Tryz.underlying9 (zBR hf 0 9 0 1 rfl zUS)
 obtain ⟨x, hx, hx'⟩ := zCt Tryz.underlying3 (zBR hf 1 3 1 1 rfl zEb)
 obtain ⟨y, hy, hy'⟩ := zCt Tryz.underlying3 (zBR hf 2 3 2 1 rfl zEb)
 obtain ⟨z, hz, hz'⟩ := zCt Tryz.underlying3 (zBR hf 3 3 3 1 rfl zEb)
 obtain ⟨r1, hr1, hr1', hrows1⟩ := zGm Tryz.underlying22 zEb (zBR hf 4 22 4 1 rfl zRN)
 obtain ⟨r2, hr2, hr2', hrows2⟩ := zGm Tryz.underlying37 zM1 (zBR hf 5 37 5 1 rfl zM0)
 simp only [zXv, zXw, zYM, zY4, zX0, and_true] at hn hx hy hz hr1 hr2
 subst hn; subst hx; subst hy; subst hz; subst hr1; subst hr2
 obtain ⟨l1, rfl, hok1⟩ := zG2 (enc := iR) hrows1 fun x hx => zCt Tryz.underlying3 hx
 obtain ⟨l2, rfl, hok2⟩ := zHb (enc := zAp) (ok := Ins.Ok) fun r hr => zN9 _ (zXL _) (hrows2 r hr)
 exact ⟨⟨n, x, y, z, l1, l2⟩, rfl, ⟨hx', hy', hz', hok1, hok2⟩⟩
theorem zL1 {xs : List AV} (h : Val Tryz.prog 31 xs) : ∃ ps : List Pr, xs = [zAM ps] ∧ ∀ q ∈ ps, q.Ok := by
 obtain ⟨hl, hf⟩ := zHI Tryz.underlying31 zUT h
 obtain ⟨x0, rfl⟩ : ∃ a, xs = [a] := by
  match xs, hl with
  | [a], _ => exact ⟨a, rfl⟩
 obtain ⟨r1, hr1, hr1', hrows1⟩ := zGm Tryz.underlying29 c_pr (zBR hf 0 29 0 1 rfl zXb)
 simp only [zXw, zYM, zY4, zX0, and_true] at hr1
 subst hr1
 obtain ⟨l1, rfl, hok1⟩ := zG2 (enc := prR) hrows1 fun x hx => zQ2 hx
 exact ⟨l1, rfl, hok1⟩
def L36 : LFn := ⟨32,[(.tmp 2)],(sO [oX 2 (.mv (kB false))] (.seq (sO [oM 5 0,oX 6 (.len .str (.t 5)),oV 7 .lss 6 1,oM 8 7,oW 9 8 0,oF 10 8 (.len .str (.t 9)),oF 11 8 (bI .gtr (.t 10) (kI 16)),oP 12 8 (kB true) (.t 11),oM 13 12,oW 14 13 0,oF 15 13 (.idx (.t 14) (kI 0)),oF 16 13 (y1 64 15),oF 17 13 (.not (.t 16)),oP 18 13 (kB true) (.t 17),oM 19 18,oW 20 19 0,oF 21 19 (y1 65 20),oP 22 19 (kB true) (.t 21)] (cD 22 (sO [oX 2 (.mv (kB false))] .ret) .skip)) (sO [oM 24 0,oX 25 (cF 66 [(.t 24),(kI 0)]),oM 23 25,oE 26 23 0,oE 27 23 1,oM 3 26,oM 4 27] (sO [oM 28 4,oM 29 0,oX 30 (.len .str (.t 29)),oB 31 .eql 28 30,oM 2 31] .ret))))⟩
theorem L36_ok : zAa Tryz.prog Tryz.f36 [] = some L36 := by kernel_rfl
def L64 : LFn := ⟨9,[(.tmp 2)],(sO [oX 2 (.mv (kB false))] (sO [oM 3 0,oX 4 (bI .geq (.t 3) (.c (.v (.int .u8 97)))),oM 5 4,oU 6 5 0,oT 7 5 (bI .leq (.t 6) (.c (.v (.int .u8 122)))),oP 8 5 (.t 7) (kB false),oM 2 8] .ret))⟩
theorem L64_ok : zAa Tryz.prog Tryz.f64 [] = some L64 := by kernel_rfl
def L65 : LFn := ⟨6,[(.tmp 2)],(sO [oX 2 (.mv (kB false))] (sO [oX 3 (.bsl true 1 18 [s0] [(0,(.c (.v (.string (mkS [114,101,99,111,114,100]))))),(1,(.c (.v (.string (mkS [112,114,111,99]))))),(2,(.c (.v (.string (mkS [118,97,114]))))),(3,(.c (.v (.string (mkS [105,102]))))),(4,(.c (.v (.string (mkS [101,108,115,101]))))),(5,(.c (.v (.string (mkS [119,104,105,108,101]))))),(6,(.c (.v (.string (mkS [102,111,114]))))),(7,(.c (.v (.string (mkS [116,111]))))),(8,(.c (.v (.string (mkS [114,101,116,117,114,110]))))),(9,(.c (.v (.string (mkS [97,115,115,101,114,116]))))),(10,(.c (.v (.string (mkS [97,110,100]))))),(11,(.c (.v (.string (mkS [111,114]))))),(12,(.c (.v (.string (mkS [110,111,116]))))),(13,(.c (.v (.string (mkS [116,114,117,101]))))),(14,(.c (.v (.string (mkS [102,97,108,115,101]))))),(15,(.c (.v (.string (mkS [105,110,116]))))),(16,(.c (.v (.string (mkS [98,111,111,108]))))),(17,(.c (.v (.string (mkS [108,101,110])))))]),oM 4 0,oX 5 (y2 118 3 4),oM 2 5] .ret))⟩
theorem L65_ok : zAa Tryz.prog Tryz.f65 [⟨1,0,.imm⟩] = some L65 := by kernel_rfl
def L66 : LFn := ⟨98,[(.tmp 4),(.tmp 5)],(sO [oC 4 0,oC 5 0] (sO [oM 7 1,oM 6 7] (.seq (.block 0 (sO [oM 9 0,oM 10 1,oX 11 (.idx (.t 9) (.t 10)),oX 12 (y1 64 11),oM 8 12] (cD 8 (.seq (.block 1 (.loop (.seq (sO [oM 13 6,oM 14 0,oX 15 (.len .str (.t 14)),oB 16 .lss 13 15,oM 17 16,oU 18 17 0,oU 19 17 6,oT 20 17 (.idx (.t 18) (.t 19)),oT 21 17 (y1 64 20),oU 22 17 21,oW 23 22 0,oW 24 22 6,oF 25 22 (.idx (.t 23) (.t 24)),oF 26 22 (y1 122 25),oT 27 17 (.pick (.t 22) (kB true) (.t 26)),oU 28 17 27,oW 29 28 0,oW 30 28 6,oF 31 28 (.idx (.t 29) (.t 30)),oF 32 28 (bI .eql (.t 31) (.c (.v (.int .u8 95)))),oT 33 17 (.pick (.t 28) (kB true) (.t 32)),oP 34 17 (.t 33) (kB false)] (cD 34 .skip (.exit 1))) (.block 2 (.ops [oM 35 6,oV 36 .add 35 1,oM 6 36]))))) (.seq (sO [oM 37 0,oM 38 1,oM 39 6,oX 40 (.slice .str 1 (.t 37) (some (.t 38)) (some (.t 39))),oX 41 (y1 65 40)] (cD 41 (sO [oM 42 6,oC 4 1,oM 5 42] .ret) .skip)) (sO [oM 43 6,oC 4 0,oM 5 43] .ret))) (sO [oM 45 0,oM 46 1,oX 47 (.idx (.t 45) (.t 46)),oX 48 (y1 122 47),oM 44 48] (cD 44 (.seq (.block 3 (.loop (.seq (sO [oM 49 6,oM 50 0,oX 51 (.len .str (.t 50)),oB 52 .lss 49 51,oM 53 52,oU 54 53 0,oU 55 53 6,oT 56 53 (.idx (.t 54) (.t 55)),oT 57 53 (y1 122 56),oP 58 53 (.t 57) (kB false)] (cD 58 .skip (.exit 3))) (.block 4 (.ops [oM 59 6,oV 60 .add 59 1,oM 6 60]))))) (sO [oM 61 6,oC 4 2,oM 5 61] .ret)) (sO [oM 63 0,oM 64 1,oX 65 (y2 123 63 64),oV 66 .gtr 65 0,oM 62 66] (cD 62 (sO [oM 67 1,oM 68 0,oM 69 1,oX 70 (y2 123 68 69),oB 71 .add 67 70,oC 4 3,oM 5 71] .ret) .skip))))))) (.seq (.block 5 (.loop (.seq (sO [oM 72 6,oM 73 0,oX 74 (.len .str (.t 73)),oB 75 .lss 72 74,oM 76 75,oU 77 76 0,oU 78 76 6,oT 79 76 (.idx (.t 77) (.t 78)),oT 80 76 (y1 124 79),oT 81 76 (.not (.t 80)),oP 82 76 (.t 81) (kB false),oM 83 82,oU 84 83 0,oU 85 83 6,oT 86 83 (.idx (.t 84) (.t 85)),oT 87 83 (bI .neq (.t 86) (.c (.v (.int .u8 35)))),oP 88 83 (.t 87) (kB false),oM 89 88,oU 90 89 0,oU 91 89 6,oT 92 89 (y2 125 90 91),oT 93 89 (.not (.t 92)),oP 94 89 (.t 93) (kB false)] (cD 94 .skip (.exit 5))) (.block 6 (.ops [oM 95 6,oV 96 .add 95 1,oM 6 96]))))) (sO [oM 97 6,oC 4 4,oM 5 97] .ret)))))⟩
theorem L66_ok : zAa Tryz.prog Tryz.f66 [] = some L66 := by kernel_rfl
def L118 : LFn := ⟨18,[(.tmp 4)],(sO [oX 4 (.mv (kB false))] (.seq (sO [oC 5 0] (.block 0 (.loop (.seq (sO [oM 6 5,oM 7 0,oX 8 (.len .slc (.t 7)),oB 9 .lss 6 8] (cD 9 .skip (.exit 0))) (.seq (.block 1 (sO [oM 12 0,oM 13 5,oI 14 1 12 13,oL 15 14,oM 16 1,oX 17 (.bin .str .eql (.t 15) (.t 16))] (cD 17 (sO [oX 4 (.mv (kB true))] .ret) .skip))) (.ops [oM 10 5,oV 11 .add 10 1,oM 5 11])))))) (sO [oX 4 (.mv (kB false))] .ret)))⟩
theorem L118_ok : zAa Tryz.prog Tryz.f118 [] = some L118 := by kernel_rfl
def L122 : LFn := ⟨9,[(.tmp 2)],(sO [oX 2 (.mv (kB false))] (sO [oM 3 0,oX 4 (bI .geq (.t 3) (.c (.v (.int .u8 48)))),oM 5 4,oU 6 5 0,oT 7 5 (bI .leq (.t 6) (.c (.v (.int .u8 57)))),oP 8 5 (.t 7) (kB false),oM 2 8] .ret))⟩
theorem L122_ok : zAa Tryz.prog Tryz.f122 [] = some L122 := by kernel_rfl
def L123 : LFn := ⟨26,[(.tmp 4)],(sO [oC 4 0] (.seq (sO [oM 5 1,oV 6 .add 5 2,oM 7 0,oX 8 (.len .str (.t 7)),oB 9 .leq 6 8,oM 10 9,oT 11 10 (.bsl true 1 4 [s0] [(0,(.c (.v (.string (mkS [61,61]))))),(1,(.c (.v (.string (mkS [33,61]))))),(2,(.c (.v (.string (mkS [60,61]))))),(3,(.c (.v (.string (mkS [62,61])))))]),oU 12 10 0,oU 13 10 1,oU 14 10 1,oT 15 10 (bI .add (.t 14) (kI 2)),oT 16 10 (.slice .str 1 (.t 12) (some (.t 13)) (some (.t 15))),oT 17 10 (y2 118 11 16),oP 18 10 (.t 17) (kB false)] (cD 18 (sO [oC 4 2] .ret) .skip)) (.seq (sO [oX 19 (.bsl true 1 18 [s0] [(0,(.c (.v (.string (mkS [60]))))),(1,(.c (.v (.string (mkS [62]))))),(2,(.c (.v (.string (mkS [61]))))),(3,(.c (.v (.string (mkS [43]))))),(4,(.c (.v (.string (mkS [45]))))),(5,(.c (.v (.string (mkS [42]))))),(6,(.c (.v (.string (mkS [47]))))),(7,(.c (.v (.string (mkS [37]))))),(8,(.c (.v (.string (mkS [40]))))),(9,(.c (.v (.string (mkS [41]))))),(10,(.c (.v (.string (mkS [123]))))),(11,(.c (.v (.string (mkS [125]))))),(12,(.c (.v (.string (mkS [91]))))),(13,(.c (.v (.string (mkS [93]))))),(14,(.c (.v (.string (mkS [44]))))),(15,(.c (.v (.string (mkS [59]))))),(16,(.c (.v (.string (mkS [58]))))),(17,(.c (.v (.string (mkS [46])))))]),oM 20 0,oM 21 1,oM 22 1,oV 23 .add 22 1,oX 24 (.slice .str 1 (.t 20) (some (.t 21)) (some (.t 23))),oX 25 (y2 118 19 24)] (cD 25 (sO [oC 4 1] .ret) .skip)) (sO [oC 4 0] .ret))))⟩
theorem L123_ok : zAa Tryz.prog Tryz.f123 [⟨1,6,.imm⟩,⟨3,0,.imm⟩] = some L123 := by kernel_rfl
def L124 : LFn := ⟨17,[(.tmp 2)],(sO [oX 2 (.mv (kB false))] (sO [oM 3 0,oX 4 (bI .eql (.t 3) (.c (.v (.int .u8 9)))),oM 5 4,oW 6 5 0,oF 7 5 (bI .eql (.t 6) (.c (.v (.int .u8 10)))),oP 8 5 (kB true) (.t 7),oM 9 8,oW 10 9 0,oF 11 9 (bI .eql (.t 10) (.c (.v (.int .u8 13)))),oP 12 9 (kB true) (.t 11),oM 13 12,oW 14 13 0,oF 15 13 (bI .eql (.t 14) (.c (.v (.int .u8 32)))),oP 16 13 (kB true) (.t 15),oM 2 16] .ret))⟩
theorem L124_ok : zAa Tryz.prog Tryz.f124 [] = some L124 := by kernel_rfl
def L125 : LFn := ⟨21,[(.tmp 4)],(sO [oX 4 (.mv (kB false))] (sO [oM 5 0,oM 6 1,oX 7 (.idx (.t 5) (.t 6)),oX 8 (y1 64 7),oM 9 8,oW 10 9 0,oW 11 9 1,oF 12 9 (.idx (.t 10) (.t 11)),oF 13 9 (y1 122 12),oP 14 9 (kB true) (.t 13),oM 15 14,oW 16 15 0,oW 17 15 1,oF 18 15 (y2 123 16 17),oF 19 15 (bI .gtr (.t 18) (kI 0)),oP 20 15 (kB true) (.t 19),oM 4 20] .ret))⟩
theorem L125_ok : zAa Tryz.prog Tryz.f125 [] = some L125 := by kernel_rfl
def L128 : LFn := ⟨25,[(.tmp 2)],(sO [oX 2 (.mv (kB false))] (.seq (sO [oM 3 0,oX 4 (.bin .str .eql (.t 3) (.c s0)),oM 5 4,oW 6 5 0,oF 7 5 (.len .str (.t 6)),oF 8 5 (bI .gtr (.t 7) (kI 16)),oP 9 5 (kB true) (.t 8),oM 10 9,oW 11 10 0,oF 12 10 (.idx (.t 11) (kI 0)),oF 13 10 (y1 171 12),oF 14 10 (.not (.t 13)),oP 15 10 (kB true) (.t 14),oM 16 15,oW 17 16 0,oF 18 16 (y1 172 17),oP 19 16 (kB true) (.t 18)] (cD 19 (sO [oX 2 (.mv (kB false))] .ret) .skip)) (sO [oM 20 0,oX 21 (cF 173 [(.t 20),(kI 0),(.c (.fn (.func 174) [] []))]),oM 22 0,oX 23 (.len .str (.t 22)),oB 24 .eql 21 23,oM 2 24] .ret)))⟩
theorem L128_ok : zAa Tryz.prog Tryz.f128 [] = some L128 := by kernel_rfl
def L171 : LFn := ⟨9,[(.tmp 2)],(sO [oX 2 (.mv (kB false))] (sO [oM 3 0,oX 4 (bI .geq (.t 3) (.c (.v (.int .u8 97)))),oM 5 4,oU 6 5 0,oT 7 5 (bI .leq (.t 6) (.c (.v (.int .u8 122)))),oP 8 5 (.t 7) (kB false),oM 2 8] .ret))⟩
theorem L171_ok : zAa Tryz.prog Tryz.f171 [] = some L171 := by kernel_rfl
def L172 : LFn := ⟨6,[(.tmp 2)],(sO [oX 2 (.mv (kB false))] (sO [oX 3 (y0 222),oM 4 0,oX 5 (.look .str (.v (.bool false)) false (.t 3) (.t 4)),oM 2 5] .ret))⟩
theorem L172_ok : zAa Tryz.prog Tryz.f172 [] = some L172 := by kernel_rfl
def L173 : LFn := ⟨21,[(.tmp 6)],(sO [oC 6 0] (.seq (.block 0 (.loop (.seq (sO [oM 7 1,oM 8 0,oX 9 (.len .str (.t 8)),oB 10 .lss 7 9,oM 11 10,oU 12 11 2,oU 13 11 0,oU 14 11 1,oT 15 11 (.idx (.t 13) (.t 14)),oT 16 11 (.call (.t 12) [(.t 15)]),oP 17 11 (.t 16) (kB false)] (cD 17 .skip (.exit 0))) (.block 1 (.ops [oM 18 1,oV 19 .add 18 1,oM 1 19]))))) (sO [oM 20 1,oM 6 20] .ret)))⟩
theorem L173_ok : zAa Tryz.prog Tryz.f173 [] = some L173 := by kernel_rfl
def L174 : LFn := ⟨13,[(.tmp 2)],(sO [oX 2 (.mv (kB false))] (sO [oM 3 0,oX 4 (y1 171 3),oM 5 4,oW 6 5 0,oF 7 5 (y1 175 6),oP 8 5 (kB true) (.t 7),oM 9 8,oW 10 9 0,oF 11 9 (bI .eql (.t 10) (.c (.v (.int .u8 95)))),oP 12 9 (kB true) (.t 11),oM 2 12] .ret))⟩
theorem L174_ok : zAa Tryz.prog Tryz.f174 [] = some L174 := by kernel_rfl
def L175 : LFn := ⟨9,[(.tmp 2)],(sO [oX 2 (.mv (kB false))] (sO [oM 3 0,oX 4 (bI .geq (.t 3) (.c (.v (.int .u8 48)))),oM 5 4,oU 6 5 0,oT 7 5 (bI .leq (.t 6) (.c (.v (.int .u8 57)))),oP 8 5 (.t 7) (kB false),oM 2 8] .ret))⟩
theorem L175_ok : zAa Tryz.prog Tryz.f175 [] = some L175 := by kernel_rfl
def L222 : LFn := ⟨3,[(.tmp 0)],(sO [oX 0 (.mv (.c (.v (.map none))))] (sO [⟨(some 1),none,.mkmap⟩,oN (.ins .str (.t 1) (.c (.v (.string (mkS [114,101,99,111,114,100])))) (kB true)),oN (.ins .str (.t 1) (.c (.v (.string (mkS [112,114,111,99])))) (kB true)),oN (.ins .str (.t 1) (.c (.v (.string (mkS [118,97,114])))) (kB true)),oN (.ins .str (.t 1) (.c (.v (.string (mkS [105,102])))) (kB true)),oN (.ins .str (.t 1) (.c (.v (.string (mkS [101,108,115,101])))) (kB true)),oN (.ins .str (.t 1) (.c (.v (.string (mkS [119,104,105,108,101])))) (kB true)),oN (.ins .str (.t 1) (.c (.v (.string (mkS [102,111,114])))) (kB true)),oN (.ins .str (.t 1) (.c (.v (.string (mkS [116,111])))) (kB true)),oN (.ins .str (.t 1) (.c (.v (.string (mkS [114,101,116,117,114,110])))) (kB true)),oN (.ins .str (.t 1) (.c (.v (.string (mkS [97,115,115,101,114,116])))) (kB true)),oN (.ins .str (.t 1) (.c (.v (.string (mkS [97,110,100])))) (kB true)),oN (.ins .str (.t 1) (.c (.v (.string (mkS [111,114])))) (kB true)),oN (.ins .str (.t 1) (.c (.v (.string (mkS [110,111,116])))) (kB true)),oN (.ins .str (.t 1) (.c (.v (.string (mkS [116,114,117,101])))) (kB true)),oN (.ins .str (.t 1) (.c (.v (.string (mkS [102,97,108,115,101])))) (kB true)),oN (.ins .str (.t 1) (.c (.v (.string (mkS [105,110,116])))) (kB true)),oN (.ins .str (.t 1) (.c (.v (.string (mkS [98,111,111,108])))) (kB true)),oN (.ins .str (.t 1) (.c (.v (.string (mkS [108,101,110])))) (kB true)),oM 2 1,oM 0 2,oX 0 (.frz (.t 0))] .ret))⟩
theorem L222_ok : zAa Tryz.prog Tryz.f222 [⟨1,21,(.pre 0 (.frz (.t 0)))⟩] = some L222 := by kernel_rfl
abbrev by8 (c : UInt8) : AV := u8 c.toNat
def isL (c : UInt8) : Bool := decide (97 ≤ c.toNat) && decide (c.toNat ≤ 122)
def isD (c : UInt8) : Bool := decide (48 ≤ c.toNat) && decide (c.toNat ≤ 57)
def isW (c : UInt8) : Bool := decide (c.toNat = 9) || decide (c.toNat = 10) || decide (c.toNat = 13) || decide (c.toNat = 32)
def isN (c : UInt8) : Bool := isL c || isD c || decide (c.toNat = 95)
abbrev zHD (k : FuncId) (args : List AV) (H : zC) (x : AV) : Prop := ACall Tryz.prog k args H fun y H' => y = x ∧ H' = H
theorem zPp (c : UInt8) (H : zC) : zHD 171 [by8 c] H (bool (isL c)) := by
 refine enter Tryz.func171 L171_ok (zXs rfl) ?_
 repeat' (first | simp -implicitDefEqProofs (disch := omega) only [L171, push_cast, simprocAttr, ↓reduceIte] | split)
 all_goals (refine zAX ?_; simp [isL] <;> omega)
theorem zFV (c : UInt8) (H : zC) : zHD 64 [by8 c] H (bool (isL c)) := by
 refine enter Tryz.func64 L64_ok (zXs rfl) ?_
 repeat' (first | simp -implicitDefEqProofs (disch := omega) only [L64, push_cast, simprocAttr, ↓reduceIte] | split)
 all_goals (refine zAX ?_; simp [isL] <;> omega)
theorem zW7 (c : UInt8) (H : zC) : zHD 175 [by8 c] H (bool (isD c)) := by
 refine enter Tryz.func175 L175_ok (zXs rfl) ?_
 repeat' (first | simp -implicitDefEqProofs (disch := omega) only [L175, push_cast, simprocAttr, ↓reduceIte] | split)
 all_goals (refine zAX ?_; simp [isD] <;> omega)
theorem zKg (c : UInt8) (H : zC) : zHD 122 [by8 c] H (bool (isD c)) := by
 refine enter Tryz.func122 L122_ok (zXs rfl) ?_
 repeat' (first | simp -implicitDefEqProofs (disch := omega) only [L122, push_cast, simprocAttr, ↓reduceIte] | split)
 all_goals (refine zAX ?_; simp [isD] <;> omega)
theorem zUX (c : UInt8) (H : zC) : zHD 124 [by8 c] H (bool (isW c)) := by
 refine enter Tryz.func124 L124_ok (zXs rfl) ?_
 repeat' (first | simp -implicitDefEqProofs (disch := omega) only [L124, push_cast, simprocAttr, ↓reduceIte] | split)
 all_goals (refine zAX ?_; simp [isW] <;> omega)
theorem zWV (c : UInt8) (H : zC) : zHD 174 [by8 c] H (bool (isN c)) := by
 refine enter Tryz.func174 L174_ok (zXs rfl) ?_
 repeat' (first | refine zA (zPp _ _) ?_ | refine zA (zW7 _ _) ?_ | simp -implicitDefEqProofs (disch := omega) only [L174, push_cast, simprocAttr, ↓reduceIte] | split)
 all_goals (refine zAX ?_; simp_all [isN] <;> omega)
def zEF (p : UInt8 → Bool) (l : List UInt8) (i : Nat) : Nat := i + ((l.drop i).takeWhile p).length
theorem zFJ {p : UInt8 → Bool} {l : List UInt8} {i : Nat} (h : i < l.length) (hp : p (l.getD i 0) = true) : zEF p l (i + 1) = zEF p l i := by
 simp only [zEF]
 rw [zYp h, List.takeWhile_cons]
 simp [List.getD, h] at hp
 simp [hp]; omega
theorem zEo {p : UInt8 → Bool} {l : List UInt8} {i : Nat} (h : i < l.length → p (l.getD i 0) = false) : zEF p l i = i := by
 simp only [zEF]
 by_cases hi : i < l.length
 ·have := h hi
  rw [zYp hi, List.takeWhile_cons]
  simp [List.getD, hi] at this
  simp [this]
 ·simp [List.drop_eq_nil_of_le (zZr hi)]
theorem zQx {p : UInt8 → Bool} {l : List UInt8} {i : Nat} (h : i ≤ l.length) : zEF p l i ≤ l.length := by
 simp only [zEF]
 have := (List.takeWhile_sublist p (l := l.drop i)).length_le
 simp at this
 omega
theorem run (l : List UInt8) (i : Nat) (p : UInt8 → Bool) (f : FuncId) (H : zC) (hl : (l.length : Int) < 9223372036854775807) (hi : i ≤ l.length)
  (hp : ∀ c : UInt8, zHD f [by8 c] H (bool (p c))) :
  zHD 173 [str l, int i, .fn (.func f) [] []] H (int (zEF p l i)) := by
 refine enter Tryz.func173 L173_ok (zXs rfl) ?_
 simp -implicitDefEqProofs (disch := omega) only [L173, push_cast, simprocAttr, ↓reduceIte, zXq]
 refine zI0 (fun e' H' => ∃ j : Nat, e' 0 = str l ∧ e' 1 = int j ∧ e' 2 = .fn (.func f) [] [] ∧ H' = H ∧ j ≤ l.length ∧ zEF p l j = zEF p l i) (fun e' _ => match e' 1 with | .v (.int _ n) => l.length - n.toNat | _ => 0) ⟨i, by simp -implicitDefEqProofs (disch := omega) only [push_cast, simprocAttr, ↓reduceIte, zXq], by simp -implicitDefEqProofs (disch := omega) only [push_cast, simprocAttr, ↓reduceIte, zXq], by simp -implicitDefEqProofs (disch := omega) only [push_cast, simprocAttr, ↓reduceIte, zXq], rfl, hi, rfl⟩ ?_
 rintro e' H' ⟨j, h0, h1, h2, rfl, hj, hr⟩
 repeat' (first | refine zXx (by omega) ?_ | refine zA (hp _) ?_ | simp -implicitDefEqProofs (disch := omega) only [h0, h1, h2, push_cast, simprocAttr, ↓reduceIte] | split)
 ·exact ⟨⟨j + 1, by simp, by omega, by rw [zFJ (by omega) ‹_›]; exact hr⟩, by omega⟩
 ·rename_i h3
  rw [← hr, zEo fun _ => zYN.2 h3]
 ·rw [← hr, zEo fun _ => by omega]
def zPX (ls : List (List UInt8)) : List (List AV) := ls.map fun s => [str s]
theorem zLx {ls : List (List UInt8)} {j : Nat} (h : j < ls.length) : (zPX ls).getD j [] = [str (ls.getD j [])] := by
 simp [zPX, zXC, h]
theorem zNC (ls : List (List UInt8)) : (zPX ls).length = ls.length := by simp [zPX]
theorem zNB {α : Type} {ls : List α} {s : α} {j : Nat} (hj : j < ls.length) (h : s ∉ ls.take j) (hne : ls[j] ≠ s) : s ∉ ls.take (j + 1) := by
 rw [zZA hj]
 simp only [zXV, zYL, not_or]
 exact ⟨h, fun h => hne h.symm⟩
theorem zUo (ls : List (List UInt8)) (s : List UInt8) (H : zC) (hl : (ls.length : Int) < 9223372036854775807) : zHD 118 [.sl 1 (zPX ls), str s] H (bool (decide (s ∈ ls))) := by
 refine enter Tryz.func118 L118_ok (zXs rfl) ?_
 simp -implicitDefEqProofs (disch := omega) only [L118, push_cast, simprocAttr, ↓reduceIte, zXq]
 refine zI0 (fun e' H' => ∃ j : Nat, e' 0 = .sl 1 (zPX ls) ∧ e' 1 = str s ∧ e' 5 = int j ∧ H' = H ∧ j ≤ ls.length ∧ s ∉ ls.take j) (fun e' _ => match e' 5 with | .v (.int _ n) => ls.length - n.toNat | _ => 0) ⟨0, by simp -implicitDefEqProofs (disch := omega) only [push_cast, simprocAttr, ↓reduceIte, zXq], by simp -implicitDefEqProofs (disch := omega) only [push_cast, simprocAttr, ↓reduceIte, zXq], by simp -implicitDefEqProofs (disch := omega) only [Int.natCast_zero, push_cast, simprocAttr, ↓reduceIte, zXq], rfl, zXJ _, by simp⟩ ?_
 rintro e' H' ⟨j, h0, h1, h2, rfl, hj, hr⟩
 repeat' (first | refine zXx (by omega) ?_ | simp -implicitDefEqProofs (disch := omega) only [h0, h1, h2, zNC, zLx, push_cast, simprocAttr, ↓reduceIte] | split)
 ·rename_i h3 h4
  refine zAX ⟨fun _ => zXU ?_, fun _ => rfl⟩
  rw [← h4]
  simp [zXC, show j < ls.length by omega]
 ·rename_i h3 h4
  have hlt : j < ls.length := by omega
  refine ⟨⟨j + 1, by simp, by omega, zNB hlt hr ?_⟩, by omega⟩
  simpa [zXC, hlt] using h4
 ·rename_i h3
  rw [zXR (by omega)] at hr
  simp [hr]
def kwL : List (List UInt8) := [[114, 101, 99, 111, 114, 100], [112, 114, 111, 99], [118, 97, 114], [105, 102], [101, 108, 115, 101], [119, 104, 105, 108, 101], [102, 111, 114], [116, 111], [114, 101, 116, 117, 114, 110], [97, 115, 115, 101, 114, 116], [97, 110, 100], [111, 114], [110, 111, 116], [116, 114, 117, 101], [102, 97, 108, 115, 101], [105, 110, 116], [98, 111, 111, 108], [108, 101, 110]]
def isK (s : List UInt8) : Bool := decide (s ∈ kwL)
theorem zJX (s : List UInt8) (H : zC) : zHD 65 [str s] H (bool (isK s)) := by
 refine enter Tryz.func65 L65_ok (zXs rfl) ?_
 simp -implicitDefEqProofs (disch := omega) only [L65, push_cast, simprocAttr, ↓reduceIte, zXq]
 refine zA (zUo kwL s H (by decide)) ?_
 simp -implicitDefEqProofs (disch := omega) only [isK, push_cast, simprocAttr, ↓reduceIte, zXq]
theorem zOj (H : zC) : zHD 222 [] H (.mp (kwL.map fun s => .string (mkS s)) (kwL.map fun _ => bool true)) := by
 refine (ACall.drop (R := fun x => x = .mp (kwL.map fun s => .string (mkS s)) (kwL.map fun _ => bool true)) ?_)
 refine enter Tryz.func222 L222_ok (zXs rfl) ?_
 simp -implicitDefEqProofs (disch := omega) only [L222, push_cast, simprocAttr, ↓reduceIte, zXq]
 simp [kEq, zPE, kwL]
theorem zH5 (s : List UInt8) : ∀ ls : List (List UInt8), zDQ (.string (mkS s)) (ls.map fun s => .string (mkS s)) (ls.map fun _ => bool true) = if s ∈ ls then some (bool true) else none
 | [] => by simp [zDQ]
 | x :: l => by
  simp only [zYx, zDQ, kEq, zPE, beq_iff_eq, zX5]
  by_cases h : s = x
  ·simp [h]
  ·simp [h, zH5 s l]
theorem zRd (s : List UInt8) (H : zC) : zHD 172 [str s] H (bool (isK s)) := by
 refine enter Tryz.func172 L172_ok (zXs rfl) ?_
 simp -implicitDefEqProofs (disch := omega) only [L172, push_cast, simprocAttr, ↓reduceIte, zXq]
 refine zA (zOj H) ?_
 simp -implicitDefEqProofs (disch := omega) only [zH5, push_cast, simprocAttr, ↓reduceIte, zXq]
 refine ⟨fun k hk => ?_, ?_⟩
 ·obtain ⟨x, _, rfl⟩ := zYz.1 hk; rfl
 ·unfold isK
  by_cases h : s ∈ kwL <;> simp [h, lookV]
def symL : List UInt8 := [60, 62, 61, 43, 45, 42, 47, 37, 40, 41, 123, 125, 91, 93, 44, 59, 58, 46]
def is2 (c : UInt8) : Bool := decide (c.toNat = 61) || decide (c.toNat = 33) || decide (c.toNat = 60) || decide (c.toNat = 62)
def zIU (s : List UInt8) (i : Nat) : Nat :=
 if i + 1 < s.length ∧ (s.getD (i + 1) 0).toNat = 61 ∧ is2 (s.getD i 0) = true then 2 else if s.getD i 0 ∈ symL then 1 else 0
theorem sub2 {s : List UInt8} {i : Nat} (h : i + 1 < s.length) : ((s.drop i).take 2) = [s.getD i 0, s.getD (i + 1) 0] := by
 rw [zYp (by omega), zYp h, zYM, zYM, zY4]
 simp [zXC, h, show i < s.length by omega]
theorem sub1 {s : List UInt8} {i : Nat} (h : i < s.length) : ((s.drop i).take 1) = [s.getD i 0] := by
 rw [zYp h, zYM, zY4]
 simp [zXC, h]
theorem zLw {s : List UInt8} {i : Nat} (h : i + 1 < s.length) : zIU s i = if [s.getD i 0, s.getD (i + 1) 0] ∈ [[61, 61], [33, 61], [60, 61], [(62 : UInt8), 61]] then 2 else if s.getD i 0 ∈ symL then 1 else 0 := by
 unfold zIU
 have e : (i + 1 < s.length ∧ (s.getD (i + 1) 0).toNat = 61 ∧ is2 (s.getD i 0) = true) = ([s.getD i 0, s.getD (i + 1) 0] ∈ [[61, 61], [33, 61], [60, 61], [(62 : UInt8), 61]]) := by
  generalize s.getD (i + 1) 0 = b
  generalize s.getD i 0 = a
  simp [is2, h, ← zZT]
  omega
 simp only [e]
theorem zLv (s : List UInt8) (i : Nat) (H : zC) (hl : (s.length : Int) < 9223372036854775806) (hi : i < s.length) : zHD 123 [str s, int i] H (int (zIU s i)) := by
 refine enter Tryz.func123 L123_ok (zXs rfl) ?_
 simp -implicitDefEqProofs (disch := omega) only [L123, push_cast, simprocAttr, ↓reduceIte, zXq]
 have hm : ∀ c : UInt8, ([c] ∈ symL.map fun c => [c]) ↔ c ∈ symL := fun c => by simp
 split
 ·rename_i h1
  have h1' : i + 1 < s.length := by omega
  refine ⟨by omega, zA (zUo [[61, 61], [33, 61], [60, 61], [62, 61]] _ _ (by decide)) ?_⟩
  simp -implicitDefEqProofs (disch := omega) only [push_cast, simprocAttr, ↓reduceIte, zXq]
  rw [sub2 h1']
  split
  ·rename_i h2
   rw [zLw h1', if_pos (by simpa using h2)]
   rfl
  ·rename_i h2
   refine ⟨by omega, zA (zUo (symL.map fun c => [c]) _ _ (by decide)) ?_⟩
   simp -implicitDefEqProofs (disch := omega) only [push_cast, simprocAttr, ↓reduceIte, zXq]
   have e := zLw h1'
   rw [if_neg (show ¬ _ from by simpa using h2)] at e
   rw [sub1 hi, e]
   simp only [hm]
   split <;> rfl
 ·rename_i h1
  refine ⟨by omega, zA (zUo (symL.map fun c => [c]) _ _ (by decide)) ?_⟩
  simp -implicitDefEqProofs (disch := omega) only [push_cast, simprocAttr, ↓reduceIte, zXq]
  unfold zIU
  have e : zIU s i = if s.getD i 0 ∈ symL then 1 else 0 := if_neg (by omega)
  rw [sub1 hi]
  simp only [hm]
  rw [show (if i + 1 < s.length ∧ (s.getD (i + 1) 0).toNat = 61 ∧ is2 (s.getD i 0) = true then 2 else if s.getD i 0 ∈ symL then 1 else 0) = _ from e]
  split <;> rfl
theorem zQy {p : UInt8 → Bool} {l : List UInt8} {i : Nat} : i ≤ zEF p l i := by simp [zEF]
theorem zR2 (s : List UInt8) (i : Nat) (H : zC) (hl : (s.length : Int) < 9223372036854775806) (hi : i < s.length) : zHD 125 [str s, int i] H (bool (isL (s.getD i 0) || isD (s.getD i 0) || decide (0 < zIU s i))) := by
 refine enter Tryz.func125 L125_ok (zXs rfl) ?_
 repeat' (first | refine zXx (by omega) ?_ | refine zA (zFV _ _) ?_ | refine zA (zKg _ _) ?_ | refine zA (zLv _ _ _ hl hi) ?_ | simp -implicitDefEqProofs (disch := omega) only [L125, push_cast, simprocAttr, ↓reduceIte] | split)
 all_goals (refine zAX ?_; simp_all <;> omega)
def zLz (s : List UInt8) (k : Nat) : Bool := !isW (s.getD k 0) && !decide ((s.getD k 0).toNat = 35) && !isL (s.getD k 0) && !isD (s.getD k 0) && decide (zIU s k = 0)
def zVM (s : List UInt8) : Nat → Nat → Nat
 | 0, k => k
 | n + 1, k => if zLz s k = true then zVM s n (k + 1) else k
def zM6 (s : List UInt8) (k : Nat) : Nat := zVM s (s.length - k) k
theorem zIC {s : List UInt8} {k : Nat} (h : k < s.length) (hs : zLz s k = true) : zM6 s (k + 1) = zM6 s k := by
 unfold zM6
 rw [show s.length - k = (s.length - (k + 1)) + 1 by omega]
 simp [zVM, hs]
theorem zM5 {s : List UInt8} {k : Nat} (h : k < s.length → zLz s k = false) : zM6 s k = k := by
 unfold zM6
 by_cases hk : k < s.length
 ·rw [show s.length - k = (s.length - (k + 1)) + 1 by omega]
  simp [zVM, h hk]
 ·rw [show s.length - k = 0 by omega]; rfl
def zSH (s : List UInt8) (i : Nat) : Nat × Nat :=
 if isL (s.getD i 0) = true then (if isK ((s.drop i).take (zEF isN s i - i)) = true then 1 else 0, zEF isN s i)
 else if isD (s.getD i 0) = true then (2, zEF isD s i)
 else if 0 < zIU s i then (3, i + zIU s i)
 else (4, zM6 s (i + 1))
theorem zPW {s : List UInt8} {i : Nat} (h : i < s.length) : i + zIU s i ≤ s.length := by
 unfold zIU; split
 ·omega
 ·split <;> omega
abbrev tokV (p : Nat × Nat) : AV := .tup [int p.1, int p.2]
theorem zOW {s : List UInt8} {i : Nat} (h : isL (s.getD i 0) = true) : zSH s i = (if isK ((s.drop i).take (zEF isN s i - i)) = true then 1 else 0, zEF isN s i) := if_pos h
theorem zSG {s : List UInt8} {i : Nat} (h : ¬ isL (s.getD i 0) = true) (h2 : isD (s.getD i 0) = true) : zSH s i = (2, zEF isD s i) := (if_neg h).trans (if_pos h2)
theorem zSF {s : List UInt8} {i : Nat} (h : ¬ isL (s.getD i 0) = true) (h2 : ¬ isD (s.getD i 0) = true) (h3 : 0 < zIU s i) : zSH s i = (3, i + zIU s i) := (if_neg h).trans ((if_neg h2).trans (if_pos h3))
theorem zSE {s : List UInt8} {i : Nat} (h : ¬ isL (s.getD i 0) = true) (h2 : ¬ isD (s.getD i 0) = true) (h3 : ¬ 0 < zIU s i) : zSH s i = (4, zM6 s (i + 1)) := (if_neg h).trans ((if_neg h2).trans (if_neg h3))
theorem zFF {s : List UInt8} {k : Nat} : zLz s k = true ↔ isW (s.getD k 0) = false ∧ ¬ (s.getD k 0).toNat = 35 ∧ isL (s.getD k 0) = false ∧ isD (s.getD k 0) = false ∧ zIU s k = 0 := by
 simp only [zLz, zXE, zYA, zXQ, zXB, and_assoc]
theorem zMt {c : UInt8} : isN c = true ↔ isL c = true ∨ isD c = true ∨ c.toNat = 95 := by simp [isN, or_assoc]
theorem zSD (s : List UInt8) (i : Nat) (H : zC) (hl : (s.length : Int) < 9223372036854775806) (hi : i < s.length) (hw : isL (s.getD i 0) = true ∨ (isW (s.getD i 0) = false ∧ ¬ (s.getD i 0).toNat = 35)) : zHD 66 [str s, int i] H (tokV (zSH s i)) := by
 refine enter Tryz.func66 L66_ok (zXs rfl) ?_
 have hr : i ≤ zEF isN s i ∧ zEF isN s i ≤ s.length := ⟨zQy, zQx (by omega)⟩
 have hs := zPW hi
 repeat' (first | refine zXx (by omega) ?_ | refine zA (zFV _ _) ?_ | refine zA (zKg _ _) ?_ | refine zA (zLv _ _ _ hl hi) ?_ | simp -implicitDefEqProofs (disch := omega) only [L66, push_cast, simprocAttr, ↓reduceIte] | split)
 all_goals first
  | (rw [zSF (by assumption) (by assumption) (by omega)]; rfl)
  | skip
 ·refine zAh (fun (k : Nat) e' H' => e' 0 = str s ∧ e' 1 = int i ∧ e' 6 = int k ∧ H = H' ∧ i ≤ k ∧ k ≤ s.length ∧ zEF isN s k = zEF isN s i) (fun k => s.length - k) i ⟨rfl, rfl, rfl, rfl, by omega, by omega, rfl⟩ ?_
  rintro k e' H' ⟨h0, h1, h2, rfl, hk0, hk, hr2⟩
  repeat' (first | refine zXx (by omega) ?_ | refine zA (zFV _ _) ?_ | refine zA (zKg _ _) ?_ | refine zA (zJX _ _) ?_ | simp -implicitDefEqProofs (disch := omega) only [h0, h1, h2, push_cast, simprocAttr, ↓reduceIte] | split)
  all_goals first
   | exact .mk (k + 1) ⟨h0, h1, rfl, rfl, by omega, by omega, by rw [zFJ (p := isN) (l := s) (i := k) (by omega) (zMt.2 (by first | exact .inl (by assumption) | exact .inr (.inl (by assumption)) | exact .inr (.inr (by omega))))]; exact hr2⟩ (by omega)
   | skip
  all_goals
   have hk3 : zEF isN s k = k := zEo fun _ => zYN.2 fun hh => by rw [zMt] at hh; first | omega | (rcases hh with hh | hh | hh <;> first | exact absurd hh (by assumption) | omega)
   rw [hr2] at hk3
   rw [zOW (by assumption), hk3]
   first
    | (rw [if_pos (by assumption)]; rfl)
    | (rw [if_neg (by assumption)]; rfl)
 ·refine zAh (fun (k : Nat) e' H' => e' 0 = str s ∧ e' 1 = int i ∧ e' 6 = int k ∧ H = H' ∧ i ≤ k ∧ k ≤ s.length ∧ zEF isD s k = zEF isD s i) (fun k => s.length - k) i ⟨rfl, rfl, rfl, rfl, by omega, by omega, rfl⟩ ?_
  rintro k e' H' ⟨h0, h1, h2, rfl, hk0, hk, hr2⟩
  repeat' (first | refine zXx (by omega) ?_ | refine zA (zKg _ _) ?_ | simp -implicitDefEqProofs (disch := omega) only [h0, h2, push_cast, simprocAttr, ↓reduceIte] | split)
  all_goals first
   | exact .mk (k + 1) ⟨h0, h1, rfl, rfl, by omega, by omega, by rw [zFJ (p := isD) (l := s) (i := k) (by omega) (by assumption)]; exact hr2⟩ (by omega)
   | skip
  all_goals
   have hk3 : zEF isD s k = k := zEo fun _ => zYN.2 (by first | assumption | omega)
   rw [hr2] at hk3
   rw [zSG (by assumption) (by assumption), hk3]; rfl
 ·have hw' : isW (s.getD i 0) = false ∧ ¬ (s.getD i 0).toNat = 35 := hw.resolve_left (by assumption)
  have hb : zM6 s (i + 1) = zM6 s i := zIC hi (zFF.2 ⟨hw'.1, hw'.2, zYN.2 (by assumption), zYN.2 (by assumption), by omega⟩)
  rw [zSE (by assumption) (by assumption) (by omega), hb]
  refine zAh (fun (k : Nat) e' H' => e' 0 = str s ∧ e' 6 = int k ∧ H = H' ∧ k ≤ s.length ∧ zM6 s k = zM6 s i) (fun k => s.length - k) i ⟨rfl, rfl, rfl, by omega, rfl⟩ ?_
  rintro k e' H' ⟨h0, h1, rfl, hk, hr⟩
  repeat' (first | refine zXx (by omega) ?_ | refine zA (zUX _ _) ?_ | refine zA (zR2 _ _ _ hl (by omega)) ?_ | simp -implicitDefEqProofs (disch := omega) only [h0, h1, push_cast, simprocAttr, ↓reduceIte] | split)
  all_goals first
   | exact .mk (k + 1) ⟨h0, rfl, rfl, by omega, by rw [zIC (by omega) (zFF.2 (by simp_all; omega))]; exact hr⟩ (by omega)
   | (rw [← hr, zM5 fun _ => zYN.2 fun hh => by rw [zFF] at hh; obtain ⟨g1, g2, g3, g4, g5⟩ := hh; first | omega | (simp_all; done)]; rfl)
structure Tok where
 kind : Nat
 fr : Nat
 at_ : Nat
 en : Nat
def zEt (s : List UInt8) : Bool := decide (1 ≤ s.length) && decide (s.length ≤ 16) && isL (s.getD 0 0) && !isK s && decide (zEF isN s 0 = s.length)
theorem zEQ {s : List UInt8} : zEt s = true ↔ 1 ≤ s.length ∧ s.length ≤ 16 ∧ isL (s.getD 0 0) = true ∧ isK s = false ∧ zEF isN s 0 = s.length := by
 simp only [zEt, zXE, zXB, zYA, and_assoc]
theorem zJR {s : List UInt8} (h : 1 ≤ s.length → s.length ≤ 16 → isL (s.getD 0 0) = true → isK s = false → False) : AV.v (.bool false) = bool (zEt s) := by
 rw [show zEt s = false from zYN.2 fun hh => by rw [zEQ] at hh; exact h hh.1 hh.2.1 hh.2.2.1 hh.2.2.2.1]
theorem zDs (s : List UInt8) (H : zC) (hs : (s.length : Int) < 9223372036854775806) : zHD 128 [str s] H (bool (zEt s)) := by
 refine enter Tryz.func128 L128_ok (zXs rfl) ?_
 have hne : s = [] ↔ s.length = 0 := by simp
 repeat' (first | refine zXx (by omega) ?_ | refine zA (run s 0 isN 174 _ (by omega) (by omega) fun c => zWV c _) ?_ | refine zA (zPp _ _) ?_ | refine zA (zRd _ _) ?_ | simp -implicitDefEqProofs (disch := omega) only [L128, hne, push_cast, simprocAttr, ↓reduceIte] | split)
 all_goals first
  | exact zJR fun h1 h2 h3 h4 => by first | omega | (simp_all; done)
  | skip
 refine zAX ?_
 rw [zEQ, zXB]
 exact ⟨fun h => ⟨by omega, by omega, by simpa using ‹¬ isL _ = false›, by simpa using ‹¬ isK _ = true›, by omega⟩, fun h => by omega⟩
theorem zOc (s : List UInt8) (H : zC) (hs : (s.length : Int) < 9223372036854775806) : zHD 36 [str s] H (bool (zEt s)) := by
 refine enter Tryz.func36 L36_ok (zXs rfl) ?_
 by_cases h1 : 1 ≤ s.length
 ·by_cases hL : isL (s.getD 0 0) = true
  ·repeat' (first | refine zXx (by omega) ?_ | refine zA (zSD s 0 _ (by omega) h1 (.inl hL)) ?_ | refine zA (zFV _ _) ?_ | refine zA (zJX _ _) ?_ | simp -implicitDefEqProofs (disch := omega) only [L36, hL, push_cast, simprocAttr, ↓reduceIte] | split)
   all_goals first
    | exact zJR fun h1 h2 h3 h4 => by first | omega | (simp_all; done)
    | skip
   refine zAX ?_
   rw [zEQ, zXB, zOW hL]
   exact ⟨fun h => ⟨by omega, by omega, hL, by simpa using ‹¬ isK _ = true›, by simp only at h; omega⟩, fun h => by simp only; omega⟩
  ·have hL' := zYN.2 hL
   repeat' (first | refine zXx (by omega) ?_ | refine zA (zFV _ _) ?_ | simp -implicitDefEqProofs (disch := omega) only [L36, hL', push_cast, simprocAttr, ↓reduceIte] | split)
   all_goals exact zJR fun h1 h2 h3 h4 => by first | omega | (simp_all; done)
 ·repeat' (first | simp -implicitDefEqProofs (disch := omega) only [L36, push_cast, simprocAttr, ↓reduceIte] | split)
  ·exact zJR fun h1 h2 h3 h4 => by omega
  ·omega
def zCw (q : Pr) : Int := if 0 ≤ q.res then q.res else q.outs.length
def zW (slots o a b : Int) (e : Bool) : Prop :=
 0 ≤ o ∧ o ≤ 22 ∧ (o = 18 ∨ o = 19 ∨ e = true) ∧ (o = 0 → 0 ≤ a ∧ a ≤ 999999999 ∧ b = 0) ∧ (o = 1 ∨ o = 2 → 0 ≤ a ∧ a < slots ∧ b = 0) ∧
 (o = 3 ∨ o = 4 → 0 ≤ a ∧ 1 ≤ b ∧ a < slots ∧ b ≤ slots - a) ∧ (o = 20 → b = 0) ∧ (5 ≤ o ∧ ¬ o = 20 → a = 0 ∧ b = 0)
instance (slots o a b : Int) (e : Bool) : Decidable (zW slots o a b e) := by unfold zW; infer_instance
def chg (h n c : Int) : Option Int := if n ≤ h ∧ h + c ≤ 1024 then some (h + c) else none
def zCo (ps : List Pr) (k : Nat) (o a : Int) (out : Bool) (h : Int) : Option Int :=
 if o = 0 ∨ o = 1 then chg h 0 1
 else if o = 2 ∨ o = 22 then chg h 1 (-1)
 else if o = 3 ∨ o = 16 ∨ o = 17 then chg h 1 0
 else if o = 4 then chg h 2 (-2)
 else if o = 20 then (if 0 ≤ a ∧ a < k then chg h (ps.getD a.toNat default).par (zCw (ps.getD a.toNat default) - (ps.getD a.toNat default).par) else none)
 else if o = 21 then (if out = true ∧ h = max (ps.getD k default).res 0 then chg h 0 (-h) else none)
 else chg h 2 (-1)
mutual
def zB1 (ps : List Pr) (k : Nat) : Ins → Bool → Int → Option Int
 | .mk o a b l m, out, h =>
  if zW (ps.getD k default).slots o a b (l.isEmpty && m.isEmpty) then
   if o = 18 then
    if 1 ≤ h then
     match zBl ps k l (out && decide (h = 1)) 0, zBl ps k m (out && decide (h = 1)) 0 with
     | some e, some e' => if e = e' then chg h 0 (e - 1) else none
     | _, _ => none
    else none
   else if o = 19 then
    if out = true ∧ h = 0 ∧ zBl ps k m false 0 = some 1 ∧ zBl ps k l true 0 = some 0 then some h else none
   else zCo ps k o a out h
  else none
def zBl (ps : List Pr) (k : Nat) : List Ins → Bool → Int → Option Int
 | [], _, h => some h
 | x :: l, out, h => match zB1 ps k x out h with
  | some h' => zBl ps k l out h'
  | none => none
end
theorem zRF (ps : List Pr) (k : Nat) (x : Ins) (out : Bool) (h : Int) : zB1 ps k x out h =
  if zW (ps.getD k default).slots x.op x.a x.b (x.body.isEmpty && x.els.isEmpty) then
   if x.op = 18 then
    if 1 ≤ h then
     match zBl ps k x.body (out && decide (h = 1)) 0, zBl ps k x.els (out && decide (h = 1)) 0 with
     | some e, some e' => if e = e' then chg h 0 (e - 1) else none
     | _, _ => none
    else none
   else if x.op = 19 then
    if out = true ∧ h = 0 ∧ zBl ps k x.els false 0 = some 1 ∧ zBl ps k x.body true 0 = some 0 then some h else none
   else zCo ps k x.op x.a out h
  else none := by
 cases x; simp only [zB1]; rfl
theorem zMT (ps : List Pr) (k : Nat) (x : Ins) (l : List Ins) (out : Bool) (h : Int) : zBl ps k (x :: l) out h = (zB1 ps k x out h).bind fun h' => zBl ps k l out h' := by
 simp only [zBl]
 cases zB1 ps k x out h <;> rfl
theorem zAR (ps : List Pr) (k : Nat) {l : List Ins} {j : Nat} (hj : j < l.length) (out : Bool) (h : Int) : zBl ps k (l.drop j) out h = (zB1 ps k (l.getD j default) out h).bind fun h' => zBl ps k (l.drop (j + 1)) out h' := by
 rw [zF3 hj, zMT]
def zBZ (ps : List Pr) (k : Nat) : Prop := ∀ j, j < k → 0 ≤ (ps.getD j default).par ∧ (ps.getD j default).par ≤ 1024 ∧ (ps.getD j default).res ≤ 128 ∧ (ps.getD j default).outs.length ≤ 128
theorem zDO {q : Pr} (h1 : q.res ≤ 128) (h2 : q.outs.length ≤ 128) : 0 ≤ zCw q ∧ zCw q ≤ 128 := by
 unfold zCw; split <;> omega
theorem zAW {h n c h' : Int} (hc : chg h n c = some h') : n ≤ h ∧ h' = h + c ∧ h' ≤ 1024 := by
 unfold chg at hc
 split at hc
 ·simp only [zXt] at hc; omega
 ·cases hc
theorem zGJ {ps : List Pr} {k : Nat} (hp : zBZ ps k) {o a : Int} {out : Bool} {h h' : Int} (h0 : 0 ≤ h) (he : zCo ps k o a out h = some h') : 0 ≤ h' ∧ h' ≤ 1024 := by
 unfold zCo at he
 split at he
 ·have := zAW he; omega
 split at he
 ·have := zAW he; omega
 split at he
 ·have := zAW he; omega
 split at he
 ·have := zAW he; omega
 split at he
 ·split at he
  ·rename_i hh
   have h1 := hp a.toNat (by omega)
   have h2 := zDO h1.2.2.1 h1.2.2.2
   have := zAW he; omega
  ·cases he
 split at he
 ·split at he
  ·have := zAW he; omega
  ·cases he
 ·have := zAW he; omega
mutual
theorem zES {ps : List Pr} {k : Nat} (hp : zBZ ps k) : ∀ (x : Ins) (out : Bool) (h h' : Int), 0 ≤ h → h ≤ 1024 → zB1 ps k x out h = some h' → 0 ≤ h' ∧ h' ≤ 1024
 | .mk o a b l m, out, h, h', h0, h1, he => by
  simp only [zB1] at he
  split at he
  ·split at he
   ·split at he
    ·split at he
     ·rename_i e e' he1 he2
      have g := zAT hp l _ 0 e (by omega) (by omega) he1
      split at he
      ·have := zAW he; omega
      ·cases he
     ·cases he
    ·cases he
   ·split at he
    ·split at he
     ·simp only [zXt] at he; omega
     ·cases he
    ·exact zGJ hp h0 he
  ·cases he
theorem zAT {ps : List Pr} {k : Nat} (hp : zBZ ps k) : ∀ (l : List Ins) (out : Bool) (h h' : Int), 0 ≤ h → h ≤ 1024 → zBl ps k l out h = some h' → 0 ≤ h' ∧ h' ≤ 1024
 | [], out, h, h', h0, h1, he => by simp only [zBl, zXt] at he; omega
 | x :: l, out, h, h', h0, h1, he => by
  simp only [zBl] at he
  split at he
  ·rename_i g hg
   have := zES hp x out h g h0 h1 hg
   exact zAT hp l out g h' (by omega) (by omega) he
  ·cases he
end
theorem zRE {ps : List Pr} {k : Nat} (hp : zBZ ps k) (x : Ins) (out : Bool) (h h' : Int) (h0 : 0 ≤ h) (he : zB1 ps k x out h = some h') : 0 ≤ h' := by
 rw [zRF] at he
 split at he
 ·split at he
  ·split at he
   ·split at he
    ·rename_i e e' he1 he2
     have g := zAT hp x.body _ 0 e (by omega) (by omega) he1
     split at he
     ·have := zAW he; omega
     ·cases he
    ·cases he
   ·cases he
  ·split at he
   ·split at he
    ·simp only [zXt] at he; omega
    ·cases he
   ·exact (zGJ hp h0 he).1
 ·cases he
def zCk (q : Pr) : Prop := 0 ≤ q.par ∧ q.par ≤ q.slots ∧ q.slots ≤ 1024 ∧ -1 ≤ q.res ∧ q.res ≤ 128 ∧ q.outs.length ≤ 128 ∧ (q.res = -1 ∨ q.outs = []) ∧ ∀ s ∈ q.outs, 0 ≤ s ∧ s < q.slots
def prP (ps : List Pr) (k : Nat) : Prop := (zEt (ps.getD k default).name = true ∧ ∀ j, j < k → ¬ (ps.getD j default).name = (ps.getD k default).name) ∧ zCk (ps.getD k default) ∧
 zA3 (ps.take (k + 1)) ≤ 32768 ∧ zAy (ps.getD k default).body ≤ 256 ∧ zBl ps k (ps.getD k default).body true 0 = some 0
def zBt (ps : List Pr) : Prop := ps.length ≤ 8 ∧ ∀ k, k < ps.length → prP ps k
theorem zDM {ps : List Pr} {k : Nat} (h : ∀ j, j < k → prP ps j) : zBZ ps k := fun j hj => by
 obtain ⟨_, ⟨h1, h2, h3, h4, h5, h6, _⟩, _⟩ := h j hj
 exact ⟨h1, by omega, h5, h6⟩
mutual
def zIs (known : List Int) (L : Int) : Ins → Int
 | .mk o a _ l m => if o = 18 then 1 + max (zA5 known L l 0) (zA5 known L m 0) else if o = 19 then 1 + (L + 1) * zA5 known L m 0 + L * zA5 known L l 0 else if o = 20 then 1 + known.getD a.toNat default else 1
def zA5 (known : List Int) (L : Int) : List Ins → Int → Int
 | [], s => s
 | x :: l, s => zA5 known L l (min (s + zIs known L x) 67108865)
end
theorem zGN (known : List Int) (L : Int) {l : List Ins} {j : Nat} (hj : j < l.length) (s : Int) : zA5 known L (l.drop j) s = zA5 known L (l.drop (j + 1)) (min (s + zIs known L (l.getD j default)) 67108865) := by
 rw [zF3 hj, zA5]
def zEZ (known : List Int) : Prop := ∀ n ∈ known, 0 ≤ n ∧ n ≤ 67108865
theorem zIr {known : List Int} (h : zEZ known) (i : Nat) : 0 ≤ known.getD i default ∧ known.getD i default ≤ 67108865 := by
 by_cases hi : i < known.length
 ·exact h _ (zAq hi)
 ·have : known.getD i default = 0 := by simp [zXC, zYv (zZr hi)]
  omega
mutual
theorem zEh {known : List Int} (hk : zEZ known) {L : Int} (h0 : 0 ≤ L) (h8 : L ≤ 8) : ∀ x : Ins, 1 ≤ zIs known L x ∧ zIs known L x ≤ 2000000000
 | .mk o a b l m => by
  have h1 := zBx hk h0 h8 l 0 (by omega) (by omega)
  have h2 := zBx hk h0 h8 m 0 (by omega) (by omega)
  have h3 := zIr hk a.toNat
  have e1 : 0 ≤ (L + 1) * zA5 known L m 0 ∧ (L + 1) * zA5 known L m 0 ≤ 9 * 67108865 := ⟨zZo (by omega) h2.1, zZp (by omega) h2.2 h2.1 (by omega)⟩
  have e2 : 0 ≤ L * zA5 known L l 0 ∧ L * zA5 known L l 0 ≤ 8 * 67108865 := ⟨zZo h0 h1.1, zZp (by omega) h1.2 h1.1 (by omega)⟩
  simp only [zIs]
  split
  ·omega
  split
  ·omega
  split <;> omega
theorem zBx {known : List Int} (hk : zEZ known) {L : Int} (h0 : 0 ≤ L) (h8 : L ≤ 8) : ∀ (l : List Ins) (s : Int), 0 ≤ s → s ≤ 67108865 → 0 ≤ zA5 known L l s ∧ zA5 known L l s ≤ 67108865
 | [], s, h, h' => by simp only [zA5]; omega
 | x :: l, s, h, h' => by
  have h1 := zEh hk h0 h8 x
  simp only [zA5]
  exact zBx hk h0 h8 l _ (by omega) (by omega)
end
def zBi (ps : List Pr) (L : Int) : Nat → List Int
 | 0 => []
 | k + 1 => zBi ps L k ++ [zA5 (zBi ps L k) L (ps.getD k default).body 0]
theorem zDX (ps : List Pr) (L : Int) : ∀ k, (zBi ps L k).length = k
 | 0 => rfl
 | k + 1 => by simp [zBi, zDX ps L k]
theorem zF6 (ps : List Pr) {L : Int} (h0 : 0 ≤ L) (h8 : L ≤ 8) : ∀ k, zEZ (zBi ps L k)
 | 0 => by intro n hn; simp [zBi] at hn
 | k + 1 => by
  intro n hn
  have ih := zF6 ps h0 h8 k
  simp only [zBi, zXV, zYL] at hn
  rcases hn with hn | rfl
  ·exact ih n hn
  ·exact zBx ih h0 h8 _ 0 (by omega) (by omega)
theorem zGM (ps : List Pr) (L : Int) {i k : Nat} (h : i < k) : (zBi ps L k).getD i default = zA5 (zBi ps L i) L (ps.getD i default).body 0 := by
 induction k with
 | zero => omega
 | succ k ih =>
  have hl := zDX ps L k
  simp only [zBi, zXC] at ih ⊢
  by_cases hi : i < k
  ·rw [zXu (by omega)]
   exact ih hi
  ·have : i = k := by omega
   subst this
   rw [zXz (by omega), hl, zZl]
   rfl
def zET (ps : List Pr) (k : Nat) (L : Int) : Int := zA5 (zBi ps L k) L (ps.getD k default).body 0
mutual
def zK8 (k : Nat) : Ins → Prop
 | .mk o a _ l m => (o = 20 → 0 ≤ a ∧ a < k) ∧ zGd k l ∧ zGd k m
def zGd (k : Nat) : List Ins → Prop
 | [] => True
 | x :: l => zK8 k x ∧ zGd k l
end
theorem zKk (k : Nat) (x : Ins) : zK8 k x ↔ (x.op = 20 → 0 ≤ x.a ∧ x.a < k) ∧ zGd k x.body ∧ zGd k x.els := by cases x; simp only [zK8, Ins.op, Ins.a, Ins.body, Ins.els]
theorem zGc {k : Nat} {x : Ins} : ∀ {l : List Ins}, zGd k l → x ∈ l → zK8 k x
 | y :: l, h, hx => by
  simp only [zGd] at h
  rcases zX5.1 hx with rfl | hx
  ·exact h.1
  ·exact zGc h.2 hx
mutual
theorem zMS {ps : List Pr} {k : Nat} : ∀ (x : Ins) (out : Bool) (h h' : Int), zB1 ps k x out h = some h' → zK8 k x
 | .mk o a b l m, out, h, h', he => by
  simp only [zB1] at he
  simp only [zK8]
  have emp : ∀ l : List Ins, l.isEmpty = true → zGd k l := fun l hl => by
   cases l with
   | nil => trivial
   | cons x l => simp at hl
  split at he
  ·rename_i hf
   obtain ⟨_, _, hf, _⟩ := hf
   split at he
   ·rename_i ho
    split at he
    ·split at he
     ·rename_i e e' he1 he2
      exact ⟨fun hh => by omega, zCD l _ 0 e he1, zCD m _ 0 e' he2⟩
     ·cases he
    ·cases he
   ·split at he
    ·rename_i ho
     split at he
     ·rename_i hh
      exact ⟨fun hh => by omega, zCD l _ 0 _ hh.2.2.2, zCD m _ 0 _ hh.2.2.1⟩
     ·cases he
    ·rename_i h18 h19
     have he2 : (l.isEmpty && m.isEmpty) = true := by
      rcases hf with hf | hf | hf
      ·exact absurd hf h18
      ·exact absurd hf h19
      ·exact hf
     rw [zXE] at he2
     refine ⟨fun hh => ?_, emp l he2.1, emp m he2.2⟩
     subst hh
     simp only [zCo, show ¬ ((20 : Int) = 0 ∨ (20 : Int) = 1) by omega, show ¬ ((20 : Int) = 2 ∨ (20 : Int) = 22) by omega, show ¬ ((20 : Int) = 3 ∨ (20 : Int) = 16 ∨ (20 : Int) = 17) by omega, show ¬ ((20 : Int) = 4) by omega, if_false, if_true] at he
     split at he
     ·rename_i hh; exact hh
     ·cases he
  ·cases he
theorem zCD {ps : List Pr} {k : Nat} : ∀ (l : List Ins) (out : Bool) (h h' : Int), zBl ps k l out h = some h' → zGd k l
 | [], out, h, h', he => trivial
 | x :: l, out, h, h', he => by
  simp only [zBl] at he
  split at he
  ·rename_i g hg
   exact ⟨zMS x out h g hg, zCD l out g h' he⟩
  ·cases he
end
structure St where
 slots : List Int
 stk : List Int
 cnt : Int
def St.top (s : St) : Int := s.stk.headD 0
def St.pop (s : St) : St := ⟨s.slots, s.stk.tail, s.cnt⟩
def St.push (s : St) (v : Int) : St := ⟨s.slots, v :: s.stk, s.cnt⟩
def St.put (s : St) (i v : Int) : St := ⟨s.slots.set i.toNat v, s.stk, s.cnt⟩
def St.tick (s : St) : St := ⟨s.slots, s.stk, IntKind.i64.wrap (s.cnt + 1)⟩
inductive Flow where
 | go
 | ret
 | flt (kind proc num : Int)
inductive CR where
 | ok (l : List Int)
 | flt (kind proc num : Int)
structure Cx where
 ps : List Pr
 w : Int
 L : Int
 k : Nat
 cl : Nat → List Int → Int → CR × Int
abbrev Cx.q (C : Cx) : Pr := C.ps.getD C.k default
def zDH (o w a b : Int) : Int × Int :=
 if o = 5 then (wrF w (a + b), 0) else if o = 6 then (wrF w (a - b), 0) else if o = 7 then (wrF w (a * b), 0)
 else if o = 8 then (if b = 0 then (0, 1) else (wrF w (a.tdiv b), 0)) else if o = 9 then (if b = 0 then (0, 1) else (a.tmod b, 0))
 else if o = 10 then (if a = b then 1 else 0, 0) else if o = 11 then (if a = b then 0 else 1, 0) else if o = 12 then (if a < b then 1 else 0, 0)
 else if o = 13 then (if a ≤ b then 1 else 0, 0) else if o = 14 then (if b < a then 1 else 0, 0) else (if b ≤ a then 1 else 0, 0)
def zGb (s : St) (p : Nat) : CR × Int → Flow × St
 | (.ok out, c) => (.go, ⟨s.slots, out.reverse ++ s.stk.drop p, c⟩)
 | (.flt x y z, c) => (.flt x y z, ⟨s.slots, s.stk, c⟩)
def zRU (C : Cx) (num : Int) (s : St) (r : Int × Int) : Flow × St := if r.2 = 0 then (.go, s.pop.pop.push r.1) else (.flt r.2 C.k num, s)
def exS (C : Cx) (o a b num : Int) (s : St) : Flow × St :=
 if o = 0 then (.go, s.push (wrF C.w a))
 else if o = 1 then (.go, s.push (s.slots.getD a.toNat default))
 else if o = 2 then (.go, s.pop.put a s.top)
 else if o = 3 then (if s.top < 0 ∨ b ≤ s.top then (.flt 2 C.k num, s) else (.go, s.pop.push (s.slots.getD (a + s.top).toNat default)))
 else if o = 4 then (if s.pop.top < 0 ∨ b ≤ s.pop.top then (.flt 2 C.k num, s) else (.go, s.pop.pop.put (a + s.pop.top) s.top))
 else if o = 16 then (.go, s.pop.push (wrF C.w (-s.top)))
 else if o = 17 then (.go, s.pop.push (if s.top = 0 then 1 else 0))
 else if o = 20 then zGb s (C.ps.getD a.toNat default).par.toNat (C.cl a.toNat (s.stk.take (C.ps.getD a.toNat default).par.toNat).reverse s.cnt)
 else if o = 21 then (.ret, s)
 else if o = 22 then (if s.top = 0 then (.flt 3 C.k num, s) else (.go, s.pop))
 else zRU C num s (zDH o C.w s.pop.top s.top)
def zBL (c b : St → Flow × St) (k num : Int) : Nat → St → Flow × St
 | n, s => match c s with
  | (.flt x y z, s') => (.flt x y z, s')
  | (_, s') => if s'.top = 0 then (.go, s'.pop) else match n with
   | 0 => (.flt 5 k num, s'.pop)
   | n + 1 => match b s'.pop with
    | (.go, s3) => zBL c b k num n s3
    | r => r
mutual
def exI (C : Cx) : Ins → Int → St → Flow × St
 | .mk o a b l m, num, s =>
  if o = 18 then (if s.tick.top = 0 then exL C m (num + 1 + zM l) s.tick.pop else exL C l (num + 1) s.tick.pop)
  else if o = 19 then zBL (exL C m (num + 1 + zM l)) (exL C l (num + 1)) C.k num C.L.toNat s.tick
  else exS C o a b num s.tick
def exL (C : Cx) : List Ins → Int → St → Flow × St
 | [], _, s => (.go, s)
 | x :: l, num, s => match exI C x num s with
  | (.go, s') => exL C l (num + zBs x) s'
  | (.ret, s') => (.ret, s')
  | (.flt x y z, s') => (.flt x y z, s')
end
theorem zUu (C : Cx) (x : Ins) (num : Int) (s : St) : exI C x num s =
  if x.op = 18 then (if s.tick.top = 0 then exL C x.els (num + 1 + zM x.body) s.tick.pop else exL C x.body (num + 1) s.tick.pop)
  else if x.op = 19 then zBL (exL C x.els (num + 1 + zM x.body)) (exL C x.body (num + 1)) C.k num C.L.toNat s.tick
  else exS C x.op x.a x.b num s.tick := by cases x; simp only [exI]; rfl
def fin (q : Pr) (k : Int) : Flow × St → CR × Int
 | (.flt x y z, s) => (.flt x y z, s.cnt)
 | (.ret, s) => if 0 ≤ q.res then (.ok s.stk.reverse, s.cnt) else (.ok (q.outs.map fun i => s.slots.getD i.toNat default), s.cnt)
 | (.go, s) => if 0 ≤ q.res then (.flt 4 k (zM q.body), s.cnt) else (.ok (q.outs.map fun i => s.slots.getD i.toNat default), s.cnt)
def zCG (q : Pr) (inp : List Int) : List Int := inp ++ List.replicate (q.slots.toNat - inp.length) 0
def zCQ (ps : List Pr) (w L : Int) : Nat → Nat → List Int → Int → CR × Int
 | 0, _, _, c => (.flt 0 0 0, c)
 | n + 1, k, inp, c => fin (ps.getD k default) k (exL ⟨ps, w, L, k, zCQ ps w L n⟩ (ps.getD k default).body 0 ⟨zCG (ps.getD k default) inp, [], c⟩)
structure TyS (C : Cx) (s : St) (n : Int) : Prop where
 sl : (s.slots.length : Int) = C.q.slots
 sr : ∀ v ∈ s.slots, inI C.w v
 st : ∀ v ∈ s.stk, inI C.w v
 ln : (s.stk.length : Int) = n
def zVW (ps : List Pr) (w : Int) (j : Nat) : CR × Int → Prop
 | (.ok out, _) => (out.length : Int) = zCw (ps.getD j default) ∧ ∀ v ∈ out, inI w v
 | (.flt f _ _, _) => 1 ≤ f ∧ f ≤ 5
def zSb (C : Cx) : Prop := ∀ j, j < C.k → ∀ (inp : List Int) (c : Int), (inp.length : Int) = (C.ps.getD j default).par → (∀ v ∈ inp, inI C.w v) → zVW C.ps C.w j (C.cl j inp c)
def zIG (C : Cx) (out : Bool) (n : Int) : Flow × St → Prop
 | (.go, s) => TyS C s n
 | (.ret, s) => out = true ∧ TyS C s (max C.q.res 0)
 | (.flt f _ _, _) => 1 ≤ f ∧ f ≤ 5
section
variable {C : Cx} {s : St} {n : Int}
theorem TyS.tick (h : TyS C s n) : TyS C s.tick n := ⟨h.sl, h.sr, h.st, h.ln⟩
theorem TyS.pop (h : TyS C s n) (h1 : 1 ≤ n) : TyS C s.pop (n - 1) :=
 ⟨h.sl, h.sr, fun v hv => h.st v (List.mem_of_mem_tail hv), by have := h.ln; simp only [St.pop, List.length_tail]; omega⟩
theorem TyS.top (h : TyS C s n) (h1 : 1 ≤ n) : inI C.w s.top := by
 have := h.ln
 unfold St.top
 cases hs : s.stk with
 | nil => rw [hs] at this; simp at this; omega
 | cons v l => exact h.st v (by rw [hs]; simp)
theorem TyS.push (h : TyS C s n) {v : Int} (hv : inI C.w v) : TyS C (s.push v) (n + 1) :=
 ⟨h.sl, h.sr, fun x hx => by
  rcases zX5.1 hx with rfl | hx
  ·exact hv
  ·exact h.st x hx, by have := h.ln; simp only [St.push, zXI]; omega⟩
theorem TyS.put (h : TyS C s n) {i v : Int} (hv : inI C.w v) : TyS C (s.put i v) n :=
 ⟨by simpa [St.put] using h.sl, fun x hx => by
  rcases zZt hx with hx | rfl
  ·exact h.sr x hx
  ·exact hv, h.st, h.ln⟩
theorem TyS.slot (h : TyS C s n) (hw : wOk C.w) (i : Nat) : inI C.w (s.slots.getD i default) := by
 by_cases hi : i < s.slots.length
 ·exact h.sr _ (zAq hi)
 ·have : s.slots.getD i default = 0 := by simp [zXC, zYv (zZr hi)]
  rw [this, zBM hw]
  have := zCA hw
  omega
theorem zGE {w : Int} (hw : wOk w) (p : Prop) [Decidable p] : inI w (if p then 1 else 0) := by
 rw [zBM hw]
 have := zCA hw
 split <;> omega
theorem zUn {w : Int} (hw : wOk w) (p : Prop) [Decidable p] : inI w (if p then 0 else 1) := by
 rw [zBM hw]
 have := zCA hw
 split <;> omega
theorem zCh {α : Type} {P : α → Prop} {c : Prop} [Decidable c] {x y : α} (h1 : P x) (h2 : P y) : P (if c then x else y) := by split <;> assumption
def OkB (w : Int) (r : Int × Int) : Prop := (r.2 = 0 ∧ inI w r.1) ∨ r.2 = 1
theorem zFO {w v : Int} (h : inI w v) : OkB w (v, 0) := .inl ⟨rfl, h⟩
theorem zT2 {w v : Int} : OkB w (v, 1) := .inr rfl
theorem zR1 {w a b : Int} (o : Int) (hw : wOk w) (ha : inI w a) (hb : inI w b) : OkB w (zDH o w a b) :=
 zCh (zFO (zD5 hw _)) (zCh (zFO (zD5 hw _)) (zCh (zFO (zD5 hw _)) (zCh (zCh zT2 (zFO (zD5 hw _))) (zCh (zCh zT2 (zFO (zLr hw ha)))
  (zCh (zFO (zGE hw _)) (zCh (zFO (zUn hw _)) (zCh (zFO (zGE hw _)) (zCh (zFO (zGE hw _)) (zCh (zFO (zGE hw _)) (zFO (zGE hw _)))))))))))
theorem zUt (hw : wOk C.w) (hp : zBZ C.ps C.k) (hcl : zSb C) {o a b num base h h' : Int} {out : Bool} (hf : zW C.q.slots o a b true) (h18 : ¬ o = 18) (h19 : ¬ o = 19) (he : zCo C.ps C.k o a out h = some h') (h0 : 0 ≤ h) (hb : 0 ≤ base) (hbo : out = true → base = 0)
  (hs : TyS C s (base + h)) : zIG C out (base + h') (exS C o a b num s) := by
 obtain ⟨f1, f2, _, _⟩ := hf
 unfold zCo at he
 unfold exS
 split at he
 ·have hc := zAW he
  rename_i ho
  have e : base + h' = base + h + 1 := by omega
  rcases ho with rfl | rfl
  ·rw [if_pos rfl, e]; exact hs.push (zD5 hw _)
  ·rw [if_neg (by omega), if_pos rfl, e]; exact hs.push (hs.slot hw _)
 split at he
 ·have hc := zAW he
  rename_i ho
  have e : base + h' = base + h - 1 := by omega
  rcases ho with rfl | rfl
  ·rw [if_neg (by omega), if_neg (by omega), if_pos rfl, e]; exact (hs.pop (by omega)).put (hs.top (by omega))
  ·simp only [show ¬ ((22 : Int) = 0) by omega, show ¬ ((22 : Int) = 1) by omega, show ¬ ((22 : Int) = 2) by omega, show ¬ ((22 : Int) = 3) by omega, show ¬ ((22 : Int) = 4) by omega, show ¬ ((22 : Int) = 16) by omega, show ¬ ((22 : Int) = 17) by omega, show ¬ ((22 : Int) = 20) by omega, show ¬ ((22 : Int) = 21) by omega, if_false, if_true]
   split
   ·exact ⟨by omega, by omega⟩
   ·rw [e]; exact hs.pop (by omega)
 split at he
 ·have hc := zAW he
  rename_i ho
  have e : base + h' = base + h - 1 + 1 := by omega
  rw [e]
  rcases ho with rfl | rfl | rfl
  ·simp only [show ¬ ((3 : Int) = 0) by omega, show ¬ ((3 : Int) = 1) by omega, show ¬ ((3 : Int) = 2) by omega, if_false, if_true]
   split
   ·exact ⟨by omega, by omega⟩
   ·exact (hs.pop (by omega)).push (hs.slot hw _)
  ·simp only [show ¬ ((16 : Int) = 0) by omega, show ¬ ((16 : Int) = 1) by omega, show ¬ ((16 : Int) = 2) by omega, show ¬ ((16 : Int) = 3) by omega, show ¬ ((16 : Int) = 4) by omega, if_false, if_true]
   exact (hs.pop (by omega)).push (zD5 hw _)
  ·simp only [show ¬ ((17 : Int) = 0) by omega, show ¬ ((17 : Int) = 1) by omega, show ¬ ((17 : Int) = 2) by omega, show ¬ ((17 : Int) = 3) by omega, show ¬ ((17 : Int) = 4) by omega, show ¬ ((17 : Int) = 16) by omega, if_false, if_true]
   exact (hs.pop (by omega)).push (zGE hw _)
 split at he
 ·have hc := zAW he
  rename_i ho
  subst ho
  have e : base + h' = base + h - 1 - 1 := by omega
  rw [e]
  simp only [show ¬ ((4 : Int) = 0) by omega, show ¬ ((4 : Int) = 1) by omega, show ¬ ((4 : Int) = 2) by omega, show ¬ ((4 : Int) = 3) by omega, if_false, if_true]
  split
  ·exact ⟨by omega, by omega⟩
  ·exact ((hs.pop (by omega)).pop (by omega)).put (hs.top (by omega))
 split at he
 ·rename_i ho
  subst ho
  simp only [show ¬ ((20 : Int) = 0) by omega, show ¬ ((20 : Int) = 1) by omega, show ¬ ((20 : Int) = 2) by omega, show ¬ ((20 : Int) = 3) by omega, show ¬ ((20 : Int) = 4) by omega, show ¬ ((20 : Int) = 16) by omega, show ¬ ((20 : Int) = 17) by omega, if_false, if_true]
  split at he
  ·rename_i ha
   have hc := zAW he
   obtain ⟨p1, p2, p3, p4⟩ := hp a.toNat (by omega)
   have hln := hs.ln
   have hpl : (C.ps.getD a.toNat default).par.toNat ≤ s.stk.length := by omega
   have hr := hcl a.toNat (by omega) (s.stk.take (C.ps.getD a.toNat default).par.toNat).reverse s.cnt (by rw [zXS, zX1]; omega) fun v hv => hs.st v (zYf (zZa.1 hv))
   generalize C.cl a.toNat (s.stk.take (C.ps.getD a.toNat default).par.toNat).reverse s.cnt = r at *
   obtain ⟨r, c⟩ := r
   cases r with
   | ok l =>
    obtain ⟨r1, r2⟩ := hr
    refine ⟨hs.sl, hs.sr, fun v hv => ?_, ?_⟩
    ·rcases zXV.1 hv with hv | hv
     ·exact r2 v (zZa.1 hv)
     ·exact hs.st v (zY5 hv)
    ·show ((l.reverse ++ s.stk.drop _).length : Int) = _
     rw [zXT, zXS, zY9]
     omega
   | flt x y z => exact hr
  ·cases he
 split at he
 ·rename_i ho
  subst ho
  simp only [show ¬ ((21 : Int) = 0) by omega, show ¬ ((21 : Int) = 1) by omega, show ¬ ((21 : Int) = 2) by omega, show ¬ ((21 : Int) = 3) by omega, show ¬ ((21 : Int) = 4) by omega, show ¬ ((21 : Int) = 16) by omega, show ¬ ((21 : Int) = 17) by omega, show ¬ ((21 : Int) = 20) by omega, if_false, if_true]
  split at he
  ·rename_i hh
   refine ⟨hh.1, ?_⟩
   have e : base + h = max C.q.res 0 := by rw [hbo hh.1, hh.2]; simp
   rw [← e]
   exact hs
  ·cases he
 ·rename_i h01 h2 h3 h4 h20 h21
  have hc := zAW he
  rw [if_neg (by omega), if_neg (by omega), if_neg (by omega), if_neg (by omega), if_neg (by omega), if_neg (by omega), if_neg (by omega), if_neg (by omega), if_neg (by omega), if_neg (by omega)]
  have hb := zR1 o hw ((hs.pop (by omega)).top (by omega)) (hs.top (by omega))
  unfold zRU
  rcases hb with ⟨b1, b2⟩ | b1
  ·rw [if_pos b1]
   have e : base + h' = base + h - 1 - 1 + 1 := by omega
   rw [e]
   exact ((hs.pop (by omega)).pop (by omega)).push b2
  ·rw [if_neg (by omega), b1]
   exact ⟨by omega, by omega⟩
theorem zOh {c b : St → Flow × St} {k num : Int} (hc : ∀ s, TyS C s 0 → zIG C false 1 (c s)) (hb : ∀ s, TyS C s 0 → zIG C true 0 (b s)) : ∀ (n : Nat) (s : St), TyS C s 0 → zIG C true 0 (zBL c b k num n s) := by
 intro n
 induction n with
 | zero =>
  intro s hs
  have h1 := hc s hs
  unfold zBL
  split
  ·rename_i hh; rw [hh] at h1; exact h1
  ·rename_i f s' hno hh
   rw [hh] at h1
   have h2 : TyS C s' 1 := by
    cases f with
    | go => exact h1
    | ret => exact absurd h1.1 (by simp)
    | flt x y z => exact absurd rfl (hno x y z)
   split
   ·exact h2.pop (by omega)
   ·exact ⟨by omega, by omega⟩
 | succ n ih =>
  intro s hs
  have h1 := hc s hs
  unfold zBL
  split
  ·rename_i hh; rw [hh] at h1; exact h1
  ·rename_i f s' hno hh
   rw [hh] at h1
   have h2 : TyS C s' 1 := by
    cases f with
    | go => exact h1
    | ret => exact absurd h1.1 (by simp)
    | flt x y z => exact absurd rfl (hno x y z)
   split
   ·exact h2.pop (by omega)
   ·have h3 := hb s'.pop (h2.pop (by omega))
    simp only
    split
    ·rename_i hh2; rw [hh2] at h3; exact ih _ h3
    ·exact h3
end
mutual
theorem zMG {C : Cx} (hw : wOk C.w) (hp : zBZ C.ps C.k) (hcl : zSb C) : ∀ (x : Ins) (num base h h' : Int) (out : Bool) (s : St), zB1 C.ps C.k x out h = some h' → 0 ≤ h → 0 ≤ base → (out = true → base = 0) → TyS C s (base + h) → zIG C out (base + h') (exI C x num s)
 | .mk o a b l m, num, base, h, h', out, s, he, h0, hb, hbo, hs => by
  simp only [zB1] at he
  simp only [exI]
  split at he
  ·rename_i hf
   split at he
   ·rename_i ho
    rw [if_pos ho]
    split at he
    ·rename_i h1
     split at he
     ·rename_i e e' he1 he2
      split at he
      ·rename_i hee
       subst hee
       have hc := zAW he
       have hs2 := hs.tick.pop (by omega)
       have e1 : base + h - 1 = (base + h - 1) + 0 := by omega
       rw [e1] at hs2
       have e2 : base + h' = (base + h - 1) + e := by omega
       rw [e2]
       have hbo' : (out && decide (h = 1)) = true → base + h - 1 = 0 := fun hh => by
        rw [zXE, zXB] at hh
        have := hbo hh.1
        omega
       have mono : ∀ r : Flow × St, zIG C (out && decide (h = 1)) (base + h - 1 + e) r → zIG C out (base + h - 1 + e) r := by
        rintro ⟨f, s'⟩ hr
        cases f with
        | go => exact hr
        | ret =>
         obtain ⟨g1, g2⟩ := hr
         rw [zXE] at g1
         exact ⟨g1.1, g2⟩
        | flt x y z => exact hr
       split
       ·exact mono _ (zDg hw hp hcl m _ _ 0 e _ _ he2 (by omega) (by omega) hbo' hs2)
       ·exact mono _ (zDg hw hp hcl l _ _ 0 e _ _ he1 (by omega) (by omega) hbo' hs2)
      ·cases he
     ·cases he
    ·cases he
   ·rename_i ho
    rw [if_neg ho]
    split at he
    ·rename_i ho
     rw [if_pos ho]
     split at he
     ·rename_i hh
      obtain ⟨g1, rfl, g3, g4⟩ := hh
      simp only [zXt] at he
      subst he
      have hb0 := hbo g1
      subst hb0
      subst g1
      refine zOh (fun s hs => ?_) (fun s hs => ?_) _ _ hs.tick
      ·exact zDg hw hp hcl m _ 0 0 1 false s g3 (by omega) (by omega) (fun _ => rfl) hs
      ·exact zDg hw hp hcl l _ 0 0 0 true s g4 (by omega) (by omega) (fun _ => rfl) hs
     ·cases he
    ·rename_i ho2
     rw [if_neg ho2]
     refine zUt hw hp hcl ?_ ho ho2 he h0 hb hbo hs.tick
     obtain ⟨f1, f2, f3, f4⟩ := hf
     exact ⟨f1, f2, .inr (.inr rfl), f4⟩
  ·cases he
theorem zDg {C : Cx} (hw : wOk C.w) (hp : zBZ C.ps C.k) (hcl : zSb C) : ∀ (l : List Ins) (num base h h' : Int) (out : Bool) (s : St), zBl C.ps C.k l out h = some h' → 0 ≤ h → 0 ≤ base → (out = true → base = 0) → TyS C s (base + h) → zIG C out (base + h') (exL C l num s)
 | [], num, base, h, h', out, s, he, h0, hb, hbo, hs => by
  simp only [zBl, zXt] at he
  subst he
  exact hs
 | x :: l, num, base, h, h', out, s, he, h0, hb, hbo, hs => by
  simp only [zBl] at he
  split at he
  ·rename_i g hg
   have hx := zMG hw hp hcl x num base h g out s hg h0 hb hbo hs
   have hgr : 0 ≤ g := by
    have := zRE hp x out h g h0 hg
    exact this
   simp only [exL]
   split
   ·rename_i s' hh
    rw [hh] at hx
    exact zDg hw hp hcl l _ base g h' out s' he hgr hb hbo hx
   ·rename_i s' hh; rw [hh] at hx; exact hx
   ·rename_i hh; rw [hh] at hx; exact hx
  ·cases he
end
theorem zKD {q : Pr} {inp : List Int} (h1 : (inp.length : Int) = q.par) (h2 : q.par ≤ q.slots) : ((zCG q inp).length : Int) = q.slots := by
 unfold zCG
 rw [zXT, List.length_replicate]
 omega
theorem zG9 {ps : List Pr} {w L : Int} (hw : wOk w) (hv : zBt ps) : ∀ (n k : Nat) (inp : List Int) (c : Int), k < n → k < ps.length → (inp.length : Int) = (ps.getD k default).par → (∀ v ∈ inp, inI w v) → zVW ps w k (zCQ ps w L n k inp c) := by
 intro n
 induction n with
 | zero => intro k inp c hk; omega
 | succ n ih =>
  intro k inp c hk hkl hi hin
  obtain ⟨_, ⟨p1, p2, p3, p4, p5, p6, p7, p8⟩, _, _, he⟩ := hv.2 k hkl
  have hcl : zSb ⟨ps, w, L, k, zCQ ps w L n⟩ := fun j hj inp c h1 h2 => ih j inp c (by simp only at hj; omega) (by simp only at hj; omega) h1 h2
  have hp : zBZ ps k := zDM fun j hj => hv.2 j (by omega)
  have z0 : inI w 0 := by
   rw [zBM hw]
   have := zCA hw
   omega
  have hr := zDg (C := ⟨ps, w, L, k, zCQ ps w L n⟩) hw hp hcl (ps.getD k default).body 0 0 0 0 true ⟨zCG (ps.getD k default) inp, [], c⟩ he (by omega) (by omega) (fun _ => rfl)
   ⟨zKD hi p2, fun v hv => by
    unfold zCG at hv
    rcases zXV.1 hv with hv | hv
    ·exact hin v hv
    ·rw [(zZJ.1 hv).2]; exact z0, by simp, rfl⟩
  have hout : ∀ s : St, TyS ⟨ps, w, L, k, zCQ ps w L n⟩ s (max (ps.getD k default).res 0) ∨ (∃ n', TyS ⟨ps, w, L, k, zCQ ps w L n⟩ s n') → ¬ 0 ≤ (ps.getD k default).res → zVW ps w k (.ok ((ps.getD k default).outs.map fun i => s.slots.getD i.toNat default), s.cnt) := by
   intro s hs hn
   have hs2 : ∃ n', TyS ⟨ps, w, L, k, zCQ ps w L n⟩ s n' := hs.elim (fun h => ⟨_, h⟩) id
   obtain ⟨n', hs2⟩ := hs2
   refine ⟨by rw [zXr, zCw, if_neg hn], fun v hv => ?_⟩
   obtain ⟨i, _, rfl⟩ := zYz.1 hv
   exact hs2.slot hw _
  simp only [zCQ]
  generalize exL ⟨ps, w, L, k, zCQ ps w L n⟩ (ps.getD k default).body 0 ⟨zCG (ps.getD k default) inp, [], c⟩ = r at *
  obtain ⟨f, s⟩ := r
  cases f with
  | go =>
   simp only [fin]
   split
   ·exact ⟨by omega, by omega⟩
   ·rename_i hn
    exact hout s (.inr ⟨_, hr⟩) hn
  | ret =>
   obtain ⟨_, hr⟩ := hr
   simp only [fin]
   split
   ·rename_i hn
    refine ⟨?_, fun v hv => hr.st v (zZa.1 hv)⟩
    have := hr.ln
    rw [zXS, zCw, if_pos hn, this]
    simp only [Cx.q]
    omega
   ·rename_i hn
    exact hout s (.inl hr) hn
  | flt x y z => exact hr
end Go.Proofs.YtaipgalanpcgoaaGreat
namespace Go.Ax
open Go Go.RowKit
set_option linter.unusedSimpArgs false
set_option linter.unusedVariables false
section
variable {P : Program} {k : List Item} {Q : Out → Env → zC → Prop} {e : Env} {H : zC}
end
end Go.Ax
namespace Go.Ax
open Go
set_option linter.unusedSimpArgs false
set_option linter.unusedVariables false
variable {P : Program} {H : zC}
theorem ACall.frz {k : FuncId} {args : List AV} {R : AV → zC → Prop} (h : ACall P k args H R) (hR : ∀ x H', R x H' → (rFrz x H').ok) :
  ACall P k args H fun y H2 => ∃ x H', R x H' ∧ y = (rFrz x H').x ∧ H2 = (rFrz x H').H :=
 ⟨h.1, fun X ρ w vs a b => (h.2 X ρ w vs a b).mono fun _ w' ⟨v, x, H', ρ', e, r, g1, g2, g3⟩ => by
  obtain ⟨ρ2, f1, f2, f3⟩ := zIX g1 g2 (hR _ _ r)
  exact ⟨v, _, _, ρ2, e, ⟨x, H', r, rfl, rfl⟩, f1, f2, g3.trans f3⟩⟩
def AV.Le (x y : AV) : Prop := ∀ (w : World) (M : Nat → Prop) (ρ : Nat → Loc) (n : Nat) (v : Value), Rep w M ρ n x v → Rep w M ρ n y v
theorem AV.Le.refl (x : AV) : AV.Le x x := fun _ _ _ _ _ h => h
theorem AV.Le.nil (sz : Nat) : AV.Le (.v (.slice none 0 0)) (.sl sz []) := fun w M ρ n v h => by
 cases h
 exact .slE _ _ _ _
theorem AV.Le.agg {xs ys : List AV} (hl : xs.length = ys.length) (h : ∀ (i : Nat) (x y : AV), xs[i]? = some x → ys[i]? = some y → AV.Le x y) : AV.Le (.agg xs) (.agg ys) := fun w M ρ n v hv => by
 cases hv with
 | agg _ _ us hl' hr =>
  refine .agg _ _ _ (by omega) fun i y u hy hu => ?_
  have hi : i < xs.length := by have := (zXA.1 hy).1; omega
  exact h i xs[i] y (zXP hi) hy _ _ _ _ _ (hr i _ u (zXP hi) hu)
theorem ACall.args {k : FuncId} {xs ys : List AV} {R : AV → zC → Prop} (h : ACall P k ys H R) (hl : xs.length = ys.length) (hle : ∀ (i : Nat) (x y : AV), xs[i]? = some x → ys[i]? = some y → AV.Le x y) : ACall P k xs H R :=
 ⟨h.1, fun X ρ w vs a b => h.2 X ρ w vs a (by
  obtain ⟨b1, b2⟩ := b
  refine ⟨by omega, fun i y u hy hu => ?_⟩
  have hi : i < xs.length := by have := (zXA.1 hy).1; omega
  exact hle i xs[i] y (zXP hi) hy _ _ _ _ _ (b2 i _ u (zXP hi) hu))⟩
theorem ACall.res {k : FuncId} {args : List AV} {R : AV → zC → Prop} (h : ACall P k args H R) : ACall P k args H fun y H' => ∃ x, R x H' ∧ AV.Le x y := by
 refine h.mono fun x H' r => ⟨x, r, AV.Le.refl x⟩
theorem ACall.resTo {k : FuncId} {args : List AV} {R R' : AV → zC → Prop} (h : ACall P k args H R) (hr : ∀ x H', R x H' → ∃ y, AV.Le x y ∧ R' y H') : ACall P k args H R' :=
 ⟨h.1, fun X ρ w vs a b => (h.2 X ρ w vs a b).mono fun _ w' ⟨v, x, H', ρ', e, r, g1, g2, g3⟩ => by
  obtain ⟨y, h1, h2⟩ := hr _ _ r
  exact ⟨v, y, H', ρ', e, h2, g1, h1 _ _ _ _ _ g2, g3⟩⟩
theorem zB {α : Type} {G l : List α} {i : Nat} (h : i < G.length) : (G ++ l)[i]? = G[i]? := zXu h
theorem zG {α : Type} {G l : List α} {i : Nat} {x : α} (h : i < G.length) : (G ++ l).set i x = G.set i x ++ l := zY6 i x h
theorem zH {α : Type} {G : List α} {i j : Nat} {x : α} (h : ¬ i = j) : (G.set i x)[j]? = G[j]? := zXy h
theorem zI {α : Type} {G : List α} {i : Nat} {x : α} (h : i < G.length) : (G.set i x)[i]? = some x := zXD h
theorem zZ {α : Type} {G l : List α} {i j : Nat} {x : α} (h : i < G.length) : (G.set j x ++ l)[i]? = (G.set j x)[i]? := zXu (by rw [zXG]; exact h)
theorem zU {α : Type} {G l : List α} {i j : Nat} {x y : α} (h : i < G.length) : (G.set j x ++ l).set i y = (G.set j x).set i y ++ l := zY6 i y (by rw [zXG]; exact h)
theorem zAB {α : Type} {G : List α} {i j : Nat} {x y : α} (h : i < G.length) : ((G.set j x).set i y)[i]? = some y := zXD (by rw [zXG]; exact h)
theorem zAv {α : Type} {G l : List α} {i j k : Nat} {x y : α} (h : i < G.length) : ((G.set j x).set k y ++ l)[i]? = ((G.set j x).set k y)[i]? := zXu (by rw [zXG, zXG]; exact h)
theorem zAA {α : Type} {G l : List α} {i j k : Nat} {x y z : α} (h : i < G.length) : ((G.set j x).set k y ++ l).set i z = ((G.set j x).set k y).set i z ++ l := zY6 i z (by rw [zXG, zXG]; exact h)
theorem zAz {α : Type} {G : List α} {i j k : Nat} {x y z : α} (h : i < G.length) : (((G.set j x).set k y).set i z)[i]? = some z := zXD (by rw [zXG, zXG]; exact h)
theorem zBp {H G : zC} (hl : H.length ≤ G.length) (h : ∀ i, i < H.length → G[i]? = H[i]?) : ∃ rest, G = H ++ rest := by
 refine ⟨G.drop H.length, ?_⟩
 apply zZm
 intro i
 by_cases hi : i < H.length
 ·rw [zXu hi]; exact h i hi
 ·rw [zXz (by omega), zYa]
  congr 1
  omega
end Go.Ax
namespace Go.Ax
open Go Go.RowKit
set_option linter.unusedSimpArgs false
set_option linter.unusedVariables false
section
variable {P : Program} {w w0 w1 : World} {X : Nat → Prop} {ρ ρ0 ρ1 : Nat → Loc} {H H1 : zC} {e e1 : Env} {a a1 : Act} {n n0 : Nat}
def zUd : Option Value → FrameMode
 | none => .returning
 | some z => .panicking [{ v := z, recovered := false }]
def zCx : Option Value → FrameMode
 | none => .returning
 | some z => .panicking [{ v := z, recovered := true }]
theorem zHV (m : Option Value) : settle (zCx m) = .returning := by cases m <;> rfl
def zPH (P : Program) (k : FuncId) (args : List AV) (m : Option Value) (H : zC) (K : zC → Prop) : Prop :=
 ∀ X ρ w vs, HRel w X ρ H → RepL w (Mut X ρ H.length) ρ H.length args vs →
  CallsDIn Fence.wide 0 P k vs (zUd m) w fun en u' w' => ∃ v H' ρ', en = .returned v ∧ u' = zCx m ∧ K H' ∧ HRel w' X ρ' H' ∧ Fut w ρ H.length w' ρ' H'.length
def zHf (P : Program) (res : List RV) (R : AV → zC → Prop) (k : FuncId) (args : List AV) : Out → Env → zC → Prop
 | .exit _, _, _ => False
 | .pan v, e, H => zPH P k args (some v) H fun H' => (zAO e H' res).ok ∧ R (zAO e H' res).x H'
 | _, e, H => zPH P k args none H fun H' => (zAO e H' res).ok ∧ R (zAO e H' res).x H'
def wpD (P : Program) (res : List RV) (R : AV → zC → Prop) : LD → Env → zC → Prop
 | .seq a b, e, H => zAj P [.code a] (fun o e' H' => o = .normal ∧ wpD P res R b e' H') .normal e H
 | .cut los f args body, e, H => zAj P [.ops los] (fun o e1 H1 => o = .normal ∧ ∃ k first caps, ev e1 f = .fn (.func k) first caps ∧ zHz P k ∧ zAj P [.code body] (zHf P res R k (first ++ args.map (ev e1) ++ caps)) .normal e1 H1) .normal e H
theorem RepL.nextN {w' : World} {ρ' : Nat → Loc} {n n' : Nat} {xs : List AV} {us : Array Value} (hf : Fut w ρ n w' ρ' n') (h : RepL w (Mut X ρ n) ρ n xs us) : RepL w' (Mut X ρ' n') ρ' n' xs us :=
 ⟨h.1, fun i x u hx hu => (h.2 i x u hx hu).nextN hf⟩
theorem zGv {B : DB} {ops : Array Oper} {Q : Exit → Act → World → Prop} {K : FuncId → List AV → Env → zC → Prop}
  (hQ : ∀ k dargs e1 H1 a1 w1 ρ1 d vs, K k dargs e1 H1 → a1.tmps.size = n → HRel w1 X ρ1 H1 → ER w1 X ρ1 H1 n e1 a1 → Fut w0 ρ0 n0 w1 ρ1 H1.length → Mk B w0 w1 ρ1 H1.length a1.defers → RepL w1 (Mut X ρ1 H1.length) ρ1 H1.length dargs vs →
   (∃ fv cap, d.target = .fn fv cap) → (∀ w', (invoke d.target d.args).run P w' = .ok (.enter k vs) w') → Q .normal { a1 with defers := d :: a1.defers } w1) :
  ∀ (l : List Oper) (los : List LO) (f : LX) (args : List LX) (e : Env) (H : zC) (a : Act) (w : World), zHj P n ops l = some (los, f, args) →
   (zA8 P los e H fun e1 H1 => ∃ k first caps, ev e1 f = .fn (.func k) first caps ∧ zHz P k ∧ K k (first ++ args.map (ev e1) ++ caps) e1 H1) → St B X w0 ρ0 n0 n e H a w → wpListIn (WR none) 0 P ops Q l a w
 | [], los, f, args, e, H, a, w, hl, h, hst => by cases hl
 | [o], los, f, args, e, H, a, w, hl, h, hst => by
  have hl0 : (zMj n o).map (fun p => (([] : List LO), p.1, p.2)) = some (los, f, args) := hl
  clear hl
  obtain ⟨⟨f', args'⟩, hl, hp⟩ := zAu hl0
  clear hl0
  simp only [zXO] at hp
  obtain ⟨rfl, rfl, rfl⟩ := hp
  unfold zMj at hl
  split at hl
  ·rename_i fo ao ts ho hg hd
   split at hl
   ·rename_i g m hf hm
    simp only [zXt, zXO] at hl
    obtain ⟨rfl, rfl⟩ := hl
    obtain ⟨k, first, caps, hfv, ⟨fn, hfn, hbody, hname⟩, hK⟩ := h
    obtain ⟨h2, ρ, hrel, he, hfu, hmk⟩ := hst
    have rf := zAm he hf
    obtain ⟨hlen, hrep⟩ := zCg he _ _ hm
    rw [hfv] at rf
    generalize hfe : a.eval fo = fv at rf
    cases rf with
    | fn _ _ _ _ fs us h1 h2' h3 h4 =>
     have hrl : RepL w (Mut X ρ H.length) ρ H.length (first ++ m.map (ev e) ++ caps) (fs ++ ao.map a.eval ++ us) := by
      refine ⟨by simp [h1, h2', hlen], fun i x u hx hu => ?_⟩
      rw [zYm, zX8] at hx
      rw [zZy, zYo] at hu
      by_cases hi : i < first.length
      ·rw [if_pos hi] at hx
       rw [if_pos (by omega)] at hu
       exact h3 i x u hx hu
      ·rw [if_neg hi, zX8] at hx
       rw [if_neg (by omega), zYo] at hu
       simp only [zXr, zZV] at hx hu
       have hl2 : m.length = ao.size := by simpa using hlen
       by_cases hj : i - first.length < m.length
       ·rw [if_pos hj] at hx
        rw [if_pos (by omega)] at hu
        exact hrep (i - first.length) x u hx (by rw [← h1] at hu; simpa using hu)
       ·rw [if_neg hj] at hx
        rw [if_neg (by omega)] at hu
        exact h4 (i - first.length - m.length) x u hx (by rw [← h1, ← hl2] at hu; exact hu)
     obtain ⟨d, hrun, htar, hinv⟩ : ∃ d, (execOp a.eval o).run P w = .ok (.defer d) w ∧ (∃ fv cap, d.target = .fn fv cap) ∧ ∀ w', (invoke d.target d.args).run P w' = .ok (.enter k (fs ++ ao.map a.eval ++ us)) w' := by
      refine ⟨{ target := .fn (.func k) us, args := fs ++ ao.map a.eval }, ?_, ⟨_, _, rfl⟩, fun w' => ?_⟩
      ·unfold execOp
       rw [ho]
       simp only [resolve, hfe, Deferred.ofValue, Sem.run_bind, Sem.run_pure, Result.andThen_ok]
      ·simp only [invoke, callFunc, Sem.run_bind, Sem.run_pure, Result.andThen_ok, run_program, hfn, hname, zXH, if_false, hbody]
     unfold wpListIn
     rw [zB3 hg, if_pos rfl]
     refine ⟨fun _ _ => trivial, ?_⟩
     show o.uponIn _ _ _ _ _ _ ((Oper.semAt none a.eval o).run P w)
     rw [Oper.semAt_none, hrun, Oper.uponIn_defer, hd]
     exact hQ k _ e H a w ρ d _ hK h2 hrel he hfu hmk hrl htar hinv
   ·cases hl
  ·cases hl
 | o :: o2 :: l, los, f, args, e, H, a, w, hl, h, hst => by
  unfold zHj at hl
  simp only at hl
  split at hl
  ·rename_i lo p h1 h2
   obtain ⟨m, f', args'⟩ := p
   simp only [zXt, zXO] at hl
   obtain ⟨rfl, rfl, rfl⟩ := hl
   have := zCL (r := none) (m0 := 0) h1 h hst (next := wpListIn (WR none) 0 P ops Q (o2 :: l)) (Q := Q) fun e'' H'' a'' w'' hK hs'' => zGv hQ (o2 :: l) m f' args' e'' H'' a'' w'' h2 hK hs''
   unfold wpListIn
   exact this
  ·cases hl
theorem zKN {fn : Func} {hs : List Hn} {rs : List RV} {R : AV → zC → Prop} (hr : zE8 P n fn.results.toList = some rs) : ∀ (c : Code) (ld : LD) (e : Env) (H : zC) (a : Act) (w : World), zVC P n hs c = some ld → wpD P rs R ld e H → St ⟨[], True⟩ X w0 ρ0 n0 n e H a w →
  c.wpIn (WR none) 0 P (bodyPostM Fence.wide 0 P fn fun en w' => ∃ v x H' ρ', en = .returned v ∧ R x H' ∧ HRel w' X ρ' H' ∧ Rep w' (Mut X ρ' H'.length) ρ' H'.length x v ∧ Fut w0 ρ0 n0 w' ρ' H'.length) a w := by
 intro c
 induction c with
 | seq x y ihx ihy =>
  intro ld e H a w hl h hst
  unfold zVC at hl
  split at hl
  ·rename_i p hp
   obtain ⟨los, f, args⟩ := p
   cases hb : zE9 P n hs y with
   | none => rw [hb] at hl; cases hl
   | some body =>
    rw [hb, zYj, zXt] at hl
    subst hl
    unfold zUG at hp
    split at hp
    ·rename_i id ops
     have h : zA8 P los e H fun e1 H1 => (Out.normal = .normal ∧ ∃ k first caps, ev e1 f = .fn (.func k) first caps ∧ zHz P k ∧ zAj P [.code body] (zHf P rs R k (first ++ args.map (ev e1) ++ caps)) .normal e1 H1) := h
     have h : zA8 P los e H fun e1 H1 => ∃ k first caps, ev e1 f = .fn (.func k) first caps ∧ zHz P k ∧ (fun k dargs e1 H1 => zAj P [.code body] (zHf P rs R k dargs) .normal e1 H1) k (first ++ args.map (ev e1) ++ caps) e1 H1 := zBY h fun _ _ hh => hh.2
     refine wpIn_seq (wpIn_region_list (zGv (K := fun k dargs e1 H1 => zAj P [.code body] (zHf P rs R k dargs) .normal e1 H1) (fun k dargs e1 H1 a1 w1 ρ1 d vs hK hn1 hrel1 he1 hf1 hmk1 hrl1 htar hinv => ?_) ops.toList los f args e H a w hp h hst))
     refine zDZ (B := ⟨d :: a1.defers, True⟩) (X := X) (w0 := w1) (ρ0 := ρ1) (n0 := H1.length) (rd := none) (m0 := 0) (H := H1) (e := e1) y hb (.inl ⟨rfl, trivial⟩) hK ⟨hn1, ρ1, hrel1, he1, Fut.refl _ _ _, Mk.nil⟩ ?_
     intro o e' H' a' w' hk hst'
     obtain ⟨hn, ρ', g1, g2, g3, ds, d1, _, d2, d3⟩ := hst'
     obtain ⟨f1, f2, f3⟩ := zFh ds d2 (fun D hD => ⟨(d3 D hD).1, (d3 D hD).2.2.2⟩) g1 g2 g3
     obtain ⟨fv, cap, htar⟩ := htar
     have go : ∀ m : Option Value, (zPH P k dargs m H' fun H'' => (zAO e' H'' rs).ok ∧ R (zAO e' H'' rs).x H'') → LeavesInM Fence.wide 0 P fn a'.tmps (fun en w' => ∃ v x H' ρ', en = .returned v ∧ R x H' ∧ HRel w' X ρ' H' ∧ Rep w' (Mut X ρ' H'.length) ρ' H'.length x v ∧ Fut w0 ρ0 n0 w' ρ' H'.length) a'.defers (zUd m) w' := by
      intro m hd
      rw [d1]
      refine zCd (by cases m <;> simp [zUd]) ds w' d2 (fun D hD => (d3 D hD).2.2.2) ⟨by cases m <;> simp [zUd], .inr ⟨fun hh => (by cases hh), fv, cap, k, vs, htar, hinv _, fun _ _ => trivial, ?_⟩⟩
      refine (hd X ρ' _ vs f1 (hrl1.nextN f3)).mono ?_
      rintro en u' w'' ⟨v, H'', ρ'', rfl, rfl, ⟨hok, hR⟩, q1, q2⟩
      have hm1 : Mk ⟨[], True⟩ w0 w'' ρ'' H''.length a1.defers := (hmk1.fut f3).fut q2
      obtain ⟨ds1, c1, _, c2, c3⟩ := hm1
      have he2 : ER w'' X ρ'' H'' n e' a' := fun t ht => (f2 t ht).nextN q2
      obtain ⟨p1, p2, p3⟩ := zFh (w0 := w0) ds1 c2 (fun D hD => ⟨(c3 D hD).1, (c3 D hD).2.2.2⟩) q1 he2 ((hf1.trans f3).trans q2)
      show LeavesInM Fence.wide 0 P fn a'.tmps _ a1.defers (settle (zCx m)) w''
      rw [zHV, c1]
      obtain ⟨_, v2, k3, k4⟩ := zEK hr p1 p2 hok
      exact zCd (by simp) ds1 w'' c2 (fun D hD => (c3 D hD).2.2.2) ⟨v2, k3, v2, _, H'', ρ'', rfl, hR, p1, k4, p3⟩
     cases o with
     | normal => exact go none hk
     | exit id => exact hk.elim
     | ret => exact go none hk
     | pan z => exact go (some z) hk
    ·cases hp
  ·split at hl
   ·rename_i la lb h1 h2
    simp only [zXt] at hl
    subst hl
    refine wpIn_seq (zDZ x h1 (.inl ⟨rfl, trivial⟩) (h : awp P la e H _) hst fun o e' H' a' w' hk hs' => ?_)
    obtain ⟨rfl, hk⟩ := hk
    exact ihy lb e' H' a' w' h2 hk hs'
   ·cases hl
 | _ => intro ld e H a w hl; cases hl
theorem zPx {k : FuncId} {fn : Func} {hs : List Hn} {L : zVR} {args : List AV} {R : AV → zC → Prop} (hf : P.funcs[k]? = some fn) (hl : zJS P fn hs = some L) (ha : args.length ≤ L.n)
  (h : wpD P L.res R L.body (zDi args 0) H) : ACall P k args H R := by
 unfold zJS at hl
 cases hb : fn.body with
 | none => simp [hb] at hl
 | some c =>
  cases hr : zE8 P fn.ntmps fn.results.toList with
  | none => simp [hb, hr] at hl
  | some rs =>
   simp only [hb, hr] at hl
   split at hl
   ·rename_i b hc
    split at hl
    ·rename_i hcond
     simp only [zXt] at hl
     subst hl
     refine ⟨⟨fn, hf, by simp [hb], hcond.2⟩, fun X ρ w vs hrel hargs => (callsIn_wide (n := 0)).1 (callsIn_of_wp_marks hf hb trivial ?_)⟩
     have hvs : vs.size ≤ fn.ntmps := by rw [← hargs.1]; exact ha
     refine zKN (X := X) (w0 := w) (ρ0 := ρ) (n0 := H.length) hr c b (zDi args 0) H _ w hc h ⟨by simp; omega, ρ, hrel, fun t ht => ?_, Fut.refl _ _ _, Mk.nil⟩
     rw [zEA, if_pos (zXJ _), zYD]
     by_cases htl : t < vs.size
     ·have hx : args[t]? = some (args[t]'(by rw [hargs.1]; exact htl)) := by simp
      rw [hx, zYn]
      refine hargs.2 t _ _ hx ?_
      simp [zXX, zYo, htl]
     ·rw [zYv (by rw [hargs.1]; omega)]
      exact .any _ _
    ·cases hl
   ·cases hl
end
section
variable {P : Program} {w w0 w1 : World} {X : Nat → Prop} {ρ ρ0 ρ1 : Nat → Loc} {H H1 : zC} {e e1 : Env} {a a1 : Act} {n n0 : Nat}
def recV : Option Value → Value
 | none => .nilIface
 | some z => z
def zTl (m : Option Value) (sl : List Nat) (e : Env) : Env := sl.foldl (fun e d => up e d (.v (recV m))) e
theorem zHX {o : Oper} {d : Nat} (h : zLI o = some d) (w : World) : o.guard = none ∧ o.dst = some d ∧ (execOp a.eval o).run P w = .ok .recover w := by
 unfold zLI at h
 split at h
 ·rename_i x y ho hg hd
  cases h
  refine ⟨hg, hd, ?_⟩
  unfold execOp
  rw [ho]
  rfl
 ·cases h
theorem zMd {o : Oper} {d d2 : Nat} (h : zRa d o = some d2) (w : World) : o.guard = none ∧ o.dst = some d2 ∧ (execOp a.eval o).run P w = .ok (.value (a.eval (.tmp d))) w := by
 unfold zRa at h
 split at h
 ·rename_i d' d2' ho hg hd
  split at h
  ·rename_i hdd
   cases h
   subst hdd
   refine ⟨hg, hd, ?_⟩
   unfold execOp
   rw [ho]
   rfl
  ·cases h
 ·rename_i d' d2' ho hg hd
  split at h
  ·rename_i hdd
   cases h
   subst hdd
   refine ⟨hg, hd, ?_⟩
   unfold execOp
   rw [ho]
   rfl
  ·cases h
 ·cases h
theorem zI2 {c₀ : Frame} {cs : List Frame} {m : Option Value} (h : c₀.mode = zUd m) :
  (m = none ∧ recoverD (c₀ :: cs) = none ∧ c₀ :: cs = { c₀ with mode := zCx m } :: cs) ∨ (∃ z, m = some z ∧ recoverD (c₀ :: cs) = some (z, { c₀ with mode := zCx m } :: cs)) := by
 obtain ⟨f1, f2, f3, f4, md, f6, f7⟩ := c₀
 simp only at h
 subst h
 cases m with
 | none => exact .inl ⟨rfl, rfl, rfl⟩
 | some z => exact .inr ⟨z, rfl, rfl⟩
theorem zFq {k : FuncId} {fn : Func} {hs : List Hn} {L : zVS} {args : List AV} {m : Option Value} {K : zC → Prop} (hf : P.funcs[k]? = some fn) (hl : zJT P fn hs = some L) (ha : args.length ≤ L.n)
  (h : zAj P [.code L.body] (fun o _ H' => (o = .normal ∨ o = .ret) ∧ K H') .normal (zTl m L.sl (zDi args 0)) H) : zPH P k args m H K := by
 unfold zJT at hl
 split at hl
 ·rename_i id ops rest hb
  split at hl
  ·rename_i sl b hsl hc
   split at hl
   ·rename_i hcond
    obtain ⟨hnr, hres, hpar⟩ := hcond
    simp only [zXt] at hl
    subst hl
    intro X ρ w vs hrel hargs
    have hvs : vs.size ≤ fn.ntmps := by rw [← hargs.1]; exact ha
    refine callsDIn_of_wpSIn hf hb trivial fun c₀ cs hm => ?_
    refine wpSIn_seq (wpSIn_region ?_)
    have hst0 : St ⟨[], False⟩ X w ρ H.length fn.ntmps (zDi args 0) H { tmps := vs ++ Array.replicate (fn.ntmps - vs.size) undef, defers := [] } w := by
     refine ⟨by simp; omega, ρ, hrel, fun t ht => ?_, Fut.refl _ _ _, Mk.nil⟩
     rw [zEA, if_pos (zXJ _), zYD]
     by_cases htl : t < vs.size
     ·have hx : args[t]? = some (args[t]'(by rw [hargs.1]; exact htl)) := by simp
      rw [hx, zYn]
      refine hargs.2 t _ _ hx ?_
      simp [zXX, zYo, htl]
     ·rw [zYv (by rw [hargs.1]; omega)]
      exact .any _ _
    generalize ({ tmps := vs ++ Array.replicate (fn.ntmps - vs.size) undef, defers := [] } : Act) = a0 at hst0 ⊢
    generalize zDi args 0 = e0 at hst0 h
    have fin : ∀ (a' : Act), St ⟨[], False⟩ X w ρ H.length fn.ntmps (zTl m sl e0) H a' w → rest.wpSIn Fence.wide 0 P (bodyPostS P fn c₀ cs fun en u' w' => ∃ v H' ρ', en = .returned v ∧ u' = zCx m ∧ K H' ∧ HRel w' X ρ' H' ∧ Fut w ρ H.length w' ρ' H'.length) a' ({ c₀ with mode := zCx m } :: cs) w := by
     intro a' hst
     refine wpSIn_of_wpIn rfl ?_
     refine zDZ (B := ⟨[], False⟩) (rd := none) (m0 := 0) rest hc (.inr hnr) h hst fun o e' H' a2 w' hk hs' => ?_
     obtain ⟨ho, hK⟩ := hk
     obtain ⟨hn, ρ', g1, g2, g3, ds, d1, d0, d2, d3⟩ := hs'
     have hds : ds = [] := d0.resolve_left (fun hh => hh)
     subst hds
     obtain ⟨_, v, k3, _⟩ := zEK (rs := []) (by rw [hres]; rfl) g1 g2 (show (zAO e' H' []).ok from fun r hr => by simp at hr)
     have hpost : a2.defers = [] ∧ ∃ u', ({ c₀ with mode := zCx m } :: cs : List Frame) = { c₀ with mode := u' } :: cs ∧ ∃ v, (results fn a2.tmps).run P w' = .ok v w' ∧ ∃ v' H' ρ', (Ending.returned v) = .returned v' ∧ u' = zCx m ∧ K H' ∧ HRel w' X ρ' H' ∧ Fut w ρ H.length w' ρ' H'.length :=
      ⟨by rw [d1]; rfl, zCx m, rfl, v, k3, v, H', ρ', rfl, rfl, hK, g1, g3⟩
     rcases ho with rfl | rfl <;> exact hpost
    have one : ∀ (o : Oper) (d : Nat), zLI o = some d → o.guard = none ∧ ∀ (Q : Exit → Act → List Frame → World → Prop) (ops : Array Oper) (l : List Nat) (i : Nat), ops[i]? = some o →
      (∀ a', St ⟨[], False⟩ X w ρ H.length fn.ntmps (up e0 d (.v (recV m))) H a' w → wpOpsSIn Fence.wide 0 P ops Q l a' ({ c₀ with mode := zCx m } :: cs) w) → wpOpsSIn Fence.wide 0 P ops Q (i :: l) a0 (c₀ :: cs) w := by
     intro o d hod
     refine ⟨(zHX (P := P) (a := a0) hod w).1, fun Q ops l i hi hk => ?_⟩
     obtain ⟨hg, hdst, hrun⟩ := zHX (P := P) (a := a0) hod w
     obtain ⟨hs1, ρ1, hrel1, he1, hfu1, hmk1⟩ := hst0
     have hput : St ⟨[], False⟩ X w ρ H.length fn.ntmps (up e0 d (.v (recV m))) H (a0.put (some d) (recV m)) w := St.put (d := some d) hmk1 hs1 he1 hfu1 hrel1 (.v _ _) (Fut.refl _ _ _)
     have hk := hk _ hput
     unfold wpOpsSIn
     rw [hi]
     refine ⟨fun _ _ => trivial, ?_⟩
     rw [if_pos (zB3 hg _), hrun]
     rcases zI2 (cs := cs) hm with ⟨rfl, hr, he⟩ | ⟨z, rfl, hr⟩
     ·simp only [hr, hdst]
      rw [he]
      exact hk
     ·simp only [hr, hdst]
      exact hk
    unfold zO7 at hsl
    split at hsl
    ·rename_i o ho
     obtain ⟨d, hd, rfl⟩ := zAu hsl
     obtain rfl : ops = #[o] := by apply zYF; simpa using ho
     exact (one o d hd).2 _ _ [] 0 rfl fun a' hs' => fin a' hs'
    ·rename_i o o1 ho
     split at hsl
     ·rename_i d hd
      obtain ⟨d2, hd2, rfl⟩ := zAu hsl
      obtain rfl : ops = #[o, o1] := by apply zYF; simpa using ho
      refine (one o d hd).2 _ _ [1] 0 rfl fun a' hs' => ?_
      obtain ⟨hg, hdst, hrun⟩ := zMd (P := P) (a := a') hd2 w
      obtain ⟨hs1, ρ1, hrel1, he1, hfu1, hmk1⟩ := hs'
      have hdn : d < fn.ntmps := by simp at hpar; exact hpar.1
      have hrep := he1 d hdn
      rw [zPV] at hrep
      have hput := St.put (d := some d2) hmk1 hs1 he1 hfu1 hrel1 hrep (Fut.refl _ _ _)
      unfold wpOpsSIn
      rw [show (#[o, o1] : Array Oper)[1]? = some o1 from rfl]
      refine ⟨fun _ _ => trivial, ?_⟩
      rw [if_pos (zB3 hg _), hrun]
      simp only [hdst]
      exact fin _ hput
     ·cases hsl
    ·cases hsl
   ·cases hl
  ·cases hl
 ·cases hl
end
end Go.Ax
namespace Go.Ax
open Go
set_option linter.unusedSimpArgs false
set_option linter.unusedVariables false
section
variable {P : Program} {k : List Item} {Q : Out → Env → zC → Prop} {e : Env} {H : zC}
theorem zGW {hd : List LO} {e1 : Env} : ∀ {tl : List (LO × List Nat)} {e : Env} {H : zC} {K : Env → zC → Prop} {Z : Value → zC → Prop}, zEE P hd e1 (tl.map fun p => (p.1, false, p.2)) e H K Z = zEX P hd e1 tl e H K
 | [], _, _, _, _ => rfl
 | (o, js) :: tl, e, H, K, Z => by
  show aTI P false o e H (fun e' H' => zDh P hd e1 H' js ∧ zEE P hd e1 (tl.map fun p => (p.1, false, p.2)) e' H' K Z) Z = zA8 P [o] e H fun e' H' => zDh P hd e1 H' js ∧ zEX P hd e1 tl e' H' K
  have : (fun e' H' => zDh P hd e1 H' js ∧ zEE P hd e1 (tl.map fun p => (p.1, false, p.2)) e' H' K Z) = fun e' H' => zDh P hd e1 H' js ∧ zEX P hd e1 tl e' H' K := by
   funext e' H'
   rw [zGW]
  rw [this]
  rfl
@[push_cast] theorem zVg (hd : List LO) (tl : List (LO × List Nat)) (gs : List LO) : zAj P (.code (.drawA hd tl gs) :: k) Q .normal e H = zAj P (.opq hd [] :: .opx hd (tl.map fun p => (p.1, false, p.2)) gs e :: k) Q .normal e H := by
 show zBc P hd e H (fun e1 => zEX P hd e1 tl e1 H fun e' H' => zA8 P gs e' H' (zAj P k Q .normal)) = zBc P hd e H fun e' => zA8 P [] e' H fun e1 H1 => zEE P hd e1 (tl.map fun p => (p.1, false, p.2)) e1 H1 (fun e' H' => zA8 P gs e' H' (zAj P k Q .normal)) fun v H' => zAj P k Q (.pan v) e H'
 simp only [zGW]
 rfl
attribute [push_cast] List.map_cons List.map_nil
@[push_cast] theorem zVX (res : List RV) (R : AV → zC → Prop) (a : LCode) (b : LD) : wpD P res R (.seq a b) e H = zAj P [.code a] (fun o e' H' => o = .normal ∧ wpD P res R b e' H') .normal e H := rfl
@[push_cast] theorem zVY (res : List RV) (R : AV → zC → Prop) (los : List LO) (f : LX) (args : List LX) (body : LCode) : wpD P res R (.cut los f args body) e H = zAj P [.ops los] (fun o e1 H1 => o = .normal ∧ ∃ k first caps, ev e1 f = .fn (.func k) first caps ∧ zHz P k ∧ zAj P [.code body] (zHf P res R k (first ++ args.map (ev e1) ++ caps)) .normal e1 H1) .normal e H := rfl
theorem zS {d : Option Nat} {f : FuncId} {args : List AV} {v : Value} (h : ACallX P f args H (fun _ _ => False) fun z H' => z = v ∧ H' = H) (hk : zAj P k Q (.pan v) e H) : zKj P f args H e d k Q :=
 zJ h (fun _ _ hh => hh.elim) fun z H' ⟨h1, h2⟩ => by subst h1; subst h2; exact hk
end
end Go.Ax
