/- Parts, merged by a program (wip/tools/merge2.py): Fm Mc4 Mc5 Mc6 Mc7 Mc8 Mc9 Mc10 Mc10a Mc10b Mc10c Mc10d Mc10e Mc10f Mc10g Mc11 Mc12 Mc13 Vb5 Vb6 Vb7 Vb3 Vb8 Vb9 Fz Mc14 Mc26. -/
import Derived.Test.YtaipgalanpcgoaaGreatM3
import Derived.Test.YtaipgalanpcgoaaGreatChecked
namespace Go.Proofs.YtaipgalanpcgoaaGreat
open Go Go.Ax
set_option maxRecDepth 100000
set_option maxHeartbeats 4000000
def L9 : LFn := ⟨58,[(.tmp 6),(.tmp 7),(.tmp 8)],(sO [oX 3 (.box false (.t 0)),oX 6 (.mv (.c zAf)),oC 7 0,oC 8 0] (.seq (sO [oL 15 3,oV 16 .lss 15 2,oM 17 16,oF 18 17 (.load false 1 (.t 3)),oF 19 17 (bI .gtr (.t 18) (kI 8)),oP 20 17 (kB true) (.t 19)] (cD 20 (sO [oX 6 (.mv (.c zAf)),oC 7 0,oC 8 2] .ret) .skip)) (sO [oL 22 3,oX 23 (y1 26 22),oM 24 1,oX 25 (.look .int (.v .nilFunc) true (.t 23) (.t 24)),oM 21 25,oE 26 21 0,oE 27 21 1,oM 9 26,oM 10 27] (.seq (sO [oM 28 10,oX 29 (.not (.t 28))] (cD 29 (sO [oX 6 (.mv (.c zAf)),oC 7 0,oC 8 1] .ret) .skip)) (sO [oM 30 2,oX 31 (.len .slc (.t 30)),oM 32 1,oX 33 (y1 27 32),oB 34 .sub 31 33,oM 11 34] (.seq (sO [oM 35 11,oV 36 .lss 35 0] (cD 36 (sO [oX 6 (.mv (.c zAf)),oC 7 0,oC 8 9] .ret) .skip)) (.seq (sO [oM 37 2,oM 38 11,oX 39 (.slice .slc 1 (.t 37) (some (.t 38)) none),oX 40 (.mkfn (.func 29) [] [(.t 3)]),oX 41 (y2 28 39 40)] (cD 41 (sO [oX 6 (.mv (.c zAf)),oC 7 0,oC 8 2] .ret) .skip)) (sO [oM 43 9,oM 44 2,oX 45 (y1 31 44),oX 46 (.call (.t 43) [(.t 45)]),oM 42 46,oE 47 42 0,oE 48 42 1,oE 49 42 2,oM 12 47,oM 13 48,oM 14 49] (.seq (sO [oM 50 14,oV 51 .neq 50 0] (cD 51 (sO [oM 52 12,oM 53 14,oM 6 52,oM 7 53,oC 8 0,oX 6 (.frz (.t 6))] .ret) .skip)) (sO [oM 54 12,oM 55 13,oX 56 (.bsl true 1 1 [i0] [(0,(.t 55))]),oX 57 (.append 1 8 (.t 54) (.t 56)),oM 6 57,oC 7 0,oC 8 0,oX 6 (.frz (.t 6))] .ret))))))))))⟩
theorem L9_ok : zY Tryz.prog Tryz.f9 [⟨13,5,(.pre 6 (.frz (.t 6)))⟩,⟨14,2,.imm⟩,⟨14,7,(.pre 6 (.frz (.t 6)))⟩] = some L9 := by kernel_rfl
def L10 : LFn := ⟨62,[(.tmp 6),(.tmp 7),(.tmp 8)],(sO [oX 6 (.mv (.c zAf)),oC 7 0,oC 8 0] (.seq (sO [oM 13 0,oX 14 (y1 32 13),oX 15 (.not (.t 14))] (cD 15 (sO [oX 6 (.mv (.c zAf)),oC 7 0,oC 8 2] .ret) .skip)) (.seq (sO [oM 16 1,oV 17 .lss 16 5,oM 18 17,oW 19 18 1,oF 20 18 (bI .gtr (.t 19) (kI 17)),oP 21 18 (kB true) (.t 20)] (cD 21 (sO [oX 6 (.mv (.c zAf)),oC 7 0,oC 8 1] .ret) .skip)) (sO [oC 9 2] (.seq (sO [oM 22 1,oV 23 .eql 22 16,oM 24 23,oW 25 24 1,oF 26 24 (bI .eql (.t 25) (kI 17)),oP 27 24 (kB true) (.t 26)] (cD 27 (.ops [oC 9 1]) .skip)) (.seq (sO [oM 28 2,oX 29 (.len .slc (.t 28)),oM 30 9,oB 31 .lss 29 30] (cD 31 (sO [oX 6 (.mv (.c zAf)),oC 7 0,oC 8 9] .ret) .skip)) (.seq (sO [oM 32 2,oX 33 (.len .slc (.t 32)),oM 34 9,oB 35 .sub 33 34,oM 10 35] (.block 0 (.loop (.seq (sO [oM 36 10,oM 37 2,oX 38 (.len .slc (.t 37)),oB 39 .lss 36 38] (cD 39 .skip (.exit 0))) (.seq (.block 1 (.seq (.draw [oM 42 0,oM 43 2,oM 44 10,oI 45 1 43 44,oL 46 45,oX 47 (y2 33 42 46),oM 48 2,oM 49 10,oI 50 1 48 49,oL 51 50,oB 52 .neq 47 51] []) (cD 52 (sO [oX 6 (.mv (.c zAf)),oC 7 0,oC 8 2] .ret) .skip))) (.ops [oM 40 10,oV 41 .add 40 1,oM 10 41])))))) (sO [oM 54 0,oM 55 1,oM 56 2,oX 57 (y3 34 54 55 56),oM 53 57,oE 58 53 0,oE 59 53 1,oM 11 58,oM 12 59] (sO [oM 60 11,oM 61 12,oM 6 60,oM 7 61,oC 8 0,oX 6 (.frz (.t 6))] .ret)))))))))⟩
theorem L10_ok : zY Tryz.prog Tryz.f10 [⟨16,5,(.pre 6 (.frz (.t 6)))⟩] = some L10 := by kernel_rfl
def L17 : LFn := ⟨40,[(.cell 8 true 2),(.tmp 9),(.tmp 10),(.tmp 11)],(sO [oX 4 (.box false (.t 0)),oX 6 (.box false (.t 2)),oX 8 (.alloc [i0,zAf]),oC 9 0,oC 10 0,oC 11 0] (sO [oA 18 1 4,oM 19 1,oA 20 2 6,oM 21 3,oX 22 (y4 41 18 19 20 21),oM 17 22,oE 23 17 0,oE 24 17 1,oM 12 23,oM 13 24] (.seq (sO [oM 25 13,oV 26 .neq 25 0] (cD 26 (sO [oX 27 (.build [i0,zAf] []),oM 28 13,oS 2 8 27,oC 9 (-1),oC 10 (-1),oM 11 28] .ret) .skip)) (sO [oM 30 12,oM 31 1,oM 32 3,oX 33 (y3 42 30 31 32),oM 29 33,oE 34 29 0,oE 35 29 1,oE 36 29 2,oX 14 (.alloc [i0,zAf]),oS 2 14 34,oM 15 35,oM 16 36] (sO [oA 37 2 14,oM 38 15,oM 39 16,oS 2 8 37,oM 9 38,oM 10 39,oC 11 0] .ret)))))⟩
theorem L17_ok : zY Tryz.prog Tryz.f17 [] = some L17 := by kernel_rfl
def L27 : LFn := ⟨9,[(.tmp 2)],(sO [oC 2 0] (.seq (sO [oM 3 0,oV 4 .eql 3 16,oM 5 4,oW 6 5 0,oF 7 5 (bI .eql (.t 6) (kI 17)),oP 8 5 (kB true) (.t 7)] (cD 8 (sO [oC 2 1] .ret) .skip)) (sO [oC 2 2] .ret)))⟩
theorem L27_ok : zY Tryz.prog Tryz.f27 [] = some L27 := by kernel_rfl
def L29 : LFn := ⟨8,[(.tmp 3)],(sO [oX 3 (.mv (kB false))] (sO [oL 4 1,oM 5 0,oX 6 (y2 30 4 5),oX 7 (.not (.t 6)),oM 3 7] .ret))⟩
theorem L29_ok : zY Tryz.prog Tryz.f29 [] = some L29 := by kernel_rfl
def L30 : LFn := ⟨15,[(.tmp 4)],(sO [oX 4 (.mv (kB false))] (sO [oM 5 1,oM 6 0,oX 7 (y1 59 6),oB 8 .geq 5 7,oM 9 8,oU 10 9 1,oU 11 9 0,oT 12 9 (y1 60 11),oT 13 9 (bI .leq (.t 10) (.t 12)),oP 14 9 (.t 13) (kB false),oM 4 14] .ret))⟩
theorem L30_ok : zY Tryz.prog Tryz.f30 [] = some L30 := by kernel_rfl
def L34 : LFn := ⟨82,[(.tmp 6),(.tmp 7)],(sO [oX 6 (.mv (.c zAf)),oC 7 0] (sO [oM 13 2,oX 14 (.len .slc (.t 13)),oM 8 14] (.seq (sO [oM 15 1,oV 16 .eql 15 16] (cD 16 (.seq (.drawA [oN (.mv (.c .any)),oM 18 2,oM 19 8,oV 20 .sub 19 1,oX 21 (.slice .slc 1 (.t 18) none (some (.t 20))),oN (.mv (.c .any)),oM 23 0,oM 24 2,oM 25 8,oV 26 .sub 25 1,oI 27 1 24 26,oL 28 27,oX 29 (.neg (.t 28)),oX 30 (y2 33 23 29),oX 31 (.bsl true 1 1 [i0] [(0,(.t 30))]),oN (.mv (.c .any)),oN (.mv (.c .any)),oC 7 0] [(oX 17 (.bsl false 1 0 [i0] []),[4,10,11]),(oX 22 (.append 1 8 (.t 17) (.t 21)),[10,11]),(oX 32 (.append 1 8 (.t 22) (.t 31)),[]),(oM 6 32,[])] []) .ret) .skip)) (.seq (sO [oM 33 1,oV 34 .eql 33 17] (cD 34 (.seq (.drawA [oN (.mv (.c .any)),oM 36 2,oM 37 8,oV 38 .sub 37 1,oX 39 (.slice .slc 1 (.t 36) none (some (.t 38))),oN (.mv (.c .any)),oM 41 2,oM 42 8,oV 43 .sub 42 1,oI 44 1 41 43,oL 45 44,oV 46 .eql 45 0,oX 47 (y1 61 46),oX 48 (.bsl true 1 1 [i0] [(0,(.t 47))]),oN (.mv (.c .any)),oN (.mv (.c .any)),oC 7 0] [(oX 35 (.bsl false 1 0 [i0] []),[4,9,10]),(oX 40 (.append 1 8 (.t 35) (.t 39)),[9,10]),(oX 49 (.append 1 8 (.t 40) (.t 48)),[]),(oM 6 49,[])] []) .ret) .skip)) (.seq (.draw [oM 51 0,oM 52 1,oX 53 (y1 63 52),oM 54 2,oM 55 8,oV 56 .sub 55 2,oI 57 1 54 56,oL 58 57,oM 59 2,oM 60 8,oV 61 .sub 60 1,oI 62 1 59 61,oL 63 62,oX 64 (y4 62 51 53 58 63),oM 50 64,oE 65 50 0,oE 66 50 1,oE 67 50 2,oM 9 65,oM 10 66,oM 11 67] []) (sO [oX 68 (.bsl false 1 0 [i0] []),oM 69 2,oM 70 8,oV 71 .sub 70 2,oX 72 (.slice .slc 1 (.t 69) none (some (.t 71))),oX 73 (.append 1 8 (.t 68) (.t 72)),oM 12 73] (.seq (sO [oM 74 10,oV 75 .neq 74 0] (cD 75 (sO [oM 76 12,oM 77 10,oM 6 76,oM 7 77] .ret) .skip)) (sO [oM 78 12,oM 79 9,oX 80 (.bsl true 1 1 [i0] [(0,(.t 79))]),oX 81 (.append 1 8 (.t 78) (.t 80)),oM 6 81,oC 7 0] .ret))))))))⟩
theorem L34_ok : zY Tryz.prog Tryz.f34 [⟨3,14,.imm⟩,⟨5,13,.imm⟩,⟨10,2,.imm⟩,⟨3,0,(.drw [0,5,15,16])⟩,⟨5,0,(.drw [0,5,14,15])⟩] = some L34 := by kernel_rfl
def L41 : LFn := ⟨111,[(.tmp 8),(.tmp 9)],(sO [oX 4 (.box false (.t 0)),oX 6 (.box false (.t 2)),oX 8 (.mv (.c (.v (.pointer none)))),oC 9 0] (.seq (sO [oD 17 0 6,oL 18 17,oV 19 .lss 18 2,oM 20 19,oF 21 20 (.faddr 0 (.t 6)),oF 22 20 (.load false 1 (.t 21)),oF 23 20 (bI .gtr (.t 22) (kI 8)),oP 24 20 (kB true) (.t 23),oM 25 24,oF 26 25 (.faddr 1 (.t 6)),oF 27 25 (.load false 1 (.t 26)),oF 28 25 (bI .lss (.t 27) (kI 0)),oP 29 25 (kB true) (.t 28),oM 30 29,oF 31 30 (.faddr 1 (.t 6)),oF 32 30 (.load false 1 (.t 31)),oF 33 30 (bI .gtr (.t 32) (kI 8)),oP 34 30 (kB true) (.t 33),oM 35 34,oF 36 35 (.load true 1 (.t 4)),oF 37 35 (y1 69 36),oF 38 35 (.not (.t 37)),oP 39 35 (kB true) (.t 38)] (cD 39 (sO [oX 8 (.mv (.c (.v (.pointer none)))),oC 9 1] .ret) .skip)) (sO [oA 41 1 4,oM 42 1,oD 43 1 6,oL 44 43,oX 45 (y3 70 41 42 44),oM 40 45,oE 46 40 0,oE 47 40 1,oM 10 46,oM 11 47] (.seq (.block 0 (sO [oM 49 11,oV 50 .neq 49 0,oM 48 50] (cD 48 (sO [oX 8 (.mv (.c (.v (.pointer none)))),oC 9 7] .ret) (sO [oM 52 10,oV 53 .gtr 52 67108864,oM 51 53] (cD 51 (sO [oX 8 (.mv (.c (.v (.pointer none)))),oC 9 8] .ret) (sO [oM 55 3,oX 56 (.len .slc (.t 55)),oD 57 0 4,oL 58 57,oM 59 1,oI 60 6 58 59,oD 61 1 60,oL 62 61,oB 63 .neq 56 62,oM 64 63,oW 65 64 3,oF 66 64 (.mkfn (.func 71) [] [(.t 6)]),oF 67 64 (y2 28 65 66),oP 68 64 (kB true) (.t 67),oM 54 68] (cD 54 (sO [oX 8 (.mv (.c (.v (.pointer none)))),oC 9 2] .ret) .skip))))))) (.seq (.drawA [oA 69 1 4,oA 70 2 6,oD 71 0 6,oL 72 71,oN (.mv (.c .any)),oN (.mv (.c .any)),oN (.mv (.c .any)),oN (.mv (.c .any))] [(oX 73 (y1 26 72),[0,1]),(oX 74 (.build [zAf,i0,i0,zAf,zAf,(.v (.map none)),i0] [(0,(1,(.t 69))),(1,(2,(.t 70))),(5,(1,(.t 73)))]),[]),(oX 75 (.box false (.t 74)),[]),(oM 12 75,[])] []) (.seq (sO [oD 76 0 4,oL 77 76,oX 78 (.len .slc (.t 77)),oC 79 0] (.block 1 (.loop (sO [oB 80 .lss 79 78] (.seq (cD 80 .skip (.exit 1)) (.seq (.block 2 (sO [oI 81 6 77 79,oA 82 6 81,oX 14 (.alloc [s0,i0,i0,i0,zAf,zAf]),oS 6 14 82] (sO [oD 84 5 14,oL 85 84,oX 86 (cF 72 [(.t 85),(kI 0)]),oM 83 86,oE 87 83 0,oE 88 83 1,oM 15 87,oM 16 88] (.drawA [oM 89 12,oM 90 12,oM 91 12,oK 92 91,oD 93 3 92,oL 94 93,oM 95 15,oX 96 (.bsl true 1 1 [zAf] [(0,(.t 95))]),oN (.mv (.c .any)),oM 98 12,oK 99 98,oD 100 4 99,oL 101 100,oM 102 16,oX 103 (.bsl true 1 1 [i0] [(0,(.t 102))]),oN (.mv (.c .any)),oK 105 89,oD 106 3 105,oN (.mv (.c .any)),oK 107 90,oD 108 4 107,oN (.mv (.c .any))] [(oX 97 (.append 1 24 (.t 94) (.t 96)),[10,11,12,16,17,19,20]),(oX 104 (.append 1 8 (.t 101) (.t 103)),[16,17,19,20]),(oS 1 106 97,[19,20]),(oS 1 108 104,[])] [])))) (.ops [oV 109 .add 79 1,oM 79 109]))))))) (sO [oM 110 12,oM 8 110,oC 9 0] .ret)))))))⟩
theorem L41_ok : zY Tryz.prog Tryz.f41 [⟨15,7,.imm⟩,⟨15,14,.imm⟩,⟨10,0,(.drw [4,5,6,7])⟩,⟨15,0,(.drw [8,15,18,21])⟩] = some L41 := by kernel_rfl
def L42 : LFnD := ⟨15,[(.cell 6 true 2),(.cell 7 false 1),(.cell 8 false 1)],(.seq (.ops [oX 6 (.alloc [i0,zAf]),oX 7 (.alloc [i0]),oX 8 (.alloc [i0])]) (.seq (.ops [oN (.store 1 (.t 7) (kI (-1))),oN (.store 1 (.t 8) (kI (-1)))]) (.cut [oX 9 (.mkfn (.func 73) [] [(.t 6),(.t 7),(.t 8)])] (.t 9) [] (.seq (.seq (.ops [oM 10 0]) (.seq (.ops [oM 11 1]) (.seq (.ops [oM 12 2]) (.seq (.ops []) (.seq (.callp (some 13) (.c (.fn (.func 74) [] [])) [(.t 10),(.t 11),(.t 12)]) (.seq (.ops [oX 14 (.build [i0,zAf] [(1,(1,(.t 13)))])]) (.seq (.ops [oS 2 6 14]) (.seq (.ops [oN (.store 1 (.t 7) (kI (-1)))]) (.seq (.ops [oN (.store 1 (.t 8) (kI (-1)))]) (.ops [])))))))))) .ret))))⟩
theorem L42_ok : lowFnD Tryz.prog Tryz.f42 [⟨3,3,.cut⟩] = some L42 := by kernel_rfl
def L54 : LFn := ⟨20,[(.tmp 3),(.tmp 4),(.tmp 5)],(sO [oX 3 (.mv (.c zAf)),oC 4 0,oC 5 0] (sO [oM 7 0,oX 8 (.len .slc (.t 7)),oV 9 .sub 8 1,oM 6 9] (.seq (.draw [oM 10 0,oM 11 6,oX 12 (.slice .slc 1 (.t 10) none (some (.t 11))),oL 13 1,oM 14 0,oM 15 6,oI 16 1 14 15,oL 17 16,oX 18 (.neg (.t 17)),oX 19 (y2 48 13 18),oM 3 12,oM 4 19,oC 5 0] []) .ret)))⟩
theorem L54_ok : zY Tryz.prog Tryz.f54 [] = some L54 := by kernel_rfl
def L55 : LFn := ⟨20,[(.tmp 2),(.tmp 3),(.tmp 4)],(sO [oX 2 (.mv (.c zAf)),oC 3 0,oC 4 0] (sO [oM 6 0,oX 7 (.len .slc (.t 6)),oV 8 .sub 7 1,oM 5 8] (.seq (sO [oM 9 0,oM 10 5,oI 11 1 9 10,oL 12 11,oV 13 .eql 12 0] (cD 13 (sO [oM 14 0,oM 15 5,oX 16 (.slice .slc 1 (.t 14) none (some (.t 15))),oM 2 16,oC 3 1,oC 4 0] .ret) .skip)) (sO [oM 17 0,oM 18 5,oX 19 (.slice .slc 1 (.t 17) none (some (.t 18))),oM 2 19,oC 3 0,oC 4 0] .ret))))⟩
theorem L55_ok : zY Tryz.prog Tryz.f55 [] = some L55 := by kernel_rfl
def L56 : LFn := ⟨3,[(.tmp 0)],(sO [oX 0 (.mv (.c (.v (.map none))))] (sO [⟨(some 1),none,.mkmap⟩,oN (.ins .int (.t 1) (kI 5) (.c (.v (.string (mkS [43]))))),oN (.ins .int (.t 1) (kI 6) (.c (.v (.string (mkS [45]))))),oN (.ins .int (.t 1) (kI 7) (.c (.v (.string (mkS [42]))))),oN (.ins .int (.t 1) (kI 8) (.c (.v (.string (mkS [47]))))),oN (.ins .int (.t 1) (kI 9) (.c (.v (.string (mkS [37]))))),oN (.ins .int (.t 1) (kI 10) (.c (.v (.string (mkS [61,61]))))),oN (.ins .int (.t 1) (kI 11) (.c (.v (.string (mkS [33,61]))))),oN (.ins .int (.t 1) (kI 12) (.c (.v (.string (mkS [60]))))),oN (.ins .int (.t 1) (kI 13) (.c (.v (.string (mkS [60,61]))))),oN (.ins .int (.t 1) (kI 14) (.c (.v (.string (mkS [62]))))),oN (.ins .int (.t 1) (kI 15) (.c (.v (.string (mkS [62,61]))))),oM 2 1,oM 0 2,oX 0 (.frz (.t 0))] .ret))⟩
theorem L56_ok : zY Tryz.prog Tryz.f56 [⟨1,14,(.pre 0 (.frz (.t 0)))⟩] = some L56 := by kernel_rfl
def L57 : LFn := ⟨35,[(.tmp 4),(.tmp 5),(.tmp 6)],(sO [oX 4 (.mv (.c zAf)),oC 5 0,oC 6 0] (sO [oM 11 0,oX 12 (.len .slc (.t 11)),oV 13 .sub 12 2,oM 7 13] (.seq (.draw [oL 15 1,oL 16 2,oM 17 0,oM 18 7,oI 19 1 17 18,oL 20 19,oM 21 0,oM 22 7,oV 23 .add 22 1,oI 24 1 21 23,oL 25 24,oX 26 (y4 18 15 16 20 25),oM 14 26,oE 27 14 0,oE 28 14 1,oE 29 14 2,oM 8 27,oM 9 28,oM 10 29] []) (sO [oM 30 0,oM 31 7,oX 32 (.slice .slc 1 (.t 30) none (some (.t 31))),oM 33 8,oM 34 9,oM 4 32,oM 5 33,oM 6 34] .ret))))⟩
theorem L57_ok : zY Tryz.prog Tryz.f57 [] = some L57 := by kernel_rfl
def L61 : LFn := ⟨4,[(.tmp 2)],(sO [oC 2 0] (.seq (sO [oM 3 0] (cD 3 (sO [oC 2 1] .ret) .skip)) (sO [oC 2 0] .ret)))⟩
theorem L61_ok : zY Tryz.prog Tryz.f61 [] = some L61 := by kernel_rfl
def L63 : LFn := ⟨8,[(.tmp 2)],(sO [oX 2 (.mv (.c s0))] (sO [oX 3 (.bsl false 1 11 [s0] [(0,(.c (.v (.string (mkS [43]))))),(1,(.c (.v (.string (mkS [45]))))),(2,(.c (.v (.string (mkS [42]))))),(3,(.c (.v (.string (mkS [47]))))),(4,(.c (.v (.string (mkS [37]))))),(5,(.c (.v (.string (mkS [61,61]))))),(6,(.c (.v (.string (mkS [33,61]))))),(7,(.c (.v (.string (mkS [60]))))),(8,(.c (.v (.string (mkS [60,61]))))),(9,(.c (.v (.string (mkS [62]))))),(10,(.c (.v (.string (mkS [62,61])))))]),oM 4 0,oV 5 .sub 4 5,oI 6 1 3 5,oL 7 6,oM 2 7] .ret))⟩
theorem L63_ok : zY Tryz.prog Tryz.f63 [] = some L63 := by kernel_rfl
def L69 : LFnD := ⟨108,[(.cell 2 false 1)],(.seq (.ops [oX 1 (.box false (.t 0)),oX 2 (.alloc [(.v (.bool false))])]) (.cut [oX 8 (.mkfn (.func 126) [] [(.t 2)])] (.t 8) [] (.seq (.seq (.ops [oD 9 0 1]) (.seq (.ops [oL 10 9]) (.seq (.ops [oX 11 (.len .slc (.t 10))]) (.seq (.ops [oV 12 .leq 11 8]) (.seq (.ops []) (.seq (.callp (some 13) (.c (.fn (.func 127) [] [])) [(.t 12)]) (.ops []))))))) (.seq (.ops [oA 14 1 1,oX 15 (.build [zAf,i0,i0] [(0,(1,(.t 14)))]),oX 16 (.box false (.t 15)),oM 3 16]) (.seq (.seq (.ops [oD 17 0 1,oL 18 17,oX 19 (.len .slc (.t 18)),oC 20 0]) (.block 0 (.loop (.seq (.ops [oB 21 .lss 20 19]) (.seq (cD 21 .skip (.exit 0)) (.seq (.block 1 (.seq (.ops [oM 22 20,oI 23 6 18 20,oA 24 6 23,oX 5 (.alloc [s0,i0,i0,i0,zAf,zAf]),oM 4 22,oS 6 5 24]) (.seq (.ops [oM 25 3,oM 26 4,oK 27 25,oD 28 1 27,oS 1 28 26]) (.seq (.seq (.ops [oD 29 0 5]) (.seq (.ops [oL 30 29]) (.seq (.ops [oX 31 (y1 128 30)]) (.seq (.ops [oM 32 31]) (.seq (.ops [oT 33 32 (.faddr 0 (.t 1))]) (.seq (.ops [oT 34 32 (.load false 1 (.t 33))]) (.seq (.ops [oU 35 32 4]) (.seq (.ops [oT 36 32 (.slice .slc 6 (.t 34) none (some (.t 35)))]) (.seq (.ops [oT 37 32 (.mkfn (.func 130) [] [(.t 5)])]) (.seq (.ops [oT 38 32 (y2 129 36 37)]) (.seq (.ops [oT 39 32 (.not (.t 38))]) (.seq (.ops [oP 40 32 (.t 39) (kB false)]) (.seq (.ops []) (.seq (.callp (some 41) (.c (.fn (.func 127) [] [])) [(.t 40)]) (.ops []))))))))))))))) (.seq (.seq (.ops [oD 42 1 5]) (.seq (.ops [oL 43 42]) (.seq (.ops [oV 44 .geq 43 0]) (.seq (.ops [oM 45 44]) (.seq (.ops [oT 46 45 (.faddr 1 (.t 5))]) (.seq (.ops [oT 47 45 (.load false 1 (.t 46))]) (.seq (.ops [oT 48 45 (.faddr 2 (.t 5))]) (.seq (.ops [oT 49 45 (.load false 1 (.t 48))]) (.seq (.ops [oT 50 45 (bI .leq (.t 47) (.t 49))]) (.seq (.ops [oP 51 45 (.t 50) (kB false)]) (.seq (.ops [oM 52 51]) (.seq (.ops [oT 53 52 (.faddr 2 (.t 5))]) (.seq (.ops [oT 54 52 (.load false 1 (.t 53))]) (.seq (.ops [oT 55 52 (bI .leq (.t 54) (kI 1024))]) (.seq (.ops [oP 56 52 (.t 55) (kB false)]) (.seq (.ops [oM 57 56]) (.seq (.ops [oT 58 57 (.faddr 3 (.t 5))]) (.seq (.ops [oT 59 57 (.load false 1 (.t 58))]) (.seq (.ops [oT 60 57 (bI .geq (.t 59) (kI (-1)))]) (.seq (.ops [oP 61 57 (.t 60) (kB false)]) (.seq (.ops [oM 62 61]) (.seq (.ops [oT 63 62 (.faddr 3 (.t 5))]) (.seq (.ops [oT 64 62 (.load false 1 (.t 63))]) (.seq (.ops [oT 65 62 (bI .leq (.t 64) (kI 128))]) (.seq (.ops [oP 66 62 (.t 65) (kB false)]) (.seq (.ops []) (.seq (.callp (some 67) (.c (.fn (.func 127) [] [])) [(.t 66)]) (.ops [])))))))))))))))))))))))))))) (.seq (.seq (.ops [oD 68 4 5]) (.seq (.ops [oL 69 68]) (.seq (.ops [oX 70 (.len .slc (.t 69))]) (.seq (.ops [oV 71 .leq 70 128]) (.seq (.ops [oM 72 71]) (.seq (.ops [oT 73 72 (.faddr 3 (.t 5))]) (.seq (.ops [oT 74 72 (.load false 1 (.t 73))]) (.seq (.ops [oT 75 72 (bI .eql (.t 74) (kI (-1)))]) (.seq (.ops [oU 76 72 75]) (.seq (.ops [oF 77 76 (.faddr 4 (.t 5))]) (.seq (.ops [oF 78 76 (.load false 1 (.t 77))]) (.seq (.ops [oF 79 76 (.len .slc (.t 78))]) (.seq (.ops [oF 80 76 (bI .eql (.t 79) (kI 0))]) (.seq (.ops [oT 81 72 (.pick (.t 76) (kB true) (.t 80))]) (.seq (.ops [oP 82 72 (.t 81) (kB false)]) (.seq (.ops []) (.seq (.callp (some 83) (.c (.fn (.func 127) [] [])) [(.t 82)]) (.ops [])))))))))))))))))) (.seq (.seq (.ops [oD 84 4 5,oL 85 84,oX 86 (.len .slc (.t 85)),oC 87 0]) (.block 2 (.loop (.seq (.ops [oB 88 .lss 87 86]) (.seq (cD 88 .skip (.exit 2)) (.seq (.block 3 (.seq (.ops [oI 89 1 85 87,oL 90 89,oM 7 90]) (.seq (.ops [oM 91 7]) (.seq (.ops [oV 92 .geq 91 0]) (.seq (.ops [oM 93 92]) (.seq (.ops [oU 94 93 7]) (.seq (.ops [oT 95 93 (.faddr 2 (.t 5))]) (.seq (.ops [oT 96 93 (.load false 1 (.t 95))]) (.seq (.ops [oT 97 93 (bI .lss (.t 94) (.t 96))]) (.seq (.ops [oP 98 93 (.t 97) (kB false)]) (.seq (.ops []) (.seq (.callp (some 99) (.c (.fn (.func 127) [] [])) [(.t 98)]) (.ops []))))))))))))) (.ops [oV 100 .add 87 1,oM 87 100]))))))) (.seq (.ops [oM 101 3]) (.seq (.ops [oD 102 5 5]) (.seq (.ops [oL 103 102]) (.seq (.ops []) (.seq (.callp (some 104) (.c (.fn (.func 131) [] [])) [(.t 101),(.t 103),(kB true),(kI 1)]) (.seq (.ops [oV 105 .eql 104 0]) (.seq (.ops []) (.seq (.callp (some 106) (.c (.fn (.func 127) [] [])) [(.t 105)]) (.ops [])))))))))))))))) (.ops [oV 107 .add 20 1,oM 20 107]))))))) (.seq (.ops [oN (.store 1 (.t 2) (kB true))]) .ret))))))⟩
theorem L69_ok : lowFnD Tryz.prog Tryz.f69 [⟨2,4,.cut⟩,⟨8,12,.cut⟩,⟨9,25,.cut⟩,⟨10,15,.cut⟩,⟨14,8,.cut⟩,⟨16,3,.cut⟩,⟨16,5,.cut⟩] = some L69 := by kernel_rfl
def L70 : LFn := ⟨55,[(.tmp 6),(.tmp 7)],(sO [oX 3 (.box false (.t 0)),oC 6 0,oC 7 0] (.seq (.block 0 (sO [oA 12 1 3,oX 13 (y1 69 12),oX 14 (.not (.t 13)),oM 11 14] (cD 11 (sO [oC 6 0,oC 7 1] .ret) (sO [oM 16 1,oV 17 .lss 16 0,oM 18 17,oW 19 18 1,oF 20 18 (.faddr 0 (.t 3)),oF 21 18 (.load false 1 (.t 20)),oF 22 18 (.len .slc (.t 21)),oF 23 18 (bI .geq (.t 19) (.t 22)),oP 24 18 (kB true) (.t 23),oM 15 24] (cD 15 (sO [oC 6 0,oC 7 7] .ret) (sO [oM 26 2,oV 27 .lss 26 0,oM 28 27,oW 29 28 2,oF 30 28 (bI .gtr (.t 29) (kI 8)),oP 31 28 (kB true) (.t 30),oM 25 31] (cD 25 (sO [oC 6 0,oC 7 2] .ret) .skip))))))) (sO [oX 8 (.mv (.c zAf)),oX 8 (.own 1 (.t 8))] (.seq (sO [oD 32 0 3,oL 33 32,oM 34 1,oV 35 .add 34 1,oX 36 (.slice .slc 6 (.t 33) none (some (.t 35))),oX 37 (.len .slc (.t 36)),oC 38 0] (.block 1 (.loop (sO [oB 39 .lss 38 37] (.seq (cD 39 .skip (.exit 1)) (.seq (.block 2 (sO [oI 40 6 36 38,oA 41 6 40,oX 10 (.alloc [s0,i0,i0,i0,zAf,zAf]),oS 6 10 41] (.ops [oM 42 8,oD 43 5 10,oL 44 43,oM 45 2,oM 46 8,oX 47 (y3 132 44 45 46),oX 48 (.bsl true 1 1 [i0] [(0,(.t 47))]),oX 49 (.append 1 8 (.t 42) (.t 48)),oM 8 49]))) (.ops [oV 50 .add 38 1,oM 38 50]))))))) (sO [oM 51 8,oM 52 1,oI 53 1 51 52,oL 54 53,oM 6 54,oC 7 0] .ret)))))⟩
theorem L70_ok : zY Tryz.prog Tryz.f70 [⟨11,6,.imm⟩,⟨7,1,(.pre 8 (.own 1 (.t 8)))⟩] = some L70 := by kernel_rfl
def L71 : LFn := ⟨9,[(.tmp 3)],(sO [oX 3 (.mv (kB false))] (sO [oD 4 0 1,oL 5 4,oM 6 0,oX 7 (y2 30 5 6),oX 8 (.not (.t 7)),oM 3 8] .ret))⟩
theorem L71_ok : zY Tryz.prog Tryz.f71 [] = some L71 := by kernel_rfl
def L72 : LFn := ⟨43,[(.tmp 4),(.tmp 5)],(sO [oX 4 (.mv (.c zAf)),oC 5 0] (sO [oX 6 (.mv (.c zAf)),oX 6 (.own 8 (.t 6))] (.seq (sO [oM 10 0,oX 11 (.len .slc (.t 10)),oC 12 0] (.block 0 (.loop (sO [oB 13 .lss 12 11] (.seq (cD 13 .skip (.exit 0)) (.seq (.block 1 (sO [oI 14 5 10 12,oA 15 5 14,oX 8 (.alloc [i0,i0,i0,zAf,zAf]),oS 5 8 15] (sO [oA 16 5 8,oM 17 1,oX 18 (.build [i0,i0,i0,zAf,zAf,i0,zAf,zAf] [(0,(5,(.t 16))),(5,(1,(.t 17)))]),oX 9 (.alloc [i0,i0,i0,zAf,zAf,i0,zAf,zAf]),oS 8 9 18] (sO [oD 20 3 8,oL 21 20,oM 22 1,oV 23 .add 22 1,oX 24 (y2 72 21 23),oM 19 24,oE 25 19 0,oE 26 19 1,oD 27 6 9,oS 1 27 25,oM 1 26] (sO [oD 29 4 8,oL 30 29,oM 31 1,oX 32 (y2 72 30 31),oM 28 32,oE 33 28 0,oE 34 28 1,oD 35 7 9,oS 1 35 33,oM 1 34] (.ops [oM 36 6,oA 37 8 9,oX 38 (.bsl true 8 1 [i0,i0,i0,zAf,zAf,i0,zAf,zAf] [(0,(.t 37))]),oX 39 (.append 8 128 (.t 36) (.t 38)),oM 6 39])))))) (.ops [oV 40 .add 12 1,oM 12 40]))))))) (sO [oM 41 6,oM 42 1,oM 4 41,oM 5 42,oX 4 (.frz (.t 4))] .ret))))⟩
theorem L72_ok : zY Tryz.prog Tryz.f72 [⟨8,2,.imm⟩,⟨10,4,(.pre 4 (.frz (.t 4)))⟩,⟨1,1,(.pre 6 (.own 8 (.t 6)))⟩] = some L72 := by kernel_rfl
def L73 : LDef := ⟨29,[6,3],(.seq (sO [oM 7 3,oX 8 (.nili false (.t 7))] (cD 8 .ret .skip)) (sO [oM 10 3,oX 11 (.asrt 121 (.agg [i0,i0,i0]) (.t 10)),oM 9 11,oE 12 9 0,oE 13 9 1,oX 4 (.alloc [i0,i0,i0]),oS 3 4 12,oM 5 13] (.seq (sO [oM 14 5,oX 15 (.not (.t 14)),oM 16 15,oF 17 16 (.load true 3 (.t 4)),oF 18 16 (.build [i0,i0,i0] []),oF 19 16 (.bin (.agg [.int,.int,.int]) .eql (.t 17) (.t 18)),oP 20 16 (kB true) (.t 19)] (cD 20 (.ops [oM 21 3,oN (.panicv (.t 21))]) .skip)) (.drawA [oD 22 0 4,oL 23 22,oX 24 (.build [i0,zAf] [(0,(1,(.t 23)))]),oD 25 1 4,oL 26 25,oD 27 2 4,oL 28 27,oN (.mv (.c .any)),oN (.mv (.c .any)),oN (.mv (.c .any))] [(oS 2 0 24,[3,4,5,6]),(oS 1 1 26,[5,6]),(oS 1 2 28,[])] []))))⟩
theorem L73_ok : lowDef Tryz.prog Tryz.f73 [⟨5,0,(.drw [7,8,9])⟩] = some L73 := by kernel_rfl
def L74 : LFn := ⟨81,[(.tmp 6)],(sO [oX 6 (.mv (.c zAf))] (sO [oM 13 0,oK 14 13,oD 15 0 14,oD 16 0 15,oL 17 16,oM 18 1,oI 19 6 17 18,oA 20 6 19,oX 7 (.alloc [s0,i0,i0,i0,zAf,zAf]),oS 6 7 20] (sO [oM 21 1,oD 22 2 7,oL 23 22,oX 24 (.msl 1 8 [i0] (.t 23) (.t 23)),oX 25 (.build [i0,zAf,zAf] [(0,(1,(.t 21))),(1,(1,(.t 24)))]),oX 26 (.box false (.t 25)),oM 8 26] (sO [oM 27 8,oK 28 27,oD 29 1 28,oL 30 29,oM 31 2,oX 32 (.copy 1 (.t 30) (.t 31))] (.seq (sO [oM 33 0] (sO [oM 34 8] (sO [oM 35 0] (sO [oK 36 35] (sO [oD 37 3 36] (sO [oL 38 37] (sO [oM 39 1] (sO [oI 40 1 38 39] (sO [oL 41 40] (sO [] (.seq (.callp (some 42) (.c (.fn (.func 133) [] [])) [(.t 33),(.t 34),(.t 41)]) (sO [oM 9 42] (.ops []))))))))))))) (.seq (sO [oD 43 3 7,oL 44 43,oV 45 .geq 44 0] (cD 45 (.seq (sO [oM 46 9,oX 47 (.not (.t 46))] (cD 47 (sO [oM 48 1] (sO [oM 49 0] (sO [oK 50 49] (sO [oD 51 4 50] (sO [oL 52 51] (sO [oM 53 1] (sO [oI 54 1 52 53] (sO [oL 55 54] (sO [oX 56 (.build [i0,i0,i0] [(0,(1,(kI 4))),(1,(1,(.t 48))),(2,(1,(.t 55)))])] (sO [] (.pan 57 121 (.t 56)))))))))))) .skip)) (sO [oM 58 8,oK 59 58,oD 60 2 59,oL 61 60,oM 6 61,oX 6 (.frz (.t 6))] .ret)) .skip)) (sO [oX 10 (.mv (.c zAf)),oX 10 (.own 1 (.t 10))] (.seq (sO [oD 62 4 7,oL 63 62,oX 64 (.len .slc (.t 63)),oC 65 0] (.block 0 (.loop (sO [oB 66 .lss 65 64] (.seq (cD 66 .skip (.exit 0)) (.seq (.block 1 (sO [oI 67 1 63 65,oL 68 67,oM 12 68] (.ops [oM 69 10,oM 70 8,oK 71 70,oD 72 1 71,oL 73 72,oM 74 12,oI 75 1 73 74,oL 76 75,oX 77 (.bsl true 1 1 [i0] [(0,(.t 76))]),oX 78 (.append 1 8 (.t 69) (.t 77)),oM 10 78]))) (.ops [oV 79 .add 65 1,oM 65 79]))))))) (sO [oM 80 10,oM 6 80,oX 6 (.frz (.t 6))] .ret)))))))))⟩
theorem L74_ok : zY Tryz.prog Tryz.f74 [⟨8,5,(.pre 6 (.frz (.t 6)))⟩,⟨13,8,.imm⟩,⟨15,2,(.pre 6 (.frz (.t 6)))⟩,⟨9,1,(.pre 10 (.own 1 (.t 10)))⟩,⟨4,9,.cut⟩,⟨7,9,.cut⟩] = some L74 := by kernel_rfl
def L126 : LDef := ⟨10,[4],(.block 0 (sO [oX 6 (.nili false (.t 4))] (cD 6 (.ops [oM 1 4]) (sO [oX 7 (.asrt 185 (.agg []) (.t 4)),oE 8 7 1,oE 9 7 0] (cD 8 (sO [oX 2 (.alloc []),oS 0 2 9] (.ops [oN (.store 1 (.t 0) (kB false))])) (sO [oM 3 4] (.ops [oM 5 3,oN (.panicv (.t 5))])))))))⟩
theorem L126_ok : lowDef Tryz.prog Tryz.f126 [] = some L126 := by kernel_rfl
def L127 : LFn := ⟨6,[],(sO [oM 2 0,oX 3 (.not (.t 2))] (cD 3 (sO [oX 4 (.build [] [])] (sO [] (.pan 5 185 (.t 4)))) .skip))⟩
theorem L127_ok : zY Tryz.prog Tryz.f127 [⟨1,1,.cut⟩] = some L127 := by kernel_rfl
def L130 : LFn := ⟨9,[(.tmp 3)],(sO [oX 2 (.box false (.t 0)),oX 3 (.mv (kB false))] (sO [oD 4 0 2,oL 5 4,oD 6 0 1,oL 7 6,oX 8 (.bin .str .eql (.t 5) (.t 7)),oM 3 8] .ret))⟩
theorem L130_ok : zY Tryz.prog Tryz.f130 [] = some L130 := by kernel_rfl
def L131 : LFn := ⟨282,[(.tmp 8)],(sO [oC 8 0] (.seq (sO [oM 21 3] (sO [oV 22 .leq 21 256] (sO [oM 23 22] (sO [oW 24 23 1] (sO [oF 25 23 (.len .slc (.t 24))] (sO [oF 26 23 (bI .eql (.t 25) (kI 0))] (sO [oP 27 23 (kB true) (.t 26)] (sO [] (.seq (.callp (some 28) (.c (.fn (.func 127) [] [])) [(.t 27)]) (.ops [])))))))))) (.seq (.draw [oM 29 0,oK 30 29,oD 31 0 30,oD 32 0 31,oL 33 32,oM 34 0,oK 35 34,oD 36 1 35,oL 37 36,oI 38 6 33 37,oA 39 6 38] [oX 9 (.alloc [s0,i0,i0,i0,zAf,zAf]),oS 6 9 39]) (sO [oX 10 (.alloc [i0]),oN (.store 1 (.t 10) (kI 0))] (sO [oX 40 (.mkfn (.func 177) [] [(.t 10)]),oM 11 40] (sO [oX 41 (.mkfn (.func 178) [] [(.t 9)]),oM 12 41] (.seq (sO [oM 42 1,oX 43 (.len .slc (.t 42)),oC 44 0] (.block 0 (.loop (sO [oB 45 .lss 44 43] (.seq (cD 45 .skip (.exit 0)) (.seq (.block 1 (sO [oI 46 5 42 44,oA 47 5 46,oX 14 (.alloc [i0,i0,i0,zAf,zAf]),oS 5 14 47] (sO [oM 48 0,oK 49 48,oD 50 2 49,oL 51 50,oV 52 .add 51 1,oK 53 48,oD 54 2 53,oS 1 54 52] (.seq (sO [oM 55 0] (sO [oK 56 55] (sO [oD 57 2 56] (sO [oL 58 57] (sO [oV 59 .leq 58 32768] (sO [] (.seq (.callp (some 60) (.c (.fn (.func 127) [] [])) [(.t 59)]) (.ops [])))))))) (sO [oX 15 (.mv (kB false)),oX 16 (.mv (kB false)),oX 17 (.mv (kB false))] (.seq (sO [oD 61 0 14,oL 62 61] (.block 2 (sO [oV 75 .eql 62 0,oM 74 75] (cD 74 (sO [oX 15 (.mv (kB true))] (.seq (sO [oD 76 1 14] (sO [oL 77 76] (sO [oV 78 .geq 77 0] (sO [oM 79 78] (sO [oT 80 79 (.faddr 1 (.t 14))] (sO [oT 81 79 (.load false 1 (.t 80))] (sO [oT 82 79 (bI .leq (.t 81) (kI 999999999))] (sO [oP 83 79 (.t 82) (kB false)] (sO [] (.seq (.callp (some 84) (.c (.fn (.func 127) [] [])) [(.t 83)]) (.ops []))))))))))) (sO [oM 85 11] (sO [] (.seq (.callp (some 86) (.t 85) [(kI 0),(kI 1)]) (.ops [])))))) (sO [oV 88 .eql 62 1,oM 87 88] (cD 87 (sO [oX 15 (.mv (kB true))] (.seq (sO [oM 89 12] (sO [oD 90 1 14] (sO [oL 91 90] (sO [] (.seq (.callp (some 92) (.t 89) [(.t 91)]) (sO [] (.seq (.callp (some 93) (.c (.fn (.func 127) [] [])) [(.t 92)]) (.ops [])))))))) (sO [oM 94 11] (sO [] (.seq (.callp (some 95) (.t 94) [(kI 0),(kI 1)]) (.ops [])))))) (sO [oV 97 .eql 62 2,oM 96 97] (cD 96 (sO [oX 15 (.mv (kB true))] (.seq (sO [oM 98 12] (sO [oD 99 1 14] (sO [oL 100 99] (sO [] (.seq (.callp (some 101) (.t 98) [(.t 100)]) (sO [] (.seq (.callp (some 102) (.c (.fn (.func 127) [] [])) [(.t 101)]) (.ops [])))))))) (sO [oM 103 11] (sO [] (.seq (.callp (some 104) (.t 103) [(kI 1),(kI (-1))]) (.ops [])))))) (.seq (sO [oV 106 .eql 62 3,oM 105 106] (cD 105 .skip (.ops [oV 107 .eql 62 4,oM 105 107]))) (cD 105 (sO [oX 15 (.mv (kB true)),oX 16 (.mv (kB true))] (.seq (sO [oM 108 12] (sO [oD 109 1 14] (sO [oL 110 109] (sO [] (.seq (.callp (some 111) (.t 108) [(.t 110)]) (sO [oM 112 111] (sO [oT 113 112 (.faddr 2 (.t 14))] (sO [oT 114 112 (.load false 1 (.t 113))] (sO [oT 115 112 (bI .geq (.t 114) (kI 1))] (sO [oP 116 112 (.t 115) (kB false)] (sO [oM 117 116] (sO [oT 118 117 (.faddr 2 (.t 14))] (sO [oT 119 117 (.load false 1 (.t 118))] (sO [oT 120 117 (.faddr 2 (.t 9))] (sO [oT 121 117 (.load false 1 (.t 120))] (sO [oT 122 117 (bI .leq (.t 119) (.t 121))] (sO [oP 123 117 (.t 122) (kB false)] (sO [oM 124 123] (sO [oU 125 124 12] (sO [oT 126 124 (.faddr 1 (.t 14))] (sO [oT 127 124 (.load false 1 (.t 126))] (sO [oT 128 124 (.faddr 2 (.t 14))] (sO [oT 129 124 (.load false 1 (.t 128))] (sO [oT 130 124 (bI .add (.t 127) (.t 129))] (sO [oT 131 124 (bI .sub (.t 130) (kI 1))] (sO [] (.seq (.ti ⟨(some 132),(some (124,true)),(.call (.t 125) [(.t 131)])⟩) (sO [oP 133 124 (.t 132) (kB false)] (sO [] (.seq (.callp (some 134) (.c (.fn (.func 127) [] [])) [(.t 133)]) (.ops []))))))))))))))))))))))))))))))) (sO [oD 135 0 14,oL 136 135,oV 137 .eql 136 3] (cD 137 (sO [oM 138 11] (sO [] (.seq (.callp (some 139) (.t 138) [(kI 1),(kI 0)]) (.ops [])))) (sO [oM 140 11] (sO [] (.seq (.callp (some 141) (.t 140) [(kI 2),(kI (-2))]) (.ops [])))))))) (.seq (sO [oV 143 .eql 62 16,oM 142 143] (cD 142 .skip (.ops [oV 144 .eql 62 17,oM 142 144]))) (cD 142 (sO [oM 145 11] (sO [] (.seq (.callp (some 146) (.t 145) [(kI 1),(kI 0)]) (.ops [])))) (sO [oV 148 .eql 62 22,oM 147 148] (cD 147 (sO [oM 149 11] (sO [] (.seq (.callp (some 150) (.t 149) [(kI 1),(kI (-1))]) (.ops [])))) (sO [oV 152 .eql 62 18,oM 151 152] (cD 151 (sO [oX 17 (.mv (kB true))] (.seq (sO [oM 153 11] (sO [] (.seq (.callp (some 154) (.t 153) [(kI 1),(kI (-1))]) (.ops [])))) (sO [oM 155 2,oM 156 155,oT 157 156 (.load false 1 (.t 10)),oT 158 156 (bI .eql (.t 157) (kI 0)),oP 159 156 (.t 158) (kB false),oM 18 159] (.seq (sO [oM 160 0] (sO [oD 161 3 14] (sO [oL 162 161] (sO [oM 163 18] (sO [oM 164 3] (sO [oV 165 .add 164 1] (sO [] (.seq (.callp (some 166) (.c (.fn (.func 131) [] [])) [(.t 160),(.t 162),(.t 163),(.t 165)]) (sO [oM 19 166] (.ops [])))))))))) (.seq (sO [oM 167 0] (sO [oD 168 4 14] (sO [oL 169 168] (sO [oM 170 18] (sO [oM 171 3] (sO [oV 172 .add 171 1] (sO [] (.seq (.callp (some 173) (.c (.fn (.func 131) [] [])) [(.t 167),(.t 169),(.t 170),(.t 172)]) (sO [oM 174 19] (sO [oB 175 .eql 173 174] (sO [] (.seq (.callp (some 176) (.c (.fn (.func 127) [] [])) [(.t 175)]) (.ops []))))))))))))) (sO [oM 177 11] (sO [oM 178 19] (sO [] (.seq (.callp (some 179) (.t 177) [(kI 0),(.t 178)]) (.ops [])))))))))) (sO [oV 181 .eql 62 19,oM 180 181] (cD 180 (sO [oX 17 (.mv (kB true))] (sO [oL 182 10] (sO [oV 183 .eql 182 0] (sO [oM 184 183] (sO [oU 185 184 2] (sO [oP 186 184 (.t 185) (kB false)] (sO [oM 187 186] (sO [oU 188 187 0] (sO [oT 189 187 (.faddr 3 (.t 14))] (sO [oT 190 187 (.load false 1 (.t 189))] (sO [oU 191 187 3] (sO [oT 192 187 (bI .add (.t 191) (kI 1))] (sO [] (.seq (.ti ⟨(some 193),(some (187,true)),(cF 131 [(.t 188),(.t 190),(kB true),(.t 192)])⟩) (sO [oT 194 187 (bI .eql (.t 193) (kI 0))] (sO [oP 195 187 (.t 194) (kB false)] (sO [oM 196 195] (sO [oU 197 196 0] (sO [oT 198 196 (.faddr 4 (.t 14))] (sO [oT 199 196 (.load false 1 (.t 198))] (sO [oU 200 196 3] (sO [oT 201 196 (bI .add (.t 200) (kI 1))] (sO [] (.seq (.ti ⟨(some 202),(some (196,true)),(cF 131 [(.t 197),(.t 199),(kB false),(.t 201)])⟩) (sO [oT 203 196 (bI .eql (.t 202) (kI 1))] (sO [oP 204 196 (.t 203) (kB false)] (sO [] (.seq (.callp (some 205) (.c (.fn (.func 127) [] [])) [(.t 204)]) (.ops []))))))))))))))))))))))))))))) (sO [oV 207 .eql 62 20,oM 206 207] (cD 206 (sO [oX 15 (.mv (kB true))] (.seq (.drawX [oD 208 1 14,oL 209 208,oV 210 .geq 209 0,oM 211 210,oT 212 211 (.faddr 1 (.t 14)),oT 213 211 (.load false 1 (.t 212)),oU 214 211 0,oT 215 211 (.nilchk (.t 214)),oT 216 211 (.faddr 1 (.t 215)),oT 217 211 (.load false 1 (.t 216)),oT 218 211 (bI .lss (.t 213) (.t 217)),oP 219 211 (.t 218) (kB false),oN (.mv (.c .any))] [(oX 220 (y1 127 219),(true,[]))] []) (.seq (.draw [oM 221 0,oK 222 221,oD 223 0 222,oD 224 0 223,oL 225 224,oD 226 1 14,oL 227 226,oI 228 6 225 227,oA 229 6 228] [oX 20 (.alloc [s0,i0,i0,i0,zAf,zAf]),oS 6 20 229]) (.drawX [oM 230 11,oD 231 1 20,oL 232 231,oA 233 6 20,oN (.mv (.c .any)),oD 235 1 20,oL 236 235,oN (.mv (.c .any)),oN (.mv (.c .any))] [(oX 234 (y1 179 233),(false,[1,2,5,6])),(oB 237 .sub 234 236,(false,[1,2])),(oX 238 (.call (.t 230) [(.t 232),(.t 237)]),(true,[]))] [])))) (sO [oV 240 .eql 62 21,oM 239 240] (cD 239 (.seq (sO [oM 241 2] (sO [oM 242 241] (sO [oT 243 242 (.load false 1 (.t 10))] (sO [oT 244 242 (.faddr 3 (.t 9))] (sO [oT 245 242 (.load false 1 (.t 244))] (sO [oT 246 242 (.max2 (.t 245) (kI 0))] (sO [oT 247 242 (bI .eql (.t 243) (.t 246))] (sO [oP 248 242 (.t 247) (kB false)] (sO [] (.seq (.callp (some 249) (.c (.fn (.func 127) [] [])) [(.t 248)]) (.ops []))))))))))) (.ops [oN (.store 1 (.t 10) (kI 0))])) (.seq (sO [oD 63 0 14] (sO [oL 64 63] (sO [oV 65 .geq 64 5] (sO [oM 66 65] (sO [oT 67 66 (.faddr 0 (.t 14))] (sO [oT 68 66 (.load false 1 (.t 67))] (sO [oT 69 66 (bI .leq (.t 68) (kI 15))] (sO [oP 70 66 (.t 69) (kB false)] (sO [] (.seq (.callp (some 71) (.c (.fn (.func 127) [] [])) [(.t 70)]) (.ops []))))))))))) (sO [oM 72 11] (sO [] (.seq (.callp (some 73) (.t 72) [(kI 2),(kI (-1))]) (.ops []))))))))))))))))))))))))))) (sO [oM 250 15] (sO [oM 251 250] (sO [oF 252 251 (.faddr 1 (.t 14))] (sO [oF 253 251 (.load false 1 (.t 252))] (sO [oF 254 251 (bI .eql (.t 253) (kI 0))] (sO [oP 255 251 (kB true) (.t 254)] (sO [oM 256 255] (sO [oU 257 256 16] (sO [oU 258 256 257] (sO [oF 259 258 (.faddr 2 (.t 14))] (sO [oF 260 258 (.load false 1 (.t 259))] (sO [oF 261 258 (bI .eql (.t 260) (kI 0))] (sO [oT 262 256 (.pick (.t 258) (kB true) (.t 261))] (sO [oP 263 256 (.t 262) (kB false)] (sO [oM 264 263] (sO [oU 265 264 17] (sO [oU 266 264 265] (sO [oF 267 266 (.faddr 3 (.t 14))] (sO [oF 268 266 (.load false 1 (.t 267))] (sO [oF 269 266 (.len .slc (.t 268))] (sO [oF 270 266 (bI .eql (.t 269) (kI 0))] (sO [oW 271 266 270] (sO [oT 272 271 (.faddr 4 (.t 14))] (sO [oT 273 271 (.load false 1 (.t 272))] (sO [oT 274 271 (.len .slc (.t 273))] (sO [oT 275 271 (bI .eql (.t 274) (kI 0))] (sO [oF 276 266 (.pick (.t 271) (.t 275) (kB false))] (sO [oT 277 264 (.pick (.t 266) (kB true) (.t 276))] (sO [oP 278 264 (.t 277) (kB false)] (sO [] (.seq (.callp (some 279) (.c (.fn (.func 127) [] [])) [(.t 278)]) (.ops [])))))))))))))))))))))))))))))))))))))) (.ops [oV 280 .add 44 1,oM 44 280]))))))) (sO [oL 281 10,oM 8 281] .ret))))))))⟩
theorem L131_ok : zY Tryz.prog Tryz.f131 [⟨1,7,.cut⟩,⟨10,5,.cut⟩,⟨17,8,.cut⟩,⟨18,1,.cut⟩,⟨21,3,.cut⟩,⟨21,4,.cut⟩,⟨22,1,.cut⟩,⟨25,3,.cut⟩,⟨25,4,.cut⟩,⟨26,1,.cut⟩,⟨30,3,.cut⟩,⟨30,24,.cut⟩,⟨30,26,.cut⟩,⟨32,1,.cut⟩,⟨33,1,.cut⟩,⟨36,1,.cut⟩,⟨38,1,.cut⟩,⟨41,1,.cut⟩,⟨43,6,.cut⟩,⟨44,6,.cut⟩,⟨44,9,.cut⟩,⟨45,2,.cut⟩,⟨48,11,.cut⟩,⟨48,20,.cut⟩,⟨48,23,.cut⟩,⟨51,12,.cut⟩,⟨53,8,.cut⟩,⟨55,8,.cut⟩,⟨13,8,.cut⟩,⟨14,1,.cut⟩,⟨57,29,.cut⟩,⟨2,11,.tail⟩,⟨51,0,(.drw [12])⟩,⟨52,9,.tail⟩,⟨53,0,(.drw [4,7,8])⟩] = some L131 := by kernel_rfl
def L132 : LFn := ⟨69,[(.tmp 6)],(sO [oC 6 0] (sO [oC 7 0] (.seq (sO [oM 11 0,oX 12 (.len .slc (.t 11)),oC 13 0] (.block 0 (.loop (sO [oB 14 .lss 13 12] (.seq (cD 14 .skip (.exit 0)) (.seq (.block 1 (sO [oI 15 5 11 13,oA 16 5 15,oX 9 (.alloc [i0,i0,i0,zAf,zAf]),oS 5 9 16] (sO [oC 10 1] (.seq (sO [oD 17 0 9,oL 18 17] (.block 2 (sO [oV 20 .eql 18 18,oM 19 20] (cD 19 (.drawA [oM 21 10,oD 22 3 9,oL 23 22,oM 24 1,oM 25 2,oN (.mv (.c .any)),oD 27 4 9,oL 28 27,oM 29 1,oM 30 2,oN (.mv (.c .any)),oN (.mv (.c .any)),oN (.mv (.c .any)),oN (.mv (.c .any))] [(oX 26 (y3 132 23 24 25),[6,7]),(oX 31 (y3 132 28 29 30),[]),(oX 32 (.max2 (.t 26) (.t 31)),[]),(oB 33 .add 21 32,[]),(oM 10 33,[])] []) (sO [oV 35 .eql 18 19,oM 34 35] (cD 34 (.drawA [oM 36 10,oM 37 1,oV 38 .add 37 1,oD 39 4 9,oL 40 39,oM 41 1,oM 42 2,oX 43 (.callh (.c (.fn (.func 132) [] [])) [(.t 40),(.t 41),(.t 42)]),oB 44 .mul 38 43,oM 45 1,oD 46 3 9,oL 47 46,oM 48 1,oM 49 2,oX 50 (.callh (.c (.fn (.func 132) [] [])) [(.t 47),(.t 48),(.t 49)]),oB 51 .mul 45 50,oB 52 .add 44 51,oB 53 .add 36 52,oM 10 53] [] []) (sO [oV 55 .eql 18 20,oM 54 55] (cD 54 (.ops [oM 56 10,oM 57 2,oD 58 1 9,oL 59 58,oI 60 1 57 59,oL 61 60,oB 62 .add 56 61,oM 10 62]) .skip)))))))) (.ops [oM 63 7,oM 64 10,oB 65 .add 63 64,oX 66 (.min2 (.t 65) (kI 67108865)),oM 7 66]))))) (.ops [oV 67 .add 13 1,oM 13 67]))))))) (sO [oM 68 7,oM 6 68] .ret))))⟩
theorem L132_ok : zY Tryz.prog Tryz.f132 [⟨10,7,.imm⟩,⟨10,14,.imm⟩,⟨8,0,(.drw [5,10,11,12,13])⟩,⟨10,0,(.drw [])⟩] = some L132 := by kernel_rfl
def L133 : LFn := ⟨20,[(.tmp 6)],(sO [oX 6 (.mv (kB false))] (.seq (sO [oM 9 2,oX 10 (.len .slc (.t 9)),oC 11 0] (.block 0 (.loop (sO [oB 12 .lss 11 10] (.seq (cD 12 .skip (.exit 0)) (.seq (.block 1 (sO [oI 13 8 9 11,oA 14 8 13,oX 8 (.alloc [i0,i0,i0,zAf,zAf,i0,zAf,zAf]),oS 8 8 14] (.seq (sO [oM 15 0] (sO [oM 16 1] (sO [oA 17 8 8] (sO [] (.seq (.callp (some 18) (.c (.fn (.func 180) [] [])) [(.t 15),(.t 16),(.t 17)]) (.ops [])))))) (cD 18 (sO [oX 6 (.mv (kB true))] .ret) .skip)))) (.ops [oV 19 .add 11 1,oM 11 19]))))))) (sO [oX 6 (.mv (kB false))] .ret)))⟩
theorem L133_ok : zY Tryz.prog Tryz.f133 [⟨4,3,.cut⟩] = some L133 := by kernel_rfl
def L177 : LFn := ⟨15,[],(.seq (sO [oL 5 2] (sO [oM 6 0] (sO [oB 7 .geq 5 6] (sO [] (.seq (.callp (some 8) (.c (.fn (.func 127) [] [])) [(.t 7)]) (.ops [])))))) (sO [oL 9 2,oM 10 1,oB 11 .add 9 10,oS 1 2 11] (sO [oL 12 2] (sO [oV 13 .leq 12 1024] (sO [] (.seq (.callp (some 14) (.c (.fn (.func 127) [] [])) [(.t 13)]) (.ops [])))))))⟩
theorem L177_ok : zY Tryz.prog Tryz.f177 [⟨0,3,.cut⟩,⟨2,2,.cut⟩] = some L177 := by kernel_rfl
def L178 : LFn := ⟨12,[(.tmp 3)],(sO [oX 3 (.mv (kB false))] (sO [oM 4 0,oV 5 .geq 4 0,oM 6 5,oU 7 6 0,oT 8 6 (.faddr 2 (.t 1)),oT 9 6 (.load false 1 (.t 8)),oT 10 6 (bI .lss (.t 7) (.t 9)),oP 11 6 (.t 10) (kB false),oM 3 11] .ret))⟩
theorem L178_ok : zY Tryz.prog Tryz.f178 [] = some L178 := by kernel_rfl
def L179 : LFn := ⟨11,[(.tmp 2)],(sO [oX 1 (.box false (.t 0)),oC 2 0] (.seq (sO [oD 3 3 1,oL 4 3,oV 5 .geq 4 0] (cD 5 (sO [oD 6 3 1,oL 7 6,oM 2 7] .ret) .skip)) (sO [oD 8 4 1,oL 9 8,oX 10 (.len .slc (.t 9)),oM 2 10] .ret)))⟩
theorem L179_ok : zY Tryz.prog Tryz.f179 [] = some L179 := by kernel_rfl
def L180 : LFn := ⟨219,[(.tmp 6)],(sO [oX 4 (.box false (.t 1)),oX 5 (.box false (.t 2)),oX 6 (.mv (kB false))] (sO [oM 16 0,oK 17 16,oD 18 6 17,oL 19 18,oV 20 .add 19 1,oK 21 16,oD 22 6 21,oS 1 22 20] (sO [oX 23 (.mkfn (.func 223) [] [(.t 4),(.t 5)]),oX 7 (.alloc [(.v .nilFunc)]),oS 1 7 23] (sO [oX 24 (.mkfn (.func 224) [] [(.t 5),(.t 7)]),oM 8 24] (.seq (sO [oD 25 0 5,oD 26 0 25,oL 27 26] (.block 0 (sO [oV 58 .eql 27 0,oM 57 58] (cD 57 (.drawA [oL 59 4,oM 60 0,oK 61 60,oD 62 1 61,oD 63 0 62,oL 64 63,oD 65 0 5,oD 66 1 65,oL 67 66,oN (.mv (.c .any)),oN (.mv (.c .any)),oN (.mv (.c .any))] [(oX 68 (y2 48 64 67),[0]),(oX 69 (.bsl true 1 1 [i0] [(0,(.t 68))]),[0]),(oX 70 (y2 225 59 69),[])] []) (sO [oV 72 .eql 27 1,oM 71 72] (cD 71 (.drawA [oL 73 4,oL 74 4,oK 75 74,oD 76 1 75,oL 77 76,oD 78 0 5,oD 79 1 78,oL 80 79,oI 81 1 77 80,oL 82 81,oX 83 (.bsl true 1 1 [i0] [(0,(.t 82))]),oN (.mv (.c .any))] [(oX 84 (y2 225 73 83),[])] []) (sO [oV 86 .eql 27 2,oM 85 86] (cD 85 (.drawA [oL 87 4,oK 88 87,oD 89 1 88,oL 90 89,oD 91 0 5,oD 92 1 91,oL 93 92,oL 94 4,oN (.mv (.c .any)),oI 96 1 90 93,oN (.mv (.c .any))] [(oX 95 (y1 226 94),[0,1,2,3,4,5,6,9]),(oS 1 96 95,[])] []) (sO [oV 98 .eql 27 3,oM 97 98] (cD 97 (.drawX [oL 99 4,oL 100 4,oK 101 100,oD 102 1 101,oL 103 102,oM 104 8,oL 105 4,oN (.mv (.c .any)),oN (.mv (.c .any)),oN (.mv (.c .any)),oN (.mv (.c .any)),oN (.mv (.c .any)),oN (.mv (.c .any))] [(oX 106 (y1 226 105),(false,[0,1,2,3,4])),(oX 107 (.call (.t 104) [(.t 106)]),(true,[0,1,2,3,4])),(oI 108 1 103 107,(false,[0])),(oL 109 108,(false,[0])),(oX 110 (.bsl true 1 1 [i0] [(0,(.t 109))]),(false,[0])),(oX 111 (y2 225 99 110),(false,[]))] []) (sO [oV 113 .eql 27 4,oM 112 113] (cD 112 (sO [oL 114 4,oX 115 (y1 226 114),oM 9 115] (.drawX [oL 116 4,oK 117 116,oD 118 1 117,oL 119 118,oM 120 8,oL 121 4,oN (.mv (.c .any)),oN (.mv (.c .any)),oM 124 9,oN (.mv (.c .any)),oN (.mv (.c .any))] [(oX 122 (y1 226 121),(false,[0,1,2,3])),(oX 123 (.call (.t 120) [(.t 122)]),(true,[0,1,2,3])),(oI 125 1 119 123,(false,[])),(oS 1 125 124,(false,[]))] [])) (sO [oV 127 .eql 27 18,oM 126 127] (cD 126 (.seq (sO [oL 128 4,oX 129 (y1 226 128),oV 130 .neq 129 0] (cD 130 (.seq (sO [oM 131 0] (sO [oL 132 4] (sO [oD 133 6 5] (sO [oL 134 133] (sO [] (.seq (.callp (some 135) (.c (.fn (.func 133) [] [])) [(.t 131),(.t 132),(.t 134)]) (sO [oM 6 135] (.ops [])))))))) .ret) .skip)) (.seq (sO [oM 136 0] (sO [oL 137 4] (sO [oD 138 7 5] (sO [oL 139 138] (sO [] (.seq (.callp (some 140) (.c (.fn (.func 133) [] [])) [(.t 136),(.t 137),(.t 139)]) (sO [oM 6 140] (.ops [])))))))) .ret)) (sO [oV 142 .eql 27 19,oM 141 142] (cD 141 (sO [oC 10 0] (.block 1 (.loop (.seq (.block 2 (.seq (sO [oM 145 0] (sO [oL 146 4] (sO [oD 147 7 5] (sO [oL 148 147] (sO [] (.seq (.callp (some 149) (.c (.fn (.func 133) [] [])) [(.t 145),(.t 146),(.t 148)]) (.ops []))))))) (.seq (sO [oL 150 4,oX 151 (y1 226 150),oV 152 .eql 151 0] (cD 152 (sO [oX 6 (.mv (kB false))] .ret) .skip)) (.seq (sO [oM 153 10,oM 154 0,oK 155 154,oD 156 1 155,oD 157 1 156,oL 158 157,oB 159 .eql 153 158] (cD 159 (sO [oL 160 7] (sO [] (.seq (.callp (some 161) (.t 160) [(kI 5)]) (.ops [])))) .skip)) (.seq (sO [oM 162 0] (sO [oL 163 4] (sO [oD 164 6 5] (sO [oL 165 164] (sO [] (.seq (.callp (some 166) (.c (.fn (.func 133) [] [])) [(.t 162),(.t 163),(.t 165)]) (.ops []))))))) (cD 166 (sO [oX 6 (.mv (kB true))] .ret) .skip)))))) (.ops [oM 143 10,oV 144 .add 143 1,oM 10 144]))))) (sO [oV 168 .eql 27 20,oM 167 168] (cD 167 (.seq (.draw [oL 169 4,oK 170 169,oD 171 2 170,oL 172 171,oX 173 (.len .slc (.t 172)),oM 174 0,oK 175 174,oD 176 0 175,oD 177 0 176,oL 178 177,oD 179 0 5,oD 180 1 179,oL 181 180,oI 182 6 178 181,oD 183 1 182,oL 184 183,oB 185 .sub 173 184,oM 11 185] []) (sO [oL 186 4,oK 187 186,oD 188 2 187,oL 189 188,oM 190 11,oX 191 (.slice .slc 1 (.t 189) (some (.t 190)) none),oX 192 (y1 31 191),oM 12 192] (.seq (.draw [oL 193 4,oL 194 4,oK 195 194,oD 196 2 195,oL 197 196,oM 198 11,oX 199 (.slice .slc 1 (.t 197) none (some (.t 198))),oK 200 193,oD 201 2 200] [oS 1 201 199]) (.drawX [oL 202 4,oM 203 0,oD 204 0 5,oD 205 1 204,oL 206 205,oM 207 12,oN (.mv (.c .any)),oN (.mv (.c .any))] [(oX 208 (y3 74 203 206 207),(true,[0])),(oX 209 (y2 225 202 208),(false,[]))] [])))) (sO [oV 211 .eql 27 21,oM 210 211] (cD 210 (sO [oX 6 (.mv (kB true))] .ret) (sO [oV 213 .eql 27 22,oM 212 213] (cD 212 (sO [oL 214 4,oX 215 (y1 226 214),oV 216 .eql 215 0] (cD 216 (sO [oL 217 7] (sO [] (.seq (.callp (some 218) (.t 217) [(kI 3)]) (.ops [])))) .skip)) (.seq (.draw [oM 29 0,oK 30 29,oD 31 5 30,oL 32 31,oD 33 0 5,oD 34 0 33,oL 35 34,oX 36 (.look .int (.v .nilFunc) false (.t 32) (.t 35)),oL 37 4,oK 38 37,oD 39 2 38,oL 40 39,oX 41 (.callh (.t 36) [(.t 40)]),oM 28 41,oE 42 28 0,oE 43 28 1,oE 44 28 2,oM 13 42,oM 14 43,oM 15 44] []) (.seq (sO [oM 45 15,oV 46 .neq 45 0] (cD 46 (sO [oL 47 7] (sO [oM 48 15] (sO [] (.seq (.callp (some 49) (.t 47) [(.t 48)]) (.ops []))))) .skip)) (.drawA [oL 50 4,oM 51 13,oM 52 14,oX 53 (.bsl true 1 1 [i0] [(0,(.t 52))]),oN (.mv (.c .any)),oK 55 50,oD 56 2 55,oN (.mv (.c .any))] [(oX 54 (.append 1 8 (.t 51) (.t 53)),[0,5,6]),(oS 1 56 54,[])] []))))))))))))))))))))))))) (sO [oX 6 (.mv (kB false))] .ret))))))⟩
theorem L180_ok : zY Tryz.prog Tryz.f180 [⟨5,12,.imm⟩,⟨10,10,.imm⟩,⟨12,10,.imm⟩,⟨16,11,.imm⟩,⟨8,3,.imm⟩,⟨16,8,.cut⟩,⟨19,7,.cut⟩,⟨22,4,.cut⟩,⟨23,4,.cut⟩,⟨27,4,.cut⟩,⟨31,1,.cut⟩,⟨32,4,.cut⟩,⟨38,6,.cut⟩,⟨43,1,.cut⟩,⟨5,12,.cut⟩,⟨7,2,.cut⟩,⟨10,0,(.drw [9,10,11])⟩,⟨12,0,(.drw [11])⟩,⟨14,0,(.drw [8,10])⟩,⟨16,0,(.drw [7,8,9,10,11,12])⟩,⟨19,0,(.drw [6,7,9,10])⟩,⟨37,9,.tail⟩,⟨38,0,(.drw [6,7])⟩,⟨8,0,(.drw [4,7])⟩] = some L180 := by kernel_rfl
def L223 : LFn := ⟨13,[],(.drawX [oM 4 0,oL 5 1,oK 6 5,oD 7 0 6,oL 8 7,oD 9 5 2,oL 10 9,oX 11 (.build [i0,i0,i0] [(0,(1,(.t 4))),(1,(1,(.t 8))),(2,(1,(.t 10)))]),oX 12 (.mkif 121 (.t 11)),oN (.mv (.c .any))] [(oN (.panicv (.t 12)),(true,[]))] [])⟩
theorem L223_ok : zY Tryz.prog Tryz.f223 [⟨0,9,.cut⟩,⟨0,0,(.drw [9])⟩] = some L223 := by kernel_rfl
def L224 : LFn := ⟨21,[(.tmp 4)],(sO [oC 4 0] (.seq (sO [oM 5 0,oV 6 .lss 5 0,oM 7 6,oW 8 7 0,oF 9 7 (.faddr 0 (.t 1)),oF 10 7 (.faddr 2 (.t 9)),oF 11 7 (.load false 1 (.t 10)),oF 12 7 (bI .geq (.t 8) (.t 11)),oP 13 7 (kB true) (.t 12)] (cD 13 (sO [oL 14 2] (sO [] (.seq (.callp (some 15) (.t 14) [(kI 2)]) (.ops [])))) .skip)) (sO [oD 16 0 1,oD 17 1 16,oL 18 17,oM 19 0,oB 20 .add 18 19,oM 4 20] .ret)))⟩
theorem L224_ok : zY Tryz.prog Tryz.f224 [⟨2,1,.cut⟩] = some L224 := by kernel_rfl
def L225 : LFn := ⟨13,[],(.ops [oM 4 0,oM 5 0,oK 6 5,oD 7 2 6,oL 8 7,oM 9 1,oX 10 (.append 1 8 (.t 8) (.t 9)),oK 11 4,oD 12 2 11,oS 1 12 10])⟩
theorem L225_ok : zY Tryz.prog Tryz.f225 [] = some L225 := by kernel_rfl
def L226 : LFn := ⟨28,[(.tmp 2)],(sO [oC 2 0] (sO [oM 5 0,oK 6 5,oD 7 2 6,oL 8 7,oX 9 (.len .slc (.t 8)),oV 10 .sub 9 1,oM 3 10] (sO [oM 11 0,oK 12 11,oD 13 2 12,oL 14 13,oM 15 3,oI 16 1 14 15,oL 17 16,oM 4 17] (sO [oM 18 0,oM 19 0,oK 20 19,oD 21 2 20,oL 22 21,oM 23 3,oX 24 (.slice .slc 1 (.t 22) none (some (.t 23))),oK 25 18,oD 26 2 25,oS 1 26 24] (sO [oM 27 4,oM 2 27] .ret)))))⟩
theorem L226_ok : zY Tryz.prog Tryz.f226 [] = some L226 := by kernel_rfl
set_option linter.unusedSimpArgs false
set_option linter.unusedVariables false
theorem zAW (q : Pr) : (prR q).length = 6 := rfl
theorem zCA (q : Pr) : (prR q).take 6 = prR q := rfl
theorem pr_c1s (q : Pr) : c1s (prR q) = true := rfl
theorem zAE (cs : List AV) : cellsOf (.agg cs) = cs := rfl
theorem zAx (l m : List Ins) : (l.isEmpty && m.isEmpty) = decide (l.length = 0 ∧ m.length = 0) := by
 rw [Bool.eq_iff_iff]
 simp [List.isEmpty_iff, List.length_eq_zero_iff]
theorem zAd {α : Type} (H l : List α) : (H ++ l)[H.length]? = l[0]? := by rw [List.getElem?_append_right (Nat.le_refl _), Nat.sub_self]
theorem zBt {ps : List Pr} {j : Nat} (h : j < ps.length) : (ps.map prR).getD j [] = prR (ps.getD j default) := zO h
theorem chg_t {h n c : Int} (h1 : n ≤ h) (h2 : h + c ≤ 1024) : chg h n c = some (h + c) := if_pos ⟨h1, h2⟩
theorem costsC (known : List Int) (L : Int) (hk : CostsOk known) (h0 : 0 ≤ L) (h8 : L ≤ 8) (hkl : known.length ≤ 1048576) (l : List Ins) : zK l ≤ 1048576 → callL known.length l → ∀ (H : zB) (r ver : Nat), H[r]? = some (.arr ver 1 (known.map iR)) → ACall Tryz.prog 132 [.sl 5 (l.map zAF), int L, .os r ver 0 known.length] H fun y H' => y = int (zBo known L l 0) ∧ H' = H := by
 induction l using Ins.indL with
 | h l ih =>
 intro hs hcl H r ver hr
 refine ACall.drop (R := fun y => y = int (zBo known L l 0)) ?_
 have hrl := (List.getElem?_eq_some_iff.1 hr).1
 refine enter Tryz.func132 L132_ok (Nat.le_of_ble_eq_true rfl) ?_
 have hln := zM l
 repeat' (simp -implicitDefEqProofs (disch := omega) only [L132, List.length_map, push_cast, simprocAttr, ↓reduceIte])
 refine zAL (fun (st : Nat × Int × zB) e' H' => e' 1 = int L ∧ e' 2 = .os r ver 0 known.length ∧ e' 7 = int st.2.1 ∧ e' 11 = .sl 5 (l.map zAF) ∧ e' 12 = int l.length ∧ e' 13 = int st.1 ∧ H' = H ++ st.2.2 ∧ st.1 ≤ l.length ∧ 0 ≤ st.2.1 ∧ st.2.1 ≤ 67108865 ∧ zBo known L l 0 = zBo known L (l.drop st.1) st.2.1) (fun st => l.length - st.1) (0, 0, []) ?_ ?_
 ·exact ⟨rfl, rfl, rfl, rfl, rfl, rfl, by simp, Nat.zero_le _, by simp, by simp, by simp⟩
 rintro ⟨j, s, ext⟩ e' H' ⟨h1', h2', h7, h11, h12, h13, rfl, hj, hs0, hs1, hc⟩
 simp only at h7 h13 hj hs0 hs1 hc
 by_cases hlt : j < l.length
 ·have hk0 := zA1 hlt
  have hb := zAm l (j + 1)
  rw [zAi hlt, icnt_eq] at hb
  have hx := ih _ hk0
  have hci := (callI_eq _ _).1 (callL_mem hcl hk0)
  rw [costL_drop _ _ hlt] at hc
  have hrow : (l.map zAF).getD j [] = zAF (l.getD j default) := zO hlt
  have hrg := costI_range hk h0 h8 (l.getD j default)
  generalize l.getD j default = x at *
  obtain ⟨o, a, b, bd, el⟩ := x
  have hr2 : zAF (.mk o a b bd el) = [int o, int a, int b, .sl 5 (bd.map zAF), .sl 5 (el.map zAF)] := by simp [zAF, zAP]
  rw [hr2] at hrow
  simp only [costI] at hc hrg
  simp only [Ins.op, Ins.a, Ins.b, Ins.body, Ins.els] at hci hb hx
  have n1 := zBS hk h0 h8 bd 0 (by omega) (by omega)
  have n2 := zBS hk h0 h8 el 0 (by omega) (by omega)
  have e1 : 0 ≤ (L + 1) * zBo known L el 0 ∧ (L + 1) * zBo known L el 0 ≤ 9 * 67108865 := ⟨Int.mul_nonneg (by omega) n2.1, Int.mul_le_mul (by omega) n2.2 n2.1 (by omega)⟩
  have e2 : 0 ≤ L * zBo known L bd 0 ∧ L * zBo known L bd 0 ≤ 8 * 67108865 := ⟨Int.mul_nonneg h0 n1.1, Int.mul_le_mul (by omega) n1.2 n1.1 (by omega)⟩
  have hrA : ∀ X : zB, (H ++ X)[r]? = some (.arr ver 1 (known.map iR)) := fun X => by rw [zC hrl]; exact hr
  have hr' : 0 = 0 := rfl
  have c1 := fun X => hx.1 (by omega) hci.2.1 (H ++ X) r ver (hrA X)
  have c2 := fun X => hx.2 (by omega) hci.2.2 (H ++ X) r ver (hrA X)
  clear hx ih
  by_cases h18 : o = 18
  ·subst h18
   simp only [if_true] at hc hrg
   repeat' (first | refine And.intro (by omega) ?_ | refine zA (c1 _) ?_ | refine zA (c2 _) ?_ | simp -implicitDefEqProofs (disch := omega) only [h1', h2', h7, h11, h12, h13, hrow, Nat.zero_add, List.length_map, zAE, zQ, push_cast, simprocAttr, ↓reduceIte, Bool.and_self] | split)
   all_goals exact .mk (j + 1, min (s + (1 + max (zBo known L bd 0) (zBo known L el 0))) 67108865, _) ⟨h1', h2', intc rfl (by dsimp only <;> omega), h11, h12, rfl, rfl, hlt, by dsimp only; omega, by dsimp only; omega, hc⟩ (by dsimp only; omega)
  ·by_cases h19 : o = 19
   ·subst h19
    rw [if_neg (by omega), if_pos rfl] at hc hrg
    repeat' (first | refine And.intro (by omega) ?_ | refine zAJ (c1 _) ?_ | refine zAJ (c2 _) ?_ | simp -implicitDefEqProofs (disch := omega) only [h1', h2', h7, h11, h12, h13, hrow, Nat.zero_add, List.length_map, zAE, zQ, push_cast, simprocAttr, ↓reduceIte, Bool.and_self] | split)
    all_goals exact .mk (j + 1, min (s + (1 + (L + 1) * zBo known L el 0 + L * zBo known L bd 0)) 67108865, _) ⟨h1', h2', intc rfl (by dsimp only <;> omega), h11, h12, rfl, rfl, hlt, by dsimp only; omega, by dsimp only; omega, hc⟩ (by dsimp only; omega)
   ·by_cases h20 : o = 20
    ·subst h20
     rw [if_neg (by omega), if_neg (by omega), if_pos rfl] at hc hrg
     have ha := hci.1 rfl
     have hkr : (known.map iR).getD a.toNat [] = iR (known.getD a.toNat default) := zO (by omega)
     simp only [iR] at hkr
     repeat' (first | refine And.intro (by omega) ?_ | simp -implicitDefEqProofs (disch := omega) only [h2', h7, h11, h12, h13, hrow, hkr, hrA, Nat.zero_add, List.length_map, zAE, zQ, push_cast, simprocAttr, ↓reduceIte, Bool.and_self] | split)
     all_goals exact .mk (j + 1, min (s + (1 + known.getD a.toNat default)) 67108865, _) ⟨h1', h2', intc rfl (by dsimp only <;> omega), h11, h12, rfl, rfl, hlt, by dsimp only; omega, by dsimp only; omega, hc⟩ (by dsimp only; omega)
    ·rw [if_neg (by omega), if_neg (by omega), if_neg (by omega)] at hc hrg
     repeat' (first | refine And.intro (by omega) ?_ | simp -implicitDefEqProofs (disch := omega) only [h7, h11, h12, h13, hrow, Nat.zero_add, List.length_map, zAE, zQ, zAu, push_cast, simprocAttr, ↓reduceIte, Bool.and_self] | split)
     all_goals exact .mk (j + 1, min (s + (1)) 67108865, _) ⟨h1', h2', intc rfl (by dsimp only <;> omega), h11, h12, rfl, rfl, hlt, by dsimp only; omega, by dsimp only; omega, hc⟩ (by dsimp only; omega)
 ·have e : j = l.length := by omega
  subst e
  rw [List.drop_length] at hc
  simp only [zBo] at hc
  repeat' (simp -implicitDefEqProofs (disch := omega) only [h7, h12, h13, zAh, push_cast, ↓reduceIte, Nat.reduceEqDiff])
  exact ⟨by rw [hc], _, rfl⟩
noncomputable def validB (ps : List Pr) : Bool := @decide (zBw ps) (Classical.propDecidable _)
theorem validB_t {ps : List Pr} : validB ps = true ↔ zBw ps := by unfold validB; exact @decide_eq_true_iff _ (Classical.propDecidable _)
theorem validB_f {ps : List Pr} (h : ¬ zBw ps) : validB ps = false := by
 cases hb : validB ps with
 | false => rfl
 | true => exact absurd (validB_t.1 hb) h
theorem pr_drop1 (q : Pr) : (prR q).drop 1 = [int q.par, int q.slots, int q.res, .sl 1 (q.outs.map iR), .sl 5 (q.body.map zAF)] := rfl
theorem zCY (q : Pr) : (prR q).drop 2 = [int q.slots, int q.res, .sl 1 (q.outs.map iR), .sl 5 (q.body.map zAF)] := rfl
theorem zCd (q : Pr) : (prR q).drop 3 = [int q.res, .sl 1 (q.outs.map iR), .sl 5 (q.body.map zAF)] := rfl
theorem pr_drop4 (q : Pr) : (prR q).drop 4 = [.sl 1 (q.outs.map iR), .sl 5 (q.body.map zAF)] := rfl
theorem pr_drop5 (q : Pr) : (prR q).drop 5 = [.sl 5 (q.body.map zAF)] := rfl
theorem pr_drop0 (q : Pr) : (prR q).drop 0 = [str q.name, int q.par, int q.slots, int q.res, .sl 1 (q.outs.map iR), .sl 5 (q.body.map zAF)] := rfl
noncomputable def costA (ps : List Pr) (p L : Int) : AV :=
 if validB ps = false then .tup [int 0, int 1] else if p < 0 ∨ ps.length ≤ p then .tup [int 0, int 7] else if L < 0 ∨ 8 < L then .tup [int 0, int 2] else .tup [int (costF ps p.toNat L), int 0]
abbrev wrongV : Value := .iface 185 (.agg #[])
theorem mustX (b : Bool) (H : zB) : ACallX Tryz.prog 127 [bool b] H (fun x H' => b = true ∧ H' = H) fun z H' => b = false ∧ z = wrongV ∧ H' = H := by
 refine zBf Tryz.func127 L127_ok (Nat.le_of_ble_eq_true rfl) ?_
 cases b with
 | true =>
  repeat' (simp -implicitDefEqProofs (disch := omega) only [L127, push_cast, simprocAttr, ↓reduceIte])
  simp [zAO]
 | false =>
  repeat' (simp -implicitDefEqProofs (disch := omega) only [L127, rBuild, fillA, valA_agg, valsA_nil, Option.map_some, push_cast, ↓reduceIte, Nat.reduceAdd])
theorem resultsC (q : Pr) (hs : q.outs.length ≤ 1048576) (H : zB) : zT 179 [.agg (prR q)] H (int (outsN q)) := by
 refine ACall.drop (R := fun x => x = int (outsN q)) ?_
 refine enter Tryz.func179 L179_ok (Nat.le_of_ble_eq_true rfl) ?_
 unfold outsN
 by_cases h : 0 ≤ q.res
 ·rw [if_pos h]
  repeat' (simp -implicitDefEqProofs (disch := omega) only [L179, zAE, prR, h, push_cast, simprocAttr, ↓reduceIte, Bool.and_self])
  exact ⟨_, rfl⟩
 ·rw [if_neg h]
  repeat' (simp -implicitDefEqProofs (disch := omega) only [L179, zAE, prR, h, List.length_map, push_cast, simprocAttr, ↓reduceIte, Bool.and_self])
  exact ⟨_, rfl⟩
theorem needX (h n c : Int) (hh : 0 ≤ h ∧ h ≤ 1024) (hc : -2048 ≤ c ∧ c ≤ 2048) (a : Nat) (G : zB) (hg : G[a]? = some (.box [int h])) :
  ACallX Tryz.prog 177 [int n, int c, .ptr a 0 0] G (fun _ G' => (n ≤ h ∧ h + c ≤ 1024) ∧ G' = G.set a (.box [int (h + c)])) fun z G' => z = wrongV ∧ ¬ (n ≤ h ∧ h + c ≤ 1024) ∧ (G' = G ∨ G' = G.set a (.box [int (h + c)])) := by
 have ha := (List.getElem?_eq_some_iff.1 hg).1
 refine zBf Tryz.func177 L177_ok (Nat.le_of_ble_eq_true rfl) ?_
 by_cases h1 : n ≤ h
 ·repeat' (simp -implicitDefEqProofs (disch := omega) only [L177, hg, zAe, push_cast, simprocAttr, ↓reduceIte])
  refine zG (mustX _ _) ?_ ?_
  ·rintro x H' ⟨_, rfl⟩
   repeat' (simp -implicitDefEqProofs (disch := omega) only [hg, zJ, splice, push_cast, simprocAttr, ↓reduceIte, Bool.and_self])
   refine zG (mustX _ _) ?_ ?_
   ·rintro x H' ⟨hb, rfl⟩
    rw [decide_eq_true_eq] at hb
    repeat' (simp -implicitDefEqProofs (disch := omega) only [zAe, push_cast])
    simp [zAO, L177, h1, hb]
   ·rintro x H' ⟨hb, rfl, rfl⟩
    rw [decide_eq_false_iff_not] at hb
    repeat' (simp -implicitDefEqProofs (disch := omega) only [zAz, push_cast])
    first | omega | exact fun hh => absurd hh.2 hb
  ·rintro x H' ⟨hb, _, _⟩
   cases hb
 ·repeat' (simp -implicitDefEqProofs (disch := omega) only [L177, hg, zAz, push_cast, simprocAttr, ↓reduceIte])
  refine zG (mustX _ _) ?_ ?_
  ·rintro x H' ⟨hb, _⟩
   cases hb
  ·rintro x H' ⟨hb, rfl, rfl⟩
   repeat' (simp -implicitDefEqProofs (disch := omega) only [push_cast])
   first | omega | exact fun hh => absurd hh.1 h1
theorem zB7 (s : Int) (q : Pr) (a : Nat) (G : zB) (hg : G[a]? = some (.box (prR q))) : ACall Tryz.prog 178 [int s, .ptr a 0 0] G fun x G' => x = bool (decide (0 ≤ s ∧ s < q.slots)) ∧ G' = G := by
 refine enter Tryz.func178 L178_ok (Nat.le_of_ble_eq_true rfl) ?_
 by_cases h1 : 0 ≤ s
 ·by_cases h2 : s < q.slots
  ·rw [decide_eq_true ⟨h1, h2⟩]
   repeat' (simp -implicitDefEqProofs (disch := omega) only [L178, hg, zCY, zAW, zQ, zAe, push_cast, simprocAttr, ↓reduceIte])
  ·rw [decide_eq_false fun hh => h2 hh.2]
   repeat' (simp -implicitDefEqProofs (disch := omega) only [L178, hg, zCY, zAW, zAh, zAe, push_cast, simprocAttr, ↓reduceIte])
 ·rw [decide_eq_false fun hh => h1 hh.1]
  repeat' (simp -implicitDefEqProofs (disch := omega) only [L178, zAz, push_cast, simprocAttr, ↓reduceIte])
structure Fr1 (r : Nat) (G G' : zB) : Prop where
 le : G.length ≤ G'.length
 keep : ∀ i, i < G.length → i ≠ r → G'[i]? = G[i]?
theorem Fr1.refl {r : Nat} {G : zB} : Fr1 r G G := ⟨Nat.le_refl _, fun _ _ _ => rfl⟩
theorem Fr1.trans {r : Nat} {G G' G'' : zB} (h : Fr1 r G G') (h' : Fr1 r G' G'') : Fr1 r G G'' :=
 ⟨Nat.le_trans h.1 h'.1, fun i hi hne => (h'.2 i (Nat.lt_of_lt_of_le hi h.1) hne).trans (h.2 i hi hne)⟩
theorem Fr1.app {r : Nat} {G : zB} (ext : zB) : Fr1 r G (G ++ ext) := ⟨by simp, fun i hi _ => zC hi⟩
theorem Fr1.set {r : Nat} {G : zB} (x : HO) : Fr1 r G (G.set r x) := ⟨by simp, fun i hi hne => zF fun e => hne e.symm⟩
theorem Fr1.set' {r i : Nat} {G G' : zB} (h : Fr1 r G G') (hi : G.length ≤ i) (x : HO) : Fr1 r G (G'.set i x) :=
 ⟨by simpa using h.1, fun j hj hne => by rw [zF (by omega)]; exact h.2 j hj hne⟩
theorem zAG (l : List Ins) (j : Nat) : zAC (l.take j) ≤ zAC l := by
 have h := ilevs_append (l.take j) (l.drop j)
 rw [List.take_append_drop] at h
 omega
def goodL (ps : List Pr) (k : Nat) (l : List Ins) (out : Bool) (level c : Int) : Prop := (∃ e, zBQ ps k l out 0 = some e) ∧ c + zK l ≤ 32768 ∧ level + zAC l ≤ 257
def effP (ps : List Pr) (k : Nat) (l : List Ins) : Prop := ∀ (out : Bool) (level c : Int) (G : zB) (r : Nat), G[r]? = some (.box [zBm ps, int k, int c]) → 0 ≤ c → c ≤ 32768 → 1 ≤ level → level ≤ 257 →
 ACallX Tryz.prog 131 [.ptr r 0 0, .sl 5 (l.map zAF), bool out, int level] G (fun x G' => ∃ e, x = int e ∧ zBQ ps k l out 0 = some e ∧ c + zK l ≤ 32768 ∧ level + zAC l ≤ 257 ∧ Fr1 r G G' ∧ G'[r]? = some (.box [zBm ps, int k, int (c + zK l)]))
  fun z G' => z = wrongV ∧ ¬ goodL ps k l out level c ∧ Fr1 r G G'
section
variable {ps : List Pr} {k : Nat} {o a b : Int} {bd el : List Ins} {out : Bool} {h n c h' : Int}
theorem zBk (h18 : ¬ o = 18) (h19 : ¬ o = 19) (he : effS ps k o a out h = chg h n c) : zBR ps k (.mk o a b bd el) out h = some h' ↔ zV (ps.getD k default).slots o a b (bd.isEmpty && el.isEmpty) ∧ n ≤ h ∧ h + c ≤ 1024 ∧ h' = h + c := by
 simp only [zBR]
 by_cases hf : zV (ps.getD k default).slots o a b (bd.isEmpty && el.isEmpty)
 ·rw [if_pos hf, if_neg h18, if_neg h19, he]
  constructor
  ·intro hh
   have := zA9 hh
   exact ⟨hf, by omega, by omega, by omega⟩
  ·rintro ⟨_, h1, h2, rfl⟩
   exact chg_t h1 h2
 ·rw [if_neg hf]
  constructor
  ·intro hh; cases hh
  ·intro hh; exact absurd hh.1 hf
theorem zCt : zBR ps k (.mk 18 a b bd el) out h = some h' ↔ a = 0 ∧ b = 0 ∧ 1 ≤ h ∧ ∃ e, zBQ ps k bd (out && decide (h = 1)) 0 = some e ∧ zBQ ps k el (out && decide (h = 1)) 0 = some e ∧ h + (e - 1) ≤ 1024 ∧ h' = h + (e - 1) := by
 simp only [zBR, if_true]
 have hff : zV (ps.getD k default).slots 18 a b (bd.isEmpty && el.isEmpty) ↔ a = 0 ∧ b = 0 := by
  unfold zV
  constructor
  ·intro hh; omega
  ·intro hh
   refine ⟨?_, ?_, ?_, ?_, ?_, ?_, ?_, ?_⟩ <;> first | omega | (intro h1; omega)
 by_cases hf : a = 0 ∧ b = 0
 ·rw [if_pos (hff.2 hf)]
  by_cases h1 : 1 ≤ h
  ·rw [if_pos h1]
   cases e1 : zBQ ps k bd (out && decide (h = 1)) 0 with
   | none => exact ⟨fun hh => (by cases hh), fun ⟨_, _, _, e, hh, _⟩ => (by cases hh)⟩
   | some y1 =>
    cases e2 : zBQ ps k el (out && decide (h = 1)) 0 with
    | none => exact ⟨fun hh => (by cases hh), fun ⟨_, _, _, e, _, hh, _⟩ => (by cases hh)⟩
    | some y2 =>
     simp only
     by_cases hy : y1 = y2
     ·subst hy
      rw [if_pos rfl]
      constructor
      ·intro hh
       have := zA9 hh
       exact ⟨hf.1, hf.2, h1, y1, rfl, rfl, by omega, by omega⟩
      ·rintro ⟨_, _, _, e, g1, _, g2, rfl⟩
       simp only [Option.some.injEq] at g1
       subst g1
       exact chg_t (by omega) g2
     ·rw [if_neg hy]
      exact ⟨fun hh => (by cases hh), fun ⟨_, _, _, e, g1, g2, _⟩ => by simp only [Option.some.injEq] at g1 g2; omega⟩
  ·rw [if_neg h1]
   exact ⟨fun hh => (by cases hh), fun hh => absurd hh.2.2.1 h1⟩
 ·rw [if_neg fun hh => hf (hff.1 hh)]
  exact ⟨fun hh => (by cases hh), fun hh => absurd ⟨hh.1, hh.2.1⟩ hf⟩
theorem eff19 : zBR ps k (.mk 19 a b bd el) out h = some h' ↔ a = 0 ∧ b = 0 ∧ out = true ∧ h = 0 ∧ zBQ ps k el false 0 = some 1 ∧ zBQ ps k bd true 0 = some 0 ∧ h' = h := by
 simp only [zBR, show ¬ (19 : Int) = 18 by omega, if_true, if_false]
 have hff : zV (ps.getD k default).slots 19 a b (bd.isEmpty && el.isEmpty) ↔ a = 0 ∧ b = 0 := by
  unfold zV
  constructor
  ·intro hh; omega
  ·intro hh
   refine ⟨?_, ?_, ?_, ?_, ?_, ?_, ?_, ?_⟩ <;> first | omega | (intro h1; omega)
 by_cases hf : a = 0 ∧ b = 0
 ·rw [if_pos (hff.2 hf)]
  split
  ·rename_i hc
   simp only [Option.some.injEq]
   exact ⟨fun hh => ⟨hf.1, hf.2, hc.1, hc.2.1, hc.2.2.1, hc.2.2.2, hh.symm⟩, fun hh => hh.2.2.2.2.2.2.symm⟩
  ·rename_i hc
   exact ⟨fun hh => (by cases hh), fun hh => absurd ⟨hh.2.2.1, hh.2.2.2.1, hh.2.2.2.2.1, hh.2.2.2.2.2.1⟩ hc⟩
 ·rw [if_neg fun hh => hf (hff.1 hh)]
  exact ⟨fun hh => (by cases hh), fun hh => absurd ⟨hh.1, hh.2.1⟩ hf⟩
theorem eff20 : zBR ps k (.mk 20 a b bd el) out h = some h' ↔ b = 0 ∧ (bd.length = 0 ∧ el.length = 0) ∧ (0 ≤ a ∧ a < k) ∧ (ps.getD a.toNat default).par ≤ h ∧ h + (outsN (ps.getD a.toNat default) - (ps.getD a.toNat default).par) ≤ 1024 ∧ h' = h + (outsN (ps.getD a.toNat default) - (ps.getD a.toNat default).par) := by
 simp only [zBR, show ¬ (20 : Int) = 18 by omega, show ¬ (20 : Int) = 19 by omega, if_true, if_false]
 have hff : zV (ps.getD k default).slots 20 a b (bd.isEmpty && el.isEmpty) ↔ b = 0 ∧ (bd.length = 0 ∧ el.length = 0) := by
  unfold zV
  rw [zAx, decide_eq_true_eq]
  constructor
  ·intro hh; omega
  ·intro hh
   refine ⟨?_, ?_, ?_, ?_, ?_, ?_, ?_, ?_⟩ <;> first | omega | (intro h1; omega)
 have hes : effS ps k 20 a out h = if 0 ≤ a ∧ a < k then chg h (ps.getD a.toNat default).par (outsN (ps.getD a.toNat default) - (ps.getD a.toNat default).par) else none := by
  unfold effS
  rw [if_neg (by omega), if_neg (by omega), if_neg (by omega), if_neg (by omega), if_pos rfl]
 rw [hes]
 by_cases hf : b = 0 ∧ (bd.length = 0 ∧ el.length = 0)
 ·rw [if_pos (hff.2 hf)]
  split
  ·rename_i ha
   constructor
   ·intro hh
    have := zA9 hh
    exact ⟨hf.1, hf.2, ha, by omega, by omega, by omega⟩
   ·rintro ⟨_, _, _, g1, g2, rfl⟩
    exact chg_t g1 g2
  ·rename_i ha
   exact ⟨fun hh => (by cases hh), fun hh => absurd hh.2.2.1 ha⟩
 ·rw [if_neg fun hh => hf (hff.1 hh)]
  exact ⟨fun hh => (by cases hh), fun hh => absurd ⟨hh.1, hh.2.1⟩ hf⟩
theorem eff21 : zBR ps k (.mk 21 a b bd el) out h = some h' ↔ (a = 0 ∧ b = 0) ∧ (bd.length = 0 ∧ el.length = 0) ∧ out = true ∧ h = max (ps.getD k default).res 0 ∧ h' = 0 := by
 simp only [zBR, show ¬ (21 : Int) = 18 by omega, show ¬ (21 : Int) = 19 by omega, if_true, if_false]
 have hff : zV (ps.getD k default).slots 21 a b (bd.isEmpty && el.isEmpty) ↔ (a = 0 ∧ b = 0) ∧ (bd.length = 0 ∧ el.length = 0) := by
  unfold zV
  rw [zAx, decide_eq_true_eq]
  constructor
  ·intro hh; omega
  ·intro hh
   refine ⟨?_, ?_, ?_, ?_, ?_, ?_, ?_, ?_⟩ <;> first | omega | (intro h1; omega)
 have hes : effS ps k 21 a out h = if out = true ∧ h = max (ps.getD k default).res 0 then chg h 0 (-h) else none := by
  unfold effS
  rw [if_neg (by omega), if_neg (by omega), if_neg (by omega), if_neg (by omega), if_neg (by omega), if_pos rfl]
 rw [hes]
 by_cases hf : (a = 0 ∧ b = 0) ∧ (bd.length = 0 ∧ el.length = 0)
 ·rw [if_pos (hff.2 hf)]
  split
  ·rename_i ha
   constructor
   ·intro hh
    have := zA9 hh
    exact ⟨hf.1, hf.2, ha.1, ha.2, by omega⟩
   ·rintro ⟨_, _, _, g1, rfl⟩
    rw [chg_t (by omega) (by omega)]
    congr 1; omega
  ·rename_i ha
   exact ⟨fun hh => (by cases hh), fun hh => absurd ⟨hh.2.2.1, hh.2.2.2.1⟩ ha⟩
 ·rw [if_neg fun hh => hf (hff.1 hh)]
  exact ⟨fun hh => (by cases hh), fun hh => absurd ⟨hh.1, hh.2.1⟩ hf⟩
end
section
variable {ps : List Pr} {k : Nat} {l : List Ins} {out : Bool} {level c : Int} {r : Nat} {G : zB}
structure EfI (ps : List Pr) (k : Nat) (l : List Ins) (out : Bool) (level c : Int) (r : Nat) (G : zB) (j : Nat) (h : Int) (e' : Env) (G' : zB) : Prop where
 e0 : e' 0 = .ptr r 0 0
 e2 : e' 2 = bool out
 e3 : e' 3 = int level
 e9 : e' 9 = .ptr G.length 0 0
 e10 : e' 10 = .ptr (G.length + 1) 0 0
 e11 : e' 11 = .fn (.func 177) [] [.ptr (G.length + 1) 0 0]
 e12 : e' 12 = .fn (.func 178) [] [.ptr G.length 0 0]
 e42 : e' 42 = .sl 5 (l.map zAF)
 e43 : e' 43 = int l.length
 e44 : e' 44 = int j
 gr : G'[r]? = some (.box [zBm ps, int k, int (c + zK (l.take j))])
 g9 : G'[G.length]? = some (.box (prR (ps.getD k default)))
 g10 : G'[G.length + 1]? = some (.box [int h])
 fr : Fr1 r G G'
 gl : G.length + 2 ≤ G'.length
 hj : j ≤ l.length
 hh : 0 ≤ h ∧ h ≤ 1024
 cc : c + zK (l.take j) ≤ 32768
 lv : level + zAC (l.take j) ≤ 257
 ef : zBQ ps k l out 0 = zBQ ps k (l.drop j) out h
theorem zBd {x : Ins} {j : Nat} (hlt : j < l.length) (hx : l.getD j default = x) {h : Int} (ef : zBQ ps k l out 0 = zBQ ps k (l.drop j) out h) (hn : (∀ h', ¬ zBR ps k x out h = some h') ∨ 32768 < c + zK (l.take j) + zBn x ∨ 257 < level + zCq x) : ¬ goodL ps k l out level c := by
 rintro ⟨⟨e, he⟩, h2, h3⟩
 rw [ef, zAT ps k hlt, hx] at he
 have hb := zAm l (j + 1)
 rw [zAi hlt, hx] at hb
 have hb2 := zAG l (j + 1)
 rw [zAH hlt, hx] at hb2
 rcases hn with hn | hn | hn
 ·cases hI : zBR ps k x out h with
  | none => rw [hI] at he; cases he
  | some h' => exact hn h' hI
 ·omega
 ·omega
end
theorem zAD (H : zB) : ACall Tryz.prog 127 [bool true] H fun x H' => x = .tup [] ∧ H' = H := by
 refine enter Tryz.func127 L127_ok (Nat.le_of_ble_eq_true rfl) ?_
 repeat' (simp -implicitDefEqProofs (disch := omega) only [L127, push_cast, ↓reduceIte, Nat.reduceAdd])
 simp [zAO]
theorem zA2 (H : zB) : ACallX Tryz.prog 127 [bool false] H (fun _ _ => False) fun z H' => z = wrongV ∧ H' = H :=
 (mustX false H).mono (fun _ _ h => by cases h.1) fun _ _ h => h.2
def MT (b : Bool) (H H' : zB) : Prop := b = true ∧ H' = H
def MF (b : Bool) (z : Value) (H H' : zB) : Prop := b = false ∧ z = wrongV ∧ H' = H
def NT (h n c : Int) (a : Nat) (G G' : zB) : Prop := (n ≤ h ∧ h + c ≤ 1024) ∧ G' = G.set a (.box [int (h + c)])
def NF (h n c : Int) (a : Nat) (z : Value) (G G' : zB) : Prop := z = wrongV ∧ ¬ (n ≤ h ∧ h + c ≤ 1024) ∧ (G' = G ∨ G' = G.set a (.box [int (h + c)]))
theorem zCK (b : Bool) (H : zB) : ACallX Tryz.prog 127 [bool b] H (fun x H' => MT b H H') fun z H' => MF b z H H' := mustX b H
theorem zBY (h n c : Int) (hh : 0 ≤ h ∧ h ≤ 1024) (hc : -2048 ≤ c ∧ c ≤ 2048) (a : Nat) (G : zB) (hg : G[a]? = some (.box [int h])) :
  ACallX Tryz.prog 177 [int n, int c, .ptr a 0 0] G (fun _ G' => NT h n c a G G') fun z G' => NF h n c a z G G' := needX h n c hh hc a G hg
theorem zA3 {ps : List Pr} {k : Nat} {o a : Int} {out : Bool} {h : Int} : (o = 0 ∨ o = 1 → effS ps k o a out h = chg h 0 1) ∧ (o = 2 ∨ o = 22 → effS ps k o a out h = chg h 1 (-1)) ∧ (o = 3 ∨ o = 16 ∨ o = 17 → effS ps k o a out h = chg h 1 0) ∧ (o = 4 → effS ps k o a out h = chg h 2 (-2)) ∧ (5 ≤ o ∧ o ≤ 15 → effS ps k o a out h = chg h 2 (-1)) := by
 unfold effS
 refine ⟨fun ho => ?_, fun ho => ?_, fun ho => ?_, fun ho => ?_, fun ho => ?_⟩ <;> repeat (first | rw [if_pos (by omega)] | rw [if_neg (by omega)])
def RndP (ps : List Pr) (k : Nat) (l : List Ins) (out : Bool) (level c : Int) (r : Nat) (G : zB) (o : Int) : Prop := ∀ (j : Nat) (h : Int) (e' : Env) (G' : zB) (a b : Int) (bd el : List Ins), j < l.length → l.getD j default = .mk o a b bd el → zK l ≤ 1048576 → effP ps k bd → effP ps k el → r < G.length → 0 ≤ c → 1 ≤ level → level ≤ 256 → EfI ps k l out level c r G j h e' G' →
 zU Tryz.prog [.code (L131.body.sub [1, 1, 1, 1, 1, 1, 0, 1, 0, 0]), .lp (Nx (fun (st : Nat × Int) e' H' => EfI ps k l out level c r G st.1 st.2 e' H') (fun st => l.length - st.1) (j, h)), .blk 0, .code (L131.body.sub [1, 1, 1, 1, 1, 1, 1])] (retQX L131.res (fun x G' => ∃ e, x = int e ∧ zBQ ps k l out 0 = some e ∧ c + zK l ≤ 32768 ∧ level + zAC l ≤ 257 ∧ Fr1 r G G' ∧ G'[r]? = some (.box [zBm ps, int k, int (c + zK l)])) fun z G' => z = wrongV ∧ ¬ goodL ps k l out level c ∧ Fr1 r G G') .normal e' G'
set_option maxHeartbeats 8000000 in
theorem rnd_0 (ps : List Pr) (k : Nat) (hk : k < ps.length) (hps : ps.length ≤ 1048576) (hp : zBU ps k) (hh : zCD (ps.getD k default)) (l : List Ins) (out : Bool) (level c : Int) (r : Nat) (G : zB) : RndP ps k l out level c r G 0 := by
 intro j h e' G' a b bd el hlt hx hs hbd hel hrl hc0 hl0 hl1 ⟨e0, e2, e3, e9, e10, e11, e12, e42, e43, e44, gr, g9, g10, fr, gl, hj, hhh, cc, lv, ef⟩
 have hrow : (l.map zAF).getD j [] = [int 0, int a, int b, .sl 5 (bd.map zAF), .sl 5 (el.map zAF)] := by
  rw [zO hlt, hx]; simp [zAF, zAP]
 have hrl' := Nat.lt_of_lt_of_le hrl fr.1
 have hb := zAm l (j + 1)
 have hb2 := zAG l (j + 1)
 have hsn := zAi hlt
 have hsl := zAH hlt
 rw [hx] at hsn hsl
 simp only [zBn, zCq] at hsn hsl
 have hbl := zM bd
 have hell := zM el
 have hbv := zAb bd
 have helv := zAb el
 obtain ⟨q1, q2, q3, q4, q5, q6, q7, q8⟩ := hh
 have ef0 := ef
 rw [zAT ps k hlt, hx] at ef
 have fA : ∀ B b, Fr1 r G (G'.set r B ++ [b]) := fun B b => (fr.trans (Fr1.set B)).trans (Fr1.app _)
 have fB : ∀ B b X, Fr1 r G ((G'.set r B).set (G.length + 1) X ++ [b]) := fun B b X => ((fr.trans (Fr1.set B)).set' (i := G.length + 1) (by omega) X).trans (Fr1.app _)
 have hng : ((∀ h', ¬ zBR ps k (.mk 0 a b bd el) out h = some h') ∨ 32768 < c + zK (l.take j) + zBn (.mk 0 a b bd el) ∨ 257 < level + zCq (.mk 0 a b bd el)) → ¬ goodL ps k l out level c := zBd hlt hx ef0
 have hSr : ∀ B b, (G'.set r B ++ [b])[r]? = some B := fun B b => by rw [zC (by simpa using hrl'), zJ hrl']
 have hS9 : ∀ B b, (G'.set r B ++ [b])[G.length]? = some (.box (prR (ps.getD k default))) := fun B b => by rw [zC (by rw [List.length_set]; omega), zF (by omega)]; exact g9
 have hS10 : ∀ B b, (G'.set r B ++ [b])[G.length + 1]? = some (.box [int h]) := fun B b => by rw [zC (by rw [List.length_set]; omega), zF (by omega)]; exact g10
 have hSx : ∀ B b, (G'.set r B ++ [b])[G'.length]? = some b := fun B b => by rw [List.getElem?_append_right (by simp)]; simp
 have hTx : ∀ B b X, ((G'.set r B).set (G.length + 1) X ++ [b])[G'.length]? = some b := fun B b X => by rw [List.getElem?_append_right (by simp)]; simp
 have hln := zM l
 have he : effS ps k 0 a out h = chg h 0 1 := zA3.1 (by omega)
 have hes := fun h' => zBk (ps := ps) (k := k) (o := 0) (a := a) (b := b) (bd := bd) (el := el) (out := out) (h := h) (h' := h') (by omega) (by omega) he
 by_cases hcn : c + zK (l.take j) + 1 ≤ 32768
 ·cases hI : zBR ps k (.mk 0 a b bd el) out h with
  | some h' =>
   obtain ⟨hf, f1, f2, rfl⟩ := (hes h').1 hI
   rw [hI] at ef
   have hf' := hf
   unfold zV at hf
   rw [zAx, decide_eq_true_eq] at hf
   have hem : bd.length = 0 ∧ el.length = 0 := by omega
   have hz : zK bd = 0 ∧ zK el = 0 ∧ zAC bd = 0 ∧ zAC el = 0 := by
    rw [List.length_eq_zero_iff.1 hem.1, List.length_eq_zero_iff.1 hem.2]; exact ⟨rfl, rfl, rfl, rfl⟩
   have hd1 : 0 ≤ a ∧ a < (ps.getD k default).slots → decide (0 ≤ a ∧ a < (ps.getD k default).slots) = true := fun hh => decide_eq_true hh
   have hd2 : 0 ≤ a + b - 1 ∧ a + b - 1 < (ps.getD k default).slots → decide (0 ≤ a + b - 1 ∧ a + b - 1 < (ps.getD k default).slots) = true := fun hh => decide_eq_true hh
   repeat' (first | refine And.intro (by omega) ?_ | refine zD (zAD _) ?_ | simp -implicitDefEqProofs (disch := omega) only [e0, e11, e42, e43, e44, gr, hrow, zC, zI, splice, List.length_map, zAE, hSr, hSx, L131, LCode.sub, zQ, zAe, push_cast, simprocAttr, ↓reduceIte, Bool.and_self])
   refine zG (needX h 0 1 hhh (by omega) _ _ (hS10 _ _)) ?_ ?_
   ·rintro _ _ ⟨-, rfl⟩
    repeat' (first | refine zD (zAD _) ?_ | simp -implicitDefEqProofs (disch := omega) only [e44, zN, List.length_map, hTx, zAI, push_cast, simprocAttr, ↓reduceIte])
    exact .mk (j + 1, h + 1) ⟨e0, e2, e3, e9, e10, e11, e12, e42, e43, rfl, by rw [zC (by simp; omega), zF (by omega), zJ hrl', hsn]; simp only [hz, Nat.add_zero, Nat.zero_add]; push_cast; rw [Int.add_assoc], by rw [zC (by simp; omega), zF (by omega), zF (by omega)]; exact g9, by rw [zC (by simp; omega), zJ (by simp; omega)], fB _ _ _, by simp; omega, hlt, by dsimp only; omega, by dsimp only; rw [hsn]; omega, by dsimp only; rw [hsl]; omega, ef⟩ (by dsimp only; omega)
   ·rintro _ _ ⟨-, hn, -⟩
    exact absurd ⟨f1, f2⟩ hn
  | none =>
   have hn : ¬ (zV (ps.getD k default).slots 0 a b (bd.isEmpty && el.isEmpty) ∧ 0 ≤ h ∧ h + 1 ≤ 1024) := fun hh => by rw [(hes _).2 ⟨hh.1, hh.2.1, hh.2.2, rfl⟩] at hI; cases hI
   have ng := hng (.inl fun h' hh => by rw [hI] at hh; cases hh)
   unfold zV at hn
   rw [zAx, decide_eq_true_eq] at hn
   repeat' (first | intro y0 H2 h0; obtain ⟨hb, rfl⟩ : MT _ _ H2 := h0; (try (exfalso; contradiction)); (try simp only [decide_eq_true_eq] at hb) | intro z0 H2 h0; obtain ⟨hb, rfl, rfl⟩ : MF _ z0 _ H2 := h0; clear hb | intro y0 H2 h0; obtain ⟨hb, rfl⟩ : NT _ _ _ _ _ H2 := h0 | intro z0 H2 h0; obtain ⟨rfl, hb, rfl | rfl⟩ : NF _ _ _ _ z0 _ H2 := h0 | refine And.intro (by omega) ?_ | refine zG (zCK _ _) ?_ ?_ | refine zG (zBY h 0 1 hhh (by omega) _ _ (hS10 _ _)) ?_ ?_ | simp -implicitDefEqProofs (disch := omega) only [e0, e11, e42, e43, e44, gr, hrow, zC, zI, zN, splice, List.length_map, zAE, hSr, hSx, hTx, L131, LCode.sub, zQ, zAe, zAz, zAI, zAu, push_cast, simprocAttr, ↓reduceIte, Bool.and_self] | split)
   all_goals first | exact fA _ _ | exact fB _ _ _ | exact ⟨ng, fA _ _⟩ | exact ⟨rfl, ng, fA _ _⟩ | exact ⟨ng, fB _ _ _⟩ | exact ⟨rfl, ng, fB _ _ _⟩ | (exfalso; refine hn ⟨⟨?_, ?_, ?_, ?_, ?_, ?_, ?_, ?_⟩, ?_, ?_⟩ <;> first | omega | (intro h1; omega))
 ·repeat' (first | refine And.intro (by omega) ?_ | refine zL (zA2 _) ?_ | simp -implicitDefEqProofs (disch := omega) only [e0, e42, e43, e44, gr, hrow, zC, zI, splice, List.length_map, zAE, hSr, L131, LCode.sub, zQ, zAz, push_cast, simprocAttr, ↓reduceIte, Bool.and_self])
  exact ⟨hng (.inr (.inl (by simp only [zBn]; omega))), fA _ _⟩
set_option maxHeartbeats 8000000 in
theorem rnd_1 (ps : List Pr) (k : Nat) (hk : k < ps.length) (hps : ps.length ≤ 1048576) (hp : zBU ps k) (hh : zCD (ps.getD k default)) (l : List Ins) (out : Bool) (level c : Int) (r : Nat) (G : zB) : RndP ps k l out level c r G 1 := by
 intro j h e' G' a b bd el hlt hx hs hbd hel hrl hc0 hl0 hl1 ⟨e0, e2, e3, e9, e10, e11, e12, e42, e43, e44, gr, g9, g10, fr, gl, hj, hhh, cc, lv, ef⟩
 have hrow : (l.map zAF).getD j [] = [int 1, int a, int b, .sl 5 (bd.map zAF), .sl 5 (el.map zAF)] := by
  rw [zO hlt, hx]; simp [zAF, zAP]
 have hrl' := Nat.lt_of_lt_of_le hrl fr.1
 have hb := zAm l (j + 1)
 have hb2 := zAG l (j + 1)
 have hsn := zAi hlt
 have hsl := zAH hlt
 rw [hx] at hsn hsl
 simp only [zBn, zCq] at hsn hsl
 have hbl := zM bd
 have hell := zM el
 have hbv := zAb bd
 have helv := zAb el
 obtain ⟨q1, q2, q3, q4, q5, q6, q7, q8⟩ := hh
 have ef0 := ef
 rw [zAT ps k hlt, hx] at ef
 have fA : ∀ B b, Fr1 r G (G'.set r B ++ [b]) := fun B b => (fr.trans (Fr1.set B)).trans (Fr1.app _)
 have fB : ∀ B b X, Fr1 r G ((G'.set r B).set (G.length + 1) X ++ [b]) := fun B b X => ((fr.trans (Fr1.set B)).set' (i := G.length + 1) (by omega) X).trans (Fr1.app _)
 have hng : ((∀ h', ¬ zBR ps k (.mk 1 a b bd el) out h = some h') ∨ 32768 < c + zK (l.take j) + zBn (.mk 1 a b bd el) ∨ 257 < level + zCq (.mk 1 a b bd el)) → ¬ goodL ps k l out level c := zBd hlt hx ef0
 have hSr : ∀ B b, (G'.set r B ++ [b])[r]? = some B := fun B b => by rw [zC (by simpa using hrl'), zJ hrl']
 have hS9 : ∀ B b, (G'.set r B ++ [b])[G.length]? = some (.box (prR (ps.getD k default))) := fun B b => by rw [zC (by rw [List.length_set]; omega), zF (by omega)]; exact g9
 have hS10 : ∀ B b, (G'.set r B ++ [b])[G.length + 1]? = some (.box [int h]) := fun B b => by rw [zC (by rw [List.length_set]; omega), zF (by omega)]; exact g10
 have hSx : ∀ B b, (G'.set r B ++ [b])[G'.length]? = some b := fun B b => by rw [List.getElem?_append_right (by simp)]; simp
 have hTx : ∀ B b X, ((G'.set r B).set (G.length + 1) X ++ [b])[G'.length]? = some b := fun B b X => by rw [List.getElem?_append_right (by simp)]; simp
 have hln := zM l
 have he : effS ps k 1 a out h = chg h 0 1 := zA3.1 (by omega)
 have hes := fun h' => zBk (ps := ps) (k := k) (o := 1) (a := a) (b := b) (bd := bd) (el := el) (out := out) (h := h) (h' := h') (by omega) (by omega) he
 by_cases hcn : c + zK (l.take j) + 1 ≤ 32768
 ·cases hI : zBR ps k (.mk 1 a b bd el) out h with
  | some h' =>
   obtain ⟨hf, f1, f2, rfl⟩ := (hes h').1 hI
   rw [hI] at ef
   have hf' := hf
   unfold zV at hf
   rw [zAx, decide_eq_true_eq] at hf
   have hem : bd.length = 0 ∧ el.length = 0 := by omega
   have hz : zK bd = 0 ∧ zK el = 0 ∧ zAC bd = 0 ∧ zAC el = 0 := by
    rw [List.length_eq_zero_iff.1 hem.1, List.length_eq_zero_iff.1 hem.2]; exact ⟨rfl, rfl, rfl, rfl⟩
   have hd1 : 0 ≤ a ∧ a < (ps.getD k default).slots → decide (0 ≤ a ∧ a < (ps.getD k default).slots) = true := fun hh => decide_eq_true hh
   have hd2 : 0 ≤ a + b - 1 ∧ a + b - 1 < (ps.getD k default).slots → decide (0 ≤ a + b - 1 ∧ a + b - 1 < (ps.getD k default).slots) = true := fun hh => decide_eq_true hh
   have hd := hd1 (by omega)
   repeat' (first | refine And.intro (by omega) ?_ | refine zD (zAD _) ?_ | refine zD (zB7 a (ps.getD k default) G.length _ (hS9 _ _)) ?_ | simp -implicitDefEqProofs (disch := omega) only [e0, e11, e12, e42, e43, e44, gr, hrow, zC, zI, splice, List.length_map, zAE, hSr, hSx, L131, LCode.sub, hd, zQ, zAe, push_cast, simprocAttr, ↓reduceIte, Bool.and_self])
   refine zG (needX h 0 1 hhh (by omega) _ _ (hS10 _ _)) ?_ ?_
   ·rintro _ _ ⟨-, rfl⟩
    repeat' (first | refine zD (zAD _) ?_ | simp -implicitDefEqProofs (disch := omega) only [e44, zN, List.length_map, hTx, zAI, push_cast, simprocAttr, ↓reduceIte])
    exact .mk (j + 1, h + 1) ⟨e0, e2, e3, e9, e10, e11, e12, e42, e43, rfl, by rw [zC (by simp; omega), zF (by omega), zJ hrl', hsn]; simp only [hz, Nat.add_zero, Nat.zero_add]; push_cast; rw [Int.add_assoc], by rw [zC (by simp; omega), zF (by omega), zF (by omega)]; exact g9, by rw [zC (by simp; omega), zJ (by simp; omega)], fB _ _ _, by simp; omega, hlt, by dsimp only; omega, by dsimp only; rw [hsn]; omega, by dsimp only; rw [hsl]; omega, ef⟩ (by dsimp only; omega)
   ·rintro _ _ ⟨-, hn, -⟩
    exact absurd ⟨f1, f2⟩ hn
  | none =>
   have hn : ¬ (zV (ps.getD k default).slots 1 a b (bd.isEmpty && el.isEmpty) ∧ 0 ≤ h ∧ h + 1 ≤ 1024) := fun hh => by rw [(hes _).2 ⟨hh.1, hh.2.1, hh.2.2, rfl⟩] at hI; cases hI
   have ng := hng (.inl fun h' hh => by rw [hI] at hh; cases hh)
   unfold zV at hn
   rw [zAx, decide_eq_true_eq] at hn
   repeat' (first | intro y0 H2 h0; obtain ⟨hb, rfl⟩ : MT _ _ H2 := h0; (try (exfalso; contradiction)); (try simp only [decide_eq_true_eq] at hb) | intro z0 H2 h0; obtain ⟨hb, rfl, rfl⟩ : MF _ z0 _ H2 := h0; clear hb | intro y0 H2 h0; obtain ⟨hb, rfl⟩ : NT _ _ _ _ _ H2 := h0 | intro z0 H2 h0; obtain ⟨rfl, hb, rfl | rfl⟩ : NF _ _ _ _ z0 _ H2 := h0 | refine And.intro (by omega) ?_ | refine zD (zB7 a (ps.getD k default) G.length _ (hS9 _ _)) ?_ | refine zG (zCK _ _) ?_ ?_ | refine zG (zBY h 0 1 hhh (by omega) _ _ (hS10 _ _)) ?_ ?_ | simp -implicitDefEqProofs (disch := omega) only [e0, e11, e12, e42, e43, e44, gr, hrow, zC, zI, zN, splice, List.length_map, zAE, hSr, hSx, hTx, L131, LCode.sub, zQ, zAe, zAI, zAu, push_cast, simprocAttr, ↓reduceIte, Bool.and_self] | split)
   all_goals first | exact fA _ _ | exact fB _ _ _ | exact ⟨ng, fA _ _⟩ | exact ⟨rfl, ng, fA _ _⟩ | exact ⟨ng, fB _ _ _⟩ | exact ⟨rfl, ng, fB _ _ _⟩ | (exfalso; refine hn ⟨⟨?_, ?_, ?_, ?_, ?_, ?_, ?_, ?_⟩, ?_, ?_⟩ <;> first | omega | (intro h1; omega))
 ·repeat' (first | refine And.intro (by omega) ?_ | refine zL (zA2 _) ?_ | simp -implicitDefEqProofs (disch := omega) only [e0, e42, e43, e44, gr, hrow, zC, zI, splice, List.length_map, zAE, hSr, L131, LCode.sub, zQ, zAz, push_cast, simprocAttr, ↓reduceIte, Bool.and_self])
  exact ⟨hng (.inr (.inl (by simp only [zBn]; omega))), fA _ _⟩
set_option maxHeartbeats 8000000 in
theorem rnd_2 (ps : List Pr) (k : Nat) (hk : k < ps.length) (hps : ps.length ≤ 1048576) (hp : zBU ps k) (hh : zCD (ps.getD k default)) (l : List Ins) (out : Bool) (level c : Int) (r : Nat) (G : zB) : RndP ps k l out level c r G 2 := by
 intro j h e' G' a b bd el hlt hx hs hbd hel hrl hc0 hl0 hl1 ⟨e0, e2, e3, e9, e10, e11, e12, e42, e43, e44, gr, g9, g10, fr, gl, hj, hhh, cc, lv, ef⟩
 have hrow : (l.map zAF).getD j [] = [int 2, int a, int b, .sl 5 (bd.map zAF), .sl 5 (el.map zAF)] := by
  rw [zO hlt, hx]; simp [zAF, zAP]
 have hrl' := Nat.lt_of_lt_of_le hrl fr.1
 have hb := zAm l (j + 1)
 have hb2 := zAG l (j + 1)
 have hsn := zAi hlt
 have hsl := zAH hlt
 rw [hx] at hsn hsl
 simp only [zBn, zCq] at hsn hsl
 have hbl := zM bd
 have hell := zM el
 have hbv := zAb bd
 have helv := zAb el
 obtain ⟨q1, q2, q3, q4, q5, q6, q7, q8⟩ := hh
 have ef0 := ef
 rw [zAT ps k hlt, hx] at ef
 have fA : ∀ B b, Fr1 r G (G'.set r B ++ [b]) := fun B b => (fr.trans (Fr1.set B)).trans (Fr1.app _)
 have fB : ∀ B b X, Fr1 r G ((G'.set r B).set (G.length + 1) X ++ [b]) := fun B b X => ((fr.trans (Fr1.set B)).set' (i := G.length + 1) (by omega) X).trans (Fr1.app _)
 have hng : ((∀ h', ¬ zBR ps k (.mk 2 a b bd el) out h = some h') ∨ 32768 < c + zK (l.take j) + zBn (.mk 2 a b bd el) ∨ 257 < level + zCq (.mk 2 a b bd el)) → ¬ goodL ps k l out level c := zBd hlt hx ef0
 have hSr : ∀ B b, (G'.set r B ++ [b])[r]? = some B := fun B b => by rw [zC (by simpa using hrl'), zJ hrl']
 have hS9 : ∀ B b, (G'.set r B ++ [b])[G.length]? = some (.box (prR (ps.getD k default))) := fun B b => by rw [zC (by rw [List.length_set]; omega), zF (by omega)]; exact g9
 have hS10 : ∀ B b, (G'.set r B ++ [b])[G.length + 1]? = some (.box [int h]) := fun B b => by rw [zC (by rw [List.length_set]; omega), zF (by omega)]; exact g10
 have hSx : ∀ B b, (G'.set r B ++ [b])[G'.length]? = some b := fun B b => by rw [List.getElem?_append_right (by simp)]; simp
 have hTx : ∀ B b X, ((G'.set r B).set (G.length + 1) X ++ [b])[G'.length]? = some b := fun B b X => by rw [List.getElem?_append_right (by simp)]; simp
 have hln := zM l
 have he : effS ps k 2 a out h = chg h 1 (-1) := zA3.2.1 (by omega)
 have hes := fun h' => zBk (ps := ps) (k := k) (o := 2) (a := a) (b := b) (bd := bd) (el := el) (out := out) (h := h) (h' := h') (by omega) (by omega) he
 by_cases hcn : c + zK (l.take j) + 1 ≤ 32768
 ·cases hI : zBR ps k (.mk 2 a b bd el) out h with
  | some h' =>
   obtain ⟨hf, f1, f2, rfl⟩ := (hes h').1 hI
   rw [hI] at ef
   have hf' := hf
   unfold zV at hf
   rw [zAx, decide_eq_true_eq] at hf
   have hem : bd.length = 0 ∧ el.length = 0 := by omega
   have hz : zK bd = 0 ∧ zK el = 0 ∧ zAC bd = 0 ∧ zAC el = 0 := by
    rw [List.length_eq_zero_iff.1 hem.1, List.length_eq_zero_iff.1 hem.2]; exact ⟨rfl, rfl, rfl, rfl⟩
   have hd1 : 0 ≤ a ∧ a < (ps.getD k default).slots → decide (0 ≤ a ∧ a < (ps.getD k default).slots) = true := fun hh => decide_eq_true hh
   have hd2 : 0 ≤ a + b - 1 ∧ a + b - 1 < (ps.getD k default).slots → decide (0 ≤ a + b - 1 ∧ a + b - 1 < (ps.getD k default).slots) = true := fun hh => decide_eq_true hh
   have hd := hd1 (by omega)
   repeat' (first | refine And.intro (by omega) ?_ | refine zD (zAD _) ?_ | refine zD (zB7 a (ps.getD k default) G.length _ (hS9 _ _)) ?_ | simp -implicitDefEqProofs (disch := omega) only [e0, e11, e12, e42, e43, e44, gr, hrow, zC, zI, splice, List.length_map, zAE, hSr, hSx, L131, LCode.sub, hd, zQ, zAe, push_cast, simprocAttr, ↓reduceIte, Bool.and_self])
   refine zG (needX h 1 (-1) hhh (by omega) _ _ (hS10 _ _)) ?_ ?_
   ·rintro _ _ ⟨-, rfl⟩
    repeat' (first | refine zD (zAD _) ?_ | simp -implicitDefEqProofs (disch := omega) only [e44, zN, List.length_map, hTx, zAI, push_cast, simprocAttr, ↓reduceIte])
    exact .mk (j + 1, h + (-1)) ⟨e0, e2, e3, e9, e10, e11, e12, e42, e43, rfl, by rw [zC (by simp; omega), zF (by omega), zJ hrl', hsn]; simp only [hz, Nat.add_zero, Nat.zero_add]; push_cast; rw [Int.add_assoc], by rw [zC (by simp; omega), zF (by omega), zF (by omega)]; exact g9, by rw [zC (by simp; omega), zJ (by simp; omega)], fB _ _ _, by simp; omega, hlt, by dsimp only; omega, by dsimp only; rw [hsn]; omega, by dsimp only; rw [hsl]; omega, ef⟩ (by dsimp only; omega)
   ·rintro _ _ ⟨-, hn, -⟩
    exact absurd ⟨f1, f2⟩ hn
  | none =>
   have hn : ¬ (zV (ps.getD k default).slots 2 a b (bd.isEmpty && el.isEmpty) ∧ 1 ≤ h ∧ h + (-1) ≤ 1024) := fun hh => by rw [(hes _).2 ⟨hh.1, hh.2.1, hh.2.2, rfl⟩] at hI; cases hI
   have ng := hng (.inl fun h' hh => by rw [hI] at hh; cases hh)
   unfold zV at hn
   rw [zAx, decide_eq_true_eq] at hn
   repeat' (first | intro y0 H2 h0; obtain ⟨hb, rfl⟩ : MT _ _ H2 := h0; (try (exfalso; contradiction)); (try simp only [decide_eq_true_eq] at hb) | intro z0 H2 h0; obtain ⟨hb, rfl, rfl⟩ : MF _ z0 _ H2 := h0; clear hb | intro y0 H2 h0; obtain ⟨hb, rfl⟩ : NT _ _ _ _ _ H2 := h0 | intro z0 H2 h0; obtain ⟨rfl, hb, rfl | rfl⟩ : NF _ _ _ _ z0 _ H2 := h0 | refine And.intro (by omega) ?_ | refine zD (zB7 a (ps.getD k default) G.length _ (hS9 _ _)) ?_ | refine zG (zCK _ _) ?_ ?_ | refine zG (zBY h 1 (-1) hhh (by omega) _ _ (hS10 _ _)) ?_ ?_ | simp -implicitDefEqProofs (disch := omega) only [e0, e11, e12, e42, e43, e44, gr, hrow, zC, zI, zN, splice, List.length_map, zAE, hSr, hSx, hTx, L131, LCode.sub, zQ, zAe, zAI, zAu, push_cast, simprocAttr, ↓reduceIte, Bool.and_self] | split)
   all_goals first | exact fA _ _ | exact fB _ _ _ | exact ⟨ng, fA _ _⟩ | exact ⟨rfl, ng, fA _ _⟩ | exact ⟨ng, fB _ _ _⟩ | exact ⟨rfl, ng, fB _ _ _⟩ | (exfalso; refine hn ⟨⟨?_, ?_, ?_, ?_, ?_, ?_, ?_, ?_⟩, ?_, ?_⟩ <;> first | omega | (intro h1; omega))
 ·repeat' (first | refine And.intro (by omega) ?_ | refine zL (zA2 _) ?_ | simp -implicitDefEqProofs (disch := omega) only [e0, e42, e43, e44, gr, hrow, zC, zI, splice, List.length_map, zAE, hSr, L131, LCode.sub, zQ, zAz, push_cast, simprocAttr, ↓reduceIte, Bool.and_self])
  exact ⟨hng (.inr (.inl (by simp only [zBn]; omega))), fA _ _⟩
set_option maxHeartbeats 8000000 in
theorem rnd_22 (ps : List Pr) (k : Nat) (hk : k < ps.length) (hps : ps.length ≤ 1048576) (hp : zBU ps k) (hh : zCD (ps.getD k default)) (l : List Ins) (out : Bool) (level c : Int) (r : Nat) (G : zB) : RndP ps k l out level c r G 22 := by
 intro j h e' G' a b bd el hlt hx hs hbd hel hrl hc0 hl0 hl1 ⟨e0, e2, e3, e9, e10, e11, e12, e42, e43, e44, gr, g9, g10, fr, gl, hj, hhh, cc, lv, ef⟩
 have hrow : (l.map zAF).getD j [] = [int 22, int a, int b, .sl 5 (bd.map zAF), .sl 5 (el.map zAF)] := by
  rw [zO hlt, hx]; simp [zAF, zAP]
 have hrl' := Nat.lt_of_lt_of_le hrl fr.1
 have hb := zAm l (j + 1)
 have hb2 := zAG l (j + 1)
 have hsn := zAi hlt
 have hsl := zAH hlt
 rw [hx] at hsn hsl
 simp only [zBn, zCq] at hsn hsl
 have hbl := zM bd
 have hell := zM el
 have hbv := zAb bd
 have helv := zAb el
 obtain ⟨q1, q2, q3, q4, q5, q6, q7, q8⟩ := hh
 have ef0 := ef
 rw [zAT ps k hlt, hx] at ef
 have fA : ∀ B b, Fr1 r G (G'.set r B ++ [b]) := fun B b => (fr.trans (Fr1.set B)).trans (Fr1.app _)
 have fB : ∀ B b X, Fr1 r G ((G'.set r B).set (G.length + 1) X ++ [b]) := fun B b X => ((fr.trans (Fr1.set B)).set' (i := G.length + 1) (by omega) X).trans (Fr1.app _)
 have hng : ((∀ h', ¬ zBR ps k (.mk 22 a b bd el) out h = some h') ∨ 32768 < c + zK (l.take j) + zBn (.mk 22 a b bd el) ∨ 257 < level + zCq (.mk 22 a b bd el)) → ¬ goodL ps k l out level c := zBd hlt hx ef0
 have hSr : ∀ B b, (G'.set r B ++ [b])[r]? = some B := fun B b => by rw [zC (by simpa using hrl'), zJ hrl']
 have hS9 : ∀ B b, (G'.set r B ++ [b])[G.length]? = some (.box (prR (ps.getD k default))) := fun B b => by rw [zC (by rw [List.length_set]; omega), zF (by omega)]; exact g9
 have hS10 : ∀ B b, (G'.set r B ++ [b])[G.length + 1]? = some (.box [int h]) := fun B b => by rw [zC (by rw [List.length_set]; omega), zF (by omega)]; exact g10
 have hSx : ∀ B b, (G'.set r B ++ [b])[G'.length]? = some b := fun B b => by rw [List.getElem?_append_right (by simp)]; simp
 have hTx : ∀ B b X, ((G'.set r B).set (G.length + 1) X ++ [b])[G'.length]? = some b := fun B b X => by rw [List.getElem?_append_right (by simp)]; simp
 have hln := zM l
 have he : effS ps k 22 a out h = chg h 1 (-1) := zA3.2.1 (by omega)
 have hes := fun h' => zBk (ps := ps) (k := k) (o := 22) (a := a) (b := b) (bd := bd) (el := el) (out := out) (h := h) (h' := h') (by omega) (by omega) he
 by_cases hcn : c + zK (l.take j) + 1 ≤ 32768
 ·cases hI : zBR ps k (.mk 22 a b bd el) out h with
  | some h' =>
   obtain ⟨hf, f1, f2, rfl⟩ := (hes h').1 hI
   rw [hI] at ef
   have hf' := hf
   unfold zV at hf
   rw [zAx, decide_eq_true_eq] at hf
   have hem : bd.length = 0 ∧ el.length = 0 := by omega
   have hz : zK bd = 0 ∧ zK el = 0 ∧ zAC bd = 0 ∧ zAC el = 0 := by
    rw [List.length_eq_zero_iff.1 hem.1, List.length_eq_zero_iff.1 hem.2]; exact ⟨rfl, rfl, rfl, rfl⟩
   have hd1 : 0 ≤ a ∧ a < (ps.getD k default).slots → decide (0 ≤ a ∧ a < (ps.getD k default).slots) = true := fun hh => decide_eq_true hh
   have hd2 : 0 ≤ a + b - 1 ∧ a + b - 1 < (ps.getD k default).slots → decide (0 ≤ a + b - 1 ∧ a + b - 1 < (ps.getD k default).slots) = true := fun hh => decide_eq_true hh
   repeat' (first | refine And.intro (by omega) ?_ | refine zD (zAD _) ?_ | simp -implicitDefEqProofs (disch := omega) only [e0, e11, e42, e43, e44, gr, hrow, zC, zI, splice, List.length_map, zAE, hSr, hSx, L131, LCode.sub, zQ, zAe, push_cast, simprocAttr, ↓reduceIte, Bool.and_self])
   refine zG (needX h 1 (-1) hhh (by omega) _ _ (hS10 _ _)) ?_ ?_
   ·rintro _ _ ⟨-, rfl⟩
    repeat' (first | refine zD (zAD _) ?_ | simp -implicitDefEqProofs (disch := omega) only [e44, zN, List.length_map, hTx, zAI, push_cast, simprocAttr, ↓reduceIte])
    exact .mk (j + 1, h + (-1)) ⟨e0, e2, e3, e9, e10, e11, e12, e42, e43, rfl, by rw [zC (by simp; omega), zF (by omega), zJ hrl', hsn]; simp only [hz, Nat.add_zero, Nat.zero_add]; push_cast; rw [Int.add_assoc], by rw [zC (by simp; omega), zF (by omega), zF (by omega)]; exact g9, by rw [zC (by simp; omega), zJ (by simp; omega)], fB _ _ _, by simp; omega, hlt, by dsimp only; omega, by dsimp only; rw [hsn]; omega, by dsimp only; rw [hsl]; omega, ef⟩ (by dsimp only; omega)
   ·rintro _ _ ⟨-, hn, -⟩
    exact absurd ⟨f1, f2⟩ hn
  | none =>
   have hn : ¬ (zV (ps.getD k default).slots 22 a b (bd.isEmpty && el.isEmpty) ∧ 1 ≤ h ∧ h + (-1) ≤ 1024) := fun hh => by rw [(hes _).2 ⟨hh.1, hh.2.1, hh.2.2, rfl⟩] at hI; cases hI
   have ng := hng (.inl fun h' hh => by rw [hI] at hh; cases hh)
   unfold zV at hn
   rw [zAx, decide_eq_true_eq] at hn
   repeat' (first | intro y0 H2 h0; obtain ⟨hb, rfl⟩ : MT _ _ H2 := h0; (try (exfalso; contradiction)); (try simp only [] at hb) | intro z0 H2 h0; obtain ⟨hb, rfl, rfl⟩ : MF _ z0 _ H2 := h0; clear hb | intro y0 H2 h0; obtain ⟨hb, rfl⟩ : NT _ _ _ _ _ H2 := h0 | intro z0 H2 h0; obtain ⟨rfl, hb, rfl | rfl⟩ : NF _ _ _ _ z0 _ H2 := h0 | refine And.intro (by omega) ?_ | refine zG (zCK _ _) ?_ ?_ | refine zG (zBY h 1 (-1) hhh (by omega) _ _ (hS10 _ _)) ?_ ?_ | simp -implicitDefEqProofs (disch := omega) only [e0, e11, e42, e43, e44, gr, hrow, zC, zI, zN, splice, List.length_map, zAE, hSr, hSx, hTx, L131, LCode.sub, zQ, zAe, zAI, zAu, push_cast, simprocAttr, ↓reduceIte, Bool.and_self] | split)
   all_goals first | exact fA _ _ | exact fB _ _ _ | exact ⟨ng, fA _ _⟩ | exact ⟨rfl, ng, fA _ _⟩ | exact ⟨ng, fB _ _ _⟩ | exact ⟨rfl, ng, fB _ _ _⟩ | (exfalso; refine hn ⟨⟨?_, ?_, ?_, ?_, ?_, ?_, ?_, ?_⟩, ?_, ?_⟩ <;> first | omega | (intro h1; omega))
 ·repeat' (first | refine And.intro (by omega) ?_ | refine zL (zA2 _) ?_ | simp -implicitDefEqProofs (disch := omega) only [e0, e42, e43, e44, gr, hrow, zC, zI, splice, List.length_map, zAE, hSr, L131, LCode.sub, zQ, zAz, push_cast, simprocAttr, ↓reduceIte, Bool.and_self])
  exact ⟨hng (.inr (.inl (by simp only [zBn]; omega))), fA _ _⟩
set_option maxHeartbeats 8000000 in
theorem rnd_3 (ps : List Pr) (k : Nat) (hk : k < ps.length) (hps : ps.length ≤ 1048576) (hp : zBU ps k) (hh : zCD (ps.getD k default)) (l : List Ins) (out : Bool) (level c : Int) (r : Nat) (G : zB) : RndP ps k l out level c r G 3 := by
 intro j h e' G' a b bd el hlt hx hs hbd hel hrl hc0 hl0 hl1 ⟨e0, e2, e3, e9, e10, e11, e12, e42, e43, e44, gr, g9, g10, fr, gl, hj, hhh, cc, lv, ef⟩
 have hrow : (l.map zAF).getD j [] = [int 3, int a, int b, .sl 5 (bd.map zAF), .sl 5 (el.map zAF)] := by
  rw [zO hlt, hx]; simp [zAF, zAP]
 have hrl' := Nat.lt_of_lt_of_le hrl fr.1
 have hb := zAm l (j + 1)
 have hb2 := zAG l (j + 1)
 have hsn := zAi hlt
 have hsl := zAH hlt
 rw [hx] at hsn hsl
 simp only [zBn, zCq] at hsn hsl
 have hbl := zM bd
 have hell := zM el
 have hbv := zAb bd
 have helv := zAb el
 obtain ⟨q1, q2, q3, q4, q5, q6, q7, q8⟩ := hh
 have ef0 := ef
 rw [zAT ps k hlt, hx] at ef
 have fA : ∀ B b, Fr1 r G (G'.set r B ++ [b]) := fun B b => (fr.trans (Fr1.set B)).trans (Fr1.app _)
 have fB : ∀ B b X, Fr1 r G ((G'.set r B).set (G.length + 1) X ++ [b]) := fun B b X => ((fr.trans (Fr1.set B)).set' (i := G.length + 1) (by omega) X).trans (Fr1.app _)
 have hng : ((∀ h', ¬ zBR ps k (.mk 3 a b bd el) out h = some h') ∨ 32768 < c + zK (l.take j) + zBn (.mk 3 a b bd el) ∨ 257 < level + zCq (.mk 3 a b bd el)) → ¬ goodL ps k l out level c := zBd hlt hx ef0
 have hSr : ∀ B b, (G'.set r B ++ [b])[r]? = some B := fun B b => by rw [zC (by simpa using hrl'), zJ hrl']
 have hS9 : ∀ B b, (G'.set r B ++ [b])[G.length]? = some (.box (prR (ps.getD k default))) := fun B b => by rw [zC (by rw [List.length_set]; omega), zF (by omega)]; exact g9
 have hS10 : ∀ B b, (G'.set r B ++ [b])[G.length + 1]? = some (.box [int h]) := fun B b => by rw [zC (by rw [List.length_set]; omega), zF (by omega)]; exact g10
 have hSx : ∀ B b, (G'.set r B ++ [b])[G'.length]? = some b := fun B b => by rw [List.getElem?_append_right (by simp)]; simp
 have hTx : ∀ B b X, ((G'.set r B).set (G.length + 1) X ++ [b])[G'.length]? = some b := fun B b X => by rw [List.getElem?_append_right (by simp)]; simp
 have hln := zM l
 have he : effS ps k 3 a out h = chg h 1 0 := zA3.2.2.1 (by omega)
 have hes := fun h' => zBk (ps := ps) (k := k) (o := 3) (a := a) (b := b) (bd := bd) (el := el) (out := out) (h := h) (h' := h') (by omega) (by omega) he
 by_cases hcn : c + zK (l.take j) + 1 ≤ 32768
 ·cases hI : zBR ps k (.mk 3 a b bd el) out h with
  | some h' =>
   obtain ⟨hf, f1, f2, rfl⟩ := (hes h').1 hI
   rw [hI] at ef
   have hf' := hf
   unfold zV at hf
   rw [zAx, decide_eq_true_eq] at hf
   have hem : bd.length = 0 ∧ el.length = 0 := by omega
   have hz : zK bd = 0 ∧ zK el = 0 ∧ zAC bd = 0 ∧ zAC el = 0 := by
    rw [List.length_eq_zero_iff.1 hem.1, List.length_eq_zero_iff.1 hem.2]; exact ⟨rfl, rfl, rfl, rfl⟩
   have hd1 : 0 ≤ a ∧ a < (ps.getD k default).slots → decide (0 ≤ a ∧ a < (ps.getD k default).slots) = true := fun hh => decide_eq_true hh
   have hd2 : 0 ≤ a + b - 1 ∧ a + b - 1 < (ps.getD k default).slots → decide (0 ≤ a + b - 1 ∧ a + b - 1 < (ps.getD k default).slots) = true := fun hh => decide_eq_true hh
   have hd := hd1 (by omega)
   have hd' := hd2 (by omega)
   repeat' (first | refine And.intro (by omega) ?_ | refine zD (zAD _) ?_ | refine zD (zB7 a (ps.getD k default) G.length _ (hS9 _ _)) ?_ | refine zD (zB7 (a + b - 1) (ps.getD k default) G.length _ (hS9 _ _)) ?_ | simp -implicitDefEqProofs (disch := omega) only [e0, e9, e11, e12, e42, e43, e44, gr, hrow, zC, zI, splice, zCY, zAW, List.length_map, zAE, hSr, hS9, hSx, L131, LCode.sub, hd, hd', zQ, zAe, push_cast, simprocAttr, ↓reduceIte, Bool.and_self])
   refine zG (needX h 1 0 hhh (by omega) _ _ (hS10 _ _)) ?_ ?_
   ·rintro _ _ ⟨-, rfl⟩
    repeat' (first | refine zD (zAD _) ?_ | simp -implicitDefEqProofs (disch := omega) only [e44, zN, List.length_map, hTx, zAI, push_cast, simprocAttr, ↓reduceIte])
    exact .mk (j + 1, h + 0) ⟨e0, e2, e3, e9, e10, e11, e12, e42, e43, rfl, by rw [zC (by simp; omega), zF (by omega), zJ hrl', hsn]; simp only [hz, Nat.add_zero, Nat.zero_add]; push_cast; rw [Int.add_assoc], by rw [zC (by simp; omega), zF (by omega), zF (by omega)]; exact g9, by rw [zC (by simp; omega), zJ (by simp; omega)], fB _ _ _, by simp; omega, hlt, by dsimp only; omega, by dsimp only; rw [hsn]; omega, by dsimp only; rw [hsl]; omega, ef⟩ (by dsimp only; omega)
   ·rintro _ _ ⟨-, hn, -⟩
    exact absurd ⟨f1, f2⟩ hn
  | none =>
   have hn : ¬ (zV (ps.getD k default).slots 3 a b (bd.isEmpty && el.isEmpty) ∧ 1 ≤ h ∧ h + 0 ≤ 1024) := fun hh => by rw [(hes _).2 ⟨hh.1, hh.2.1, hh.2.2, rfl⟩] at hI; cases hI
   have ng := hng (.inl fun h' hh => by rw [hI] at hh; cases hh)
   unfold zV at hn
   rw [zAx, decide_eq_true_eq] at hn
   repeat' (first | intro y0 H2 h0; obtain ⟨hb, rfl⟩ : MT _ _ H2 := h0; (try (exfalso; contradiction)); (try simp only [decide_eq_true_eq] at hb) | intro z0 H2 h0; obtain ⟨hb, rfl, rfl⟩ : MF _ z0 _ H2 := h0; clear hb | intro y0 H2 h0; obtain ⟨hb, rfl⟩ : NT _ _ _ _ _ H2 := h0 | intro z0 H2 h0; obtain ⟨rfl, hb, rfl | rfl⟩ : NF _ _ _ _ z0 _ H2 := h0 | refine And.intro (by omega) ?_ | refine zD (zB7 a (ps.getD k default) G.length _ (hS9 _ _)) ?_ | refine zD (zB7 (a + b - 1) (ps.getD k default) G.length _ (hS9 _ _)) ?_ | refine zG (zCK _ _) ?_ ?_ | refine zG (zBY h 1 0 hhh (by omega) _ _ (hS10 _ _)) ?_ ?_ | simp -implicitDefEqProofs (disch := omega) only [e0, e9, e11, e12, e42, e43, e44, gr, hrow, zC, zI, zN, splice, zCY, zAW, List.length_map, zAE, hSr, hS9, hSx, hTx, L131, LCode.sub, zQ, zAe, zAz, zAI, zAu, push_cast, simprocAttr, ↓reduceIte, Bool.and_self] | split)
   all_goals first | exact fA _ _ | exact fB _ _ _ | exact ⟨ng, fA _ _⟩ | exact ⟨rfl, ng, fA _ _⟩ | exact ⟨ng, fB _ _ _⟩ | exact ⟨rfl, ng, fB _ _ _⟩ | (exfalso; refine hn ⟨⟨?_, ?_, ?_, ?_, ?_, ?_, ?_, ?_⟩, ?_, ?_⟩ <;> first | omega | (intro h1; omega))
 ·repeat' (first | refine And.intro (by omega) ?_ | refine zL (zA2 _) ?_ | simp -implicitDefEqProofs (disch := omega) only [e0, e42, e43, e44, gr, hrow, zC, zI, splice, List.length_map, zAE, hSr, L131, LCode.sub, zQ, zAz, push_cast, simprocAttr, ↓reduceIte, Bool.and_self])
  exact ⟨hng (.inr (.inl (by simp only [zBn]; omega))), fA _ _⟩
set_option maxHeartbeats 8000000 in
theorem rnd_4 (ps : List Pr) (k : Nat) (hk : k < ps.length) (hps : ps.length ≤ 1048576) (hp : zBU ps k) (hh : zCD (ps.getD k default)) (l : List Ins) (out : Bool) (level c : Int) (r : Nat) (G : zB) : RndP ps k l out level c r G 4 := by
 intro j h e' G' a b bd el hlt hx hs hbd hel hrl hc0 hl0 hl1 ⟨e0, e2, e3, e9, e10, e11, e12, e42, e43, e44, gr, g9, g10, fr, gl, hj, hhh, cc, lv, ef⟩
 have hrow : (l.map zAF).getD j [] = [int 4, int a, int b, .sl 5 (bd.map zAF), .sl 5 (el.map zAF)] := by
  rw [zO hlt, hx]; simp [zAF, zAP]
 have hrl' := Nat.lt_of_lt_of_le hrl fr.1
 have hb := zAm l (j + 1)
 have hb2 := zAG l (j + 1)
 have hsn := zAi hlt
 have hsl := zAH hlt
 rw [hx] at hsn hsl
 simp only [zBn, zCq] at hsn hsl
 have hbl := zM bd
 have hell := zM el
 have hbv := zAb bd
 have helv := zAb el
 obtain ⟨q1, q2, q3, q4, q5, q6, q7, q8⟩ := hh
 have ef0 := ef
 rw [zAT ps k hlt, hx] at ef
 have fA : ∀ B b, Fr1 r G (G'.set r B ++ [b]) := fun B b => (fr.trans (Fr1.set B)).trans (Fr1.app _)
 have fB : ∀ B b X, Fr1 r G ((G'.set r B).set (G.length + 1) X ++ [b]) := fun B b X => ((fr.trans (Fr1.set B)).set' (i := G.length + 1) (by omega) X).trans (Fr1.app _)
 have hng : ((∀ h', ¬ zBR ps k (.mk 4 a b bd el) out h = some h') ∨ 32768 < c + zK (l.take j) + zBn (.mk 4 a b bd el) ∨ 257 < level + zCq (.mk 4 a b bd el)) → ¬ goodL ps k l out level c := zBd hlt hx ef0
 have hSr : ∀ B b, (G'.set r B ++ [b])[r]? = some B := fun B b => by rw [zC (by simpa using hrl'), zJ hrl']
 have hS9 : ∀ B b, (G'.set r B ++ [b])[G.length]? = some (.box (prR (ps.getD k default))) := fun B b => by rw [zC (by rw [List.length_set]; omega), zF (by omega)]; exact g9
 have hS10 : ∀ B b, (G'.set r B ++ [b])[G.length + 1]? = some (.box [int h]) := fun B b => by rw [zC (by rw [List.length_set]; omega), zF (by omega)]; exact g10
 have hSx : ∀ B b, (G'.set r B ++ [b])[G'.length]? = some b := fun B b => by rw [List.getElem?_append_right (by simp)]; simp
 have hTx : ∀ B b X, ((G'.set r B).set (G.length + 1) X ++ [b])[G'.length]? = some b := fun B b X => by rw [List.getElem?_append_right (by simp)]; simp
 have hln := zM l
 have he : effS ps k 4 a out h = chg h 2 (-2) := zA3.2.2.2.1 (by omega)
 have hes := fun h' => zBk (ps := ps) (k := k) (o := 4) (a := a) (b := b) (bd := bd) (el := el) (out := out) (h := h) (h' := h') (by omega) (by omega) he
 by_cases hcn : c + zK (l.take j) + 1 ≤ 32768
 ·cases hI : zBR ps k (.mk 4 a b bd el) out h with
  | some h' =>
   obtain ⟨hf, f1, f2, rfl⟩ := (hes h').1 hI
   rw [hI] at ef
   have hf' := hf
   unfold zV at hf
   rw [zAx, decide_eq_true_eq] at hf
   have hem : bd.length = 0 ∧ el.length = 0 := by omega
   have hz : zK bd = 0 ∧ zK el = 0 ∧ zAC bd = 0 ∧ zAC el = 0 := by
    rw [List.length_eq_zero_iff.1 hem.1, List.length_eq_zero_iff.1 hem.2]; exact ⟨rfl, rfl, rfl, rfl⟩
   have hd1 : 0 ≤ a ∧ a < (ps.getD k default).slots → decide (0 ≤ a ∧ a < (ps.getD k default).slots) = true := fun hh => decide_eq_true hh
   have hd2 : 0 ≤ a + b - 1 ∧ a + b - 1 < (ps.getD k default).slots → decide (0 ≤ a + b - 1 ∧ a + b - 1 < (ps.getD k default).slots) = true := fun hh => decide_eq_true hh
   have hd := hd1 (by omega)
   have hd' := hd2 (by omega)
   repeat' (first | refine And.intro (by omega) ?_ | refine zD (zAD _) ?_ | refine zD (zB7 a (ps.getD k default) G.length _ (hS9 _ _)) ?_ | refine zD (zB7 (a + b - 1) (ps.getD k default) G.length _ (hS9 _ _)) ?_ | simp -implicitDefEqProofs (disch := omega) only [e0, e9, e11, e12, e42, e43, e44, gr, hrow, zC, zI, splice, zCY, zAW, List.length_map, zAE, hSr, hS9, hSx, L131, LCode.sub, hd, hd', zQ, zAe, push_cast, simprocAttr, ↓reduceIte, Bool.and_self])
   refine zG (needX h 2 (-2) hhh (by omega) _ _ (hS10 _ _)) ?_ ?_
   ·rintro _ _ ⟨-, rfl⟩
    repeat' (first | refine zD (zAD _) ?_ | simp -implicitDefEqProofs (disch := omega) only [e44, zN, List.length_map, hTx, zAI, push_cast, simprocAttr, ↓reduceIte])
    exact .mk (j + 1, h + (-2)) ⟨e0, e2, e3, e9, e10, e11, e12, e42, e43, rfl, by rw [zC (by simp; omega), zF (by omega), zJ hrl', hsn]; simp only [hz, Nat.add_zero, Nat.zero_add]; push_cast; rw [Int.add_assoc], by rw [zC (by simp; omega), zF (by omega), zF (by omega)]; exact g9, by rw [zC (by simp; omega), zJ (by simp; omega)], fB _ _ _, by simp; omega, hlt, by dsimp only; omega, by dsimp only; rw [hsn]; omega, by dsimp only; rw [hsl]; omega, ef⟩ (by dsimp only; omega)
   ·rintro _ _ ⟨-, hn, -⟩
    exact absurd ⟨f1, f2⟩ hn
  | none =>
   have hn : ¬ (zV (ps.getD k default).slots 4 a b (bd.isEmpty && el.isEmpty) ∧ 2 ≤ h ∧ h + (-2) ≤ 1024) := fun hh => by rw [(hes _).2 ⟨hh.1, hh.2.1, hh.2.2, rfl⟩] at hI; cases hI
   have ng := hng (.inl fun h' hh => by rw [hI] at hh; cases hh)
   unfold zV at hn
   rw [zAx, decide_eq_true_eq] at hn
   repeat' (first | intro y0 H2 h0; obtain ⟨hb, rfl⟩ : MT _ _ H2 := h0; (try (exfalso; contradiction)); (try simp only [decide_eq_true_eq] at hb) | intro z0 H2 h0; obtain ⟨hb, rfl, rfl⟩ : MF _ z0 _ H2 := h0; clear hb | intro y0 H2 h0; obtain ⟨hb, rfl⟩ : NT _ _ _ _ _ H2 := h0 | intro z0 H2 h0; obtain ⟨rfl, hb, rfl | rfl⟩ : NF _ _ _ _ z0 _ H2 := h0 | refine And.intro (by omega) ?_ | refine zD (zB7 a (ps.getD k default) G.length _ (hS9 _ _)) ?_ | refine zD (zB7 (a + b - 1) (ps.getD k default) G.length _ (hS9 _ _)) ?_ | refine zG (zCK _ _) ?_ ?_ | refine zG (zBY h 2 (-2) hhh (by omega) _ _ (hS10 _ _)) ?_ ?_ | simp -implicitDefEqProofs (disch := omega) only [e0, e9, e11, e12, e42, e43, e44, gr, hrow, zC, zI, zN, splice, zCY, zAW, List.length_map, zAE, hSr, hS9, hSx, hTx, L131, LCode.sub, zQ, zAe, zAz, zAI, zAu, push_cast, simprocAttr, ↓reduceIte, Bool.and_self] | split)
   all_goals first | exact fA _ _ | exact fB _ _ _ | exact ⟨ng, fA _ _⟩ | exact ⟨rfl, ng, fA _ _⟩ | exact ⟨ng, fB _ _ _⟩ | exact ⟨rfl, ng, fB _ _ _⟩ | (exfalso; refine hn ⟨⟨?_, ?_, ?_, ?_, ?_, ?_, ?_, ?_⟩, ?_, ?_⟩ <;> first | omega | (intro h1; omega))
 ·repeat' (first | refine And.intro (by omega) ?_ | refine zL (zA2 _) ?_ | simp -implicitDefEqProofs (disch := omega) only [e0, e42, e43, e44, gr, hrow, zC, zI, splice, List.length_map, zAE, hSr, L131, LCode.sub, zQ, zAz, push_cast, simprocAttr, ↓reduceIte, Bool.and_self])
  exact ⟨hng (.inr (.inl (by simp only [zBn]; omega))), fA _ _⟩
set_option maxHeartbeats 8000000 in
theorem rnd_16 (ps : List Pr) (k : Nat) (hk : k < ps.length) (hps : ps.length ≤ 1048576) (hp : zBU ps k) (hh : zCD (ps.getD k default)) (l : List Ins) (out : Bool) (level c : Int) (r : Nat) (G : zB) : RndP ps k l out level c r G 16 := by
 intro j h e' G' a b bd el hlt hx hs hbd hel hrl hc0 hl0 hl1 ⟨e0, e2, e3, e9, e10, e11, e12, e42, e43, e44, gr, g9, g10, fr, gl, hj, hhh, cc, lv, ef⟩
 have hrow : (l.map zAF).getD j [] = [int 16, int a, int b, .sl 5 (bd.map zAF), .sl 5 (el.map zAF)] := by
  rw [zO hlt, hx]; simp [zAF, zAP]
 have hrl' := Nat.lt_of_lt_of_le hrl fr.1
 have hb := zAm l (j + 1)
 have hb2 := zAG l (j + 1)
 have hsn := zAi hlt
 have hsl := zAH hlt
 rw [hx] at hsn hsl
 simp only [zBn, zCq] at hsn hsl
 have hbl := zM bd
 have hell := zM el
 have hbv := zAb bd
 have helv := zAb el
 obtain ⟨q1, q2, q3, q4, q5, q6, q7, q8⟩ := hh
 have ef0 := ef
 rw [zAT ps k hlt, hx] at ef
 have fA : ∀ B b, Fr1 r G (G'.set r B ++ [b]) := fun B b => (fr.trans (Fr1.set B)).trans (Fr1.app _)
 have fB : ∀ B b X, Fr1 r G ((G'.set r B).set (G.length + 1) X ++ [b]) := fun B b X => ((fr.trans (Fr1.set B)).set' (i := G.length + 1) (by omega) X).trans (Fr1.app _)
 have hng : ((∀ h', ¬ zBR ps k (.mk 16 a b bd el) out h = some h') ∨ 32768 < c + zK (l.take j) + zBn (.mk 16 a b bd el) ∨ 257 < level + zCq (.mk 16 a b bd el)) → ¬ goodL ps k l out level c := zBd hlt hx ef0
 have hSr : ∀ B b, (G'.set r B ++ [b])[r]? = some B := fun B b => by rw [zC (by simpa using hrl'), zJ hrl']
 have hS9 : ∀ B b, (G'.set r B ++ [b])[G.length]? = some (.box (prR (ps.getD k default))) := fun B b => by rw [zC (by rw [List.length_set]; omega), zF (by omega)]; exact g9
 have hS10 : ∀ B b, (G'.set r B ++ [b])[G.length + 1]? = some (.box [int h]) := fun B b => by rw [zC (by rw [List.length_set]; omega), zF (by omega)]; exact g10
 have hSx : ∀ B b, (G'.set r B ++ [b])[G'.length]? = some b := fun B b => by rw [List.getElem?_append_right (by simp)]; simp
 have hTx : ∀ B b X, ((G'.set r B).set (G.length + 1) X ++ [b])[G'.length]? = some b := fun B b X => by rw [List.getElem?_append_right (by simp)]; simp
 have hln := zM l
 have he : effS ps k 16 a out h = chg h 1 0 := zA3.2.2.1 (by omega)
 have hes := fun h' => zBk (ps := ps) (k := k) (o := 16) (a := a) (b := b) (bd := bd) (el := el) (out := out) (h := h) (h' := h') (by omega) (by omega) he
 by_cases hcn : c + zK (l.take j) + 1 ≤ 32768
 ·cases hI : zBR ps k (.mk 16 a b bd el) out h with
  | some h' =>
   obtain ⟨hf, f1, f2, rfl⟩ := (hes h').1 hI
   rw [hI] at ef
   have hf' := hf
   unfold zV at hf
   rw [zAx, decide_eq_true_eq] at hf
   have hem : bd.length = 0 ∧ el.length = 0 := by omega
   have hz : zK bd = 0 ∧ zK el = 0 ∧ zAC bd = 0 ∧ zAC el = 0 := by
    rw [List.length_eq_zero_iff.1 hem.1, List.length_eq_zero_iff.1 hem.2]; exact ⟨rfl, rfl, rfl, rfl⟩
   have hd1 : 0 ≤ a ∧ a < (ps.getD k default).slots → decide (0 ≤ a ∧ a < (ps.getD k default).slots) = true := fun hh => decide_eq_true hh
   have hd2 : 0 ≤ a + b - 1 ∧ a + b - 1 < (ps.getD k default).slots → decide (0 ≤ a + b - 1 ∧ a + b - 1 < (ps.getD k default).slots) = true := fun hh => decide_eq_true hh
   repeat' (first | refine And.intro (by omega) ?_ | refine zD (zAD _) ?_ | simp -implicitDefEqProofs (disch := omega) only [e0, e11, e42, e43, e44, gr, hrow, zC, zI, splice, List.length_map, zAE, hSr, hSx, L131, LCode.sub, zQ, zAe, push_cast, simprocAttr, ↓reduceIte, Bool.and_self])
   refine zG (needX h 1 0 hhh (by omega) _ _ (hS10 _ _)) ?_ ?_
   ·rintro _ _ ⟨-, rfl⟩
    repeat' (first | refine zD (zAD _) ?_ | simp -implicitDefEqProofs (disch := omega) only [e44, zN, List.length_map, hTx, zAI, push_cast, simprocAttr, ↓reduceIte])
    exact .mk (j + 1, h + 0) ⟨e0, e2, e3, e9, e10, e11, e12, e42, e43, rfl, by rw [zC (by simp; omega), zF (by omega), zJ hrl', hsn]; simp only [hz, Nat.add_zero, Nat.zero_add]; push_cast; rw [Int.add_assoc], by rw [zC (by simp; omega), zF (by omega), zF (by omega)]; exact g9, by rw [zC (by simp; omega), zJ (by simp; omega)], fB _ _ _, by simp; omega, hlt, by dsimp only; omega, by dsimp only; rw [hsn]; omega, by dsimp only; rw [hsl]; omega, ef⟩ (by dsimp only; omega)
   ·rintro _ _ ⟨-, hn, -⟩
    exact absurd ⟨f1, f2⟩ hn
  | none =>
   have hn : ¬ (zV (ps.getD k default).slots 16 a b (bd.isEmpty && el.isEmpty) ∧ 1 ≤ h ∧ h + 0 ≤ 1024) := fun hh => by rw [(hes _).2 ⟨hh.1, hh.2.1, hh.2.2, rfl⟩] at hI; cases hI
   have ng := hng (.inl fun h' hh => by rw [hI] at hh; cases hh)
   unfold zV at hn
   rw [zAx, decide_eq_true_eq] at hn
   repeat' (first | intro y0 H2 h0; obtain ⟨hb, rfl⟩ : MT _ _ H2 := h0; (try (exfalso; contradiction)); (try simp only [] at hb) | intro z0 H2 h0; obtain ⟨hb, rfl, rfl⟩ : MF _ z0 _ H2 := h0; clear hb | intro y0 H2 h0; obtain ⟨hb, rfl⟩ : NT _ _ _ _ _ H2 := h0 | intro z0 H2 h0; obtain ⟨rfl, hb, rfl | rfl⟩ : NF _ _ _ _ z0 _ H2 := h0 | refine And.intro (by omega) ?_ | refine zG (zCK _ _) ?_ ?_ | refine zG (zBY h 1 0 hhh (by omega) _ _ (hS10 _ _)) ?_ ?_ | simp -implicitDefEqProofs (disch := omega) only [e0, e11, e42, e43, e44, gr, hrow, zC, zI, zN, splice, List.length_map, zAE, hSr, hSx, hTx, L131, LCode.sub, zQ, zAe, zAI, zAu, push_cast, simprocAttr, ↓reduceIte, Bool.and_self] | split)
   all_goals first | exact fA _ _ | exact fB _ _ _ | exact ⟨ng, fA _ _⟩ | exact ⟨rfl, ng, fA _ _⟩ | exact ⟨ng, fB _ _ _⟩ | exact ⟨rfl, ng, fB _ _ _⟩ | (exfalso; refine hn ⟨⟨?_, ?_, ?_, ?_, ?_, ?_, ?_, ?_⟩, ?_, ?_⟩ <;> first | omega | (intro h1; omega))
 ·repeat' (first | refine And.intro (by omega) ?_ | refine zL (zA2 _) ?_ | simp -implicitDefEqProofs (disch := omega) only [e0, e42, e43, e44, gr, hrow, zC, zI, splice, List.length_map, zAE, hSr, L131, LCode.sub, zQ, zAz, push_cast, simprocAttr, ↓reduceIte, Bool.and_self])
  exact ⟨hng (.inr (.inl (by simp only [zBn]; omega))), fA _ _⟩
set_option maxHeartbeats 8000000 in
theorem rnd_17 (ps : List Pr) (k : Nat) (hk : k < ps.length) (hps : ps.length ≤ 1048576) (hp : zBU ps k) (hh : zCD (ps.getD k default)) (l : List Ins) (out : Bool) (level c : Int) (r : Nat) (G : zB) : RndP ps k l out level c r G 17 := by
 intro j h e' G' a b bd el hlt hx hs hbd hel hrl hc0 hl0 hl1 ⟨e0, e2, e3, e9, e10, e11, e12, e42, e43, e44, gr, g9, g10, fr, gl, hj, hhh, cc, lv, ef⟩
 have hrow : (l.map zAF).getD j [] = [int 17, int a, int b, .sl 5 (bd.map zAF), .sl 5 (el.map zAF)] := by
  rw [zO hlt, hx]; simp [zAF, zAP]
 have hrl' := Nat.lt_of_lt_of_le hrl fr.1
 have hb := zAm l (j + 1)
 have hb2 := zAG l (j + 1)
 have hsn := zAi hlt
 have hsl := zAH hlt
 rw [hx] at hsn hsl
 simp only [zBn, zCq] at hsn hsl
 have hbl := zM bd
 have hell := zM el
 have hbv := zAb bd
 have helv := zAb el
 obtain ⟨q1, q2, q3, q4, q5, q6, q7, q8⟩ := hh
 have ef0 := ef
 rw [zAT ps k hlt, hx] at ef
 have fA : ∀ B b, Fr1 r G (G'.set r B ++ [b]) := fun B b => (fr.trans (Fr1.set B)).trans (Fr1.app _)
 have fB : ∀ B b X, Fr1 r G ((G'.set r B).set (G.length + 1) X ++ [b]) := fun B b X => ((fr.trans (Fr1.set B)).set' (i := G.length + 1) (by omega) X).trans (Fr1.app _)
 have hng : ((∀ h', ¬ zBR ps k (.mk 17 a b bd el) out h = some h') ∨ 32768 < c + zK (l.take j) + zBn (.mk 17 a b bd el) ∨ 257 < level + zCq (.mk 17 a b bd el)) → ¬ goodL ps k l out level c := zBd hlt hx ef0
 have hSr : ∀ B b, (G'.set r B ++ [b])[r]? = some B := fun B b => by rw [zC (by simpa using hrl'), zJ hrl']
 have hS9 : ∀ B b, (G'.set r B ++ [b])[G.length]? = some (.box (prR (ps.getD k default))) := fun B b => by rw [zC (by rw [List.length_set]; omega), zF (by omega)]; exact g9
 have hS10 : ∀ B b, (G'.set r B ++ [b])[G.length + 1]? = some (.box [int h]) := fun B b => by rw [zC (by rw [List.length_set]; omega), zF (by omega)]; exact g10
 have hSx : ∀ B b, (G'.set r B ++ [b])[G'.length]? = some b := fun B b => by rw [List.getElem?_append_right (by simp)]; simp
 have hTx : ∀ B b X, ((G'.set r B).set (G.length + 1) X ++ [b])[G'.length]? = some b := fun B b X => by rw [List.getElem?_append_right (by simp)]; simp
 have hln := zM l
 have he : effS ps k 17 a out h = chg h 1 0 := zA3.2.2.1 (by omega)
 have hes := fun h' => zBk (ps := ps) (k := k) (o := 17) (a := a) (b := b) (bd := bd) (el := el) (out := out) (h := h) (h' := h') (by omega) (by omega) he
 by_cases hcn : c + zK (l.take j) + 1 ≤ 32768
 ·cases hI : zBR ps k (.mk 17 a b bd el) out h with
  | some h' =>
   obtain ⟨hf, f1, f2, rfl⟩ := (hes h').1 hI
   rw [hI] at ef
   have hf' := hf
   unfold zV at hf
   rw [zAx, decide_eq_true_eq] at hf
   have hem : bd.length = 0 ∧ el.length = 0 := by omega
   have hz : zK bd = 0 ∧ zK el = 0 ∧ zAC bd = 0 ∧ zAC el = 0 := by
    rw [List.length_eq_zero_iff.1 hem.1, List.length_eq_zero_iff.1 hem.2]; exact ⟨rfl, rfl, rfl, rfl⟩
   have hd1 : 0 ≤ a ∧ a < (ps.getD k default).slots → decide (0 ≤ a ∧ a < (ps.getD k default).slots) = true := fun hh => decide_eq_true hh
   have hd2 : 0 ≤ a + b - 1 ∧ a + b - 1 < (ps.getD k default).slots → decide (0 ≤ a + b - 1 ∧ a + b - 1 < (ps.getD k default).slots) = true := fun hh => decide_eq_true hh
   repeat' (first | refine And.intro (by omega) ?_ | refine zD (zAD _) ?_ | simp -implicitDefEqProofs (disch := omega) only [e0, e11, e42, e43, e44, gr, hrow, zC, zI, splice, List.length_map, zAE, hSr, hSx, L131, LCode.sub, zQ, zAe, push_cast, simprocAttr, ↓reduceIte, Bool.and_self])
   refine zG (needX h 1 0 hhh (by omega) _ _ (hS10 _ _)) ?_ ?_
   ·rintro _ _ ⟨-, rfl⟩
    repeat' (first | refine zD (zAD _) ?_ | simp -implicitDefEqProofs (disch := omega) only [e44, zN, List.length_map, hTx, zAI, push_cast, simprocAttr, ↓reduceIte])
    exact .mk (j + 1, h + 0) ⟨e0, e2, e3, e9, e10, e11, e12, e42, e43, rfl, by rw [zC (by simp; omega), zF (by omega), zJ hrl', hsn]; simp only [hz, Nat.add_zero, Nat.zero_add]; push_cast; rw [Int.add_assoc], by rw [zC (by simp; omega), zF (by omega), zF (by omega)]; exact g9, by rw [zC (by simp; omega), zJ (by simp; omega)], fB _ _ _, by simp; omega, hlt, by dsimp only; omega, by dsimp only; rw [hsn]; omega, by dsimp only; rw [hsl]; omega, ef⟩ (by dsimp only; omega)
   ·rintro _ _ ⟨-, hn, -⟩
    exact absurd ⟨f1, f2⟩ hn
  | none =>
   have hn : ¬ (zV (ps.getD k default).slots 17 a b (bd.isEmpty && el.isEmpty) ∧ 1 ≤ h ∧ h + 0 ≤ 1024) := fun hh => by rw [(hes _).2 ⟨hh.1, hh.2.1, hh.2.2, rfl⟩] at hI; cases hI
   have ng := hng (.inl fun h' hh => by rw [hI] at hh; cases hh)
   unfold zV at hn
   rw [zAx, decide_eq_true_eq] at hn
   repeat' (first | intro y0 H2 h0; obtain ⟨hb, rfl⟩ : MT _ _ H2 := h0; (try (exfalso; contradiction)); (try simp only [] at hb) | intro z0 H2 h0; obtain ⟨hb, rfl, rfl⟩ : MF _ z0 _ H2 := h0; clear hb | intro y0 H2 h0; obtain ⟨hb, rfl⟩ : NT _ _ _ _ _ H2 := h0 | intro z0 H2 h0; obtain ⟨rfl, hb, rfl | rfl⟩ : NF _ _ _ _ z0 _ H2 := h0 | refine And.intro (by omega) ?_ | refine zG (zCK _ _) ?_ ?_ | refine zG (zBY h 1 0 hhh (by omega) _ _ (hS10 _ _)) ?_ ?_ | simp -implicitDefEqProofs (disch := omega) only [e0, e11, e42, e43, e44, gr, hrow, zC, zI, zN, splice, List.length_map, zAE, hSr, hSx, hTx, L131, LCode.sub, zQ, zAe, zAI, zAu, push_cast, simprocAttr, ↓reduceIte, Bool.and_self] | split)
   all_goals first | exact fA _ _ | exact fB _ _ _ | exact ⟨ng, fA _ _⟩ | exact ⟨rfl, ng, fA _ _⟩ | exact ⟨ng, fB _ _ _⟩ | exact ⟨rfl, ng, fB _ _ _⟩ | (exfalso; refine hn ⟨⟨?_, ?_, ?_, ?_, ?_, ?_, ?_, ?_⟩, ?_, ?_⟩ <;> first | omega | (intro h1; omega))
 ·repeat' (first | refine And.intro (by omega) ?_ | refine zL (zA2 _) ?_ | simp -implicitDefEqProofs (disch := omega) only [e0, e42, e43, e44, gr, hrow, zC, zI, splice, List.length_map, zAE, hSr, L131, LCode.sub, zQ, zAz, push_cast, simprocAttr, ↓reduceIte, Bool.and_self])
  exact ⟨hng (.inr (.inl (by simp only [zBn]; omega))), fA _ _⟩
set_option maxHeartbeats 8000000 in
theorem rnd_bin (ps : List Pr) (k : Nat) (hk : k < ps.length) (hps : ps.length ≤ 1048576) (hp : zBU ps k) (hh : zCD (ps.getD k default)) (l : List Ins) (out : Bool) (level c : Int) (r : Nat) (G : zB) (o : Int) (ho : 5 ≤ o ∧ o ≤ 15) : RndP ps k l out level c r G o := by
 intro j h e' G' a b bd el hlt hx hs hbd hel hrl hc0 hl0 hl1 ⟨e0, e2, e3, e9, e10, e11, e12, e42, e43, e44, gr, g9, g10, fr, gl, hj, hhh, cc, lv, ef⟩
 have hrow : (l.map zAF).getD j [] = [int o, int a, int b, .sl 5 (bd.map zAF), .sl 5 (el.map zAF)] := by
  rw [zO hlt, hx]; simp [zAF, zAP]
 have hrl' := Nat.lt_of_lt_of_le hrl fr.1
 have hb := zAm l (j + 1)
 have hb2 := zAG l (j + 1)
 have hsn := zAi hlt
 have hsl := zAH hlt
 rw [hx] at hsn hsl
 simp only [zBn, zCq] at hsn hsl
 have hbl := zM bd
 have hell := zM el
 have hbv := zAb bd
 have helv := zAb el
 obtain ⟨q1, q2, q3, q4, q5, q6, q7, q8⟩ := hh
 have ef0 := ef
 rw [zAT ps k hlt, hx] at ef
 have fA : ∀ B b, Fr1 r G (G'.set r B ++ [b]) := fun B b => (fr.trans (Fr1.set B)).trans (Fr1.app _)
 have fB : ∀ B b X, Fr1 r G ((G'.set r B).set (G.length + 1) X ++ [b]) := fun B b X => ((fr.trans (Fr1.set B)).set' (i := G.length + 1) (by omega) X).trans (Fr1.app _)
 have hng : ((∀ h', ¬ zBR ps k (.mk o a b bd el) out h = some h') ∨ 32768 < c + zK (l.take j) + zBn (.mk o a b bd el) ∨ 257 < level + zCq (.mk o a b bd el)) → ¬ goodL ps k l out level c := zBd hlt hx ef0
 have hSr : ∀ B b, (G'.set r B ++ [b])[r]? = some B := fun B b => by rw [zC (by simpa using hrl'), zJ hrl']
 have hS9 : ∀ B b, (G'.set r B ++ [b])[G.length]? = some (.box (prR (ps.getD k default))) := fun B b => by rw [zC (by rw [List.length_set]; omega), zF (by omega)]; exact g9
 have hS10 : ∀ B b, (G'.set r B ++ [b])[G.length + 1]? = some (.box [int h]) := fun B b => by rw [zC (by rw [List.length_set]; omega), zF (by omega)]; exact g10
 have hSx : ∀ B b, (G'.set r B ++ [b])[G'.length]? = some b := fun B b => by rw [List.getElem?_append_right (by simp)]; simp
 have hTx : ∀ B b X, ((G'.set r B).set (G.length + 1) X ++ [b])[G'.length]? = some b := fun B b X => by rw [List.getElem?_append_right (by simp)]; simp
 have hln := zM l
 have he : effS ps k o a out h = chg h 2 (-1) := zA3.2.2.2.2 ho
 have hes := fun h' => zBk (ps := ps) (k := k) (o := o) (a := a) (b := b) (bd := bd) (el := el) (out := out) (h := h) (h' := h') (by omega) (by omega) he
 by_cases hcn : c + zK (l.take j) + 1 ≤ 32768
 ·cases hI : zBR ps k (.mk o a b bd el) out h with
  | some h' =>
   obtain ⟨hf, f1, f2, rfl⟩ := (hes h').1 hI
   rw [hI] at ef
   have hf' := hf
   unfold zV at hf
   rw [zAx, decide_eq_true_eq] at hf
   have hem : bd.length = 0 ∧ el.length = 0 := by omega
   have hz : zK bd = 0 ∧ zK el = 0 ∧ zAC bd = 0 ∧ zAC el = 0 := by
    rw [List.length_eq_zero_iff.1 hem.1, List.length_eq_zero_iff.1 hem.2]; exact ⟨rfl, rfl, rfl, rfl⟩
   have hd1 : 0 ≤ a ∧ a < (ps.getD k default).slots → decide (0 ≤ a ∧ a < (ps.getD k default).slots) = true := fun hh => decide_eq_true hh
   have hd2 : 0 ≤ a + b - 1 ∧ a + b - 1 < (ps.getD k default).slots → decide (0 ≤ a + b - 1 ∧ a + b - 1 < (ps.getD k default).slots) = true := fun hh => decide_eq_true hh
   repeat' (first | refine And.intro (by omega) ?_ | refine zD (zAD _) ?_ | simp -implicitDefEqProofs (disch := omega) only [e0, e11, e42, e43, e44, gr, hrow, zC, zI, splice, List.length_map, zAE, hSr, hSx, L131, LCode.sub, zQ, zAe, zAu, push_cast, simprocAttr, ↓reduceIte, Bool.and_self])
   refine zG (needX h 2 (-1) hhh (by omega) _ _ (hS10 _ _)) ?_ ?_
   ·rintro _ _ ⟨-, rfl⟩
    repeat' (first | refine zD (zAD _) ?_ | simp -implicitDefEqProofs (disch := omega) only [e44, zN, List.length_map, hTx, zAI, push_cast, simprocAttr, ↓reduceIte])
    exact .mk (j + 1, h + (-1)) ⟨e0, e2, e3, e9, e10, e11, e12, e42, e43, rfl, by rw [zC (by simp; omega), zF (by omega), zJ hrl', hsn]; simp only [hz, Nat.add_zero, Nat.zero_add]; push_cast; rw [Int.add_assoc], by rw [zC (by simp; omega), zF (by omega), zF (by omega)]; exact g9, by rw [zC (by simp; omega), zJ (by simp; omega)], fB _ _ _, by simp; omega, hlt, by dsimp only; omega, by dsimp only; rw [hsn]; omega, by dsimp only; rw [hsl]; omega, ef⟩ (by dsimp only; omega)
   ·rintro _ _ ⟨-, hn, -⟩
    exact absurd ⟨f1, f2⟩ hn
  | none =>
   have hn : ¬ (zV (ps.getD k default).slots o a b (bd.isEmpty && el.isEmpty) ∧ 2 ≤ h ∧ h + (-1) ≤ 1024) := fun hh => by rw [(hes _).2 ⟨hh.1, hh.2.1, hh.2.2, rfl⟩] at hI; cases hI
   have ng := hng (.inl fun h' hh => by rw [hI] at hh; cases hh)
   unfold zV at hn
   rw [zAx, decide_eq_true_eq] at hn
   repeat' (first | intro y0 H2 h0; obtain ⟨hb, rfl⟩ : MT _ _ H2 := h0; (try (exfalso; contradiction)); (try simp only [] at hb) | intro z0 H2 h0; obtain ⟨hb, rfl, rfl⟩ : MF _ z0 _ H2 := h0; clear hb | intro y0 H2 h0; obtain ⟨hb, rfl⟩ : NT _ _ _ _ _ H2 := h0 | intro z0 H2 h0; obtain ⟨rfl, hb, rfl | rfl⟩ : NF _ _ _ _ z0 _ H2 := h0 | refine And.intro (by omega) ?_ | refine zG (zCK _ _) ?_ ?_ | refine zG (zBY h 2 (-1) hhh (by omega) _ _ (hS10 _ _)) ?_ ?_ | simp -implicitDefEqProofs (disch := omega) only [e0, e11, e42, e43, e44, gr, hrow, zC, zI, zN, splice, List.length_map, zAE, hSr, hSx, hTx, L131, LCode.sub, zQ, zAe, zAI, zAu, push_cast, simprocAttr, ↓reduceIte, Bool.and_self] | split)
   all_goals first | exact fA _ _ | exact fB _ _ _ | exact ⟨ng, fA _ _⟩ | exact ⟨rfl, ng, fA _ _⟩ | exact ⟨ng, fB _ _ _⟩ | exact ⟨rfl, ng, fB _ _ _⟩ | (exfalso; refine hn ⟨⟨?_, ?_, ?_, ?_, ?_, ?_, ?_, ?_⟩, ?_, ?_⟩ <;> first | omega | (intro h1; omega))
 ·repeat' (first | refine And.intro (by omega) ?_ | refine zL (zA2 _) ?_ | simp -implicitDefEqProofs (disch := omega) only [e0, e42, e43, e44, gr, hrow, zC, zI, splice, List.length_map, zAE, hSr, L131, LCode.sub, zQ, zAz, push_cast, simprocAttr, ↓reduceIte, Bool.and_self])
  exact ⟨hng (.inr (.inl (by simp only [zBn]; omega))), fA _ _⟩
set_option maxHeartbeats 8000000 in
theorem rnd_bad (ps : List Pr) (k : Nat) (hk : k < ps.length) (hps : ps.length ≤ 1048576) (hp : zBU ps k) (hh : zCD (ps.getD k default)) (l : List Ins) (out : Bool) (level c : Int) (r : Nat) (G : zB) (o : Int) (ho : o < 0 ∨ 22 < o) : RndP ps k l out level c r G o := by
 intro j h e' G' a b bd el hlt hx hs hbd hel hrl hc0 hl0 hl1 ⟨e0, e2, e3, e9, e10, e11, e12, e42, e43, e44, gr, g9, g10, fr, gl, hj, hhh, cc, lv, ef⟩
 have hrow : (l.map zAF).getD j [] = [int o, int a, int b, .sl 5 (bd.map zAF), .sl 5 (el.map zAF)] := by
  rw [zO hlt, hx]; simp [zAF, zAP]
 have hrl' := Nat.lt_of_lt_of_le hrl fr.1
 have hb := zAm l (j + 1)
 have hb2 := zAG l (j + 1)
 have hsn := zAi hlt
 have hsl := zAH hlt
 rw [hx] at hsn hsl
 simp only [zBn, zCq] at hsn hsl
 have hbl := zM bd
 have hell := zM el
 have hbv := zAb bd
 have helv := zAb el
 obtain ⟨q1, q2, q3, q4, q5, q6, q7, q8⟩ := hh
 have ef0 := ef
 rw [zAT ps k hlt, hx] at ef
 have fA : ∀ B b, Fr1 r G (G'.set r B ++ [b]) := fun B b => (fr.trans (Fr1.set B)).trans (Fr1.app _)
 have fB : ∀ B b X, Fr1 r G ((G'.set r B).set (G.length + 1) X ++ [b]) := fun B b X => ((fr.trans (Fr1.set B)).set' (i := G.length + 1) (by omega) X).trans (Fr1.app _)
 have hng : ((∀ h', ¬ zBR ps k (.mk o a b bd el) out h = some h') ∨ 32768 < c + zK (l.take j) + zBn (.mk o a b bd el) ∨ 257 < level + zCq (.mk o a b bd el)) → ¬ goodL ps k l out level c := zBd hlt hx ef0
 have hSr : ∀ B b, (G'.set r B ++ [b])[r]? = some B := fun B b => by rw [zC (by simpa using hrl'), zJ hrl']
 have hS9 : ∀ B b, (G'.set r B ++ [b])[G.length]? = some (.box (prR (ps.getD k default))) := fun B b => by rw [zC (by rw [List.length_set]; omega), zF (by omega)]; exact g9
 have hS10 : ∀ B b, (G'.set r B ++ [b])[G.length + 1]? = some (.box [int h]) := fun B b => by rw [zC (by rw [List.length_set]; omega), zF (by omega)]; exact g10
 have hSx : ∀ B b, (G'.set r B ++ [b])[G'.length]? = some b := fun B b => by rw [List.getElem?_append_right (by simp)]; simp
 have hTx : ∀ B b X, ((G'.set r B).set (G.length + 1) X ++ [b])[G'.length]? = some b := fun B b X => by rw [List.getElem?_append_right (by simp)]; simp
 have hln := zM l
 have hXr : ∀ B X, (G'.set r B ++ X)[r]? = some B := fun B X => by rw [zC (by simpa using hrl'), zJ hrl']
 have hX9 : ∀ B X, (G'.set r B ++ X)[G.length]? = some (.box (prR (ps.getD k default))) := fun B X => by rw [zC (by rw [List.length_set]; omega), zF (by omega)]; exact g9
 have hX10 : ∀ B X, (G'.set r B ++ X)[G.length + 1]? = some (.box [int h]) := fun B X => by rw [zC (by rw [List.length_set]; omega), zF (by omega)]; exact g10
 have hXx : ∀ B b X, (G'.set r B ++ b :: X)[G'.length]? = some b := fun B b X => by rw [List.getElem?_append_right (by simp)]; simp
 have hXy : ∀ B b d X, (G'.set r B ++ b :: d :: X)[G'.length + 1]? = some d := fun B b d X => by rw [List.getElem?_append_right (by simp)]; simp
 have hYr : ∀ B Y X, ((G'.set r B).set (G.length + 1) Y ++ X)[r]? = some B := fun B Y X => by rw [zC (by simpa using hrl'), zF (by omega), zJ hrl']
 have hY9 : ∀ B Y X, ((G'.set r B).set (G.length + 1) Y ++ X)[G.length]? = some (.box (prR (ps.getD k default))) := fun B Y X => by rw [zC (by simp; omega), zF (by omega), zF (by omega)]; exact g9
 have hY10 : ∀ B Y X, ((G'.set r B).set (G.length + 1) Y ++ X)[G.length + 1]? = some Y := fun B Y X => by rw [zC (by simp; omega), zJ (by simp; omega)]
 have hYx : ∀ B Y b X, ((G'.set r B).set (G.length + 1) Y ++ b :: X)[G'.length]? = some b := fun B Y b X => by rw [List.getElem?_append_right (by simp)]; simp
 have hXs : ∀ B b z Y, (G'.set r B ++ [b, z]).set (G'.length + 1) Y = G'.set r B ++ [b, Y] := fun B b z Y => by rw [List.set_append_right _ _ (by simp)]; simp
 have fX : ∀ B X, Fr1 r G (G'.set r B ++ X) := fun B X => (fr.trans (Fr1.set B)).trans (Fr1.app _)
 have fY : ∀ B Y X, Fr1 r G ((G'.set r B).set (G.length + 1) Y ++ X) := fun B Y X => ((fr.trans (Fr1.set B)).set' (i := G.length + 1) (by omega) Y).trans (Fr1.app _)
 by_cases hcn : c + zK (l.take j) + 1 ≤ 32768
 ·have ng := hng (.inl fun h' hh => by
   simp only [zBR] at hh
   rw [if_neg (by unfold zV; omega)] at hh
   cases hh)
  rcases ho with ho | ho
  ·repeat' (first | refine And.intro (by omega) ?_ | refine zD (zAD _) ?_ | refine zL (zA2 _) ?_ | simp -implicitDefEqProofs (disch := omega) only [e0, e42, e43, e44, gr, hrow, zC, zI, splice, List.length_map, zAE, hXr, hXx, L131, LCode.sub, zQ, zAe, zAz, zAu, push_cast, simprocAttr, ↓reduceIte, Bool.and_self])
   all_goals first | exact fX _ _ | exact ⟨ng, fX _ _⟩
  ·repeat' (first | refine And.intro (by omega) ?_ | refine zD (zAD _) ?_ | refine zL (zA2 _) ?_ | simp -implicitDefEqProofs (disch := omega) only [e0, e42, e43, e44, gr, hrow, zC, zI, splice, List.length_map, zAE, hXr, hXx, L131, LCode.sub, zQ, zAe, zAz, zAu, push_cast, simprocAttr, ↓reduceIte, Bool.and_self])
   all_goals first | exact fX _ _ | exact ⟨ng, fX _ _⟩
 ·repeat' (first | refine And.intro (by omega) ?_ | refine zL (zA2 _) ?_ | simp -implicitDefEqProofs (disch := omega) only [e0, e42, e43, e44, gr, hrow, zC, zI, splice, List.length_map, zAE, hXr, L131, LCode.sub, zQ, zAz, push_cast, simprocAttr, ↓reduceIte, Bool.and_self])
  exact ⟨hng (.inr (.inl (by simp only [zBn]; omega))), fX _ _⟩
set_option maxHeartbeats 8000000 in
theorem rnd_21 (ps : List Pr) (k : Nat) (hk : k < ps.length) (hps : ps.length ≤ 1048576) (hp : zBU ps k) (hh : zCD (ps.getD k default)) (l : List Ins) (out : Bool) (level c : Int) (r : Nat) (G : zB) : RndP ps k l out level c r G 21 := by
 intro j h e' G' a b bd el hlt hx hs hbd hel hrl hc0 hl0 hl1 ⟨e0, e2, e3, e9, e10, e11, e12, e42, e43, e44, gr, g9, g10, fr, gl, hj, hhh, cc, lv, ef⟩
 have hrow : (l.map zAF).getD j [] = [int 21, int a, int b, .sl 5 (bd.map zAF), .sl 5 (el.map zAF)] := by
  rw [zO hlt, hx]; simp [zAF, zAP]
 have hrl' := Nat.lt_of_lt_of_le hrl fr.1
 have hb := zAm l (j + 1)
 have hb2 := zAG l (j + 1)
 have hsn := zAi hlt
 have hsl := zAH hlt
 rw [hx] at hsn hsl
 simp only [zBn, zCq] at hsn hsl
 have hbl := zM bd
 have hell := zM el
 have hbv := zAb bd
 have helv := zAb el
 obtain ⟨q1, q2, q3, q4, q5, q6, q7, q8⟩ := hh
 have ef0 := ef
 rw [zAT ps k hlt, hx] at ef
 have fA : ∀ B b, Fr1 r G (G'.set r B ++ [b]) := fun B b => (fr.trans (Fr1.set B)).trans (Fr1.app _)
 have fB : ∀ B b X, Fr1 r G ((G'.set r B).set (G.length + 1) X ++ [b]) := fun B b X => ((fr.trans (Fr1.set B)).set' (i := G.length + 1) (by omega) X).trans (Fr1.app _)
 have hng : ((∀ h', ¬ zBR ps k (.mk 21 a b bd el) out h = some h') ∨ 32768 < c + zK (l.take j) + zBn (.mk 21 a b bd el) ∨ 257 < level + zCq (.mk 21 a b bd el)) → ¬ goodL ps k l out level c := zBd hlt hx ef0
 have hSr : ∀ B b, (G'.set r B ++ [b])[r]? = some B := fun B b => by rw [zC (by simpa using hrl'), zJ hrl']
 have hS9 : ∀ B b, (G'.set r B ++ [b])[G.length]? = some (.box (prR (ps.getD k default))) := fun B b => by rw [zC (by rw [List.length_set]; omega), zF (by omega)]; exact g9
 have hS10 : ∀ B b, (G'.set r B ++ [b])[G.length + 1]? = some (.box [int h]) := fun B b => by rw [zC (by rw [List.length_set]; omega), zF (by omega)]; exact g10
 have hSx : ∀ B b, (G'.set r B ++ [b])[G'.length]? = some b := fun B b => by rw [List.getElem?_append_right (by simp)]; simp
 have hTx : ∀ B b X, ((G'.set r B).set (G.length + 1) X ++ [b])[G'.length]? = some b := fun B b X => by rw [List.getElem?_append_right (by simp)]; simp
 have hln := zM l
 have hXr : ∀ B X, (G'.set r B ++ X)[r]? = some B := fun B X => by rw [zC (by simpa using hrl'), zJ hrl']
 have hX9 : ∀ B X, (G'.set r B ++ X)[G.length]? = some (.box (prR (ps.getD k default))) := fun B X => by rw [zC (by rw [List.length_set]; omega), zF (by omega)]; exact g9
 have hX10 : ∀ B X, (G'.set r B ++ X)[G.length + 1]? = some (.box [int h]) := fun B X => by rw [zC (by rw [List.length_set]; omega), zF (by omega)]; exact g10
 have hXx : ∀ B b X, (G'.set r B ++ b :: X)[G'.length]? = some b := fun B b X => by rw [List.getElem?_append_right (by simp)]; simp
 have hXy : ∀ B b d X, (G'.set r B ++ b :: d :: X)[G'.length + 1]? = some d := fun B b d X => by rw [List.getElem?_append_right (by simp)]; simp
 have hYr : ∀ B Y X, ((G'.set r B).set (G.length + 1) Y ++ X)[r]? = some B := fun B Y X => by rw [zC (by simpa using hrl'), zF (by omega), zJ hrl']
 have hY9 : ∀ B Y X, ((G'.set r B).set (G.length + 1) Y ++ X)[G.length]? = some (.box (prR (ps.getD k default))) := fun B Y X => by rw [zC (by simp; omega), zF (by omega), zF (by omega)]; exact g9
 have hY10 : ∀ B Y X, ((G'.set r B).set (G.length + 1) Y ++ X)[G.length + 1]? = some Y := fun B Y X => by rw [zC (by simp; omega), zJ (by simp; omega)]
 have hYx : ∀ B Y b X, ((G'.set r B).set (G.length + 1) Y ++ b :: X)[G'.length]? = some b := fun B Y b X => by rw [List.getElem?_append_right (by simp)]; simp
 have hXs : ∀ B b z Y, (G'.set r B ++ [b, z]).set (G'.length + 1) Y = G'.set r B ++ [b, Y] := fun B b z Y => by rw [List.set_append_right _ _ (by simp)]; simp
 have fX : ∀ B X, Fr1 r G (G'.set r B ++ X) := fun B X => (fr.trans (Fr1.set B)).trans (Fr1.app _)
 have fY : ∀ B Y X, Fr1 r G ((G'.set r B).set (G.length + 1) Y ++ X) := fun B Y X => ((fr.trans (Fr1.set B)).set' (i := G.length + 1) (by omega) Y).trans (Fr1.app _)
 by_cases hcn : c + zK (l.take j) + 1 ≤ 32768
 ·cases hI : zBR ps k (.mk 21 a b bd el) out h with
  | some h' =>
   obtain ⟨hab, hem, rfl, hm, rfl⟩ := eff21.1 hI
   rw [hI] at ef
   have hz : zK bd = 0 ∧ zK el = 0 ∧ zAC bd = 0 ∧ zAC el = 0 := by
    rw [List.length_eq_zero_iff.1 hem.1, List.length_eq_zero_iff.1 hem.2]; exact ⟨rfl, rfl, rfl, rfl⟩
   have fRT : ∀ B Y X, Fr1 r G ((G'.set r B).set (G.length + 1) Y ++ X) := fY
   by_cases hr : (ps.getD k default).res < 0
   ·have hmx : (if (ps.getD k default).res < 0 then (0 : Int) else (ps.getD k default).res) = 0 := if_pos hr
    repeat' (first | refine And.intro (by omega) ?_ | refine zD (zAD _) ?_ | simp -implicitDefEqProofs (disch := omega) only [e0, e2, e9, e10, e42, e43, e44, gr, hrow, zC, zI, zN, splice, zCd, zAW, List.length_map, zAE, hXr, hX9, hX10, hXx, hYx, L131, LCode.sub, hmx, zQ, zAe, zAI, push_cast, simprocAttr, ↓reduceIte, Bool.and_self])
    exact .mk (j + 1, 0) ⟨e0, e2, e3, e9, e10, e11, e12, e42, e43, rfl, by rw [hYr, hsn]; simp only [hz, Nat.add_zero, Nat.zero_add]; push_cast; rw [Int.add_assoc], hY9 _ _ _, by rw [hY10], fRT _ _ _, by simp; omega, hlt, by dsimp only; omega, by dsimp only; rw [hsn]; omega, by dsimp only; rw [hsl]; omega, ef⟩ (by dsimp only; omega)
   ·have hmx : (if (ps.getD k default).res < 0 then (0 : Int) else (ps.getD k default).res) = (ps.getD k default).res := if_neg hr
    repeat' (first | refine And.intro (by omega) ?_ | refine zD (zAD _) ?_ | simp -implicitDefEqProofs (disch := omega) only [e0, e2, e9, e10, e42, e43, e44, gr, hrow, zC, zI, zN, splice, zCd, zAW, List.length_map, zAE, hXr, hX9, hX10, hXx, hYx, L131, LCode.sub, hmx, zQ, zAe, zAI, push_cast, simprocAttr, ↓reduceIte, Bool.and_self])
    exact .mk (j + 1, 0) ⟨e0, e2, e3, e9, e10, e11, e12, e42, e43, rfl, by rw [hYr, hsn]; simp only [hz, Nat.add_zero, Nat.zero_add]; push_cast; rw [Int.add_assoc], hY9 _ _ _, by rw [hY10], fRT _ _ _, by simp; omega, hlt, by dsimp only; omega, by dsimp only; rw [hsn]; omega, by dsimp only; rw [hsl]; omega, ef⟩ (by dsimp only; omega)
  | none =>
   have ng := hng (.inl fun h' hh => by rw [hI] at hh; cases hh)
   have hn : ¬ ((a = 0 ∧ b = 0) ∧ (bd.length = 0 ∧ el.length = 0) ∧ out = true ∧ h = max (ps.getD k default).res 0) := fun hh => by rw [eff21.2 ⟨hh.1, hh.2.1, hh.2.2.1, hh.2.2.2, rfl⟩] at hI; cases hI
   cases out with
   | false =>
    repeat' (first | refine And.intro (by omega) ?_ | refine zD (zAD _) ?_ | refine zL (zA2 _) ?_ | simp -implicitDefEqProofs (disch := omega) only [e0, e2, e42, e43, e44, gr, hrow, zC, zI, splice, List.length_map, zAE, hXr, hXx, L131, LCode.sub, zQ, zAe, push_cast, simprocAttr, ↓reduceIte, Bool.and_self])
    all_goals first | exact fX _ _ | exact ⟨ng, fX _ _⟩
   | true =>
    by_cases hr : (ps.getD k default).res < 0
    ·have hmx : (if (ps.getD k default).res < 0 then (0 : Int) else (ps.getD k default).res) = 0 := if_pos hr
     repeat' (first | intro y0 H2 h0; obtain ⟨hb, rfl⟩ : MT _ _ H2 := h0; (try (exfalso; contradiction)); (try simp only [decide_eq_true_eq] at hb) | intro z0 H2 h0; obtain ⟨hb, rfl, rfl⟩ : MF _ z0 _ H2 := h0; clear hb | refine And.intro (by omega) ?_ | refine zG (zCK _ _) ?_ ?_ | simp -implicitDefEqProofs (disch := omega) only [e0, e2, e9, e10, e42, e43, e44, gr, hrow, zC, zI, zN, splice, zCd, zAW, List.length_map, zAE, hXr, hX9, hX10, hXx, hYx, L131, LCode.sub, hmx, zQ, zAe, zAI, zAu, push_cast, simprocAttr, ↓reduceIte, Bool.and_self] | split)
     all_goals first | exact fX _ _ | exact fY _ _ _ | exact ⟨ng, fX _ _⟩ | exact ⟨ng, fY _ _ _⟩ | (exfalso; refine hn ⟨⟨?_, ?_⟩, ⟨?_, ?_⟩, rfl, ?_⟩ <;> omega)
    ·have hmx : (if (ps.getD k default).res < 0 then (0 : Int) else (ps.getD k default).res) = (ps.getD k default).res := if_neg hr
     repeat' (first | intro y0 H2 h0; obtain ⟨hb, rfl⟩ : MT _ _ H2 := h0; (try (exfalso; contradiction)); (try simp only [decide_eq_true_eq] at hb) | intro z0 H2 h0; obtain ⟨hb, rfl, rfl⟩ : MF _ z0 _ H2 := h0; clear hb | refine And.intro (by omega) ?_ | refine zG (zCK _ _) ?_ ?_ | simp -implicitDefEqProofs (disch := omega) only [e0, e2, e9, e10, e42, e43, e44, gr, hrow, zC, zI, zN, splice, zCd, zAW, List.length_map, zAE, hXr, hX9, hX10, hXx, hYx, L131, LCode.sub, hmx, zQ, zAe, zAI, zAu, push_cast, simprocAttr, ↓reduceIte, Bool.and_self] | split)
     all_goals first | exact fX _ _ | exact fY _ _ _ | exact ⟨ng, fX _ _⟩ | exact ⟨ng, fY _ _ _⟩ | (exfalso; refine hn ⟨⟨?_, ?_⟩, ⟨?_, ?_⟩, rfl, ?_⟩ <;> omega)
 ·repeat' (first | refine And.intro (by omega) ?_ | refine zL (zA2 _) ?_ | simp -implicitDefEqProofs (disch := omega) only [e0, e42, e43, e44, gr, hrow, zC, zI, splice, List.length_map, zAE, hXr, L131, LCode.sub, zQ, zAz, push_cast, simprocAttr, ↓reduceIte, Bool.and_self])
  exact ⟨hng (.inr (.inl (by simp only [zBn]; omega))), fX _ _⟩
set_option maxHeartbeats 8000000 in
theorem rnd_20 (ps : List Pr) (k : Nat) (hk : k < ps.length) (hps : ps.length ≤ 1048576) (hp : zBU ps k) (hh : zCD (ps.getD k default)) (l : List Ins) (out : Bool) (level c : Int) (r : Nat) (G : zB) : RndP ps k l out level c r G 20 := by
 intro j h e' G' a b bd el hlt hx hs hbd hel hrl hc0 hl0 hl1 ⟨e0, e2, e3, e9, e10, e11, e12, e42, e43, e44, gr, g9, g10, fr, gl, hj, hhh, cc, lv, ef⟩
 have hrow : (l.map zAF).getD j [] = [int 20, int a, int b, .sl 5 (bd.map zAF), .sl 5 (el.map zAF)] := by
  rw [zO hlt, hx]; simp [zAF, zAP]
 have hrl' := Nat.lt_of_lt_of_le hrl fr.1
 have hb := zAm l (j + 1)
 have hb2 := zAG l (j + 1)
 have hsn := zAi hlt
 have hsl := zAH hlt
 rw [hx] at hsn hsl
 simp only [zBn, zCq] at hsn hsl
 have hbl := zM bd
 have hell := zM el
 have hbv := zAb bd
 have helv := zAb el
 obtain ⟨q1, q2, q3, q4, q5, q6, q7, q8⟩ := hh
 have ef0 := ef
 rw [zAT ps k hlt, hx] at ef
 have fA : ∀ B b, Fr1 r G (G'.set r B ++ [b]) := fun B b => (fr.trans (Fr1.set B)).trans (Fr1.app _)
 have fB : ∀ B b X, Fr1 r G ((G'.set r B).set (G.length + 1) X ++ [b]) := fun B b X => ((fr.trans (Fr1.set B)).set' (i := G.length + 1) (by omega) X).trans (Fr1.app _)
 have hng : ((∀ h', ¬ zBR ps k (.mk 20 a b bd el) out h = some h') ∨ 32768 < c + zK (l.take j) + zBn (.mk 20 a b bd el) ∨ 257 < level + zCq (.mk 20 a b bd el)) → ¬ goodL ps k l out level c := zBd hlt hx ef0
 have hSr : ∀ B b, (G'.set r B ++ [b])[r]? = some B := fun B b => by rw [zC (by simpa using hrl'), zJ hrl']
 have hS9 : ∀ B b, (G'.set r B ++ [b])[G.length]? = some (.box (prR (ps.getD k default))) := fun B b => by rw [zC (by rw [List.length_set]; omega), zF (by omega)]; exact g9
 have hS10 : ∀ B b, (G'.set r B ++ [b])[G.length + 1]? = some (.box [int h]) := fun B b => by rw [zC (by rw [List.length_set]; omega), zF (by omega)]; exact g10
 have hSx : ∀ B b, (G'.set r B ++ [b])[G'.length]? = some b := fun B b => by rw [List.getElem?_append_right (by simp)]; simp
 have hTx : ∀ B b X, ((G'.set r B).set (G.length + 1) X ++ [b])[G'.length]? = some b := fun B b X => by rw [List.getElem?_append_right (by simp)]; simp
 have hln := zM l
 have hXr : ∀ B X, (G'.set r B ++ X)[r]? = some B := fun B X => by rw [zC (by simpa using hrl'), zJ hrl']
 have hX9 : ∀ B X, (G'.set r B ++ X)[G.length]? = some (.box (prR (ps.getD k default))) := fun B X => by rw [zC (by rw [List.length_set]; omega), zF (by omega)]; exact g9
 have hX10 : ∀ B X, (G'.set r B ++ X)[G.length + 1]? = some (.box [int h]) := fun B X => by rw [zC (by rw [List.length_set]; omega), zF (by omega)]; exact g10
 have hXx : ∀ B b X, (G'.set r B ++ b :: X)[G'.length]? = some b := fun B b X => by rw [List.getElem?_append_right (by simp)]; simp
 have hXy : ∀ B b d X, (G'.set r B ++ b :: d :: X)[G'.length + 1]? = some d := fun B b d X => by rw [List.getElem?_append_right (by simp)]; simp
 have hYr : ∀ B Y X, ((G'.set r B).set (G.length + 1) Y ++ X)[r]? = some B := fun B Y X => by rw [zC (by simpa using hrl'), zF (by omega), zJ hrl']
 have hY9 : ∀ B Y X, ((G'.set r B).set (G.length + 1) Y ++ X)[G.length]? = some (.box (prR (ps.getD k default))) := fun B Y X => by rw [zC (by simp; omega), zF (by omega), zF (by omega)]; exact g9
 have hY10 : ∀ B Y X, ((G'.set r B).set (G.length + 1) Y ++ X)[G.length + 1]? = some Y := fun B Y X => by rw [zC (by simp; omega), zJ (by simp; omega)]
 have hYx : ∀ B Y b X, ((G'.set r B).set (G.length + 1) Y ++ b :: X)[G'.length]? = some b := fun B Y b X => by rw [List.getElem?_append_right (by simp)]; simp
 have hXs : ∀ B b z Y, (G'.set r B ++ [b, z]).set (G'.length + 1) Y = G'.set r B ++ [b, Y] := fun B b z Y => by rw [List.set_append_right _ _ (by simp)]; simp
 have fX : ∀ B X, Fr1 r G (G'.set r B ++ X) := fun B X => (fr.trans (Fr1.set B)).trans (Fr1.app _)
 have fY : ∀ B Y X, Fr1 r G ((G'.set r B).set (G.length + 1) Y ++ X) := fun B Y X => ((fr.trans (Fr1.set B)).set' (i := G.length + 1) (by omega) Y).trans (Fr1.app _)
 by_cases hcn : c + zK (l.take j) + 1 ≤ 32768
 ·have hpr1 : (prR (ps.getD a.toNat default)).drop 1 = [int (ps.getD a.toNat default).par, int (ps.getD a.toNat default).slots, int (ps.getD a.toNat default).res, .sl 1 ((ps.getD a.toNat default).outs.map iR), .sl 5 ((ps.getD a.toNat default).body.map zAF)] := rfl
  by_cases ha : 0 ≤ a ∧ a < k
  ·obtain ⟨p1, p2, p3, p4⟩ := hp a.toNat (by omega)
   have po := outsN_ok p3 p4
   have cO := fun H => resultsC (ps.getD a.toNat default) (by omega) H
   cases hI : zBR ps k (.mk 20 a b bd el) out h with
   | some h' =>
    obtain ⟨hb0, hem, _, f1, f2, rfl⟩ := eff20.1 hI
    rw [hI] at ef
    have hz : zK bd = 0 ∧ zK el = 0 ∧ zAC bd = 0 ∧ zAC el = 0 := by
     rw [List.length_eq_zero_iff.1 hem.1, List.length_eq_zero_iff.1 hem.2]; exact ⟨rfl, rfl, rfl, rfl⟩
    repeat' (first | refine And.intro (by omega) ?_ | refine zA (cO _) ?_ | refine zD (zAD _) ?_ | simp -implicitDefEqProofs (disch := omega) only [e0, e11, e42, e43, e44, gr, hrow, zC, zI, splice, zAW, List.length_map, zAE, hXr, hXx, hXy, hXs, L131, LCode.sub, zBt, zCA, pr_c1s, hpr1, zQ, zAe, push_cast, simprocAttr, ↓reduceIte, Bool.and_self])
    refine zAQ (zBY h (ps.getD a.toNat default).par (outsN (ps.getD a.toNat default) - (ps.getD a.toNat default).par) hhh (by omega) _ _ (hX10 _ _)) ?_ ?_
    ·intro y0 H2 h0
     obtain ⟨-, rfl⟩ : NT _ _ _ _ _ H2 := h0
     simp -implicitDefEqProofs (disch := omega) only [zC, zI, zF, zJ, zAg, zN, zAB, zAr, zAq, zAo, zQ, zAh, zAe, zAz, zAI, zAu, push_cast, simprocAttr, ↓reduceIte, Bool.and_self]
     repeat' (first | refine zD (zAD _) ?_ | simp -implicitDefEqProofs (disch := omega) only [e44, List.length_map, hYx, zAI, push_cast, simprocAttr, ↓reduceIte])
     exact .mk (j + 1, h + (outsN (ps.getD a.toNat default) - (ps.getD a.toNat default).par)) ⟨e0, e2, e3, e9, e10, e11, e12, e42, e43, rfl, by rw [hYr, hsn]; simp only [hz, Nat.add_zero, Nat.zero_add]; push_cast; rw [Int.add_assoc], hY9 _ _ _, by rw [hY10], fY _ _ _, by simp; omega, hlt, by dsimp only; omega, by dsimp only; rw [hsn]; omega, by dsimp only; rw [hsl]; omega, ef⟩ (by dsimp only; omega)
    ·intro z0 H2 h0
     obtain ⟨-, hn, -⟩ : NF _ _ _ _ z0 _ H2 := h0
     exact absurd ⟨f1, f2⟩ hn
   | none =>
    have ng := hng (.inl fun h' hh => by rw [hI] at hh; cases hh)
    have hn : ¬ (b = 0 ∧ (bd.length = 0 ∧ el.length = 0) ∧ (ps.getD a.toNat default).par ≤ h ∧ h + (outsN (ps.getD a.toNat default) - (ps.getD a.toNat default).par) ≤ 1024) := fun hh => by rw [eff20.2 ⟨hh.1, hh.2.1, ha, hh.2.2.1, hh.2.2.2, rfl⟩] at hI; cases hI
    repeat' (first | intro y0 H2 h0; obtain ⟨hb, rfl⟩ : MT _ _ H2 := h0; (try (exfalso; contradiction)); (try simp only [decide_eq_true_eq] at hb) | intro z0 H2 h0; obtain ⟨hb, rfl, rfl⟩ : MF _ z0 _ H2 := h0; clear hb | intro y0 H2 h0; obtain ⟨hb, rfl⟩ : NT _ _ _ _ _ H2 := h0 | intro z0 H2 h0; obtain ⟨rfl, hb, rfl | rfl⟩ : NF _ _ _ _ z0 _ H2 := h0 | refine And.intro (by omega) ?_ | refine zD (zAD _) ?_ | refine zA (cO _) ?_ | refine zG (zCK _ _) ?_ ?_ | refine zG (zBY h (ps.getD a.toNat default).par (outsN (ps.getD a.toNat default) - (ps.getD a.toNat default).par) hhh (by omega) _ _ (hX10 _ _)) ?_ ?_ | simp -implicitDefEqProofs (disch := omega) only [e0, e11, e42, e43, e44, gr, hrow, zC, zI, zN, splice, zAW, List.length_map, zAE, hXr, hXx, hXy, hYx, hXs, L131, LCode.sub, zBt, zCA, pr_c1s, hpr1, zQ, zAe, zAI, zAu, push_cast, simprocAttr, ↓reduceIte, Bool.and_self] | split)
    all_goals first | exact fX _ _ | exact fY _ _ _ | exact ⟨ng, fX _ _⟩ | exact ⟨ng, fY _ _ _⟩ | (exfalso; refine hn ⟨?_, ⟨?_, ?_⟩, ?_, ?_⟩ <;> omega)
  ·have ng := hng (.inl fun h' hh => ha (eff20.1 hh).2.2.1)
   repeat' (first | intro y0 H2 h0; obtain ⟨hb, rfl⟩ : MT _ _ H2 := h0; (try (exfalso; contradiction)); (try simp only [decide_eq_true_eq] at hb) | intro z0 H2 h0; obtain ⟨hb, rfl, rfl⟩ : MF _ z0 _ H2 := h0; clear hb | refine And.intro (by omega) ?_ | refine zD (zAD _) ?_ | refine zG (zCK _ _) ?_ ?_ | simp -implicitDefEqProofs (disch := omega) only [e0, e42, e43, e44, gr, hrow, zC, zI, splice, List.length_map, zAE, hXr, hXx, L131, LCode.sub, zQ, zAh, zAe, zAz, push_cast, simprocAttr, ↓reduceIte, Bool.and_self] | split)
   all_goals first | exact fX _ _ | exact ⟨ng, fX _ _⟩ | (exfalso; omega)
 ·repeat' (first | refine And.intro (by omega) ?_ | refine zL (zA2 _) ?_ | simp -implicitDefEqProofs (disch := omega) only [e0, e42, e43, e44, gr, hrow, zC, zI, splice, List.length_map, zAE, hXr, L131, LCode.sub, zQ, zAz, push_cast, simprocAttr, ↓reduceIte, Bool.and_self])
  exact ⟨hng (.inr (.inl (by simp only [zBn]; omega))), fX _ _⟩
set_option maxHeartbeats 8000000 in
theorem rnd_18 (ps : List Pr) (k : Nat) (hk : k < ps.length) (hps : ps.length ≤ 1048576) (hp : zBU ps k) (hh : zCD (ps.getD k default)) (l : List Ins) (out : Bool) (level c : Int) (r : Nat) (G : zB) : RndP ps k l out level c r G 18 := by
 intro j h e' G' a b bd el hlt hx hs hbd hel hrl hc0 hl0 hl1 ⟨e0, e2, e3, e9, e10, e11, e12, e42, e43, e44, gr, g9, g10, fr, gl, hj, hhh, cc, lv, ef⟩
 have hrow : (l.map zAF).getD j [] = [int 18, int a, int b, .sl 5 (bd.map zAF), .sl 5 (el.map zAF)] := by
  rw [zO hlt, hx]; simp [zAF, zAP]
 have hrl' := Nat.lt_of_lt_of_le hrl fr.1
 have hb := zAm l (j + 1)
 have hb2 := zAG l (j + 1)
 have hsn := zAi hlt
 have hsl := zAH hlt
 rw [hx] at hsn hsl
 simp only [zBn, zCq] at hsn hsl
 have hbl := zM bd
 have hell := zM el
 have hbv := zAb bd
 have helv := zAb el
 obtain ⟨q1, q2, q3, q4, q5, q6, q7, q8⟩ := hh
 have ef0 := ef
 rw [zAT ps k hlt, hx] at ef
 have fA : ∀ B b, Fr1 r G (G'.set r B ++ [b]) := fun B b => (fr.trans (Fr1.set B)).trans (Fr1.app _)
 have fB : ∀ B b X, Fr1 r G ((G'.set r B).set (G.length + 1) X ++ [b]) := fun B b X => ((fr.trans (Fr1.set B)).set' (i := G.length + 1) (by omega) X).trans (Fr1.app _)
 have hng : ((∀ h', ¬ zBR ps k (.mk 18 a b bd el) out h = some h') ∨ 32768 < c + zK (l.take j) + zBn (.mk 18 a b bd el) ∨ 257 < level + zCq (.mk 18 a b bd el)) → ¬ goodL ps k l out level c := zBd hlt hx ef0
 have hSr : ∀ B b, (G'.set r B ++ [b])[r]? = some B := fun B b => by rw [zC (by simpa using hrl'), zJ hrl']
 have hS9 : ∀ B b, (G'.set r B ++ [b])[G.length]? = some (.box (prR (ps.getD k default))) := fun B b => by rw [zC (by rw [List.length_set]; omega), zF (by omega)]; exact g9
 have hS10 : ∀ B b, (G'.set r B ++ [b])[G.length + 1]? = some (.box [int h]) := fun B b => by rw [zC (by rw [List.length_set]; omega), zF (by omega)]; exact g10
 have hSx : ∀ B b, (G'.set r B ++ [b])[G'.length]? = some b := fun B b => by rw [List.getElem?_append_right (by simp)]; simp
 have hTx : ∀ B b X, ((G'.set r B).set (G.length + 1) X ++ [b])[G'.length]? = some b := fun B b X => by rw [List.getElem?_append_right (by simp)]; simp
 have hln := zM l
 have hXr : ∀ B X, (G'.set r B ++ X)[r]? = some B := fun B X => by rw [zC (by simpa using hrl'), zJ hrl']
 have hX9 : ∀ B X, (G'.set r B ++ X)[G.length]? = some (.box (prR (ps.getD k default))) := fun B X => by rw [zC (by rw [List.length_set]; omega), zF (by omega)]; exact g9
 have hX10 : ∀ B X, (G'.set r B ++ X)[G.length + 1]? = some (.box [int h]) := fun B X => by rw [zC (by rw [List.length_set]; omega), zF (by omega)]; exact g10
 have hXx : ∀ B b X, (G'.set r B ++ b :: X)[G'.length]? = some b := fun B b X => by rw [List.getElem?_append_right (by simp)]; simp
 have hXy : ∀ B b d X, (G'.set r B ++ b :: d :: X)[G'.length + 1]? = some d := fun B b d X => by rw [List.getElem?_append_right (by simp)]; simp
 have hYr : ∀ B Y X, ((G'.set r B).set (G.length + 1) Y ++ X)[r]? = some B := fun B Y X => by rw [zC (by simpa using hrl'), zF (by omega), zJ hrl']
 have hY9 : ∀ B Y X, ((G'.set r B).set (G.length + 1) Y ++ X)[G.length]? = some (.box (prR (ps.getD k default))) := fun B Y X => by rw [zC (by simp; omega), zF (by omega), zF (by omega)]; exact g9
 have hY10 : ∀ B Y X, ((G'.set r B).set (G.length + 1) Y ++ X)[G.length + 1]? = some Y := fun B Y X => by rw [zC (by simp; omega), zJ (by simp; omega)]
 have hYx : ∀ B Y b X, ((G'.set r B).set (G.length + 1) Y ++ b :: X)[G'.length]? = some b := fun B Y b X => by rw [List.getElem?_append_right (by simp)]; simp
 have hXs : ∀ B b z Y, (G'.set r B ++ [b, z]).set (G'.length + 1) Y = G'.set r B ++ [b, Y] := fun B b z Y => by rw [List.set_append_right _ _ (by simp)]; simp
 have fX : ∀ B X, Fr1 r G (G'.set r B ++ X) := fun B X => (fr.trans (Fr1.set B)).trans (Fr1.app _)
 have fY : ∀ B Y X, Fr1 r G ((G'.set r B).set (G.length + 1) Y ++ X) := fun B Y X => ((fr.trans (Fr1.set B)).set' (i := G.length + 1) (by omega) Y).trans (Fr1.app _)
 by_cases hcn : c + zK (l.take j) + 1 ≤ 32768
 ·cases out with
  | false =>
   have hio : (false && decide (h = 1)) = false := rfl
   have h18 := fun h' => zCt (ps := ps) (k := k) (a := a) (b := b) (bd := bd) (el := el) (out := false) (h := h) (h' := h')
   have hx0 := hx
   repeat' (first | refine And.intro (by omega) ?_ | refine zD (zAD _) ?_ | simp -implicitDefEqProofs (disch := omega) only [e0, e11, e42, e43, e44, gr, hrow, zC, zI, splice, List.length_map, zAE, hXr, hXx, L131, LCode.sub, zQ, zAe, push_cast, simprocAttr, ↓reduceIte, Bool.and_self])
   refine zG (zBY h 1 (-1) hhh (by omega) _ _ (hX10 _ _)) ?_ ?_
   ·intro y0 H2 h0
    obtain ⟨hb1, rfl⟩ : NT _ _ _ _ _ H2 := h0
    simp -implicitDefEqProofs (disch := omega) only [zC, zI, zF, zJ, zAg, zN, zAB, zAr, zAq, zAo, zQ, zAh, zAe, zAz, zAI, zAu, push_cast, simprocAttr, ↓reduceIte, Bool.and_self]
    repeat' (simp -implicitDefEqProofs (disch := omega) only [e0, e2, e3, hYx, push_cast, simprocAttr, ↓reduceIte])
    refine zG (hbd false (level + 1) (c + zK (l.take j) + 1) _ r (hYr _ _ _) (by omega) (by omega) (by omega) (by omega)) ?_ ?_
    ·rintro y0 G2 ⟨y1, rfl, he1, hc1, hv1, hf1, hr2⟩
     have rg1 := zBl hp bd _ 0 y1 (by omega) (by omega) he1
     have fr2 : Fr1 r G G2 := (fY _ _ _).trans hf1
     have l2 : G'.length + 1 ≤ G2.length := by have := hf1.1; simpa using this
     have k9 : G2[G.length]? = some (.box (prR (ps.getD k default))) := (hf1.2 _ (by simp; omega) (by omega)).trans (hY9 _ _ _)
     have k10 : G2[G.length + 1]? = some (.box [int (h + -1)]) := (hf1.2 _ (by simp; omega) (by omega)).trans (hY10 _ _ _)
     have kx : G2[G'.length]? = some (.box [int 18, int a, int b, .sl 5 (bd.map zAF), .sl 5 (el.map zAF)]) := (hf1.2 _ (by simp) (by omega)).trans (hYx _ _ _ _)
     clear hf1
     repeat' (simp -implicitDefEqProofs (disch := omega) only [e0, e3, kx, push_cast, simprocAttr, ↓reduceIte])
     refine zG (hel false (level + 1) (c + zK (l.take j) + 1 + zK bd) G2 r hr2 (by omega) (by omega) (by omega) (by omega)) ?_ ?_
     ·rintro y0 G3 ⟨y2, rfl, he2, hc2, hv2, hf2, hr3⟩
      have rg2 := zBl hp el _ 0 y2 (by omega) (by omega) he2
      have fr3 : Fr1 r G G3 := fr2.trans hf2
      have l3 : G'.length + 1 ≤ G3.length := Nat.le_trans l2 hf2.1
      have m9 : G3[G.length]? = some (.box (prR (ps.getD k default))) := (hf2.2 _ (by omega) (by omega)).trans k9
      have m10 : G3[G.length + 1]? = some (.box [int (h + -1)]) := (hf2.2 _ (by omega) (by omega)).trans k10
      have mx : G3[G'.length]? = some (.box [int 18, int a, int b, .sl 5 (bd.map zAF), .sl 5 (el.map zAF)]) := (hf2.2 _ (by omega) (by omega)).trans kx
      clear hf2 k9 k10 kx
      have fR3 : ∀ X, Fr1 r G (G3.set (G.length + 1) X) := fun X => fr3.set' (by omega) X
      by_cases hy : y2 = y1
      ·subst hy
       repeat' (first | refine zD (zAD _) ?_ | simp -implicitDefEqProofs (disch := omega) only [e11, push_cast, ↓reduceIte, Nat.reduceEqDiff])
       refine zG (zBY (h + -1) 0 y2 (by omega) (by omega) _ _ m10) ?_ ?_
       ·intro y0 H2 h0
        obtain ⟨hb2, rfl⟩ : NT _ _ _ _ _ H2 := h0
        by_cases hab : a = 0 ∧ b = 0
        ·have hI := (h18 _).2 ⟨hab.1, hab.2, by omega, y2, by rw [hio]; exact he1, by rw [hio]; exact he2, by omega, rfl⟩
         rw [hI] at ef
         repeat' (first | refine zD (zAD _) ?_ | simp -implicitDefEqProofs (disch := omega) only [e44, mx, zF, zAI, push_cast, simprocAttr, ↓reduceIte])
         have hcnt : c + (zK (l.take j) : Int) + 1 + zK bd + zK el = c + (zK (l.take (j + 1)) : Nat) := by rw [hsn]; push_cast; omega
         have hyy : h + -1 + y2 = h + (y2 - 1) := by omega
         exact .mk (j + 1, h + (y2 - 1)) ⟨e0, e2, e3, e9, e10, e11, e12, e42, e43, rfl, by rw [zF (by omega), hr3, hcnt], by rw [zF (by omega)]; exact m9, by rw [zJ (by omega), hyy], fR3 _, by simp; omega, hlt, by dsimp only; omega, by dsimp only; rw [hsn]; omega, by dsimp only; rw [hsl]; omega, ef⟩ (by dsimp only; omega)
        ·have ng := hng (.inl fun h' hh => hab (by obtain ⟨g1, g2, _⟩ := zCt.1 hh; exact ⟨g1, g2⟩))
         repeat' (first | refine And.intro (by omega) ?_ | refine zL (zA2 _) ?_ | simp -implicitDefEqProofs (disch := omega) only [mx, zF, zAI, zAu, push_cast, simprocAttr, ↓reduceIte] | split)
         all_goals first | exact fR3 _ | exact ⟨ng, fR3 _⟩ | (exfalso; omega)
       ·intro z0 H2 h0
        obtain ⟨rfl, hb2, hH2⟩ : NF _ _ _ _ z0 _ H2 := h0
        have ng := hng (.inl fun h' hh => by
         obtain ⟨g1, g2, g3, e, g4, g5, g6, g7⟩ := zCt.1 hh
         rw [hio, he1] at g4
         simp only [Option.some.injEq] at g4
         omega)
        rcases hH2 with rfl | rfl
        ·repeat' (first | refine And.intro (by omega) ?_ | simp -implicitDefEqProofs (disch := omega) only [push_cast])
         first | exact fr3 | exact ⟨ng, fr3⟩
        ·repeat' (first | refine And.intro (by omega) ?_ | simp -implicitDefEqProofs (disch := omega) only [push_cast, Int.reduceNeg])
         first | exact fR3 _ | exact ⟨ng, fR3 _⟩
      ·have ng := hng (.inl fun h' hh => by
        obtain ⟨g1, g2, g3, e, g4, g5, g6, g7⟩ := zCt.1 hh
        rw [hio, he1] at g4
        rw [hio, he2] at g5
        simp only [Option.some.injEq] at g4 g5
        omega)
       repeat' (first | refine And.intro (by omega) ?_ | refine zL (zA2 _) ?_ | simp -implicitDefEqProofs (disch := omega) only [zAu, push_cast, ↓reduceIte, Nat.reduceEqDiff])
       first | exact fr3 | exact ⟨ng, fr3⟩
     ·rintro z0 G3 ⟨rfl, hb2, hf2⟩
      have ng := hng (by
       by_cases hg : ∃ e, zBQ ps k el false 0 = some e
       ·refine .inr (Classical.byContradiction fun hno => hb2 ⟨hg, ?_, ?_⟩) <;> simp only [zBn, zCq] at hno <;> omega
       ·exact .inl fun h' hh => by
         obtain ⟨g1, g2, g3, e, g4, g5, g6, g7⟩ := zCt.1 hh
         rw [hio] at g5
         exact hg ⟨_, g5⟩)
      repeat' (first | refine And.intro (by omega) ?_ | simp -implicitDefEqProofs (disch := omega) only [push_cast])
      first | exact fr2.trans hf2 | exact ⟨ng, fr2.trans hf2⟩
    ·rintro z0 G2 ⟨rfl, hb2, hf2⟩
     have ng := hng (by
      by_cases hg : ∃ e, zBQ ps k bd false 0 = some e
      ·refine .inr (Classical.byContradiction fun hno => hb2 ⟨hg, ?_, ?_⟩) <;> simp only [zBn, zCq] at hno <;> omega
      ·exact .inl fun h' hh => by
        obtain ⟨g1, g2, g3, e, g4, g5, g6, g7⟩ := zCt.1 hh
        rw [hio] at g4
        exact hg ⟨_, g4⟩)
     repeat' (first | refine And.intro (by omega) ?_ | simp -implicitDefEqProofs (disch := omega) only [push_cast])
     first | exact (fY _ _ _).trans hf2 | exact ⟨ng, (fY _ _ _).trans hf2⟩
   ·intro z0 H2 h0
    obtain ⟨rfl, hb2, hH2⟩ : NF _ _ _ _ z0 _ H2 := h0
    have ng := hng (.inl fun h' hh => by
     obtain ⟨g1, g2, g3, _⟩ := zCt.1 hh
     omega)
    rcases hH2 with rfl | rfl
    ·repeat' (first | refine And.intro (by omega) ?_ | simp -implicitDefEqProofs (disch := omega) only [push_cast])
     first | exact fX _ _ | exact ⟨ng, fX _ _⟩
    ·simp -implicitDefEqProofs (disch := omega) only [zC, zI, zF, zJ, zAg, zN, zAB, zAr, zAq, zAo, zQ, zAh, zAe, zAz, zAI, zAu, push_cast, simprocAttr, ↓reduceIte, Bool.and_self]
     repeat' (refine And.intro (by omega) ?_)
     first | exact fY _ _ _ | exact ⟨ng, fY _ _ _⟩
  | true =>
   by_cases h1e : h = 1
   ·have hio : (true && decide (h = 1)) = true := by simp [h1e]
    have h18 := fun h' => zCt (ps := ps) (k := k) (a := a) (b := b) (bd := bd) (el := el) (out := true) (h := h) (h' := h')
    have hx0 := hx
    repeat' (first | refine And.intro (by omega) ?_ | refine zD (zAD _) ?_ | simp -implicitDefEqProofs (disch := omega) only [e0, e11, e42, e43, e44, gr, hrow, zC, zI, splice, List.length_map, zAE, hXr, hXx, L131, LCode.sub, zQ, zAe, push_cast, simprocAttr, ↓reduceIte, Bool.and_self])
    refine zG (zBY h 1 (-1) hhh (by omega) _ _ (hX10 _ _)) ?_ ?_
    ·intro y0 H2 h0
     obtain ⟨hb1, rfl⟩ : NT _ _ _ _ _ H2 := h0
     simp -implicitDefEqProofs (disch := omega) only [zC, zI, zF, zJ, zAg, zN, zAB, zAr, zAq, zAo, zQ, zAh, zAe, zAz, zAI, zAu, push_cast, simprocAttr, ↓reduceIte, Bool.and_self]
     repeat' (simp -implicitDefEqProofs (disch := omega) only [e0, e2, e3, e10, hY10, hYx, zAI, push_cast, simprocAttr, ↓reduceIte])
     refine zG (hbd true (level + 1) (c + zK (l.take j) + 1) _ r (hYr _ _ _) (by omega) (by omega) (by omega) (by omega)) ?_ ?_
     ·rintro y0 G2 ⟨y1, rfl, he1, hc1, hv1, hf1, hr2⟩
      have rg1 := zBl hp bd _ 0 y1 (by omega) (by omega) he1
      have fr2 : Fr1 r G G2 := (fY _ _ _).trans hf1
      have l2 : G'.length + 1 ≤ G2.length := by have := hf1.1; simpa using this
      have k9 : G2[G.length]? = some (.box (prR (ps.getD k default))) := (hf1.2 _ (by simp; omega) (by omega)).trans (hY9 _ _ _)
      have k10 : G2[G.length + 1]? = some (.box [int (h + -1)]) := (hf1.2 _ (by simp; omega) (by omega)).trans (hY10 _ _ _)
      have kx : G2[G'.length]? = some (.box [int 18, int a, int b, .sl 5 (bd.map zAF), .sl 5 (el.map zAF)]) := (hf1.2 _ (by simp) (by omega)).trans (hYx _ _ _ _)
      clear hf1
      repeat' (simp -implicitDefEqProofs (disch := omega) only [e0, e3, kx, push_cast, simprocAttr, ↓reduceIte])
      refine zG (hel true (level + 1) (c + zK (l.take j) + 1 + zK bd) G2 r hr2 (by omega) (by omega) (by omega) (by omega)) ?_ ?_
      ·rintro y0 G3 ⟨y2, rfl, he2, hc2, hv2, hf2, hr3⟩
       have rg2 := zBl hp el _ 0 y2 (by omega) (by omega) he2
       have fr3 : Fr1 r G G3 := fr2.trans hf2
       have l3 : G'.length + 1 ≤ G3.length := Nat.le_trans l2 hf2.1
       have m9 : G3[G.length]? = some (.box (prR (ps.getD k default))) := (hf2.2 _ (by omega) (by omega)).trans k9
       have m10 : G3[G.length + 1]? = some (.box [int (h + -1)]) := (hf2.2 _ (by omega) (by omega)).trans k10
       have mx : G3[G'.length]? = some (.box [int 18, int a, int b, .sl 5 (bd.map zAF), .sl 5 (el.map zAF)]) := (hf2.2 _ (by omega) (by omega)).trans kx
       clear hf2 k9 k10 kx
       have fR3 : ∀ X, Fr1 r G (G3.set (G.length + 1) X) := fun X => fr3.set' (by omega) X
       by_cases hy : y2 = y1
       ·subst hy
        repeat' (first | refine zD (zAD _) ?_ | simp -implicitDefEqProofs (disch := omega) only [e11, push_cast, simprocAttr, ↓reduceIte])
        refine zG (zBY (h + -1) 0 y2 (by omega) (by omega) _ _ m10) ?_ ?_
        ·intro y0 H2 h0
         obtain ⟨hb2, rfl⟩ : NT _ _ _ _ _ H2 := h0
         by_cases hab : a = 0 ∧ b = 0
         ·have hI := (h18 _).2 ⟨hab.1, hab.2, by omega, y2, by rw [hio]; exact he1, by rw [hio]; exact he2, by omega, rfl⟩
          rw [hI] at ef
          repeat' (first | refine zD (zAD _) ?_ | simp -implicitDefEqProofs (disch := omega) only [e44, mx, zF, zAI, push_cast, simprocAttr, ↓reduceIte])
          have hcnt : c + (zK (l.take j) : Int) + 1 + zK bd + zK el = c + (zK (l.take (j + 1)) : Nat) := by rw [hsn]; push_cast; omega
          have hyy : h + -1 + y2 = h + (y2 - 1) := by omega
          exact .mk (j + 1, h + (y2 - 1)) ⟨e0, e2, e3, e9, e10, e11, e12, e42, e43, rfl, by rw [zF (by omega), hr3, hcnt], by rw [zF (by omega)]; exact m9, by rw [zJ (by omega), hyy], fR3 _, by simp; omega, hlt, by dsimp only; omega, by dsimp only; rw [hsn]; omega, by dsimp only; rw [hsl]; omega, ef⟩ (by dsimp only; omega)
         ·have ng := hng (.inl fun h' hh => hab (by obtain ⟨g1, g2, _⟩ := zCt.1 hh; exact ⟨g1, g2⟩))
          repeat' (first | refine And.intro (by omega) ?_ | refine zL (zA2 _) ?_ | simp -implicitDefEqProofs (disch := omega) only [mx, zF, zAI, zAu, push_cast, simprocAttr, ↓reduceIte] | split)
          all_goals first | exact fR3 _ | exact ⟨ng, fR3 _⟩ | (exfalso; omega)
        ·intro z0 H2 h0
         obtain ⟨rfl, hb2, hH2⟩ : NF _ _ _ _ z0 _ H2 := h0
         have ng := hng (.inl fun h' hh => by
          obtain ⟨g1, g2, g3, e, g4, g5, g6, g7⟩ := zCt.1 hh
          rw [hio, he1] at g4
          simp only [Option.some.injEq] at g4
          omega)
         rcases hH2 with rfl | rfl
         ·repeat' (refine And.intro (by omega) ?_)
          first | exact fr3 | exact ⟨ng, fr3⟩
         ·repeat' (refine And.intro (by omega) ?_)
          first | exact fR3 _ | exact ⟨ng, fR3 _⟩
       ·have ng := hng (.inl fun h' hh => by
         obtain ⟨g1, g2, g3, e, g4, g5, g6, g7⟩ := zCt.1 hh
         rw [hio, he1] at g4
         rw [hio, he2] at g5
         simp only [Option.some.injEq] at g4 g5
         omega)
        repeat' (first | refine And.intro (by omega) ?_ | refine zL (zA2 _) ?_ | simp -implicitDefEqProofs (disch := omega) only [zAu, push_cast, simprocAttr, ↓reduceIte])
        first | exact fr3 | exact ⟨ng, fr3⟩
      ·rintro z0 G3 ⟨rfl, hb2, hf2⟩
       have ng := hng (by
        by_cases hg : ∃ e, zBQ ps k el true 0 = some e
        ·refine .inr (Classical.byContradiction fun hno => hb2 ⟨hg, ?_, ?_⟩) <;> simp only [zBn, zCq] at hno <;> omega
        ·exact .inl fun h' hh => by
          obtain ⟨g1, g2, g3, e, g4, g5, g6, g7⟩ := zCt.1 hh
          rw [hio] at g5
          exact hg ⟨_, g5⟩)
       repeat' (first | refine And.intro (by omega) ?_ | simp -implicitDefEqProofs (disch := omega) only [push_cast, Int.reduceNeg])
       first | exact fr2.trans hf2 | exact ⟨ng, fr2.trans hf2⟩
     ·rintro z0 G2 ⟨rfl, hb2, hf2⟩
      have ng := hng (by
       by_cases hg : ∃ e, zBQ ps k bd true 0 = some e
       ·refine .inr (Classical.byContradiction fun hno => hb2 ⟨hg, ?_, ?_⟩) <;> simp only [zBn, zCq] at hno <;> omega
       ·exact .inl fun h' hh => by
         obtain ⟨g1, g2, g3, e, g4, g5, g6, g7⟩ := zCt.1 hh
         rw [hio] at g4
         exact hg ⟨_, g4⟩)
      repeat' (first | refine And.intro (by omega) ?_ | simp -implicitDefEqProofs (disch := omega) only [push_cast, Int.reduceNeg])
      first | exact (fY _ _ _).trans hf2 | exact ⟨ng, (fY _ _ _).trans hf2⟩
    ·intro z0 H2 h0
     obtain ⟨rfl, hb2, hH2⟩ : NF _ _ _ _ z0 _ H2 := h0
     have ng := hng (.inl fun h' hh => by
      obtain ⟨g1, g2, g3, _⟩ := zCt.1 hh
      omega)
     rcases hH2 with rfl | rfl
     ·repeat' (refine And.intro (by omega) ?_)
      first | exact fX _ _ | exact ⟨ng, fX _ _⟩
     ·simp -implicitDefEqProofs (disch := omega) only [zC, zI, zF, zJ, zAg, zN, zAB, zAr, zAq, zAo, zQ, zAh, zAe, zAz, zAI, zAu, push_cast, simprocAttr, ↓reduceIte, Bool.and_self]
      repeat' (refine And.intro (by omega) ?_)
      first | exact fY _ _ _ | exact ⟨ng, fY _ _ _⟩
   ·have hio : (true && decide (h = 1)) = false := by simp [h1e]
    have h18 := fun h' => zCt (ps := ps) (k := k) (a := a) (b := b) (bd := bd) (el := el) (out := true) (h := h) (h' := h')
    have hx0 := hx
    repeat' (first | refine And.intro (by omega) ?_ | refine zD (zAD _) ?_ | simp -implicitDefEqProofs (disch := omega) only [e0, e11, e42, e43, e44, gr, hrow, zC, zI, splice, List.length_map, zAE, hXr, hXx, L131, LCode.sub, zQ, zAe, push_cast, simprocAttr, ↓reduceIte, Bool.and_self])
    refine zG (zBY h 1 (-1) hhh (by omega) _ _ (hX10 _ _)) ?_ ?_
    ·intro y0 H2 h0
     obtain ⟨hb1, rfl⟩ : NT _ _ _ _ _ H2 := h0
     simp -implicitDefEqProofs (disch := omega) only [zC, zI, zF, zJ, zAg, zN, zAB, zAr, zAq, zAo, zQ, zAh, zAe, zAz, zAI, zAu, push_cast, simprocAttr, ↓reduceIte, Bool.and_self]
     repeat' (simp -implicitDefEqProofs (disch := omega) only [e0, e2, e3, e10, hY10, hYx, zAu, push_cast, simprocAttr, ↓reduceIte])
     refine zG (hbd false (level + 1) (c + zK (l.take j) + 1) _ r (hYr _ _ _) (by omega) (by omega) (by omega) (by omega)) ?_ ?_
     ·rintro y0 G2 ⟨y1, rfl, he1, hc1, hv1, hf1, hr2⟩
      have rg1 := zBl hp bd _ 0 y1 (by omega) (by omega) he1
      have fr2 : Fr1 r G G2 := (fY _ _ _).trans hf1
      have l2 : G'.length + 1 ≤ G2.length := by have := hf1.1; simpa using this
      have k9 : G2[G.length]? = some (.box (prR (ps.getD k default))) := (hf1.2 _ (by simp; omega) (by omega)).trans (hY9 _ _ _)
      have k10 : G2[G.length + 1]? = some (.box [int (h + -1)]) := (hf1.2 _ (by simp; omega) (by omega)).trans (hY10 _ _ _)
      have kx : G2[G'.length]? = some (.box [int 18, int a, int b, .sl 5 (bd.map zAF), .sl 5 (el.map zAF)]) := (hf1.2 _ (by simp) (by omega)).trans (hYx _ _ _ _)
      clear hf1
      repeat' (simp -implicitDefEqProofs (disch := omega) only [e0, e3, kx, push_cast, simprocAttr, ↓reduceIte])
      refine zG (hel false (level + 1) (c + zK (l.take j) + 1 + zK bd) G2 r hr2 (by omega) (by omega) (by omega) (by omega)) ?_ ?_
      ·rintro y0 G3 ⟨y2, rfl, he2, hc2, hv2, hf2, hr3⟩
       have rg2 := zBl hp el _ 0 y2 (by omega) (by omega) he2
       have fr3 : Fr1 r G G3 := fr2.trans hf2
       have l3 : G'.length + 1 ≤ G3.length := Nat.le_trans l2 hf2.1
       have m9 : G3[G.length]? = some (.box (prR (ps.getD k default))) := (hf2.2 _ (by omega) (by omega)).trans k9
       have m10 : G3[G.length + 1]? = some (.box [int (h + -1)]) := (hf2.2 _ (by omega) (by omega)).trans k10
       have mx : G3[G'.length]? = some (.box [int 18, int a, int b, .sl 5 (bd.map zAF), .sl 5 (el.map zAF)]) := (hf2.2 _ (by omega) (by omega)).trans kx
       clear hf2 k9 k10 kx
       have fR3 : ∀ X, Fr1 r G (G3.set (G.length + 1) X) := fun X => fr3.set' (by omega) X
       by_cases hy : y2 = y1
       ·subst hy
        repeat' (first | refine zD (zAD _) ?_ | simp -implicitDefEqProofs (disch := omega) only [e11, push_cast, simprocAttr, ↓reduceIte])
        refine zG (zBY (h + -1) 0 y2 (by omega) (by omega) _ _ m10) ?_ ?_
        ·intro y0 H2 h0
         obtain ⟨hb2, rfl⟩ : NT _ _ _ _ _ H2 := h0
         by_cases hab : a = 0 ∧ b = 0
         ·have hI := (h18 _).2 ⟨hab.1, hab.2, by omega, y2, by rw [hio]; exact he1, by rw [hio]; exact he2, by omega, rfl⟩
          rw [hI] at ef
          repeat' (first | refine zD (zAD _) ?_ | simp -implicitDefEqProofs (disch := omega) only [e44, mx, zF, zAI, push_cast, simprocAttr, ↓reduceIte])
          have hcnt : c + (zK (l.take j) : Int) + 1 + zK bd + zK el = c + (zK (l.take (j + 1)) : Nat) := by rw [hsn]; push_cast; omega
          have hyy : h + -1 + y2 = h + (y2 - 1) := by omega
          exact .mk (j + 1, h + (y2 - 1)) ⟨e0, e2, e3, e9, e10, e11, e12, e42, e43, rfl, by rw [zF (by omega), hr3, hcnt], by rw [zF (by omega)]; exact m9, by rw [zJ (by omega), hyy], fR3 _, by simp; omega, hlt, by dsimp only; omega, by dsimp only; rw [hsn]; omega, by dsimp only; rw [hsl]; omega, ef⟩ (by dsimp only; omega)
         ·have ng := hng (.inl fun h' hh => hab (by obtain ⟨g1, g2, _⟩ := zCt.1 hh; exact ⟨g1, g2⟩))
          repeat' (first | refine And.intro (by omega) ?_ | refine zL (zA2 _) ?_ | simp -implicitDefEqProofs (disch := omega) only [mx, zF, zAI, zAu, push_cast, simprocAttr, ↓reduceIte] | split)
          all_goals first | exact fR3 _ | exact ⟨ng, fR3 _⟩ | (exfalso; omega)
        ·intro z0 H2 h0
         obtain ⟨rfl, hb2, hH2⟩ : NF _ _ _ _ z0 _ H2 := h0
         have ng := hng (.inl fun h' hh => by
          obtain ⟨g1, g2, g3, e, g4, g5, g6, g7⟩ := zCt.1 hh
          rw [hio, he1] at g4
          simp only [Option.some.injEq] at g4
          omega)
         rcases hH2 with rfl | rfl
         ·repeat' (first | refine And.intro (by omega) ?_ | simp -implicitDefEqProofs (disch := omega) only [push_cast, Int.reduceNeg])
          first | exact fr3 | exact ⟨ng, fr3⟩
         ·repeat' (first | refine And.intro (by omega) ?_ | simp -implicitDefEqProofs (disch := omega) only [push_cast, Int.reduceNeg])
          first | exact fR3 _ | exact ⟨ng, fR3 _⟩
       ·have ng := hng (.inl fun h' hh => by
         obtain ⟨g1, g2, g3, e, g4, g5, g6, g7⟩ := zCt.1 hh
         rw [hio, he1] at g4
         rw [hio, he2] at g5
         simp only [Option.some.injEq] at g4 g5
         omega)
        repeat' (first | refine And.intro (by omega) ?_ | refine zL (zA2 _) ?_ | simp -implicitDefEqProofs (disch := omega) only [zAu, push_cast, simprocAttr, ↓reduceIte])
        first | exact fr3 | exact ⟨ng, fr3⟩
      ·rintro z0 G3 ⟨rfl, hb2, hf2⟩
       have ng := hng (by
        by_cases hg : ∃ e, zBQ ps k el false 0 = some e
        ·refine .inr (Classical.byContradiction fun hno => hb2 ⟨hg, ?_, ?_⟩) <;> simp only [zBn, zCq] at hno <;> omega
        ·exact .inl fun h' hh => by
          obtain ⟨g1, g2, g3, e, g4, g5, g6, g7⟩ := zCt.1 hh
          rw [hio] at g5
          exact hg ⟨_, g5⟩)
       repeat' (first | refine And.intro (by omega) ?_ | simp -implicitDefEqProofs (disch := omega) only [push_cast, Int.reduceNeg])
       first | exact fr2.trans hf2 | exact ⟨ng, fr2.trans hf2⟩
     ·rintro z0 G2 ⟨rfl, hb2, hf2⟩
      have ng := hng (by
       by_cases hg : ∃ e, zBQ ps k bd false 0 = some e
       ·refine .inr (Classical.byContradiction fun hno => hb2 ⟨hg, ?_, ?_⟩) <;> simp only [zBn, zCq] at hno <;> omega
       ·exact .inl fun h' hh => by
         obtain ⟨g1, g2, g3, e, g4, g5, g6, g7⟩ := zCt.1 hh
         rw [hio] at g4
         exact hg ⟨_, g4⟩)
      repeat' (first | refine And.intro (by omega) ?_ | simp -implicitDefEqProofs (disch := omega) only [push_cast, Int.reduceNeg])
      first | exact (fY _ _ _).trans hf2 | exact ⟨ng, (fY _ _ _).trans hf2⟩
    ·intro z0 H2 h0
     obtain ⟨rfl, hb2, hH2⟩ : NF _ _ _ _ z0 _ H2 := h0
     have ng := hng (.inl fun h' hh => by
      obtain ⟨g1, g2, g3, _⟩ := zCt.1 hh
      omega)
     rcases hH2 with rfl | rfl
     ·repeat' (first | refine And.intro (by omega) ?_ | simp -implicitDefEqProofs (disch := omega) only [push_cast])
      first | exact fX _ _ | exact ⟨ng, fX _ _⟩
     ·simp -implicitDefEqProofs (disch := omega) only [zC, zI, zF, zJ, zAg, zN, zAB, zAr, zAq, zAo, zQ, zAh, zAe, zAz, zAI, zAu, push_cast, simprocAttr, ↓reduceIte, Bool.and_self]
      repeat' (refine And.intro (by omega) ?_)
      first | exact fY _ _ _ | exact ⟨ng, fY _ _ _⟩
 ·repeat' (first | refine And.intro (by omega) ?_ | refine zL (zA2 _) ?_ | simp -implicitDefEqProofs (disch := omega) only [e0, e42, e43, e44, gr, hrow, zC, zI, splice, List.length_map, zAE, hXr, L131, LCode.sub, zQ, zAz, push_cast, simprocAttr, ↓reduceIte, Bool.and_self])
  exact ⟨hng (.inr (.inl (by simp only [zBn]; omega))), fX _ _⟩
set_option maxHeartbeats 8000000 in
theorem rnd_19 (ps : List Pr) (k : Nat) (hk : k < ps.length) (hps : ps.length ≤ 1048576) (hp : zBU ps k) (hh : zCD (ps.getD k default)) (l : List Ins) (out : Bool) (level c : Int) (r : Nat) (G : zB) : RndP ps k l out level c r G 19 := by
 intro j h e' G' a b bd el hlt hx hs hbd hel hrl hc0 hl0 hl1 ⟨e0, e2, e3, e9, e10, e11, e12, e42, e43, e44, gr, g9, g10, fr, gl, hj, hhh, cc, lv, ef⟩
 have hrow : (l.map zAF).getD j [] = [int 19, int a, int b, .sl 5 (bd.map zAF), .sl 5 (el.map zAF)] := by
  rw [zO hlt, hx]; simp [zAF, zAP]
 have hrl' := Nat.lt_of_lt_of_le hrl fr.1
 have hb := zAm l (j + 1)
 have hb2 := zAG l (j + 1)
 have hsn := zAi hlt
 have hsl := zAH hlt
 rw [hx] at hsn hsl
 simp only [zBn, zCq] at hsn hsl
 have hbl := zM bd
 have hell := zM el
 have hbv := zAb bd
 have helv := zAb el
 obtain ⟨q1, q2, q3, q4, q5, q6, q7, q8⟩ := hh
 have ef0 := ef
 rw [zAT ps k hlt, hx] at ef
 have fA : ∀ B b, Fr1 r G (G'.set r B ++ [b]) := fun B b => (fr.trans (Fr1.set B)).trans (Fr1.app _)
 have fB : ∀ B b X, Fr1 r G ((G'.set r B).set (G.length + 1) X ++ [b]) := fun B b X => ((fr.trans (Fr1.set B)).set' (i := G.length + 1) (by omega) X).trans (Fr1.app _)
 have hng : ((∀ h', ¬ zBR ps k (.mk 19 a b bd el) out h = some h') ∨ 32768 < c + zK (l.take j) + zBn (.mk 19 a b bd el) ∨ 257 < level + zCq (.mk 19 a b bd el)) → ¬ goodL ps k l out level c := zBd hlt hx ef0
 have hSr : ∀ B b, (G'.set r B ++ [b])[r]? = some B := fun B b => by rw [zC (by simpa using hrl'), zJ hrl']
 have hS9 : ∀ B b, (G'.set r B ++ [b])[G.length]? = some (.box (prR (ps.getD k default))) := fun B b => by rw [zC (by rw [List.length_set]; omega), zF (by omega)]; exact g9
 have hS10 : ∀ B b, (G'.set r B ++ [b])[G.length + 1]? = some (.box [int h]) := fun B b => by rw [zC (by rw [List.length_set]; omega), zF (by omega)]; exact g10
 have hSx : ∀ B b, (G'.set r B ++ [b])[G'.length]? = some b := fun B b => by rw [List.getElem?_append_right (by simp)]; simp
 have hTx : ∀ B b X, ((G'.set r B).set (G.length + 1) X ++ [b])[G'.length]? = some b := fun B b X => by rw [List.getElem?_append_right (by simp)]; simp
 have hln := zM l
 have hXr : ∀ B X, (G'.set r B ++ X)[r]? = some B := fun B X => by rw [zC (by simpa using hrl'), zJ hrl']
 have hX9 : ∀ B X, (G'.set r B ++ X)[G.length]? = some (.box (prR (ps.getD k default))) := fun B X => by rw [zC (by rw [List.length_set]; omega), zF (by omega)]; exact g9
 have hX10 : ∀ B X, (G'.set r B ++ X)[G.length + 1]? = some (.box [int h]) := fun B X => by rw [zC (by rw [List.length_set]; omega), zF (by omega)]; exact g10
 have hXx : ∀ B b X, (G'.set r B ++ b :: X)[G'.length]? = some b := fun B b X => by rw [List.getElem?_append_right (by simp)]; simp
 have hXy : ∀ B b d X, (G'.set r B ++ b :: d :: X)[G'.length + 1]? = some d := fun B b d X => by rw [List.getElem?_append_right (by simp)]; simp
 have hYr : ∀ B Y X, ((G'.set r B).set (G.length + 1) Y ++ X)[r]? = some B := fun B Y X => by rw [zC (by simpa using hrl'), zF (by omega), zJ hrl']
 have hY9 : ∀ B Y X, ((G'.set r B).set (G.length + 1) Y ++ X)[G.length]? = some (.box (prR (ps.getD k default))) := fun B Y X => by rw [zC (by simp; omega), zF (by omega), zF (by omega)]; exact g9
 have hY10 : ∀ B Y X, ((G'.set r B).set (G.length + 1) Y ++ X)[G.length + 1]? = some Y := fun B Y X => by rw [zC (by simp; omega), zJ (by simp; omega)]
 have hYx : ∀ B Y b X, ((G'.set r B).set (G.length + 1) Y ++ b :: X)[G'.length]? = some b := fun B Y b X => by rw [List.getElem?_append_right (by simp)]; simp
 have hXs : ∀ B b z Y, (G'.set r B ++ [b, z]).set (G'.length + 1) Y = G'.set r B ++ [b, Y] := fun B b z Y => by rw [List.set_append_right _ _ (by simp)]; simp
 have fX : ∀ B X, Fr1 r G (G'.set r B ++ X) := fun B X => (fr.trans (Fr1.set B)).trans (Fr1.app _)
 have fY : ∀ B Y X, Fr1 r G ((G'.set r B).set (G.length + 1) Y ++ X) := fun B Y X => ((fr.trans (Fr1.set B)).set' (i := G.length + 1) (by omega) Y).trans (Fr1.app _)
 by_cases hcn : c + zK (l.take j) + 1 ≤ 32768
 ·by_cases hh0 : h = 0
  ·subst hh0
   cases out with
   | false =>
    have ng := hng (.inl fun h' hh => by have := (eff19.1 hh).2.2.1; cases this)
    repeat' (first | refine And.intro (by omega) ?_ | refine zD (zAD _) ?_ | refine zL (zA2 _) ?_ | simp -implicitDefEqProofs (disch := omega) only [e0, e2, e10, e42, e43, e44, gr, hrow, zC, zI, splice, List.length_map, zAE, hXr, hX10, hXx, L131, LCode.sub, zQ, zAe, push_cast, simprocAttr, ↓reduceIte, Bool.and_self])
    all_goals first | exact fX _ _ | exact ⟨ng, fX _ _⟩
   | true =>
    repeat' (first | refine And.intro (by omega) ?_ | refine zD (zAD _) ?_ | simp -implicitDefEqProofs (disch := omega) only [e0, e2, e3, e10, e42, e43, e44, gr, hrow, zC, zI, splice, List.length_map, zAE, hXr, hX10, hXx, L131, LCode.sub, zQ, zAe, push_cast, simprocAttr, ↓reduceIte, Bool.and_self])
    refine zAQ (hbd true (level + 1) (c + zK (l.take j) + 1) _ r (hXr _ _) (by omega) (by omega) (by omega) (by omega)) ?_ ?_
    ·rintro y0 G2 ⟨y1, rfl, he1, hc1, hv1, hf1, hr2⟩
     have fr2 : Fr1 r G G2 := (fX _ _).trans hf1
     have l2 : G'.length + 1 ≤ G2.length := by have := hf1.1; simpa using this
     have k9 : G2[G.length]? = some (.box (prR (ps.getD k default))) := (hf1.2 _ (by simp; omega) (by omega)).trans (hX9 _ _)
     have k10 : G2[G.length + 1]? = some (.box [int 0]) := (hf1.2 _ (by simp; omega) (by omega)).trans (hX10 _ _)
     have kx : G2[G'.length]? = some (.box [int 19, int a, int b, .sl 5 (bd.map zAF), .sl 5 (el.map zAF)]) := (hf1.2 _ (by simp) (by omega)).trans (hXx _ _ _)
     clear hf1
     by_cases hy1 : y1 = 0
     ·subst hy1
      repeat' (simp -implicitDefEqProofs (disch := omega) only [e0, e3, kx, push_cast, simprocAttr, ↓reduceIte])
      refine zAQ (hel false (level + 1) (c + zK (l.take j) + 1 + zK bd) G2 r hr2 (by omega) (by omega) (by omega) (by omega)) ?_ ?_
      ·rintro y0 G3 ⟨y2, rfl, he2, hc2, hv2, hf2, hr3⟩
       have fr3 : Fr1 r G G3 := fr2.trans hf2
       have l3 : G'.length + 1 ≤ G3.length := Nat.le_trans l2 hf2.1
       have m9 : G3[G.length]? = some (.box (prR (ps.getD k default))) := (hf2.2 _ (by omega) (by omega)).trans k9
       have m10 : G3[G.length + 1]? = some (.box [int 0]) := (hf2.2 _ (by omega) (by omega)).trans k10
       have mx : G3[G'.length]? = some (.box [int 19, int a, int b, .sl 5 (bd.map zAF), .sl 5 (el.map zAF)]) := (hf2.2 _ (by omega) (by omega)).trans kx
       clear hf2 k9 k10 kx
       by_cases hy2 : y2 = 1
       ·subst hy2
        by_cases hab : a = 0 ∧ b = 0
        ·have hI := (eff19 (ps := ps) (k := k) (a := a) (b := b) (bd := bd) (el := el) (out := true) (h := 0) (h' := 0)).2 ⟨hab.1, hab.2, rfl, rfl, he2, he1, rfl⟩
         rw [hI] at ef
         repeat' (first | refine zD (zAD _) ?_ | simp -implicitDefEqProofs (disch := omega) only [e44, mx, zAI, push_cast, simprocAttr, ↓reduceIte])
         have hcnt : c + (zK (l.take j) : Int) + 1 + zK bd + zK el = c + (zK (l.take (j + 1)) : Nat) := by rw [hsn]; push_cast; omega
         exact .mk (j + 1, 0) ⟨e0, e2, e3, e9, e10, e11, e12, e42, e43, rfl, by rw [hr3, hcnt], m9, m10, fr3, by omega, hlt, by dsimp only; omega, by dsimp only; rw [hsn]; omega, by dsimp only; rw [hsl]; omega, ef⟩ (by dsimp only; omega)
        ·have ng := hng (.inl fun h' hh => hab (by obtain ⟨g1, g2, _⟩ := eff19.1 hh; exact ⟨g1, g2⟩))
         repeat' (first | refine And.intro (by omega) ?_ | refine zD (zAD _) ?_ | refine zL (zA2 _) ?_ | simp -implicitDefEqProofs (disch := omega) only [mx, zAI, zAu, push_cast, simprocAttr, ↓reduceIte] | split)
         all_goals first | exact fr3 | exact ⟨ng, fr3⟩ | (exfalso; omega)
       ·have ng := hng (.inl fun h' hh => by
         have := (eff19.1 hh).2.2.2.2.1
         rw [he2] at this
         simp only [Option.some.injEq] at this
         omega)
        repeat' (first | refine And.intro (by omega) ?_ | refine zL (zA2 _) ?_ | simp -implicitDefEqProofs (disch := omega) only [zAu, push_cast, ↓reduceIte, Nat.reduceEqDiff])
        all_goals first | exact fr3 | exact ⟨ng, fr3⟩ | (exfalso; omega)
      ·rintro z0 G3 ⟨rfl, hb2, hf2⟩
       have ng := hng (by
        by_cases hg : ∃ e, zBQ ps k el false 0 = some e
        ·refine .inr (Classical.byContradiction fun hno => hb2 ⟨hg, ?_, ?_⟩) <;> simp only [zBn, zCq] at hno <;> omega
        ·exact .inl fun h' hh => hg ⟨_, (eff19.1 hh).2.2.2.2.1⟩)
       repeat' (first | refine And.intro (by omega) ?_ | simp -implicitDefEqProofs (disch := omega) only [push_cast])
       first | exact fr2.trans hf2 | exact ⟨ng, fr2.trans hf2⟩
     ·have ng := hng (.inl fun h' hh => by
       have := (eff19.1 hh).2.2.2.2.2.1
       rw [he1] at this
       simp only [Option.some.injEq] at this
       omega)
      repeat' (first | refine And.intro (by omega) ?_ | refine zL (zA2 _) ?_ | simp -implicitDefEqProofs (disch := omega) only [zAu, push_cast, ↓reduceIte, Nat.reduceEqDiff])
      all_goals first | exact fr2 | exact ⟨ng, fr2⟩ | (exfalso; omega)
    ·rintro z0 G2 ⟨rfl, hb2, hf2⟩
     have ng := hng (by
      by_cases hg : ∃ e, zBQ ps k bd true 0 = some e
      ·refine .inr (Classical.byContradiction fun hno => hb2 ⟨hg, ?_, ?_⟩) <;> simp only [zBn, zCq] at hno <;> omega
      ·exact .inl fun h' hh => hg ⟨_, (eff19.1 hh).2.2.2.2.2.1⟩)
     repeat' (first | refine And.intro (by omega) ?_ | simp -implicitDefEqProofs (disch := omega) only [push_cast])
     first | exact (fX _ _).trans hf2 | exact ⟨ng, (fX _ _).trans hf2⟩
  ·have ng := hng (.inl fun h' hh => hh0 (eff19.1 hh).2.2.2.1)
   repeat' (first | refine And.intro (by omega) ?_ | refine zD (zAD _) ?_ | refine zL (zA2 _) ?_ | simp -implicitDefEqProofs (disch := omega) only [e0, e10, e42, e43, e44, gr, hrow, zC, zI, splice, List.length_map, zAE, hXr, hX10, hXx, L131, LCode.sub, zQ, zAe, zAu, push_cast, simprocAttr, ↓reduceIte, Bool.and_self])
   all_goals first | exact fX _ _ | exact ⟨ng, fX _ _⟩
 ·repeat' (first | refine And.intro (by omega) ?_ | refine zL (zA2 _) ?_ | simp -implicitDefEqProofs (disch := omega) only [e0, e42, e43, e44, gr, hrow, zC, zI, splice, List.length_map, zAE, hXr, L131, LCode.sub, zQ, zAz, push_cast, simprocAttr, ↓reduceIte, Bool.and_self])
  exact ⟨hng (.inr (.inl (by simp only [zBn]; omega))), fX _ _⟩
theorem rnd_all (ps : List Pr) (k : Nat) (hk : k < ps.length) (hps : ps.length ≤ 1048576) (hp : zBU ps k) (hh : zCD (ps.getD k default)) (l : List Ins) (out : Bool) (level c : Int) (r : Nat) (G : zB) (o : Int) : RndP ps k l out level c r G o := by
 have hcase : (o < 0 ∨ 22 < o) ∨ (o = 0) ∨ (o = 1) ∨ (o = 2) ∨ (o = 22) ∨ (o = 3) ∨ (o = 16) ∨ (o = 17) ∨ (o = 4) ∨ (5 ≤ o ∧ o ≤ 15) ∨ o = 18 ∨ o = 19 ∨ o = 20 ∨ o = 21 := by omega
 rcases hcase with hc | rfl | rfl | rfl | rfl | rfl | rfl | rfl | rfl | hc | rfl | rfl | rfl | rfl
 ·exact rnd_bad ps k hk hps hp hh l out level c r G o hc
 ·exact rnd_0 ps k hk hps hp hh l out level c r G
 ·exact rnd_1 ps k hk hps hp hh l out level c r G
 ·exact rnd_2 ps k hk hps hp hh l out level c r G
 ·exact rnd_22 ps k hk hps hp hh l out level c r G
 ·exact rnd_3 ps k hk hps hp hh l out level c r G
 ·exact rnd_16 ps k hk hps hp hh l out level c r G
 ·exact rnd_17 ps k hk hps hp hh l out level c r G
 ·exact rnd_4 ps k hk hps hp hh l out level c r G
 ·exact rnd_bin ps k hk hps hp hh l out level c r G o hc
 ·exact rnd_18 ps k hk hps hp hh l out level c r G
 ·exact rnd_19 ps k hk hps hp hh l out level c r G
 ·exact rnd_20 ps k hk hps hp hh l out level c r G
 ·exact rnd_21 ps k hk hps hp hh l out level c r G
theorem effC (ps : List Pr) (k : Nat) (hk : k < ps.length) (hps : ps.length ≤ 1048576) (hp : zBU ps k) (hh : zCD (ps.getD k default)) (l : List Ins) : zK l ≤ 1048576 → effP ps k l := by
 induction l using Ins.indL with
 | h l ih =>
 intro hs out level c G r hr hc0 hc1 hl0 hl1
 have hrl := (List.getElem?_eq_some_iff.1 hr).1
 refine zBf Tryz.func131 L131_ok (Nat.le_of_ble_eq_true rfl) ?_
 have hln := zM l
 by_cases hlev : level ≤ 256
 ·repeat' (first | refine And.intro (by omega) ?_ | refine zD (zAD _) ?_ | simp -implicitDefEqProofs (disch := omega) only [L131, hr, zBt, zAW, zCA, pr_c1s, splice, List.length_map, zAe, push_cast, simprocAttr, ↓reduceIte, Bool.and_self])
  refine zAL (fun (st : Nat × Int) e' H' => EfI ps k l out level c r G st.1 st.2 e' H') (fun st => l.length - st.1) (0, 0) ?_ ?_
  ·exact ⟨rfl, rfl, rfl, rfl, rfl, rfl, rfl, rfl, rfl, rfl, by rw [zC hrl, hr]; simp [zK], by simp, by simp, Fr1.app _, by simp, Nat.zero_le _, by simp, by simp [zK]; omega, by simp [zAC]; omega, by simp⟩
  rintro ⟨j, h⟩ e' G' hI
  by_cases hlt : j < l.length
  ·have hk0 := zA1 hlt
   have hx := ih _ hk0
   have hb := zAm l (j + 1)
   rw [zAi hlt, icnt_eq] at hb
   have hx1 := hx.1 (by omega)
   have hx2 := hx.2 (by omega)
   exact rnd_all ps k hk hps hp hh l out level c r G (l.getD j default).op j h e' G' (l.getD j default).a (l.getD j default).b (l.getD j default).body (l.getD j default).els hlt (by cases l.getD j default; rfl) hs hx1 hx2 hrl hc0 hl0 hlev hI
  ·obtain ⟨e0, e2, e3, e9, e10, e11, e12, e42, e43, e44, gr, g9, g10, fr, gl, hj, hhh, cc, lv, ef⟩ := hI
   simp only at *
   have e : j = l.length := by omega
   subst e
   rw [List.drop_length] at ef
   rw [List.take_length] at gr cc lv
   repeat' (simp -implicitDefEqProofs (disch := omega) only [e43, e44, e10, g10, zAh, push_cast, simprocAttr, ↓reduceIte])
   exact ⟨h, rfl, ef, cc, lv, fr, gr⟩
 ·by_cases hl : l.length = 0
  ·have hl2 := List.length_eq_zero_iff.1 hl
   subst hl2
   have hL : (Ax.LX.c (.v (.int .i64 0))) = (Ax.LX.c (.v (.int .i64 0))) := rfl
   repeat' (first | refine And.intro (by omega) ?_ | refine zD (zAD _) ?_ | simp -implicitDefEqProofs (disch := omega) only [L131, hr, zBt, zAW, zCA, pr_c1s, splice, List.length_map, List.map_nil, List.length_nil, zAz, push_cast, simprocAttr, ↓reduceIte, Bool.and_self])
   refine zAL (fun (_ : Unit) e' H' => e' 10 = .ptr (G.length + 1) 0 0 ∧ e' 43 = int 0 ∧ e' 44 = int 0 ∧ H' = G ++ [.box (prR (ps.getD k default)), .box [int 0]]) (fun _ => 0) () ⟨rfl, rfl, rfl, rfl⟩ ?_
   rintro _ e' H' ⟨h10, h43, h44, rfl⟩
   repeat' (simp -implicitDefEqProofs (disch := omega) only [h10, h43, h44, push_cast, simprocAttr, ↓reduceIte])
   exact ⟨0, rfl, by simp [zBQ], by simp [zK]; omega, by simp [zAC]; omega, Fr1.app _, by rw [zC hrl, hr]; simp [zK]⟩
  ·repeat' (first | refine zL (zA2 _) ?_ | simp -implicitDefEqProofs (disch := omega) only [L131, List.length_map, zAz, zAu, push_cast, simprocAttr, ↓reduceIte])
   have h1 : 1 ≤ zAC l := by
    cases l with
    | nil => exact absurd rfl hl
    | cons x l => simp only [zAC]; rw [ilev_eq]; omega
   first | exact ⟨fun hg => by have := hg.2.2; omega, Fr1.refl⟩ | exact Fr1.refl
theorem nmEqC (m q : Pr) (r : Nat) (H : zB) (hr : H[r]? = some (.box (prR q))) : zT 130 [.agg (prR m), .ptr r 0 0] H (bool (decide (m.name = q.name))) := by
 refine ACall.drop (R := fun x => x = bool (decide (m.name = q.name))) ?_
 refine enter Tryz.func130 L130_ok (Nat.le_of_ble_eq_true rfl) ?_
 have hlt : r < H.length := (List.getElem?_eq_some_iff.1 hr).1
 have hg : ∀ l, (H ++ l)[r]? = some (HO.box (prR q)) := fun l => by rw [List.getElem?_append_left hlt]; exact hr
 repeat' (simp -implicitDefEqProofs (disch := omega) only [L130, zAE, pr_c1s, zAW, pr_drop0, hg, push_cast, simprocAttr, ↓reduceIte])
 exact ⟨_, rfl⟩
theorem nmIdxC (l : List Pr) (q : Pr) (hl : l.length ≤ 1048576) (r : Nat) (H : zB) (hr : H[r]? = some (.box (prR q))) : zT 176 [.sl 6 (l.map prR), .fn (.func 130) [] [.ptr r 0 0]] H (int (idxI (l.findIdx? fun m => decide (m.name = q.name)))) := by
 refine enter Tryz.func176 L176_ok (Nat.le_of_ble_eq_true rfl) ?_
 repeat' (simp -implicitDefEqProofs (disch := omega) only [L176, push_cast, simprocAttr, ↓reduceIte])
 refine zAL (fun (j : Nat) e' H' => e' 0 = .sl 6 (l.map prR) ∧ e' 1 = .fn (.func 130) [] [.ptr r 0 0] ∧ e' 7 = int l.length ∧ e' 8 = int j ∧ H = H' ∧ j ≤ l.length ∧ ∀ i, i < j → ¬ (l.getD i default).name = q.name) (fun j => l.length - j) 0 ?_ ?_
 ·exact ⟨rfl, rfl, rfl, rfl, rfl, Nat.zero_le _, by simp⟩
 rintro j e' H' ⟨h0, h1, h7, h8, rfl, hj, hb⟩
 by_cases hlt : j < l.length
 ·have hc := fun m => nmEqC m q r H hr
  cases hin : decide ((l.getD j default).name = q.name)
  ·have hc1 := hc (l.getD j default)
   rw [hin] at hc1
   repeat' (first | refine And.intro (by omega) ?_ | refine zA (hc1) ?_ | simp -implicitDefEqProofs (disch := omega) only [h0, h1, h7, h8, zBt, zAW, zCA, zQ, push_cast, simprocAttr, ↓reduceIte])
   exact .mk (j + 1) ⟨h0, h1, h7, rfl, rfl, hlt, upto_succ hb (of_decide_eq_false hin)⟩ (by omega)
  ·have hc1 := hc (l.getD j default)
   rw [hin] at hc1
   repeat' (first | refine And.intro (by omega) ?_ | refine zA (hc1) ?_ | simp -implicitDefEqProofs (disch := omega) only [h0, h1, h7, h8, zBt, zAW, zCA, zQ, push_cast, simprocAttr, ↓reduceIte])
   rw [find_some hlt hin fun i hi => decide_eq_false (hb i hi)]
   rfl
 ·rw [find_none (l := l) (p := fun m => decide (m.name = q.name)) fun i hi => decide_eq_false (hb i (by omega))]
  repeat' (simp -implicitDefEqProofs (disch := omega) only [h7, h8, zAh, push_cast, ↓reduceIte, Int.reduceNeg])
  rfl
theorem nmHasC (l : List Pr) (q : Pr) (hl : l.length ≤ 1048576) (r : Nat) (H : zB) (hr : H[r]? = some (.box (prR q))) : zT 129 [.sl 6 (l.map prR), .fn (.func 130) [] [.ptr r 0 0]] H (bool (l.any fun m => decide (m.name = q.name))) := by
 refine enter Tryz.func129 L129_ok (Nat.le_of_ble_eq_true rfl) ?_
 have hi : (l.any fun m => decide (m.name = q.name)) = decide (0 ≤ idxI (l.findIdx? fun m => decide (m.name = q.name))) := by
  cases h : l.findIdx? fun m => decide (m.name = q.name) with
  | none =>
   rw [List.findIdx?_eq_none_iff] at h
   refine (?_ : _ = false).trans (show false = decide (0 ≤ idxI none) from rfl)
   rw [List.any_eq_false]
   intro x hx
   rw [h x hx]; decide
  | some i =>
   refine (?_ : _ = true).trans (decide_eq_true (show 0 ≤ idxI (some i) by simp only [idxI]; omega)).symm
   rw [List.any_eq_true]
   obtain ⟨h1, h2, _⟩ := List.findIdx?_eq_some_iff_getElem.1 h
   exact ⟨_, List.getElem_mem h1, h2⟩
 rw [hi]
 have hb : -1 ≤ idxI (l.findIdx? fun m => decide (m.name = q.name)) := by
  cases l.findIdx? fun m => decide (m.name = q.name) <;> simp only [idxI] <;> omega
 repeat' (first | refine zA (nmIdxC l q hl r H hr) ?_ | simp -implicitDefEqProofs (disch := omega) only [L129, push_cast, simprocAttr, ↓reduceIte])
@[push_cast] theorem recE_one (m : Option Value) (d : Nat) (e : Env) : recE m [d] e = up e d (.v (Go.Ax.recV m)) := rfl
@[push_cast] theorem recE_nil (m : Option Value) (e : Env) : recE m [] e = e := rfl
@[push_cast] theorem recV_none : Go.Ax.recV none = .nilIface := rfl
@[push_cast] theorem recV_some (z : Value) : Go.Ax.recV (some z) = z := rfl
theorem validDefN (r : Nat) (H : zB) : ADef Tryz.prog 126 [.ptr r 0 0] none H fun H' => H' = H := by
 refine enterDef Tryz.func126 L126_ok (Nat.le_of_ble_eq_true rfl) ?_
 repeat' (simp -implicitDefEqProofs (disch := omega) only [L126, push_cast, simprocAttr, ↓reduceIte])
theorem validDefW (r : Nat) (H : zB) (b : Bool) (hr : H[r]? = some (.box [bool b])) : ADef Tryz.prog 126 [.ptr r 0 0] (some wrongV) H fun H' => H' = (H ++ [HO.box []]).set r (.box [bool false]) := by
 have hl := (List.getElem?_eq_some_iff.1 hr).1
 refine enterDef Tryz.func126 L126_ok (Nat.le_of_ble_eq_true rfl) ?_
 repeat' (simp -implicitDefEqProofs (disch := omega) only [L126, zC, zI, hr, splice, push_cast, simprocAttr, ↓reduceIte, Bool.and_self])
structure VdI (ps : List Pr) (H : zB) (j : Nat) (own : Int) (e' : Env) (G : zB) : Prop where
 e1 : e' 1 = .ptr H.length 0 0
 e2 : e' 2 = .ptr (H.length + 1) 0 0
 e3 : e' 3 = .ptr (H.length + 2) 0 0
 e18 : e' 18 = zBm ps
 e19 : e' 19 = int ps.length
 e20 : e' 20 = int j
 fr : ∀ i, i < H.length → G[i]? = H[i]?
 gl : H.length + 3 ≤ G.length
 g0 : G[H.length]? = some (.box [zBm ps])
 g1 : G[H.length + 1]? = some (.box [bool false])
 g2 : G[H.length + 2]? = some (.box [zBm ps, int own, int (zBB (ps.take j) : Nat)])
 hj : j ≤ ps.length
 all : ∀ i, i < j → prP ps i
abbrev VdR (ps : List Pr) (H : zB) (x : AV) (H' : zB) : Prop := x = bool (validB ps) ∧ x.cl = true ∧ ∃ rest, H' = H ++ rest
theorem zCa (ps : List Pr) (H G : zB) (e : Env) (h2 : e 2 = .ptr (H.length + 1) 0 0) (fr : ∀ i, i < H.length → G[i]? = H[i]?) (gl : H.length + 2 ≤ G.length) (g1 : G[H.length + 1]? = some (.box [bool false])) (hn : ¬ zBw ps) :
  postD Tryz.prog L69.res (VdR ps H) 126 [.ptr (H.length + 1) 0 0] (.pan wrongV) e G := by
 intro X ρ w vs hr hv
 refine (validDefW (H.length + 1) G false g1 X ρ w vs hr hv).mono ?_
 rintro en u' w' ⟨v, H', ρ', h1, h2', h3, h4, h5⟩
 refine ⟨v, H', ρ', h1, h2', ?_, h4, h5⟩
 subst h3
 have hg : ((G ++ [HO.box []]).set (H.length + 1) (.box [bool false]))[H.length + 1]? = some (.box [bool false]) := by
  rw [List.getElem?_set_self (by simp; omega)]
 obtain ⟨rest, hrest⟩ := zBH (H := H) (G := (G ++ [HO.box []]).set (H.length + 1) (.box [bool false])) (by simp; omega) fun i hi => by
  rw [List.getElem?_set_ne (by omega), List.getElem?_append_left (by omega), fr i hi]
 have hvb := validB_f hn
 refine ⟨?_, ?_, ?_, rest, hrest⟩
 ·simp [L69, zAO, zCU, h2, rLoad, hg, rLoadO, isVer, Res.also, isBox]
 ·simp [L69, zAO, zCU, h2, rLoad, hg, rLoadO, isVer, Res.also, isBox, cellsV, hvb]
 ·simp [L69, zAO, zCU, h2, rLoad, hg, rLoadO, isVer, Res.also, isBox, cellsV, AV.cl]
theorem vd_ret (ps : List Pr) (H G : zB) (e : Env) (h2 : e 2 = .ptr (H.length + 1) 0 0) (fr : ∀ i, i < H.length → G[i]? = H[i]?) (gl : H.length + 2 ≤ G.length) (g1 : G[H.length + 1]? = some (.box [bool true])) (hn : zBw ps) :
  postD Tryz.prog L69.res (VdR ps H) 126 [.ptr (H.length + 1) 0 0] .ret e G := by
 intro X ρ w vs hr hv
 refine (validDefN (H.length + 1) G X ρ w vs hr hv).mono ?_
 rintro en u' w' ⟨v, H', ρ', h1, h2', h3, h4, h5⟩
 refine ⟨v, H', ρ', h1, h2', ?_, h4, h5⟩
 subst h3
 obtain ⟨rest, hrest⟩ := zBH (H := H) (G := H') (by omega) fr
 have hvb := validB_t.2 hn
 refine ⟨?_, ?_, ?_, rest, hrest⟩
 ·simp [L69, zAO, zCU, h2, rLoad, g1, rLoadO, isVer, Res.also, isBox]
 ·simp [L69, zAO, zCU, h2, rLoad, g1, rLoadO, isVer, Res.also, isBox, cellsV, hvb]
 ·simp [L69, zAO, zCU, h2, rLoad, g1, rLoadO, isVer, Res.also, isBox, cellsV, AV.cl]
theorem enter_vd : Enter Tryz.prog 126 := ⟨_, Tryz.func126, by kernel_rfl, by kernel_rfl⟩
set_option maxHeartbeats 8000000 in
theorem codeValidC (ps : List Pr) (hs : CodeSml ps) (H : zB) : zT 69 [.agg [zBm ps]] H (bool (validB ps)) := by
 obtain ⟨hs1, hs2, hs3⟩ := hs
 refine ACall.drop (R := fun x => x = bool (validB ps)) ?_
 refine enterD Tryz.func69 L69_ok (Nat.le_of_ble_eq_true rfl) ?_
 show wpD _ L69.res (VdR ps H) _ _ _
 generalize hres : L69.res = res
 by_cases h8 : ps.length ≤ 8
 ·repeat' (simp -implicitDefEqProofs (disch := omega) only [L69, zAE, List.length_map, zAe, push_cast, simprocAttr, ↓reduceIte, Bool.and_self])
  refine ⟨_, _, _, rfl, enter_vd, ?_⟩
  repeat' (first | refine zD (zAD _) ?_ | simp -implicitDefEqProofs (disch := omega) only [zAd, zAE, rBuild, fillA, List.length_map, push_cast, simprocAttr, ↓reduceIte, Bool.and_self])
  refine zAL (fun (st : Nat × Int) e' G => VdI ps H st.1 st.2 e' G) (fun st => ps.length - st.1) (0, 0) ?_ ?_
  ·refine ⟨rfl, rfl, rfl, rfl, rfl, rfl, fun i hi => List.getElem?_append_left hi, by simp, by simp [zAt], by simp [zAt], by simp [zAt, zBB], by omega, fun i hi => by omega⟩
  rintro ⟨j, own⟩ e' G ⟨h1, h2, h3, h18, h19, h20, fr, gl, g0, g1, g2, hj, hall⟩
  simp only at h20 g2 hj hall
  by_cases hlt : j < ps.length
  ·obtain ⟨m1, m2, m3⟩ := hs3 _ (zA1 hlt)
   have hfail : ¬ prP ps j → ¬ zBw ps := fun hn hv => hn (hv.2 j hlt)
   repeat' (first | refine And.intro (by omega) ?_ | simp -implicitDefEqProofs (disch := omega) only [h3, h18, h19, h20, g2, zC, zI, zBt, zAW, pr_drop0, splice, List.length_map, zQ, push_cast, simprocAttr, ↓reduceIte, Bool.and_self])
   have z0 : (G.set (H.length + 2) (HO.box [zBm ps, int j, int (zBB (ps.take j) : Nat)]) ++ [HO.box (prR (ps.getD j default))])[H.length]? = some (.box [zBm ps]) := by
    rw [List.getElem?_append_left (by simp; omega), List.getElem?_set_ne (by omega), g0]
   have z1 : (G.set (H.length + 2) (HO.box [zBm ps, int j, int (zBB (ps.take j) : Nat)]) ++ [HO.box (prR (ps.getD j default))])[H.length + 1]? = some (.box [bool false]) := by
    rw [List.getElem?_append_left (by simp; omega), List.getElem?_set_ne (by omega), g1]
   have z2 : (G.set (H.length + 2) (HO.box [zBm ps, int j, int (zBB (ps.take j) : Nat)]) ++ [HO.box (prR (ps.getD j default))])[H.length + 2]? = some (.box [zBm ps, int j, int (zBB (ps.take j) : Nat)]) := by
    rw [List.getElem?_append_left (by simp; omega), List.getElem?_set_self (by omega)]
   have z5 : (G.set (H.length + 2) (HO.box [zBm ps, int j, int (zBB (ps.take j) : Nat)]) ++ [HO.box (prR (ps.getD j default))])[G.length]? = some (.box (prR (ps.getD j default))) := by
    rw [List.getElem?_append_right (by simp)]; simp
   have zf : ∀ i, i < H.length → (G.set (H.length + 2) (HO.box [zBm ps, int j, int (zBB (ps.take j) : Nat)]) ++ [HO.box (prR (ps.getD j default))])[i]? = H[i]? := fun i hi => by
    rw [List.getElem?_append_left (by simp; omega), List.getElem?_set_ne (by omega), fr i hi]
   have zl : H.length + 4 ≤ (G.set (H.length + 2) (HO.box [zBm ps, int j, int (zBB (ps.take j) : Nat)]) ++ [HO.box (prR (ps.getD j default))]).length := by simp; omega
   have zl2 : G.length < (G.set (H.length + 2) (HO.box [zBm ps, int j, int (zBB (ps.take j) : Nat)]) ++ [HO.box (prR (ps.getD j default))]).length := by simp
   have zr : H.length + 3 ≤ G.length := gl
   simp only [prR] at z0 z1 z2 z5 zf zl zl2
   generalize (G.set (H.length + 2) (HO.box [zBm ps, int j, int (zBB (ps.take j) : Nat)]) ++ [HO.box [str (ps.getD j default).name, int (ps.getD j default).par, int (ps.getD j default).slots, int (ps.getD j default).res, .sl 1 ((ps.getD j default).outs.map iR), .sl 5 ((ps.getD j default).body.map zAF)]]) = Z at *
   generalize hrr : G.length = r at *
   clear fr gl g0 g1 g2 hrr
   have z5' : Z[r]? = some (.box (prR (ps.getD j default))) := z5
   cases hN : isName (ps.getD j default).name with
   | false =>
    repeat' (first | refine zA (nameLx (ps.getD j default).name _ (by omega)) ?_ | refine zL (zA2 _) ?_ | simp -implicitDefEqProofs (disch := omega) only [z5, hN, push_cast, simprocAttr, ↓reduceIte])
    subst hres
    exact zCa ps H _ _ h2 zf (by omega) z1 (hfail fun hp => by rw [hp.1.1] at hN; cases hN)
   | true =>
    have cN : zT 129 [.sl 6 ((ps.map prR).take (j - 0)), .fn (.func 130) [] [.ptr r 0 0]] Z (bool ((ps.take j).any fun m => decide (m.name = (ps.getD j default).name))) := by
     have := nmHasC (ps.take j) (ps.getD j default) (by simp; omega) r Z z5'
     rw [List.map_take] at this
     exact this
    cases hC : (ps.take j).any fun m => decide (m.name = (ps.getD j default).name) with
    | true =>
     rw [hC] at cN
     repeat' (first | refine And.intro (by omega) ?_ | refine zA (nameLx (ps.getD j default).name _ (by omega)) ?_ | refine zA (cN) ?_ | refine zL (zA2 _) ?_ | simp -implicitDefEqProofs (disch := omega) only [h1, z0, z5, hN, List.length_map, push_cast, simprocAttr, ↓reduceIte])
     subst hres
     refine zCa ps H _ _ h2 zf (by omega) z1 (hfail fun hp => ?_)
     obtain ⟨m, hm, hmn⟩ := List.any_eq_true.1 hC
     obtain ⟨i, hi, rfl⟩ := List.mem_iff_getElem.1 hm
     simp only [List.length_take] at hi
     have e : (ps.take j)[i] = ps.getD i default := by rw [List.getElem_take, List.getD_eq_getElem?_getD, List.getElem?_eq_getElem (by omega)]; rfl
     rw [e, decide_eq_true_eq] at hmn
     exact hp.1.2 i (by omega) hmn
    | false =>
     rw [hC] at cN
     have hne : ∀ i, i < j → ¬ (ps.getD i default).name = (ps.getD j default).name := fun i hi hh => by
      rw [List.any_eq_false] at hC
      refine hC (ps.getD i default) ?_ (decide_eq_true hh)
      rw [List.mem_iff_getElem]
      refine ⟨i, by simp; omega, ?_⟩
      rw [List.getElem_take, List.getD_eq_getElem?_getD, List.getElem?_eq_getElem (by omega)]; rfl
     by_cases hP1 : 0 ≤ (ps.getD j default).par ∧ (ps.getD j default).par ≤ (ps.getD j default).slots ∧ (ps.getD j default).slots ≤ 1024 ∧ -1 ≤ (ps.getD j default).res ∧ (ps.getD j default).res ≤ 128
     ·obtain ⟨q1, q2, q3, q4, q5⟩ := hP1
      by_cases hP2 : (ps.getD j default).outs.length ≤ 128 ∧ ((ps.getD j default).res = -1 ∨ (ps.getD j default).outs.length = 0)
      ·obtain ⟨q6, q7⟩ := hP2
       by_cases hrs : (ps.getD j default).res = -1
       ·repeat' (first | refine And.intro (by omega) ?_ | refine zA (nameLx (ps.getD j default).name _ (by omega)) ?_ | refine zA (cN) ?_ | refine zD (zAD _) ?_ | simp -implicitDefEqProofs (disch := omega) only [h1, z0, z5, hN, List.length_map, zAe, zAI, push_cast, simprocAttr, ↓reduceIte])
        refine zAL (fun (m : Nat) e' G' => e' 1 = .ptr H.length 0 0 ∧ e' 2 = .ptr (H.length + 1) 0 0 ∧ e' 3 = .ptr (H.length + 2) 0 0 ∧ e' 5 = .ptr r 0 0 ∧ e' 18 = zBm ps ∧ e' 19 = int ps.length ∧ e' 20 = int j ∧ e' 85 = .sl 1 ((ps.getD j default).outs.map iR) ∧ e' 86 = int (ps.getD j default).outs.length ∧ e' 87 = int m ∧ Z = G' ∧ m ≤ (ps.getD j default).outs.length ∧ ∀ m', m' < m → 0 ≤ (ps.getD j default).outs.getD m' default ∧ (ps.getD j default).outs.getD m' default < (ps.getD j default).slots) (fun m => (ps.getD j default).outs.length - m) 0 ?_ ?_
        ·exact ⟨h1, h2, h3, rfl, h18, h19, h20, rfl, rfl, rfl, rfl, Nat.zero_le _, fun m hm => by omega⟩
        clear h1 h2 h3 h18 h19 h20
        rintro m e' G' ⟨h1, h2, h3, h5, h18, h19, h20, h85, h86, h87, hGZ, hm, hout⟩
        subst hGZ
        by_cases hlt3 : m < (ps.getD j default).outs.length
        ·have hor : ((ps.getD j default).outs.map iR).getD m [] = [int ((ps.getD j default).outs.getD m default)] := zO hlt3
         by_cases hO : 0 ≤ (ps.getD j default).outs.getD m default ∧ (ps.getD j default).outs.getD m default < (ps.getD j default).slots
         ·repeat' (first | refine And.intro (by omega) ?_ | refine zD (zAD _) ?_ | simp -implicitDefEqProofs (disch := omega) only [h5, h85, h86, h87, z5, hor, List.length_map, zQ, zAe, push_cast, simprocAttr, ↓reduceIte])
          exact .mk (m + 1) ⟨h1, h2, h3, h5, h18, h19, h20, h85, h86, rfl, rfl, hlt3, upto_succ hout hO⟩ (by omega)
         ·have hv : ¬ zBw ps := hfail fun hp => hO (hp.2.1.2.2.2.2.2.2.2 _ (zA1 hlt3))
          have hO' : ¬ 0 ≤ (ps.getD j default).outs.getD m default ∨ (0 ≤ (ps.getD j default).outs.getD m default ∧ ¬ (ps.getD j default).outs.getD m default < (ps.getD j default).slots) := by omega
          subst hres
          rcases hO' with hc | ⟨hc1, hc2⟩
          ·repeat' (first | refine And.intro (by omega) ?_ | refine zL (zA2 _) ?_ | simp -implicitDefEqProofs (disch := omega) only [h85, h86, h87, hor, List.length_map, zQ, zAz, push_cast, simprocAttr, ↓reduceIte])
           exact zCa ps H _ _ h2 zf (by omega) z1 hv
          ·repeat' (first | refine And.intro (by omega) ?_ | refine zL (zA2 _) ?_ | simp -implicitDefEqProofs (disch := omega) only [h5, h85, h86, h87, z5, hor, List.length_map, zQ, zAh, zAe, push_cast, simprocAttr, ↓reduceIte])
           exact zCa ps H _ _ h2 zf (by omega) z1 hv
        ·have e : m = (ps.getD j default).outs.length := by omega
         subst e
         have hout' : ∀ s ∈ (ps.getD j default).outs, 0 ≤ s ∧ s < (ps.getD j default).slots := by
          intro s hs
          obtain ⟨m, hm, rfl⟩ := List.mem_iff_getElem.1 hs
          have := hout m hm
          have e : (ps.getD j default).outs.getD m default = (ps.getD j default).outs[m] := by rw [List.getD_eq_getElem?_getD, List.getElem?_eq_getElem hm]; rfl
          rw [e] at this
          exact this
         have hH : zCD (ps.getD j default) := ⟨q1, q2, q3, q4, q5, q6, q7.imp id List.length_eq_zero_iff.1, hout'⟩
         have hsn := zCI hlt
         have hcnt : zBB (ps.take j) ≤ 32768 := by
          cases j with
          | zero => simp [zBB]
          | succ j => exact (hall j (by omega)).2.2.1
         have cE := effC ps j hlt hs1 (prsOk_of hall) hH (ps.getD j default).body m3 true 1 (zBB (ps.take j) : Nat) Z (H.length + 2) z2 (by omega) (by omega) (by omega) (by omega)
         repeat' (simp -implicitDefEqProofs (disch := omega) only [h3, h5, h86, h87, z5, zAh, push_cast, simprocAttr, ↓reduceIte])
         refine zG cE ?_ ?_
         ·rintro x G' ⟨e, rfl, hE, hc1, hc2, hfr, hg2⟩
          have y0 := (hfr.2 H.length (by omega) (by omega)).trans z0
          have y1 := (hfr.2 (H.length + 1) (by omega) (by omega)).trans z1
          have yf : ∀ i, i < H.length → G'[i]? = H[i]? := fun i hi => (hfr.2 i (by omega) (by omega)).trans (zf i hi)
          have yl := hfr.1
          by_cases he : e = 0
          ·subst he
           repeat' (first | refine zD (zAD _) ?_ | simp -implicitDefEqProofs (disch := omega) only [h20, push_cast, ↓reduceIte, Nat.reduceEqDiff])
           exact .mk (j + 1, (j : Int)) ⟨h1, h2, h3, h18, h19, rfl, yf, by omega, y0, y1, by rw [hg2, hsn]; simp, hlt, upto_succ hall ⟨⟨hN, hne⟩, hH, by omega, by omega, hE⟩⟩ (by dsimp only; omega)
          ·have hv : ¬ zBw ps := hfail fun hp => by have := hp.2.2.2.2; rw [hE] at this; exact he (by simpa using this)
           repeat' (first | refine zL (zA2 _) ?_ | simp -implicitDefEqProofs (disch := omega) only [zAu, push_cast])
           subst hres
           exact zCa ps H _ _ h2 yf (by omega) y1 hv
         ·rintro z G' ⟨rfl, hng, hfr⟩
          have y1 := (hfr.2 (H.length + 1) (by omega) (by omega)).trans z1
          have yf : ∀ i, i < H.length → G'[i]? = H[i]? := fun i hi => (hfr.2 i (by omega) (by omega)).trans (zf i hi)
          have yl := hfr.1
          repeat' (simp -implicitDefEqProofs (disch := omega) only [push_cast])
          subst hres
          exact zCa ps H _ _ h2 yf (by omega) y1 (hfail fun hp => hng ⟨⟨0, hp.2.2.2.2⟩, by have := hp.2.2.1; omega, by have := hp.2.2.2.1; omega⟩)
       ·repeat' (first | refine And.intro (by omega) ?_ | refine zA (nameLx (ps.getD j default).name _ (by omega)) ?_ | refine zA (cN) ?_ | refine zD (zAD _) ?_ | simp -implicitDefEqProofs (disch := omega) only [h1, z0, z5, hN, List.length_map, zAe, zAI, zAu, push_cast, simprocAttr, ↓reduceIte])
        refine zAL (fun (m : Nat) e' G' => e' 1 = .ptr H.length 0 0 ∧ e' 2 = .ptr (H.length + 1) 0 0 ∧ e' 3 = .ptr (H.length + 2) 0 0 ∧ e' 5 = .ptr r 0 0 ∧ e' 18 = zBm ps ∧ e' 19 = int ps.length ∧ e' 20 = int j ∧ e' 85 = .sl 1 ((ps.getD j default).outs.map iR) ∧ e' 86 = int (ps.getD j default).outs.length ∧ e' 87 = int m ∧ Z = G' ∧ m ≤ (ps.getD j default).outs.length ∧ ∀ m', m' < m → 0 ≤ (ps.getD j default).outs.getD m' default ∧ (ps.getD j default).outs.getD m' default < (ps.getD j default).slots) (fun m => (ps.getD j default).outs.length - m) 0 ?_ ?_
        ·exact ⟨h1, h2, h3, rfl, h18, h19, h20, rfl, rfl, rfl, rfl, Nat.zero_le _, fun m hm => by omega⟩
        clear h1 h2 h3 h18 h19 h20
        rintro m e' G' ⟨h1, h2, h3, h5, h18, h19, h20, h85, h86, h87, hGZ, hm, hout⟩
        subst hGZ
        by_cases hlt3 : m < (ps.getD j default).outs.length
        ·exfalso; omega
        ·have e : m = (ps.getD j default).outs.length := by omega
         subst e
         have hout' : ∀ s ∈ (ps.getD j default).outs, 0 ≤ s ∧ s < (ps.getD j default).slots := by
          intro s hs
          obtain ⟨m, hm, rfl⟩ := List.mem_iff_getElem.1 hs
          have := hout m hm
          have e : (ps.getD j default).outs.getD m default = (ps.getD j default).outs[m] := by rw [List.getD_eq_getElem?_getD, List.getElem?_eq_getElem hm]; rfl
          rw [e] at this
          exact this
         have hH : zCD (ps.getD j default) := ⟨q1, q2, q3, q4, q5, q6, q7.imp id List.length_eq_zero_iff.1, hout'⟩
         have hsn := zCI hlt
         have hcnt : zBB (ps.take j) ≤ 32768 := by
          cases j with
          | zero => simp [zBB]
          | succ j => exact (hall j (by omega)).2.2.1
         have cE := effC ps j hlt hs1 (prsOk_of hall) hH (ps.getD j default).body m3 true 1 (zBB (ps.take j) : Nat) Z (H.length + 2) z2 (by omega) (by omega) (by omega) (by omega)
         repeat' (simp -implicitDefEqProofs (disch := omega) only [h3, h5, h86, h87, z5, zAh, push_cast, simprocAttr, ↓reduceIte])
         refine zG cE ?_ ?_
         ·rintro x G' ⟨e, rfl, hE, hc1, hc2, hfr, hg2⟩
          have y0 := (hfr.2 H.length (by omega) (by omega)).trans z0
          have y1 := (hfr.2 (H.length + 1) (by omega) (by omega)).trans z1
          have yf : ∀ i, i < H.length → G'[i]? = H[i]? := fun i hi => (hfr.2 i (by omega) (by omega)).trans (zf i hi)
          have yl := hfr.1
          by_cases he : e = 0
          ·subst he
           repeat' (first | refine zD (zAD _) ?_ | simp -implicitDefEqProofs (disch := omega) only [h20, push_cast, ↓reduceIte, Nat.reduceEqDiff])
           exact .mk (j + 1, (j : Int)) ⟨h1, h2, h3, h18, h19, rfl, yf, by omega, y0, y1, by rw [hg2, hsn]; simp, hlt, upto_succ hall ⟨⟨hN, hne⟩, hH, by omega, by omega, hE⟩⟩ (by dsimp only; omega)
          ·have hv : ¬ zBw ps := hfail fun hp => by have := hp.2.2.2.2; rw [hE] at this; exact he (by simpa using this)
           repeat' (first | refine zL (zA2 _) ?_ | simp -implicitDefEqProofs (disch := omega) only [zAu, push_cast])
           subst hres
           exact zCa ps H _ _ h2 yf (by omega) y1 hv
         ·rintro z G' ⟨rfl, hng, hfr⟩
          have y1 := (hfr.2 (H.length + 1) (by omega) (by omega)).trans z1
          have yf : ∀ i, i < H.length → G'[i]? = H[i]? := fun i hi => (hfr.2 i (by omega) (by omega)).trans (zf i hi)
          have yl := hfr.1
          repeat' (simp -implicitDefEqProofs (disch := omega) only [push_cast])
          subst hres
          exact zCa ps H _ _ h2 yf (by omega) y1 (hfail fun hp => hng ⟨⟨0, hp.2.2.2.2⟩, by have := hp.2.2.1; omega, by have := hp.2.2.2.1; omega⟩)
      ·have hc : ¬ (ps.getD j default).outs.length ≤ 128 ∨ ((ps.getD j default).outs.length ≤ 128 ∧ ¬ (ps.getD j default).res = -1 ∧ ¬ (ps.getD j default).outs.length = 0) := by omega
       have hv : ¬ zBw ps := hfail fun hp => hP2 ⟨hp.2.1.2.2.2.2.2.1, hp.2.1.2.2.2.2.2.2.1.imp id fun h => by rw [h]; rfl⟩
       rcases hc with hc | ⟨hc1, hc2, hc3⟩
       ·repeat' (first | refine And.intro (by omega) ?_ | refine zA (nameLx (ps.getD j default).name _ (by omega)) ?_ | refine zA (cN) ?_ | refine zD (zAD _) ?_ | refine zL (zA2 _) ?_ | simp -implicitDefEqProofs (disch := omega) only [h1, z0, z5, hN, List.length_map, zAe, zAz, push_cast, simprocAttr, ↓reduceIte])
        subst hres
        exact zCa ps H _ _ h2 zf (by omega) z1 hv
       ·repeat' (first | refine And.intro (by omega) ?_ | refine zA (nameLx (ps.getD j default).name _ (by omega)) ?_ | refine zA (cN) ?_ | refine zD (zAD _) ?_ | refine zL (zA2 _) ?_ | simp -implicitDefEqProofs (disch := omega) only [h1, z0, z5, hN, List.length_map, zAe, zAu, push_cast, simprocAttr, ↓reduceIte])
        subst hres
        exact zCa ps H _ _ h2 zf (by omega) z1 hv
     ·have hc : ¬ 0 ≤ (ps.getD j default).par ∨ (0 ≤ (ps.getD j default).par ∧ ¬ (ps.getD j default).par ≤ (ps.getD j default).slots) ∨ (0 ≤ (ps.getD j default).par ∧ (ps.getD j default).par ≤ (ps.getD j default).slots ∧ ¬ (ps.getD j default).slots ≤ 1024) ∨ (0 ≤ (ps.getD j default).par ∧ (ps.getD j default).par ≤ (ps.getD j default).slots ∧ (ps.getD j default).slots ≤ 1024 ∧ ¬ -1 ≤ (ps.getD j default).res) ∨ (0 ≤ (ps.getD j default).par ∧ (ps.getD j default).par ≤ (ps.getD j default).slots ∧ (ps.getD j default).slots ≤ 1024 ∧ -1 ≤ (ps.getD j default).res ∧ ¬ (ps.getD j default).res ≤ 128) := by omega
      have hv : ¬ zBw ps := hfail fun hp => hP1 ⟨hp.2.1.1, hp.2.1.2.1, hp.2.1.2.2.1, hp.2.1.2.2.2.1, hp.2.1.2.2.2.2.1⟩
      subst hres
      rcases hc with hc | ⟨hc1, hc2⟩ | ⟨hc1, hc2, hc3⟩ | ⟨hc1, hc2, hc3, hc4⟩ | ⟨hc1, hc2, hc3, hc4, hc5⟩
      ·repeat' (first | refine And.intro (by omega) ?_ | refine zA (nameLx (ps.getD j default).name _ (by omega)) ?_ | refine zA (cN) ?_ | refine zD (zAD _) ?_ | refine zL (zA2 _) ?_ | simp -implicitDefEqProofs (disch := omega) only [h1, z0, z5, hN, List.length_map, zAz, push_cast, simprocAttr, ↓reduceIte])
       exact zCa ps H _ _ h2 zf (by omega) z1 hv
      ·repeat' (first | refine And.intro (by omega) ?_ | refine zA (nameLx (ps.getD j default).name _ (by omega)) ?_ | refine zA (cN) ?_ | refine zD (zAD _) ?_ | refine zL (zA2 _) ?_ | simp -implicitDefEqProofs (disch := omega) only [h1, z0, z5, hN, List.length_map, zAe, zAz, push_cast, simprocAttr, ↓reduceIte])
       exact zCa ps H _ _ h2 zf (by omega) z1 hv
      ·repeat' (first | refine And.intro (by omega) ?_ | refine zA (nameLx (ps.getD j default).name _ (by omega)) ?_ | refine zA (cN) ?_ | refine zD (zAD _) ?_ | refine zL (zA2 _) ?_ | simp -implicitDefEqProofs (disch := omega) only [h1, z0, z5, hN, List.length_map, zAe, zAz, push_cast, simprocAttr, ↓reduceIte])
       exact zCa ps H _ _ h2 zf (by omega) z1 hv
      ·repeat' (first | refine And.intro (by omega) ?_ | refine zA (nameLx (ps.getD j default).name _ (by omega)) ?_ | refine zA (cN) ?_ | refine zD (zAD _) ?_ | refine zL (zA2 _) ?_ | simp -implicitDefEqProofs (disch := omega) only [h1, z0, z5, hN, List.length_map, zAe, zAz, push_cast, simprocAttr, ↓reduceIte])
       exact zCa ps H _ _ h2 zf (by omega) z1 hv
      ·repeat' (first | refine And.intro (by omega) ?_ | refine zA (nameLx (ps.getD j default).name _ (by omega)) ?_ | refine zA (cN) ?_ | refine zD (zAD _) ?_ | refine zL (zA2 _) ?_ | simp -implicitDefEqProofs (disch := omega) only [h1, z0, z5, hN, List.length_map, zAe, zAz, push_cast, simprocAttr, ↓reduceIte])
       exact zCa ps H _ _ h2 zf (by omega) z1 hv
  ·have e : j = ps.length := by omega
   subst e
   repeat' (simp -implicitDefEqProofs (disch := omega) only [h2, h19, h20, g1, splice, zAh, push_cast, simprocAttr, ↓reduceIte, Bool.and_self])
   subst hres
   refine vd_ret ps H _ _ h2 (fun i hi => ?_) (by simpa using (by omega : H.length + 2 ≤ G.length)) (by rw [List.getElem?_set_self (by omega)]) ⟨h8, hall⟩
   rw [List.getElem?_set_ne (by omega), fr i hi]
 ·repeat' (simp -implicitDefEqProofs (disch := omega) only [L69, zAE, List.length_map, zAz, push_cast, simprocAttr, ↓reduceIte, Bool.and_self])
  refine ⟨_, _, _, rfl, enter_vd, ?_⟩
  repeat' (first | refine zL (zA2 _) ?_ | simp -implicitDefEqProofs (disch := omega) only [push_cast, Int.reduceNeg])
  subst hres
  exact zCa ps H _ _ rfl (fun i hi => by rw [List.getElem?_append_left hi]) (by simp) (by simp [zAt]) fun hv => h8 hv.1
theorem costCC (ps : List Pr) (hs : CodeSml ps) (p L : Int) (H : zB) : zT 70 [.agg [zBm ps], int p, int L] H (costA ps p L) := by
 obtain ⟨hs1, hs2, hs3⟩ := hs
 have cV := fun H => codeValidC ps ⟨hs1, hs2, hs3⟩ H
 have hcl : ∀ x, x = costA ps p L → x.cl = true := fun x hx => by subst hx; unfold costA; split <;> (try split) <;> (try split) <;> simp [AV.cl, clL]
 refine ACall.drop (R := fun x => x = costA ps p L) ?_
 refine enter Tryz.func70 L70_ok (Nat.le_of_ble_eq_true rfl) ?_
 cases hv : validB ps with
 | false =>
  rw [hv] at cV
  have hA : costA ps p L = .tup [int 0, int 1] := by unfold costA; rw [if_pos hv]
  rw [hA]
  repeat' (first | refine zA (cV _) ?_ | simp -implicitDefEqProofs (disch := omega) only [L70, zAE, push_cast, simprocAttr, ↓reduceIte, Bool.and_self])
  first | exact ⟨_, rfl⟩ | exact ⟨rfl, by simp [AV.cl, clL], _, rfl⟩
 | true =>
  rw [hv] at cV
  have hv2 := validB_t.1 hv
  by_cases hp : p < 0 ∨ ps.length ≤ p
  ·have hA : costA ps p L = .tup [int 0, int 7] := by unfold costA; rw [if_neg (by simp [hv]), if_pos hp]
   rw [hA]
   rcases hp with hp | hp
   ·repeat' (first | refine zA (cV _) ?_ | simp -implicitDefEqProofs (disch := omega) only [L70, zAE, zQ, push_cast, simprocAttr, ↓reduceIte, Bool.and_self])
    first | exact ⟨_, rfl⟩ | exact ⟨rfl, by simp [AV.cl, clL], _, rfl⟩
   ·by_cases hp0 : p < 0
    ·omega
    ·repeat' (first | refine zA (cV _) ?_ | simp -implicitDefEqProofs (disch := omega) only [L70, zAE, List.length_map, zAh, zAe, push_cast, simprocAttr, ↓reduceIte, Bool.and_self])
     first | exact ⟨_, rfl⟩ | exact ⟨rfl, by simp [AV.cl, clL], _, rfl⟩
  ·by_cases hL : L < 0 ∨ 8 < L
   ·have hA : costA ps p L = .tup [int 0, int 2] := by unfold costA; rw [if_neg (by simp [hv]), if_neg hp, if_pos hL]
    rw [hA]
    rcases hL with hL | hL
    ·repeat' (first | refine zA (cV _) ?_ | simp -implicitDefEqProofs (disch := omega) only [L70, zAE, List.length_map, zQ, zAh, zAz, push_cast, simprocAttr, ↓reduceIte, Bool.and_self])
     first | exact ⟨_, rfl⟩ | exact ⟨rfl, by simp [AV.cl, clL], _, rfl⟩
    ·by_cases hL0 : L < 0
     ·omega
     ·repeat' (first | refine zA (cV _) ?_ | simp -implicitDefEqProofs (disch := omega) only [L70, zAE, List.length_map, zQ, zAh, zAz, push_cast, simprocAttr, ↓reduceIte, Bool.and_self])
      first | exact ⟨_, rfl⟩ | exact ⟨rfl, by simp [AV.cl, clL], _, rfl⟩
   ·have hA : costA ps p L = .tup [int (costF ps p.toNat L), int 0] := by unfold costA; rw [if_neg (by simp [hv]), if_neg hp, if_neg hL]
    rw [hA]
    have hlen8 := hv2.1
    have hL1 : 0 ≤ L ∧ L ≤ 8 := by omega
    have hp1 : 0 ≤ p ∧ p < ps.length := by omega
    repeat' (first | refine And.intro (by omega) ?_ | refine zA (cV _) ?_ | simp -implicitDefEqProofs (disch := omega) only [L70, zAE, List.length_map, zAh, zAz, push_cast, simprocAttr, ↓reduceIte, Bool.and_self])
    have hbl : (1 : Int) * 1 = 1 := rfl
    refine zAL (fun (st : Nat × Nat × zB) e' G => e' 1 = int p ∧ e' 2 = int L ∧ e' 3 = .ptr H.length 0 0 ∧ e' 8 = .os (H.length + 1) st.2.1 0 st.1 ∧ e' 36 = .sl 6 ((ps.map prR).take (p.toNat + 1)) ∧ e' 37 = int (p.toNat + 1 : Nat) ∧ e' 38 = int st.1 ∧ G = st.2.2 ∧ H.length + 2 ≤ G.length ∧ (∀ i, i < H.length → G[i]? = H[i]?) ∧ G[H.length + 1]? = some (.arr st.2.1 1 ((zBA ps L st.1).map iR)) ∧ st.1 ≤ p.toNat + 1) (fun st => p.toNat + 1 - st.1) (0, 0, H ++ [.box [zBm ps], .arr 0 1 []]) ?_ ?_
    ·refine ⟨rfl, rfl, rfl, rfl, ?_, ?_, rfl, rfl, by simp, fun i hi => List.getElem?_append_left hi, by simp [zAt, zBA], by dsimp only; omega⟩
     ·show AV.sl 6 (List.take ((p + 1).toNat - 0) (List.map prR ps)) = _
      rw [show (p + 1).toNat - 0 = p.toNat + 1 by omega]
     ·show int ((List.take ((p + 1).toNat - 0) (List.map prR ps)).length : Nat) = _
      rw [show (p + 1).toNat - 0 = p.toNat + 1 by omega, List.length_take, List.length_map, Nat.min_eq_left (by omega)]
    rintro ⟨j, v, _⟩ e' G ⟨h1, h2, h3, h8, h36, h37, h38, rfl, gl, fr, g1, hj⟩
    simp only at h8 h38 gl fr g1 hj
    have hcl := costsF_len ps L j
    have htk : ((zBA ps L j).map iR).take j = (zBA ps L j).map iR := all_take _ (by simp [hcl])
    by_cases hlt : j < p.toNat + 1
    ·obtain ⟨m1, m2, m3⟩ := hs3 _ (zA1 (show j < ps.length by omega))
     have hrow : ((ps.map prR).take (p.toNat + 1)).getD j [] = prR (ps.getD j default) := by
      rw [← zBt (show j < ps.length by omega)]
      simp only [List.getD_eq_getElem?_getD, List.getElem?_take, hlt, if_true]
     have hll : ((ps.map prR).take (p.toNat + 1)).length = p.toNat + 1 := by simp; omega
     have cc := fun G' hG => costsC (zBA ps L j) L (costsF_ok ps hL1.1 hL1.2 j) hL1.1 hL1.2 (by omega) (ps.getD j default).body m3 (by rw [hcl]; exact zCM _ _ _ _ (hv2.2 j (by omega)).2.2.2.2) G' (H.length + 1) v hG
     rw [hcl] at cc
     have hgx : ∀ x : zB, (G ++ x)[H.length + 1]? = some (.arr v 1 ((zBA ps L j).map iR)) := fun x => by rw [List.getElem?_append_left (by omega)]; exact g1
     repeat' (first | refine And.intro (by omega) ?_ | refine zA (cc _ (hgx _)) ?_ | simp -implicitDefEqProofs (disch := omega) only [h2, h8, h36, h37, h38, hrow, hll, hgx, zI, zAW, zCA, pr_c1s, pr_drop5, splice, List.length_map, hcl, htk, zQ, push_cast, simprocAttr, ↓reduceIte, Bool.and_self])
     refine .mk (j + 1, v + 1, _) ⟨h1, h2, h3, rfl, h36, h37, rfl, rfl, by simp; omega, fun i hi => ?_, ?_, by dsimp only; omega⟩ (by dsimp only; omega)
     ·rw [List.getElem?_append_left (by simp; omega), List.getElem?_set_ne (by omega), fr i hi]
     ·rw [List.getElem?_append_left (by simp; omega), List.getElem?_set_self (by omega)]
      simp only [zBA, List.map_append, List.map_cons, List.map_nil, iR]
    ·have e : j = p.toNat + 1 := by omega
     subst e
     have hg : ((zBA ps L (p.toNat + 1)).map iR).getD p.toNat [] = [int (costF ps p.toNat L)] := by
      rw [zO (by omega), costsF_get ps L (by omega)]; rfl
     repeat' (first | refine And.intro (by omega) ?_ | simp -implicitDefEqProofs (disch := omega) only [h1, h8, h37, h38, g1, List.length_map, hcl, hg, Nat.zero_add, zAh, push_cast, simprocAttr, ↓reduceIte, Bool.and_self])
     obtain ⟨rest, hrest⟩ := zBH (H := H) (G := G) (by omega) fr
     first | exact ⟨rest, hrest⟩ | exact ⟨rfl, by simp [AV.cl, clL], rest, hrest⟩
theorem zAK (w : Int) (H : zB) : zT 32 [int w] H (bool (decide (wOk w))) := by
 refine enter Tryz.func32 L32_ok (Nat.le_of_ble_eq_true rfl) ?_
 by_cases h1 : 2 ≤ w
 ·by_cases h2 : w ≤ 8
  ·repeat' (simp -implicitDefEqProofs (disch := omega) only [L32, zAe, push_cast, simprocAttr, ↓reduceIte])
   simp [wOk, h1, h2]
  ·repeat' (simp -implicitDefEqProofs (disch := omega) only [L32, zAe, zAz, push_cast, simprocAttr, ↓reduceIte])
   simp [wOk, h1, h2]
 ·repeat' (simp -implicitDefEqProofs (disch := omega) only [L32, zAz, push_cast, simprocAttr, ↓reduceIte])
  simp [wOk, h1]
theorem powerR (n : Nat) (hn : n ≤ 8) (H : zB) : zT 40 [int n] H (int (2 ^ n)) := by
 refine enter Tryz.func40 L40_ok (Nat.le_of_ble_eq_true rfl) ?_
 repeat' (simp -implicitDefEqProofs (disch := omega) only [L40, push_cast, Nat.reduceAdd])
 refine zAL (fun (j : Nat) e' H' => e' 0 = int n ∧ e' 3 = int (2 ^ j) ∧ e' 4 = int j ∧ H = H' ∧ j ≤ n) (fun j => n - j) 0 ?_ ?_
 ·exact ⟨rfl, rfl, rfl, rfl, Nat.zero_le _⟩
 rintro j e' H' ⟨h0, h3, h4, rfl, hj⟩
 by_cases hlt : j < n
 ·have hp : (2 : Int) ^ j ≤ 256 ∧ 0 < (2 : Int) ^ j := by
   have : j = 0 ∨ j = 1 ∨ j = 2 ∨ j = 3 ∨ j = 4 ∨ j = 5 ∨ j = 6 ∨ j = 7 := by omega
   rcases this with rfl | rfl | rfl | rfl | rfl | rfl | rfl | rfl <;> decide
  have hs : (2 : Int) ^ (j + 1) = 2 * 2 ^ j := by rw [Int.pow_succ]; omega
  repeat' (simp -implicitDefEqProofs (disch := omega) only [h0, h3, h4, zQ, push_cast, simprocAttr, ↓reduceIte])
  exact .mk (j + 1) ⟨h0, by rw [hs]; rfl, rfl, rfl, hlt⟩ (by omega)
 ·have e : j = n := by omega
  subst e
  repeat' (simp -implicitDefEqProofs (disch := omega) only [h0, h3, h4, zAh, push_cast, simprocAttr, ↓reduceIte])
theorem hf_of {n : Nat} : hf ((n : Int) + 1) = 2 ^ n := by
 unfold hf
 rw [show ((n : Int) + 1).toNat - 1 = n by omega]
theorem leastR (w : Int) (H : zB) : zT 15 [int w] H (int (leF w)) := by
 refine enter Tryz.func15 L15_ok (Nat.le_of_ble_eq_true rfl) ?_
 by_cases h : wOk w
 ·have hd : decide (wOk w) = true := by simp [h]
  have e : leF w = -hf w := by unfold leF; rw [if_pos h]
  have hp := zCx h
  rw [e]
  clear e
  unfold wOk at h
  obtain ⟨n, rfl⟩ : ∃ n : Nat, w = (n : Int) + 1 := ⟨(w - 1).toNat, by omega⟩
  have e1 : (n : Int) + 1 - 1 = n := by omega
  have p := fun H => powerR n (by omega) H
  rw [← hf_of] at p
  repeat' (first | refine zA (zAK _ _) ?_ | refine zA (p _) ?_ | simp -implicitDefEqProofs (disch := omega) only [L15, hd, e1, push_cast, simprocAttr, ↓reduceIte])
  rw [Int.zero_sub]
 ·have hd : decide (wOk w) = false := by simp [h]
  have e : leF w = 0 := by unfold leF; rw [if_neg h]
  repeat' (first | refine zA (zAK _ _) ?_ | simp -implicitDefEqProofs (disch := omega) only [L15, hd, e, push_cast, simprocAttr, ↓reduceIte])
theorem greatestR (w : Int) (H : zB) : zT 16 [int w] H (int (grF w)) := by
 refine enter Tryz.func16 L16_ok (Nat.le_of_ble_eq_true rfl) ?_
 by_cases h : wOk w
 ·have hd : decide (wOk w) = true := by simp [h]
  have e : grF w = hf w - 1 := by unfold grF; rw [if_pos h]
  have hp := zCx h
  rw [e]
  clear e
  unfold wOk at h
  obtain ⟨n, rfl⟩ : ∃ n : Nat, w = (n : Int) + 1 := ⟨(w - 1).toNat, by omega⟩
  have e1 : (n : Int) + 1 - 1 = n := by omega
  have p := fun H => powerR n (by omega) H
  rw [← hf_of] at p
  repeat' (first | refine zA (zAK _ _) ?_ | refine zA (p _) ?_ | simp -implicitDefEqProofs (disch := omega) only [L16, hd, e1, push_cast, simprocAttr, ↓reduceIte])
 ·have hd : decide (wOk w) = false := by simp [h]
  have e : grF w = 0 := by unfold grF; rw [if_neg h]
  repeat' (first | refine zA (zAK _ _) ?_ | simp -implicitDefEqProofs (disch := omega) only [L16, hd, e, push_cast, simprocAttr, ↓reduceIte])
theorem wrF_by {w : Int} (hw : wOk w) {n t k : Int} (h : inI w t) (e : t = n + k * (2 * hf w)) : wrF w n = t := by
 rw [← wrF_id hw h, e]
 exact (wrF_congr hw (k := k) rfl).symm
theorem wrapR (w n : Int) (hn : zCc n) (H : zB) : zT 33 [int w, int n] H (int (wrF w n)) := by
 refine enter Tryz.func33 L33_ok (Nat.le_of_ble_eq_true rfl) ?_
 by_cases h : wOk w
 ·have hd : decide (wOk w) = true := by simp [h]
  have hp := zCx h
  have el : leF w = -hf w := by unfold leF; rw [if_pos h]
  have eg : grF w = hf w - 1 := by unfold grF; rw [if_pos h]
  have p : ∀ H, zT 40 [int w] H (int (2 * hf w)) := by
   intro H
   have hw := h
   unfold wOk at hw
   obtain ⟨k, rfl⟩ : ∃ k : Nat, w = (k : Int) + 1 := ⟨(w - 1).toNat, by omega⟩
   have q := powerR (k + 1) (by omega) H
   rw [hf_of, show (2 : Int) * 2 ^ k = 2 ^ (k + 1) by rw [Int.pow_succ]; omega]
   exact q
  have h3 := Int.tdiv_mul_add_tmod n (2 * hf w)
  have h4 : (n.tmod (2 * hf w)).natAbs < (2 * hf w).natAbs := by rw [Int.natAbs_tmod]; exact Nat.mod_lt _ (by omega)
  have hk : ∀ c : Int, n.tmod (2 * hf w) + c * (2 * hf w) = n + (c - n.tdiv (2 * hf w)) * (2 * hf w) := by
   intro c
   rw [Int.sub_mul]
   omega
  generalize n.tdiv (2 * hf w) = d at *
  generalize hte : n.tmod (2 * hf w) = t at *
  by_cases c1 : t < -hf w
  ·have e := wrF_by h (n := n) (t := t + 1 * (2 * hf w)) ((zBF h _).2 (by omega)) (hk 1)
   rw [e, Int.one_mul]
   repeat' (first | refine And.intro (by omega) ?_ | refine zA (zAK _ _) ?_ | refine zA (p _) ?_ | refine zA (leastR _ _) ?_ | simp -implicitDefEqProofs (disch := omega) only [L33, hd, hte, el, zQ, push_cast, simprocAttr, ↓reduceIte])
  ·by_cases c2 : hf w - 1 < t
   ·have e := wrF_by h (n := n) (t := t + (-1) * (2 * hf w)) ((zBF h _).2 (by omega)) (hk (-1))
    rw [e, show t + -1 * (2 * hf w) = t - 2 * hf w by omega]
    repeat' (first | refine And.intro (by omega) ?_ | refine zA (zAK _ _) ?_ | refine zA (p _) ?_ | refine zA (leastR _ _) ?_ | refine zA (greatestR _ _) ?_ | simp -implicitDefEqProofs (disch := omega) only [L33, hd, hte, el, eg, zQ, zAh, push_cast, simprocAttr, ↓reduceIte])
   ·have e := wrF_by h (n := n) (t := t) ((zBF h _).2 (by omega)) (by have := hk 0; rw [Int.zero_mul, Int.add_zero] at this; exact this)
    rw [e]
    repeat' (first | refine And.intro (by omega) ?_ | refine zA (zAK _ _) ?_ | refine zA (p _) ?_ | refine zA (leastR _ _) ?_ | refine zA (greatestR _ _) ?_ | simp -implicitDefEqProofs (disch := omega) only [L33, hd, hte, el, eg, zAh, push_cast, simprocAttr, ↓reduceIte])
 ·have hd : decide (wOk w) = false := by simp [h]
  have e : wrF w n = 0 := by unfold wrF; rw [if_neg h]
  repeat' (first | refine zA (zAK _ _) ?_ | simp -implicitDefEqProofs (disch := omega) only [L33, hd, e, push_cast, simprocAttr, ↓reduceIte])
theorem bitR (b : Bool) (H : zB) : zT 121 [bool b] H (int (if b = true then 1 else 0)) := by
 refine enter Tryz.func121 L121_ok (Nat.le_of_ble_eq_true rfl) ?_
 cases b
 ·repeat' (simp -implicitDefEqProofs (disch := omega) only [L121, push_cast, simprocAttr, ↓reduceIte])
 ·repeat' (simp -implicitDefEqProofs (disch := omega) only [L121, push_cast, simprocAttr, ↓reduceIte])
theorem zBE (w n : Int) (H : zB) : zT 120 [int w, int n] H (bool (decide (inI w n))) := by
 refine enter Tryz.func120 L120_ok (Nat.le_of_ble_eq_true rfl) ?_
 by_cases h1 : leF w ≤ n
 ·by_cases h2 : n ≤ grF w
  ·repeat' (first | refine zA (leastR _ _) ?_ | refine zA (greatestR _ _) ?_ | simp -implicitDefEqProofs (disch := omega) only [L120, zAe, push_cast, simprocAttr, ↓reduceIte])
   simp [inI, h1, h2]
  ·repeat' (first | refine zA (leastR _ _) ?_ | refine zA (greatestR _ _) ?_ | simp -implicitDefEqProofs (disch := omega) only [L120, zAe, zAz, push_cast, simprocAttr, ↓reduceIte])
   simp [inI, h1, h2]
 ·repeat' (first | refine zA (leastR _ _) ?_ | simp -implicitDefEqProofs (disch := omega) only [L120, zAz, push_cast, simprocAttr, ↓reduceIte])
  simp [inI, h1]
section
variable {w a : Int} {o : List UInt8}
end
theorem zCS {a b : UInt8} : (a = b) = (a.toNat = b.toNat) := by rw [UInt8.toNat_inj]
section
variable {w a b : Int} {o : List UInt8}
theorem zC1 (H : zB) : Comp 118 [.sl 1 (strs opL), str o] H (bool (decide (o ∈ opL))) := hasR opL o H (by decide)
theorem binR_add (hw : wOk w) (ha : inI w a) (hb : inI w b) (H : zB) : zT 62 [int w, str [43], int a, int b] H (binA (wrF w (a + b)) 0 0) := by
 refine enter Tryz.func62 L62_ok (Nat.le_of_ble_eq_true rfl) ?_
 have hd : decide (wOk w) = true := by simp [hw]
 have ho : decide ([43] ∈ opL) = true := by decide
 have e3 : decide (inI w a) = true := by simp [ha]
 have e4 : decide (inI w b) = true := by simp [hb]
 have h1 := zCl hw ha
 have h2 := zCl hw hb
 have hr : zCc (a + b) := by unfold zCc; omega
 have ew : IntKind.i64.wrap (a + b) = a + b := zBC _ (by omega) (by omega)
 repeat' (first | refine zA (zAK _ _) ?_ | refine zA (zC1 _) ?_ | refine zA (zBE _ _ _) ?_ | refine zA (wrapR w (a + b) hr _) ?_ | simp -implicitDefEqProofs (disch := omega) only [L62, hd, ho, e3, e4, ew, List.cons.injEq, zCS, UInt8.reduceToNat, List.nil_eq, push_cast, simprocAttr, ↓reduceIte, Bool.and_self])
 rfl
theorem binR_sub (hw : wOk w) (ha : inI w a) (hb : inI w b) (H : zB) : zT 62 [int w, str [45], int a, int b] H (binA (wrF w (a - b)) 0 0) := by
 refine enter Tryz.func62 L62_ok (Nat.le_of_ble_eq_true rfl) ?_
 have hd : decide (wOk w) = true := by simp [hw]
 have ho : decide ([45] ∈ opL) = true := by decide
 have e3 : decide (inI w a) = true := by simp [ha]
 have e4 : decide (inI w b) = true := by simp [hb]
 have h1 := zCl hw ha
 have h2 := zCl hw hb
 have hr : zCc (a - b) := by unfold zCc; omega
 have ew : IntKind.i64.wrap (a - b) = a - b := zBC _ (by omega) (by omega)
 repeat' (first | refine zA (zAK _ _) ?_ | refine zA (zC1 _) ?_ | refine zA (zBE _ _ _) ?_ | refine zA (wrapR w (a - b) hr _) ?_ | simp -implicitDefEqProofs (disch := omega) only [L62, hd, ho, e3, e4, ew, List.cons.injEq, zCS, UInt8.reduceToNat, List.nil_eq, push_cast, simprocAttr, ↓reduceIte, Bool.and_self])
 rfl
theorem binR_mul (hw : wOk w) (ha : inI w a) (hb : inI w b) (H : zB) : zT 62 [int w, str [42], int a, int b] H (binA (wrF w (a * b)) 0 0) := by
 refine enter Tryz.func62 L62_ok (Nat.le_of_ble_eq_true rfl) ?_
 have hd : decide (wOk w) = true := by simp [hw]
 have ho : decide ([42] ∈ opL) = true := by decide
 have e3 : decide (inI w a) = true := by simp [ha]
 have e4 : decide (inI w b) = true := by simp [hb]
 have h1 := zCl hw ha
 have h2 := zCl hw hb
 have h3 := mul_small (a := a) (b := b) (by omega) (by omega) (by omega) (by omega)
 have hr : zCc (a * b) := by unfold zCc; omega
 have ew : IntKind.i64.wrap (a * b) = a * b := zBC _ (by omega) (by omega)
 repeat' (first | refine zA (zAK _ _) ?_ | refine zA (zC1 _) ?_ | refine zA (zBE _ _ _) ?_ | refine zA (wrapR w (a * b) hr _) ?_ | simp -implicitDefEqProofs (disch := omega) only [L62, hd, ho, e3, e4, ew, List.cons.injEq, zCS, UInt8.reduceToNat, List.nil_eq, push_cast, simprocAttr, ↓reduceIte, Bool.and_self])
 rfl
theorem binR_eq (hw : wOk w) (ha : inI w a) (hb : inI w b) (H : zB) : zT 62 [int w, str [61, 61], int a, int b] H (binA (if a = b then 1 else 0) 0 0) := by
 refine enter Tryz.func62 L62_ok (Nat.le_of_ble_eq_true rfl) ?_
 have hd : decide (wOk w) = true := by simp [hw]
 have ho : decide ([61, 61] ∈ opL) = true := by decide
 have e3 : decide (inI w a) = true := by simp [ha]
 have e4 : decide (inI w b) = true := by simp [hb]
 by_cases hc : a = b
 ·rw [if_pos hc]
  repeat' (first | refine zA (zAK _ _) ?_ | refine zA (zC1 _) ?_ | refine zA (zBE _ _ _) ?_ | refine zA (bitR _ _) ?_ | simp -implicitDefEqProofs (disch := omega) only [L62, hd, ho, e3, e4, List.cons.injEq, zCS, UInt8.reduceToNat, List.nil_eq, zAI, push_cast, simprocAttr, ↓reduceIte, Bool.and_self])
  rfl
 ·rw [if_neg hc]
  repeat' (first | refine zA (zAK _ _) ?_ | refine zA (zC1 _) ?_ | refine zA (zBE _ _ _) ?_ | refine zA (bitR _ _) ?_ | simp -implicitDefEqProofs (disch := omega) only [L62, hd, ho, e3, e4, List.cons.injEq, zCS, UInt8.reduceToNat, List.nil_eq, zAu, push_cast, simprocAttr, ↓reduceIte, Bool.and_self])
  rfl
theorem binR_ne (hw : wOk w) (ha : inI w a) (hb : inI w b) (H : zB) : zT 62 [int w, str [33, 61], int a, int b] H (binA (if a = b then 0 else 1) 0 0) := by
 refine enter Tryz.func62 L62_ok (Nat.le_of_ble_eq_true rfl) ?_
 have hd : decide (wOk w) = true := by simp [hw]
 have ho : decide ([33, 61] ∈ opL) = true := by decide
 have e3 : decide (inI w a) = true := by simp [ha]
 have e4 : decide (inI w b) = true := by simp [hb]
 by_cases hc : a = b
 ·rw [if_pos hc]
  repeat' (first | refine zA (zAK _ _) ?_ | refine zA (zC1 _) ?_ | refine zA (zBE _ _ _) ?_ | refine zA (bitR _ _) ?_ | simp -implicitDefEqProofs (disch := omega) only [L62, hd, ho, e3, e4, List.cons.injEq, zCS, UInt8.reduceToNat, List.nil_eq, zAI, push_cast, simprocAttr, ↓reduceIte, Bool.and_self])
  rfl
 ·rw [if_neg hc]
  repeat' (first | refine zA (zAK _ _) ?_ | refine zA (zC1 _) ?_ | refine zA (zBE _ _ _) ?_ | refine zA (bitR _ _) ?_ | simp -implicitDefEqProofs (disch := omega) only [L62, hd, ho, e3, e4, List.cons.injEq, zCS, UInt8.reduceToNat, List.nil_eq, zAu, push_cast, simprocAttr, ↓reduceIte, Bool.and_self])
  rfl
theorem binR_lt (hw : wOk w) (ha : inI w a) (hb : inI w b) (H : zB) : zT 62 [int w, str [60], int a, int b] H (binA (if a < b then 1 else 0) 0 0) := by
 refine enter Tryz.func62 L62_ok (Nat.le_of_ble_eq_true rfl) ?_
 have hd : decide (wOk w) = true := by simp [hw]
 have ho : decide ([60] ∈ opL) = true := by decide
 have e3 : decide (inI w a) = true := by simp [ha]
 have e4 : decide (inI w b) = true := by simp [hb]
 by_cases hc : a < b
 ·rw [if_pos hc]
  repeat' (first | refine zA (zAK _ _) ?_ | refine zA (zC1 _) ?_ | refine zA (zBE _ _ _) ?_ | refine zA (bitR _ _) ?_ | simp -implicitDefEqProofs (disch := omega) only [L62, hd, ho, e3, e4, List.cons.injEq, zCS, UInt8.reduceToNat, List.nil_eq, zQ, push_cast, simprocAttr, ↓reduceIte, Bool.and_self])
  rfl
 ·rw [if_neg hc]
  repeat' (first | refine zA (zAK _ _) ?_ | refine zA (zC1 _) ?_ | refine zA (zBE _ _ _) ?_ | refine zA (bitR _ _) ?_ | simp -implicitDefEqProofs (disch := omega) only [L62, hd, ho, e3, e4, List.cons.injEq, zCS, UInt8.reduceToNat, List.nil_eq, zAh, push_cast, simprocAttr, ↓reduceIte, Bool.and_self])
  rfl
theorem binR_le (hw : wOk w) (ha : inI w a) (hb : inI w b) (H : zB) : zT 62 [int w, str [60, 61], int a, int b] H (binA (if a ≤ b then 1 else 0) 0 0) := by
 refine enter Tryz.func62 L62_ok (Nat.le_of_ble_eq_true rfl) ?_
 have hd : decide (wOk w) = true := by simp [hw]
 have ho : decide ([60, 61] ∈ opL) = true := by decide
 have e3 : decide (inI w a) = true := by simp [ha]
 have e4 : decide (inI w b) = true := by simp [hb]
 by_cases hc : a ≤ b
 ·rw [if_pos hc]
  repeat' (first | refine zA (zAK _ _) ?_ | refine zA (zC1 _) ?_ | refine zA (zBE _ _ _) ?_ | refine zA (bitR _ _) ?_ | simp -implicitDefEqProofs (disch := omega) only [L62, hd, ho, e3, e4, List.cons.injEq, zCS, UInt8.reduceToNat, List.nil_eq, zAe, push_cast, simprocAttr, ↓reduceIte, Bool.and_self])
  rfl
 ·rw [if_neg hc]
  repeat' (first | refine zA (zAK _ _) ?_ | refine zA (zC1 _) ?_ | refine zA (zBE _ _ _) ?_ | refine zA (bitR _ _) ?_ | simp -implicitDefEqProofs (disch := omega) only [L62, hd, ho, e3, e4, List.cons.injEq, zCS, UInt8.reduceToNat, List.nil_eq, zAz, push_cast, simprocAttr, ↓reduceIte, Bool.and_self])
  rfl
theorem binR_gt (hw : wOk w) (ha : inI w a) (hb : inI w b) (H : zB) : zT 62 [int w, str [62], int a, int b] H (binA (if b < a then 1 else 0) 0 0) := by
 refine enter Tryz.func62 L62_ok (Nat.le_of_ble_eq_true rfl) ?_
 have hd : decide (wOk w) = true := by simp [hw]
 have ho : decide ([62] ∈ opL) = true := by decide
 have e3 : decide (inI w a) = true := by simp [ha]
 have e4 : decide (inI w b) = true := by simp [hb]
 by_cases hc : b < a
 ·rw [if_pos hc]
  repeat' (first | refine zA (zAK _ _) ?_ | refine zA (zC1 _) ?_ | refine zA (zBE _ _ _) ?_ | refine zA (bitR _ _) ?_ | simp -implicitDefEqProofs (disch := omega) only [L62, hd, ho, e3, e4, List.cons.injEq, zCS, UInt8.reduceToNat, List.nil_eq, zQ, push_cast, simprocAttr, ↓reduceIte, Bool.and_self])
  rfl
 ·rw [if_neg hc]
  repeat' (first | refine zA (zAK _ _) ?_ | refine zA (zC1 _) ?_ | refine zA (zBE _ _ _) ?_ | refine zA (bitR _ _) ?_ | simp -implicitDefEqProofs (disch := omega) only [L62, hd, ho, e3, e4, List.cons.injEq, zCS, UInt8.reduceToNat, List.nil_eq, zAh, push_cast, simprocAttr, ↓reduceIte, Bool.and_self])
  rfl
theorem binR_ge (hw : wOk w) (ha : inI w a) (hb : inI w b) (H : zB) : zT 62 [int w, str [62, 61], int a, int b] H (binA (if b ≤ a then 1 else 0) 0 0) := by
 refine enter Tryz.func62 L62_ok (Nat.le_of_ble_eq_true rfl) ?_
 have hd : decide (wOk w) = true := by simp [hw]
 have ho : decide ([62, 61] ∈ opL) = true := by decide
 have e3 : decide (inI w a) = true := by simp [ha]
 have e4 : decide (inI w b) = true := by simp [hb]
 by_cases hc : b ≤ a
 ·rw [if_pos hc]
  repeat' (first | refine zA (zAK _ _) ?_ | refine zA (zC1 _) ?_ | refine zA (zBE _ _ _) ?_ | refine zA (bitR _ _) ?_ | simp -implicitDefEqProofs (disch := omega) only [L62, hd, ho, e3, e4, List.cons.injEq, zCS, UInt8.reduceToNat, List.nil_eq, zAe, push_cast, simprocAttr, ↓reduceIte, Bool.and_self])
  rfl
 ·rw [if_neg hc]
  repeat' (first | refine zA (zAK _ _) ?_ | refine zA (zC1 _) ?_ | refine zA (zBE _ _ _) ?_ | refine zA (bitR _ _) ?_ | simp -implicitDefEqProofs (disch := omega) only [L62, hd, ho, e3, e4, List.cons.injEq, zCS, UInt8.reduceToNat, List.nil_eq, zAz, push_cast, simprocAttr, ↓reduceIte, Bool.and_self])
  rfl
theorem binR_quo (hw : wOk w) (ha : inI w a) (hb : inI w b) (hz : b ≠ 0) (H : zB) : zT 62 [int w, str [47], int a, int b] H (binA (wrF w (a.tdiv b)) 0 0) := by
 refine enter Tryz.func62 L62_ok (Nat.le_of_ble_eq_true rfl) ?_
 have hd : decide (wOk w) = true := by simp [hw]
 have ho : decide ([47] ∈ opL) = true := by decide
 have e3 : decide (inI w a) = true := by simp [ha]
 have e4 : decide (inI w b) = true := by simp [hb]
 have h1 := zCl hw ha
 have h2 : (a.tdiv b).natAbs ≤ a.natAbs := by rw [Int.natAbs_tdiv]; exact Nat.div_le_self _ _
 have hr : zCc (a.tdiv b) := by unfold zCc; omega
 have ew : IntKind.i64.wrap (a.tdiv b) = a.tdiv b := zBC _ (by omega) (by omega)
 repeat' (first | refine And.intro (by omega) ?_ | refine zA (zAK _ _) ?_ | refine zA (zC1 _) ?_ | refine zA (zBE _ _ _) ?_ | refine zA (wrapR w (a.tdiv b) hr _) ?_ | simp -implicitDefEqProofs (disch := omega) only [L62, hd, ho, e3, e4, ew, List.cons.injEq, zCS, UInt8.reduceToNat, List.nil_eq, zAu, push_cast, simprocAttr, ↓reduceIte, Bool.and_self])
 rfl
theorem binR_rem (hw : wOk w) (ha : inI w a) (hb : inI w b) (hz : b ≠ 0) (H : zB) : zT 62 [int w, str [37], int a, int b] H (binA (a.tmod b) 0 0) := by
 refine enter Tryz.func62 L62_ok (Nat.le_of_ble_eq_true rfl) ?_
 have hd : decide (wOk w) = true := by simp [hw]
 have ho : decide ([37] ∈ opL) = true := by decide
 have e3 : decide (inI w a) = true := by simp [ha]
 have e4 : decide (inI w b) = true := by simp [hb]
 repeat' (first | refine And.intro (by omega) ?_ | refine zA (zAK _ _) ?_ | refine zA (zC1 _) ?_ | refine zA (zBE _ _ _) ?_ | simp -implicitDefEqProofs (disch := omega) only [L62, hd, ho, e3, e4, List.cons.injEq, zCS, UInt8.reduceToNat, List.nil_eq, zAu, push_cast, simprocAttr, ↓reduceIte, Bool.and_self])
 rfl
theorem binR_zero (hw : wOk w) (ho : o = [47] ∨ o = [37]) (ha : inI w a) (hb : inI w 0) (H : zB) : zT 62 [int w, str o, int a, int 0] H (binA 0 1 0) := by
 refine enter Tryz.func62 L62_ok (Nat.le_of_ble_eq_true rfl) ?_
 have hd : decide (wOk w) = true := by simp [hw]
 have ho1 : decide ([47] ∈ opL) = true := by decide
 have ho2 : decide ([37] ∈ opL) = true := by decide
 have e3 : decide (inI w a) = true := by simp [ha]
 have e4 : decide (inI w 0) = true := by simp [hb]
 rcases ho with rfl | rfl
 ·repeat' (first | refine zA (zAK _ _) ?_ | refine zA (zC1 _) ?_ | refine zA (zBE _ _ _) ?_ | simp -implicitDefEqProofs (disch := omega) only [L62, hd, ho1, e3, e4, List.cons.injEq, zCS, UInt8.reduceToNat, List.nil_eq, push_cast, simprocAttr, ↓reduceIte, Bool.and_self])
  rfl
 ·repeat' (first | refine zA (zAK _ _) ?_ | refine zA (zC1 _) ?_ | refine zA (zBE _ _ _) ?_ | simp -implicitDefEqProofs (disch := omega) only [L62, hd, ho2, e3, e4, List.cons.injEq, zCS, UInt8.reduceToNat, List.nil_eq, push_cast, simprocAttr, ↓reduceIte, Bool.and_self])
  rfl
end
section
variable {w a b : Int} {o : List UInt8}
end
def L26z : LFn := ⟨20,[(.tmp 2)],(sO [oX 1 (.box true (.t 0)),oX 2 (.mv (.c (.v (.map none))))] (sO [⟨(some 6),none,.mkmap⟩,oX 7 (.mkfn (.func 54) [] [(.t 1)]),oN (.ins .int (.t 6) (kI 16) (.t 7)),oN (.ins .int (.t 6) (kI 17) (.c (.fn (.func 55) [] []))),oM 8 6,oM 3 8] (.seq (sO [oX 9 (y0 56),oX 10 (.rangem (.t 9))] (.block 0 (.loop (sO [oX 11 (.nextm (.t 10)),oE 12 11 0] (.seq (cD 12 .skip (.exit 0)) (.block 1 (sO [oX 13 (.entrym (.t 10)),oE 14 13 0,oE 15 13 1,oX 5 (.alloc [s0]),oM 4 14,oS 1 5 15] (.ops [oX 5 (.frz (.t 5)),oM 16 3,oM 17 4,oX 18 (.mkfn (.func 57) [] [(.t 1),(.t 5)]),oN (.ins .int (.t 16) (.t 17) (.t 18))])))))))) (sO [oM 19 3,oM 2 19,oX 2 (.frz (.t 2))] .ret))))⟩
theorem L26z_ok : zY Tryz.prog Tryz.f26 [⟨5,0,(.pre 5 (.frz (.t 5)))⟩,⟨0,0,.imm⟩,⟨6,2,(.pre 2 (.frz (.t 2)))⟩] = some L26z := by kernel_rfl
def opS (o : Int) : List UInt8 :=
 if o = 5 then [43] else if o = 6 then [45] else if o = 7 then [42] else if o = 8 then [47] else if o = 9 then [37] else if o = 10 then [61, 61] else if o = 11 then [33, 61]
 else if o = 12 then [60] else if o = 13 then [60, 61] else if o = 14 then [62] else [62, 61]
theorem op11 {o : Int} (h5 : 5 ≤ o) (h15 : o ≤ 15) : o = 5 ∨ o = 6 ∨ o = 7 ∨ o = 8 ∨ o = 9 ∨ o = 10 ∨ o = 11 ∨ o = 12 ∨ o = 13 ∨ o = 14 ∨ o = 15 := by omega
section
variable {w a b o : Int}
theorem binC (hw : wOk w) (h5 : 5 ≤ o) (h15 : o ≤ 15) (ha : inI w a) (hb : inI w b) (H : zB) : zT 18 [int w, str (opS o), int a, int b] H (binA (zC8 o w a b).1 (zC8 o w a b).2 0) := by
 rcases op11 h5 h15 with rfl | rfl | rfl | rfl | rfl | rfl | rfl | rfl | rfl | rfl | rfl
 ·exact bin_add hw ha hb H
 ·exact bin_sub hw ha hb H
 ·exact bin_mul hw ha hb H
 ·by_cases hz : b = 0
  ·subst hz; exact bin_zero hw (.inl rfl) ha hb H
  ·have e : zC8 8 w a b = (wrF w (a.tdiv b), 0) := by simp [zC8, hz]
   rw [e]; exact bin_quo hw ha hb hz H
 ·by_cases hz : b = 0
  ·subst hz; exact bin_zero hw (.inr rfl) ha hb H
  ·have e : zC8 9 w a b = (a.tmod b, 0) := by simp [zC8, hz]
   have h := bin_rem hw ha hb hz H
   rw [wrF_id hw (tmod_in hw ha)] at h
   rw [e]; exact h
 ·exact bin_go hw ops_eq (by decide) (by decide) ha hb (.inr (by decide)) _ (op_eq a b) rfl (by unfold zCc; split <;> omega) H
 ·exact bin_go hw ops_ne (by decide) (by decide) ha hb (.inr (by decide)) _ (op_ne a b) rfl (by unfold zCc; split <;> omega) H
 ·exact bin_go hw ops_lt (by decide) (by decide) ha hb (.inr (by decide)) _ (op_lt a b) rfl (by unfold zCc; split <;> omega) H
 ·exact bin_go hw ops_le (by decide) (by decide) ha hb (.inr (by decide)) _ (op_le a b) rfl (by unfold zCc; split <;> omega) H
 ·exact bin_go hw ops_gt (by decide) (by decide) ha hb (.inr (by decide)) _ (op_gt a b) rfl (by unfold zCc; split <;> omega) H
 ·exact bin_go hw ops_ge (by decide) (by decide) ha hb (.inr (by decide)) _ (op_ge a b) rfl (by unfold zCc; split <;> omega) H
theorem binRR (hw : wOk w) (h5 : 5 ≤ o) (h15 : o ≤ 15) (ha : inI w a) (hb : inI w b) (H : zB) : zT 62 [int w, str (opS o), int a, int b] H (binA (zC8 o w a b).1 (zC8 o w a b).2 0) := by
 rcases op11 h5 h15 with rfl | rfl | rfl | rfl | rfl | rfl | rfl | rfl | rfl | rfl | rfl
 ·exact binR_add hw ha hb H
 ·exact binR_sub hw ha hb H
 ·exact binR_mul hw ha hb H
 ·by_cases hz : b = 0
  ·subst hz; exact binR_zero hw (.inl rfl) ha hb H
  ·have e : zC8 8 w a b = (wrF w (a.tdiv b), 0) := by simp [zC8, hz]
   rw [e]; exact binR_quo hw ha hb hz H
 ·by_cases hz : b = 0
  ·subst hz; exact binR_zero hw (.inr rfl) ha hb H
  ·have e : zC8 9 w a b = (a.tmod b, 0) := by simp [zC8, hz]
   rw [e]; exact binR_rem hw ha hb hz H
 ·exact binR_eq hw ha hb H
 ·exact binR_ne hw ha hb H
 ·exact binR_lt hw ha hb H
 ·exact binR_le hw ha hb H
 ·exact binR_gt hw ha hb H
 ·exact binR_ge hw ha hb H
end
def opnK : List Value := [.int .i64 5, .int .i64 6, .int .i64 7, .int .i64 8, .int .i64 9, .int .i64 10, .int .i64 11, .int .i64 12, .int .i64 13, .int .i64 14, .int .i64 15]
def opnX : List AV := [str [43], str [45], str [42], str [47], str [37], str [61, 61], str [33, 61], str [60], str [60, 61], str [62], str [62, 61]]
theorem opnsC (H : zB) : zT 56 [] H (.mp opnK opnX) := by
 refine ACall.drop (R := fun x => x = .mp opnK opnX) ?_
 refine enter Tryz.func56 L56_ok (Nat.le_of_ble_eq_true rfl) ?_
 repeat' (simp -implicitDefEqProofs (disch := omega) only [L56, kEq, List.cons_append, List.nil_append, List.mem_cons, List.not_mem_nil, forall_eq_or_imp, false_implies, implies_true, Int.reduceBEq, Bool.and_false, and_true, true_and, push_cast])
 exact ⟨rfl, _, rfl⟩
theorem mget_snoc (k k' : Value) (x : AV) : ∀ (ks : List Value) (vs : List AV), ks.length = vs.length → mget k (ks ++ [k']) (vs ++ [x]) = match mget k ks vs with | some y => some y | none => if kEq k k' = true then some x else none
 | [], [], _ => by simp only [List.nil_append, mget]
 | a :: ks, b :: vs, h => by
  simp only [List.cons_append, mget]
  by_cases hk : kEq k a = true
  ·rw [if_pos hk, if_pos hk]
  ·rw [if_neg hk, if_neg hk]
   exact mget_snoc k k' x ks vs (by simpa using h)
 | [], b :: vs, h => by simp at h
 | a :: ks, [], h => by simp at h
def opFn (w : Int) (left : List Nat) (o : Int) : Option AV :=
 if o = 16 then some (.fn (.func 54) [] [.vp [int w] 0]) else if o = 17 then some (.fn (.func 55) [] [])
 else if 5 ≤ o ∧ o ≤ 15 ∧ ¬ (o - 5).toNat ∈ left then some (.fn (.func 57) [] [.vp [int w] 0, .vp [str (opS o)] 0]) else none
structure OpM (w : Int) (left : List Nat) (ks : List Value) (vs : List AV) : Prop where
 len : ks.length = vs.length
 key : ∀ k ∈ ks, ∃ i : Int, k = .int .i64 i ∧ (i = 16 ∨ i = 17 ∨ (5 ≤ i ∧ i ≤ 15 ∧ ¬ (i - 5).toNat ∈ left))
 get : ∀ o, mget (.int .i64 o) ks vs = opFn w left o
 cl : clL vs = true
theorem opn_at {i : Nat} (h : i < 11) : opnK.getD i default = .int .i64 (i + 5 : Nat) ∧ opnX.getD i .any = str (opS (i + 5 : Nat)) := by
 rcases (by omega : i = 0 ∨ i = 1 ∨ i = 2 ∨ i = 3 ∨ i = 4 ∨ i = 5 ∨ i = 6 ∨ i = 7 ∨ i = 8 ∨ i = 9 ∨ i = 10) with rfl | rfl | rfl | rfl | rfl | rfl | rfl | rfl | rfl | rfl | rfl <;> exact ⟨rfl, rfl⟩
theorem kEq_int (a b : Int) : kEq (.int .i64 a) (.int .i64 b) = decide (a = b) := by
 simp only [kEq, beq_self_eq_true, Bool.true_and]
 rw [Bool.eq_iff_iff]; simp
theorem clL_snoc : ∀ (l : List AV) (x : AV), clL l = true → x.cl = true → clL (l ++ [x]) = true
 | [], x, _, h => by simp [clL, h]
 | y :: l, x, h, hx => by
  simp only [clL, Bool.and_eq_true] at h
  simp only [List.cons_append, clL, Bool.and_eq_true]
  exact ⟨h.1, clL_snoc l x h.2 hx⟩
theorem OpM.step0 {w : Int} {left : List Nat} {ks : List Value} {vs : List AV} (h : OpM w left ks vs) {i : Nat} (hi : i < 11) (hl : i ∈ left) :
  OpM w (left.filter fun j => !decide (j = i)) (ks ++ [.int .i64 (i + 5 : Nat)]) (vs ++ [.fn (.func 57) [] [.vp [int w] 0, .vp [str (opS (i + 5 : Nat))] 0]]) where
 len := by simp [h.len]
 key := by
  intro k hk
  rcases List.mem_append.1 hk with hk | hk
  ·obtain ⟨j, rfl, hj⟩ := h.key k hk
   refine ⟨j, rfl, ?_⟩
   rcases hj with hj | hj | ⟨h1, h2, h3⟩
   ·exact .inl hj
   ·exact .inr (.inl hj)
   ·exact .inr (.inr ⟨h1, h2, fun hh => h3 (List.mem_filter.1 hh).1⟩)
  ·rw [List.mem_singleton] at hk
   subst hk
   refine ⟨_, rfl, .inr (.inr ⟨by omega, by omega, fun hh => ?_⟩)⟩
   have := (List.mem_filter.1 hh).2
   simp only [Bool.not_eq_true', decide_eq_false_iff_not] at this
   omega
 get := by
  intro o
  rw [mget_snoc _ _ _ _ _ h.len, h.get o, kEq_int]
  unfold opFn
  by_cases h16 : o = 16
  ·rw [if_pos h16, if_pos h16]
  rw [if_neg h16, if_neg h16]
  by_cases h17 : o = 17
  ·rw [if_pos h17, if_pos h17]
  rw [if_neg h17, if_neg h17]
  by_cases hin : 5 ≤ o ∧ o ≤ 15 ∧ ¬ (o - 5).toNat ∈ left
  ·rw [if_pos hin, if_pos (show 5 ≤ o ∧ o ≤ 15 ∧ ¬ (o - 5).toNat ∈ left.filter fun j => !decide (j = i) from ⟨hin.1, hin.2.1, fun hh => hin.2.2 (List.mem_filter.1 hh).1⟩)]
  ·rw [if_neg hin]
   by_cases ho : o = (i + 5 : Nat)
   ·subst ho
    have hno : ¬ (((i + 5 : Nat) : Int) - 5).toNat ∈ left.filter fun j => !decide (j = i) := fun hh => by
     have := (List.mem_filter.1 hh).2
     simp only [Bool.not_eq_true', decide_eq_false_iff_not] at this
     omega
    have hyes : (5 : Int) ≤ (i + 5 : Nat) ∧ ((i + 5 : Nat) : Int) ≤ 15 ∧ ¬ (((i + 5 : Nat) : Int) - 5).toNat ∈ left.filter fun j => !decide (j = i) := ⟨by omega, by omega, hno⟩
    rw [decide_eq_true rfl, if_pos hyes]
    rfl
   ·have hno : ¬ (5 ≤ o ∧ o ≤ 15 ∧ ¬ (o - 5).toNat ∈ left.filter fun j => !decide (j = i)) := fun hh => hin ⟨hh.1, hh.2.1, fun hm => hh.2.2 (List.mem_filter.2 ⟨hm, by
     simp only [Bool.not_eq_true', decide_eq_false_iff_not]
     omega⟩)⟩
    rw [decide_eq_false ho, if_neg hno]
    simp
 cl := clL_snoc _ _ h.cl (by simp [AV.cl, clL])
theorem OpM.step {w : Int} {left : List Nat} {ks : List Value} {vs : List AV} (h : OpM w left ks vs) {i : Nat} (hi : i < 11) (hl : i ∈ left) {o : Int} (ho : o = (i + 5 : Nat)) :
  OpM w (left.filter fun j => !decide (j = i)) (ks ++ [.int .i64 o]) (vs ++ [.fn (.func 57) [] [.vp [int w] 0, .vp [str (opS o)] 0]]) := by
 subst ho; exact h.step0 hi hl
theorem OpM.start (w : Int) : OpM w (List.range 11) [.int .i64 16, .int .i64 17] [.fn (.func 54) [] [.vp [int w] 0], .fn (.func 55) [] []] where
 len := rfl
 key := by
  intro k hk
  simp only [List.mem_cons, List.not_mem_nil, or_false] at hk
  rcases hk with rfl | rfl
  ·exact ⟨16, rfl, .inl rfl⟩
  ·exact ⟨17, rfl, .inr (.inl rfl)⟩
 get := by
  intro o
  simp only [mget, kEq_int, decide_eq_true_eq, opFn]
  by_cases h16 : o = 16
  ·rw [if_pos h16, if_pos h16]
  rw [if_neg h16, if_neg h16]
  by_cases h17 : o = 17
  ·rw [if_pos h17, if_pos h17]
  rw [if_neg h17, if_neg h17, if_neg]
  rintro ⟨h1, h2, h3⟩
  exact h3 (List.mem_range.2 (by omega))
 cl := by simp [AV.cl, clL]
theorem OpM.cmp {w : Int} {left : List Nat} {ks : List Value} {vs : List AV} (h : OpM w left ks vs) (o : Int) : ∀ k' ∈ ks, kCmp (.int .i64 o) k' = true := by
 intro k hk
 obtain ⟨i, rfl, _⟩ := h.key k hk
 rfl
theorem OpM.new {w : Int} {left : List Nat} {ks : List Value} {vs : List AV} (h : OpM w left ks vs) {i : Nat} (hi : i < 11) (hl : i ∈ left) {o : Int} (ho : o = (i + 5 : Nat)) : ∀ k' ∈ ks, kCmp (.int .i64 o) k' = true ∧ kEq (.int .i64 o) k' = false := by
 subst ho
 intro k hk
 obtain ⟨j, rfl, hj⟩ := h.key k hk
 refine ⟨rfl, ?_⟩
 rw [kEq_int, decide_eq_false]
 rintro rfl
 rcases hj with hj | hj | ⟨_, _, h3⟩
 ·omega
 ·omega
 ·exact h3 (by rwa [show ((i + 5 : Nat) - 5 : Int).toNat = i by omega])
theorem zB8 {G : zB} (a : Nat) (x y : HO) : (G.set a x ++ [y])[G.length]? = some y := by
 rw [List.getElem?_append_right (by simp)]; simp
theorem zCC {G : zB} (a : Nat) (x y z : HO) : (G.set a x ++ [y]).set G.length z = G.set a x ++ [z] := by
 have := List.set_append_right (s := G.set a x) (t := [y]) G.length z (by simp)
 rw [this]; simp
theorem zBg (w : Int) (H : zB) : ACall Tryz.prog 26 [int w] H fun x H' => (∃ ks vs, x = .mp ks vs ∧ OpM w [] ks vs) ∧ H' = H := by
 refine ACall.drop (R := fun x => ∃ ks vs, x = .mp ks vs ∧ OpM w [] ks vs) ?_
 refine enter Tryz.func26 L26z_ok (Nat.le_of_ble_eq_true rfl) ?_
 repeat' (first | refine zA (opnsC _) ?_ | simp -implicitDefEqProofs (disch := omega) only [L26z, zAd, kEq, List.mem_cons, List.not_mem_nil, false_implies, implies_true, Int.reduceBEq, Bool.and_false, and_true, true_and, push_cast, simprocAttr, ↓reduceIte, Bool.and_self])
 refine zAL (fun (st : List Nat × List Value × List AV × zB) e' G => e' 1 = .vp [int w] 0 ∧ e' 3 = .om H.length 0 ∧ e' 10 = .ptr (H.length + 1) 0 0 ∧ G = st.2.2.2 ∧ H.length + 2 ≤ G.length ∧ (∀ i, i < H.length → G[i]? = H[i]?) ∧ G[H.length]? = some (.map 0 st.2.1 st.2.2.1) ∧ (∃ cur, G[H.length + 1]? = some (.mit opnK opnX st.1 cur)) ∧ OpM w st.1 st.2.1 st.2.2.1 ∧ ∀ i ∈ st.1, i < 11)
  (fun st => st.1.length) (List.range 11, [.int .i64 16, .int .i64 17], [.fn (.func 54) [] [.vp [int w] 0], .fn (.func 55) [] []], H ++ [.map 0 [.int .i64 16, .int .i64 17] [.fn (.func 54) [] [.vp [int w] 0], .fn (.func 55) [] []], .mit opnK opnX (List.range opnK.length) none]) ?_ ?_
 ·exact ⟨rfl, rfl, rfl, rfl, by simp, fun i hi => List.getElem?_append_left hi, by simp, ⟨none, by simp [zAt]; rfl⟩, OpM.start w, fun i hi => List.mem_range.1 hi⟩
 rintro ⟨left, ks, vs, _⟩ e' G ⟨h1, h3, h10, rfl, gl, fr, g0, ⟨cur, g1⟩, hm, hin⟩
 simp only at gl fr g0 g1 hm hin
 repeat' (simp -implicitDefEqProofs (disch := omega) only [h10, push_cast])
 refine nextK_of g1 (fun hl => ?_) fun i hi => ?_
 ·subst hl
  repeat' (simp -implicitDefEqProofs (disch := omega) only [h3, g0, push_cast, simprocAttr, ↓reduceIte])
  obtain ⟨rest, hrest⟩ := zBH (H := H) (G := G.set H.length .dead) (by simp; omega) fun i hi => by rw [List.getElem?_set_ne (by omega), fr i hi]
  have hcl := hm.cl
  exact ⟨⟨ks, vs, rfl, hm⟩, rest, hrest⟩
 ·have hi11 := hin i hi
  obtain ⟨o, ho, k1, x1⟩ : ∃ o : Int, o = (i + 5 : Nat) ∧ opnK.getD i default = .int .i64 o ∧ opnX.getD i .any = str (opS o) := ⟨_, rfl, opn_at hi11⟩
  rw [k1, x1]
  have h11 : opnK.length = 11 := rfl
  have hn := hm.new hi11 hi ho
  repeat' (first | refine And.intro (by omega) ?_ | simp -implicitDefEqProofs (disch := omega) only [h1, h3, h10, zF, zJ, zAg, zN, zB8, zCC, h11, k1, x1, g0, splice, push_cast, simprocAttr, ↓reduceIte, Bool.and_self])
  refine .mk (left.filter fun j => !decide (j = i), ks ++ [.int .i64 o], _, _) ⟨h1, h3, h10, rfl, by simp; omega, fun i hi => ?_, ?_, ⟨some i, ?_⟩, hm.step hi11 hi ho, fun j hj => hin j (List.mem_filter.1 hj).1⟩ ?_
  ·rw [List.getElem?_append_left (by simp; omega), List.getElem?_set_ne (by omega), List.getElem?_set_ne (by omega), fr i hi]
  ·rw [List.getElem?_append_left (by simp; omega), List.getElem?_set_self (by simp; omega)]
  ·rw [List.getElem?_append_left (by simp; omega), List.getElem?_set_ne (by omega), List.getElem?_set_self (by omega)]
  ·show (left.filter _).length < left.length
   exact List.length_filter_lt_length_iff_exists.2 ⟨i, hi, by simp⟩
mutual
def stpR : Ins → Int → List AV
 | .mk o a b l m, n => [int o, int a, int b, .sl 5 (l.map zAF), .sl 5 (m.map zAF), int n, .sl 8 (zBs l (n + 1)), .sl 8 (zBs m (n + 1 + zK l))]
def zBs : List Ins → Int → List (List AV)
 | [], _ => []
 | x :: l, n => stpR x n :: zBs l (n + zBn x)
end
theorem stpR_eq (x : Ins) (n : Int) : stpR x n = [int x.op, int x.a, int x.b, .sl 5 (x.body.map zAF), .sl 5 (x.els.map zAF), int n, .sl 8 (zBs x.body (n + 1)), .sl 8 (zBs x.els (n + 1 + zK x.body))] := by
 cases x; simp only [stpR]; rfl
theorem stpsR_len : ∀ (l : List Ins) (n : Int), (zBs l n).length = l.length
 | [], _ => rfl
 | x :: l, n => by simp only [zBs, List.length_cons, stpsR_len l]
theorem stpsR_append : ∀ (a b : List Ins) (n : Int), zBs (a ++ b) n = zBs a n ++ zBs b (n + zK a)
 | [], b, n => by simp [zBs, zK]
 | x :: a, b, n => by
  simp only [List.cons_append, zBs, stpsR_append a b, zK]
  congr 3
  omega
theorem stpsR_snoc {l : List Ins} {j : Nat} (h : j < l.length) (n : Int) : zBs (l.take (j + 1)) n = zBs (l.take j) n ++ [stpR (l.getD j default) (n + zK (l.take j))] := by
 rw [zCg h, stpsR_append]; simp [zBs]
theorem stpsR_getD : ∀ {l : List Ins} {j : Nat} (h : j < l.length) (n : Int), (zBs l n).getD j [] = stpR (l.getD j default) (n + zK (l.take j))
 | x :: l, 0, h, n => by simp [zBs, zK]
 | x :: l, j + 1, h, n => by
  simp only [zBs, List.getD_cons_succ, List.take_succ_cons, zK]
  rw [stpsR_getD (by simpa using h)]
  congr 1
  omega
theorem stp_len (x : Ins) (n : Int) : (stpR x n).length = 8 := by rw [stpR_eq]; rfl
theorem stp_take (x : Ins) (n : Int) : (stpR x n).take 8 = stpR x n := by rw [stpR_eq]; rfl
theorem stp_c1s (x : Ins) (n : Int) : c1s (stpR x n) = true := by rw [stpR_eq]; rfl
theorem numberC (l : List Ins) : zK l ≤ 32768 → ∀ (n : Int), 0 ≤ n → n + zK l ≤ 32768 → ∀ H, zT 72 [.sl 5 (l.map zAF), int n] H (.tup [.sl 8 (zBs l n), int (n + zK l)]) := by
 induction l using Ins.indL with
 | h l ih =>
 intro hs n hn0 hn1 H
 have hln := zM l
 refine ACall.drop (R := fun x => x = .tup [.sl 8 (zBs l n), int (n + zK l)]) ?_
 refine enter Tryz.func72 L72_ok (Nat.le_of_ble_eq_true rfl) ?_
 repeat' (simp -implicitDefEqProofs (disch := omega) only [L72, List.length_map, push_cast, simprocAttr, ↓reduceIte])
 refine zAL (fun (st : Nat × Nat × zB) e' G => e' 1 = int (n + zK (l.take st.1)) ∧ e' 6 = .os H.length st.2.1 0 st.1 ∧ e' 10 = .sl 5 (l.map zAF) ∧ e' 11 = int l.length ∧ e' 12 = int st.1 ∧ G = st.2.2 ∧ H.length + 1 ≤ G.length ∧ (∀ i, i < H.length → G[i]? = H[i]?) ∧ G[H.length]? = some (.arr st.2.1 8 (zBs (l.take st.1) n)) ∧ st.1 ≤ l.length) (fun st => l.length - st.1) (0, 0, H ++ [.arr 0 8 []]) ?_ ?_
 ·exact ⟨intc rfl (by simp [zK]), rfl, rfl, rfl, rfl, rfl, by simp, fun i hi => List.getElem?_append_left hi, by simp [zBs], Nat.zero_le _⟩
 rintro ⟨j, v, _⟩ e' G ⟨h1, h6, h10, h11, h12, rfl, gl, fr, g0, hj⟩
 simp only at h1 h6 h12 gl fr g0 hj
 have hsl : (zBs (l.take j) n).length = j := by rw [stpsR_len, List.length_take]; omega
 have htk : (zBs (l.take j) n).take j = zBs (l.take j) n := List.take_of_length_le (by omega)
 by_cases hlt : j < l.length
 ·have hmem := zA1 hlt
  obtain ⟨c1, c2⟩ := ih _ hmem
  have hb := zAm l (j + 1)
  have hsn := zAi hlt
  rw [hsn, icnt_eq] at hb
  have hrow : (l.map zAF).getD j [] = zAF (l.getD j default) := zO hlt
  have hsnoc := stpsR_snoc hlt n
  rw [stpR_eq] at hsnoc
  have d1 := fun H => c1 (by omega) (n + zK (l.take j) + 1) (by omega) (by omega) H
  have d2 := fun H => c2 (by omega) (n + zK (l.take j) + 1 + zK (l.getD j default).body) (by omega) (by omega) H
  rw [icnt_eq] at hsn
  generalize hx : l.getD j default = x at *
  obtain ⟨o, a, b, bd, el⟩ := x
  simp only [Ins.body, Ins.els, Ins.op, Ins.a, Ins.b] at *
  have hi5 : zAF (.mk o a b bd el) = [int o, int a, int b, .sl 5 (bd.map zAF), .sl 5 (el.map zAF)] := by rw [insR_eq]; rfl
  repeat' (first | refine And.intro (by omega) ?_ | refine zA (d1 _) ?_ | refine zA (d2 _) ?_ | simp -implicitDefEqProofs (disch := omega) only [h1, h6, h10, h11, h12, g0, hrow, hi5, hsl, htk, zC, zI, rBuild, fillA, zAE, splice, zAt, zAd, List.drop_succ_cons, List.drop_zero, List.length_map, zQ, push_cast, simprocAttr, ↓reduceIte, Bool.and_self])
  refine .mk (j + 1, v + 1, _) ⟨intc rfl (by dsimp only <;> omega), rfl, h10, h11, rfl, rfl, by simp; omega, fun i hi => ?_, ?_, hlt⟩ (by dsimp only; omega)
  ·rw [List.getElem?_append_left (by simp; omega), List.getElem?_set_ne (by omega), fr i hi]
  ·rw [List.getElem?_append_left (by simp; omega), List.getElem?_set_self (by omega), hsnoc]
 ·have e : j = l.length := by omega
  subst e
  rw [List.take_length] at *
  repeat' (first | refine And.intro (by omega) ?_ | simp -implicitDefEqProofs (disch := omega) only [h1, h6, h11, h12, g0, hsl, htk, zAh, push_cast, ↓reduceIte, Nat.reduceEqDiff, Bool.and_self])
  obtain ⟨rest, hrest⟩ := zBH (H := H) (G := G.set H.length .dead) (by simp; omega) fun i hi => by rw [List.getElem?_set_ne (by omega), fr i hi]
  exact ⟨rest, hrest⟩
end Go.Proofs.YtaipgalanpcgoaaGreat
