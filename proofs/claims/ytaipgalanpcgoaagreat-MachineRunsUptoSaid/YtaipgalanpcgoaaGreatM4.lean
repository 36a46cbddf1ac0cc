/- Parts, merged by a program (wip/tools/merge2.py): Fm Mc4 Mc5 Mc6 Mc7 Mc8 Mc9 Mc10 Mc10a Mc10b Mc10c Mc10d Mc10e Mc10f. -/
import Derived.Test.YtaipgalanpcgoaaGreatM3
import Derived.Test.YtaipgalanpcgoaaGreatChecked
namespace Go.Proofs.YtaipgalanpcgoaaGreat
open Go Go.Ax
set_option maxRecDepth 100000
set_option linter.unusedSimpArgs false
set_option maxHeartbeats 4000000
def L9 : LFn := ⟨58,[(.tmp 6),(.tmp 7),(.tmp 8)],(sO [oX 3 (.box false (.t 0)),oX 6 (.mv (.c zAg)),oC 7 0,oC 8 0] (.seq (sO [oL 15 3,oV 16 .lss 15 2,oM 17 16,oF 18 17 (.load false 1 (.t 3)),oF 19 17 (bI .gtr (.t 18) (kI 8)),oP 20 17 (kB true) (.t 19)] (cD 20 (sO [oX 6 (.mv (.c zAg)),oC 7 0,oC 8 2] .ret) .skip)) (sO [oL 22 3,oX 23 (y1 26 22),oM 24 1,oX 25 (.look .int (.v .nilFunc) true (.t 23) (.t 24)),oM 21 25,oE 26 21 0,oE 27 21 1,oM 9 26,oM 10 27] (.seq (sO [oM 28 10,oX 29 (.not (.t 28))] (cD 29 (sO [oX 6 (.mv (.c zAg)),oC 7 0,oC 8 1] .ret) .skip)) (sO [oM 30 2,oX 31 (.len .slc (.t 30)),oM 32 1,oX 33 (y1 27 32),oB 34 .sub 31 33,oM 11 34] (.seq (sO [oM 35 11,oV 36 .lss 35 0] (cD 36 (sO [oX 6 (.mv (.c zAg)),oC 7 0,oC 8 9] .ret) .skip)) (.seq (sO [oM 37 2,oM 38 11,oX 39 (.slice .slc 1 (.t 37) (some (.t 38)) none),oX 40 (.mkfn (.func 29) [] [(.t 3)]),oX 41 (y2 28 39 40)] (cD 41 (sO [oX 6 (.mv (.c zAg)),oC 7 0,oC 8 2] .ret) .skip)) (sO [oM 43 9,oM 44 2,oX 45 (y1 31 44),oX 46 (.call (.t 43) [(.t 45)]),oM 42 46,oE 47 42 0,oE 48 42 1,oE 49 42 2,oM 12 47,oM 13 48,oM 14 49] (.seq (sO [oM 50 14,oV 51 .neq 50 0] (cD 51 (sO [oM 52 12,oM 53 14,oM 6 52,oM 7 53,oC 8 0,oX 6 (.frz (.t 6))] .ret) .skip)) (sO [oM 54 12,oM 55 13,oX 56 (.bsl true 1 1 [i0] [(0,(.t 55))]),oX 57 (.append 1 8 (.t 54) (.t 56)),oM 6 57,oC 7 0,oC 8 0,oX 6 (.frz (.t 6))] .ret))))))))))⟩
theorem L9_ok : zAa Tryz.prog Tryz.f9 [⟨13,5,(.pre 6 (.frz (.t 6)))⟩,⟨14,2,.imm⟩,⟨14,7,(.pre 6 (.frz (.t 6)))⟩] = some L9 := by kernel_rfl
def L13 : LFn := ⟨130,[(.tmp 2)],(sO [oX 1 (.box false (.t 0)),oX 2 (.mv (kB false))] (.seq (sO [oD 8 0 1,oL 9 8,oX 10 (.len .slc (.t 9)),oV 11 .gtr 10 8] (cD 11 (sO [oX 2 (.mv (kB false))] .ret) .skip)) (sO [oC 3 0] (.seq (sO [oC 4 0] (.block 0 (.loop (.seq (sO [oM 12 4,oD 13 0 1,oL 14 13,oX 15 (.len .slc (.t 14)),oB 16 .lss 12 15] (cD 16 .skip (.exit 0))) (.seq (.block 1 (sO [oD 19 0 1,oL 20 19,oM 21 4,oI 22 6 20 21,oA 23 6 22,oX 5 (.alloc [s0,i0,i0,i0,zAg,zAg]),oS 6 5 23] (.seq (sO [oC 6 0] (.block 2 (.loop (.seq (sO [oM 24 6,oM 25 4,oB 26 .lss 24 25] (cD 26 .skip (.exit 2))) (.seq (.block 3 (.seq (.draw [oD 29 0 1,oL 30 29,oM 31 6,oI 32 6 30 31,oD 33 0 32,oL 34 33,oD 35 0 5,oL 36 35,oX 37 (.bin .str .eql (.t 34) (.t 36))] []) (cD 37 (sO [oX 2 (.mv (kB false))] .ret) .skip))) (.ops [oM 27 6,oV 28 .add 27 1,oM 6 28])))))) (.seq (sO [oD 38 0 5,oL 39 38,oX 40 (y1 36 39),oX 41 (.not (.t 40)),oM 42 41,oF 43 42 (.faddr 1 (.t 5)),oF 44 42 (.load false 1 (.t 43)),oF 45 42 (bI .lss (.t 44) (kI 0)),oP 46 42 (kB true) (.t 45),oM 47 46,oF 48 47 (.faddr 1 (.t 5)),oF 49 47 (.load false 1 (.t 48)),oF 50 47 (.faddr 2 (.t 5)),oF 51 47 (.load false 1 (.t 50)),oF 52 47 (bI .gtr (.t 49) (.t 51)),oP 53 47 (kB true) (.t 52),oM 54 53,oF 55 54 (.faddr 2 (.t 5)),oF 56 54 (.load false 1 (.t 55)),oF 57 54 (bI .gtr (.t 56) (kI 1024)),oP 58 54 (kB true) (.t 57),oM 59 58,oF 60 59 (.faddr 3 (.t 5)),oF 61 59 (.load false 1 (.t 60)),oF 62 59 (bI .lss (.t 61) (kI (-1))),oP 63 59 (kB true) (.t 62),oM 64 63,oF 65 64 (.faddr 3 (.t 5)),oF 66 64 (.load false 1 (.t 65)),oF 67 64 (bI .gtr (.t 66) (kI 128)),oP 68 64 (kB true) (.t 67),oM 69 68,oF 70 69 (.faddr 4 (.t 5)),oF 71 69 (.load false 1 (.t 70)),oF 72 69 (.len .slc (.t 71)),oF 73 69 (bI .gtr (.t 72) (kI 128)),oP 74 69 (kB true) (.t 73),oM 75 74,oF 76 75 (.faddr 3 (.t 5)),oF 77 75 (.load false 1 (.t 76)),oF 78 75 (bI .neq (.t 77) (kI (-1))),oW 79 75 78,oT 80 79 (.faddr 4 (.t 5)),oT 81 79 (.load false 1 (.t 80)),oT 82 79 (.len .slc (.t 81)),oT 83 79 (bI .gtr (.t 82) (kI 0)),oF 84 75 (.pick (.t 79) (.t 83) (kB false)),oP 85 75 (kB true) (.t 84)] (cD 85 (sO [oX 2 (.mv (kB false))] .ret) .skip)) (.seq (sO [oC 7 0] (.block 4 (.loop (.seq (sO [oM 86 7,oD 87 4 5,oL 88 87,oX 89 (.len .slc (.t 88)),oB 90 .lss 86 89] (cD 90 .skip (.exit 4))) (.seq (.block 5 (.seq (.draw [oD 93 4 5,oL 94 93,oM 95 7,oI 96 1 94 95,oL 97 96,oV 98 .lss 97 0,oM 99 98,oF 100 99 (.faddr 4 (.t 5)),oF 101 99 (.load false 1 (.t 100)),oW 102 99 7,oF 103 99 (.iaddr 1 (.t 101) (.t 102)),oF 104 99 (.load false 1 (.t 103)),oF 105 99 (.faddr 2 (.t 5)),oF 106 99 (.load false 1 (.t 105)),oF 107 99 (bI .geq (.t 104) (.t 106)),oP 108 99 (kB true) (.t 107)] []) (cD 108 (sO [oX 2 (.mv (kB false))] .ret) .skip))) (.ops [oM 91 7,oV 92 .add 91 1,oM 7 92])))))) (sO [oM 109 3,oD 110 5 5,oL 111 110,oX 112 (y1 37 111),oB 113 .add 109 112,oM 3 113] (sO [oM 114 3,oV 115 .gtr 114 32768,oM 116 115,oF 117 116 (.faddr 5 (.t 5)),oF 118 116 (.load false 1 (.t 117)),oF 119 116 (y1 38 118),oF 120 116 (bI .gtr (.t 119) (kI 256)),oP 121 116 (kB true) (.t 120),oM 122 121,oF 123 122 (.load true 1 (.t 1)),oW 124 122 4,oF 125 122 (.faddr 5 (.t 5)),oF 126 122 (.load false 1 (.t 125)),oF 127 122 (cF 39 [(.t 123),(.t 124),(.t 126),(kB true)]),oF 128 122 (bI .neq (.t 127) (kI 0)),oP 129 122 (kB true) (.t 128)] (cD 129 (sO [oX 2 (.mv (kB false))] .ret) .skip)))))))) (.ops [oM 17 4,oV 18 .add 17 1,oM 4 18])))))) (sO [oX 2 (.mv (kB true))] .ret)))))⟩
theorem L13_ok : zAa Tryz.prog Tryz.f13 [] = some L13 := by kernel_rfl
def L17 : LFn := ⟨40,[(.cell 8 true 2),(.tmp 9),(.tmp 10),(.tmp 11)],(sO [oX 4 (.box false (.t 0)),oX 6 (.box false (.t 2)),oX 8 (.alloc [i0,zAg]),oC 9 0,oC 10 0,oC 11 0] (sO [oA 18 1 4,oM 19 1,oA 20 2 6,oM 21 3,oX 22 (y4 41 18 19 20 21),oM 17 22,oE 23 17 0,oE 24 17 1,oM 12 23,oM 13 24] (.seq (sO [oM 25 13,oV 26 .neq 25 0] (cD 26 (sO [oX 27 (.build [i0,zAg] []),oM 28 13,oS 2 8 27,oC 9 (-1),oC 10 (-1),oM 11 28] .ret) .skip)) (sO [oM 30 12,oM 31 1,oM 32 3,oX 33 (y3 42 30 31 32),oM 29 33,oE 34 29 0,oE 35 29 1,oE 36 29 2,oX 14 (.alloc [i0,zAg]),oS 2 14 34,oM 15 35,oM 16 36] (sO [oA 37 2 14,oM 38 15,oM 39 16,oS 2 8 37,oM 9 38,oM 10 39,oC 11 0] .ret)))))⟩
theorem L17_ok : zAa Tryz.prog Tryz.f17 [] = some L17 := by kernel_rfl
def L19 : LFn := ⟨40,[(.cell 8 true 2),(.tmp 9),(.tmp 10),(.tmp 11)],(sO [oX 4 (.box false (.t 0)),oX 6 (.box false (.t 2)),oX 8 (.alloc [i0,zAg]),oC 9 0,oC 10 0,oC 11 0] (sO [oA 16 1 4,oM 17 1,oA 18 2 6,oM 19 3,oX 20 (y4 49 16 17 18 19),oM 15 20,oE 21 15 0,oE 22 15 1,oE 23 15 2,oX 12 (.alloc [zAg,i0,i0,i0,i0,i0,i0]),oS 7 12 21,oM 13 22,oM 14 23] (.seq (sO [oM 24 14,oV 25 .neq 24 0] (cD 25 (sO [oX 26 (.build [i0,zAg] []),oM 27 14,oS 2 8 26,oC 9 (-1),oC 10 (-1),oM 11 27] .ret) .skip)) (.seq (sO [oD 28 3 12,oL 29 28,oV 30 .neq 29 0] (cD 30 (.seq (.drawA [oD 31 3 12,oL 32 31,oX 33 (.build [i0,zAg] [(0,(1,(.t 32)))]),oD 34 4 12,oL 35 34,oD 36 5 12,oL 37 36,oN (.mv (.c .any)),oM 9 35,oM 10 37,oC 11 0] [(oS 2 8 33,[3,4,5,6])] []) .ret) .skip)) (sO [oM 38 13,oX 39 (.build [i0,zAg] [(1,(1,(.t 38)))]),oS 2 8 39,oC 9 (-1),oC 10 (-1),oC 11 0] .ret)))))⟩
theorem L19_ok : zAa Tryz.prog Tryz.f19 [⟨5,0,(.drw [7])⟩] = some L19 := by kernel_rfl
def L20 : LFn := ⟨31,[(.tmp 8),(.tmp 9)],(sO [oX 4 (.box false (.t 0)),oX 6 (.box false (.t 2)),oC 8 0,oC 9 0] (sO [oA 13 1 4,oM 14 1,oA 15 2 6,oM 16 3,oX 17 (y4 41 13 14 15 16),oM 12 17,oE 18 12 0,oE 19 12 1,oM 10 18,oM 11 19] (.seq (sO [oM 20 11,oV 21 .neq 20 0] (cD 21 (sO [oM 22 11,oC 8 0,oM 9 22] .ret) .skip)) (sO [oM 23 10,oM 24 1,oM 25 3,oX 26 (y3 42 23 24 25)] (sO [oM 27 10,oK 28 27,oD 29 6 28,oL 30 29,oM 8 30,oC 9 0] .ret)))))⟩
theorem L20_ok : zAa Tryz.prog Tryz.f20 [] = some L20 := by kernel_rfl
def L21 : LFn := ⟨25,[(.tmp 8),(.tmp 9)],(sO [oX 4 (.box false (.t 0)),oX 6 (.box false (.t 2)),oC 8 0,oC 9 0] (sO [oA 14 1 4,oM 15 1,oA 16 2 6,oM 17 3,oX 18 (y4 49 14 15 16 17),oM 13 18,oE 19 13 0,oE 20 13 1,oE 21 13 2,oX 10 (.alloc [zAg,i0,i0,i0,i0,i0,i0]),oS 7 10 19,oM 11 20,oM 12 21] (sO [oD 22 6 10,oL 23 22,oM 24 12,oM 8 23,oM 9 24] .ret)))⟩
theorem L21_ok : zAa Tryz.prog Tryz.f21 [] = some L21 := by kernel_rfl
def L23 : LFn := ⟨50,[(.tmp 6),(.tmp 7)],(sO [oX 3 (.box false (.t 0)),oC 6 0,oC 7 0] (.seq (sO [oA 10 1 3,oX 11 (y1 13 10),oX 12 (.not (.t 11))] (cD 12 (sO [oC 6 0,oC 7 1] .ret) .skip)) (.seq (sO [oM 13 1,oV 14 .lss 13 0,oM 15 14,oW 16 15 1,oF 17 15 (.faddr 0 (.t 3)),oF 18 15 (.load false 1 (.t 17)),oF 19 15 (.len .slc (.t 18)),oF 20 15 (bI .geq (.t 16) (.t 19)),oP 21 15 (kB true) (.t 20)] (cD 21 (sO [oC 6 0,oC 7 7] .ret) .skip)) (.seq (sO [oM 22 2,oV 23 .lss 22 0,oM 24 23,oW 25 24 2,oF 26 24 (bI .gtr (.t 25) (kI 8)),oP 27 24 (kB true) (.t 26)] (cD 27 (sO [oC 6 0,oC 7 2] .ret) .skip)) (sO [oX 28 (.bsl false 1 0 [i0] []),oM 8 28] (.seq (sO [oC 9 0] (.block 0 (.loop (.seq (sO [oM 29 9,oM 30 1,oB 31 .leq 29 30] (cD 31 .skip (.exit 0))) (.seq (.block 1 (.ops [oM 34 8,oD 35 0 3,oL 36 35,oM 37 9,oI 38 6 36 37,oD 39 5 38,oL 40 39,oM 41 8,oM 42 2,oX 43 (y3 50 40 41 42),oX 44 (.bsl true 1 1 [i0] [(0,(.t 43))]),oX 45 (.append 1 8 (.t 34) (.t 44)),oM 8 45])) (.ops [oM 32 9,oV 33 .add 32 1,oM 9 33])))))) (sO [oM 46 8,oM 47 1,oI 48 1 46 47,oL 49 48,oM 6 49,oC 7 0] .ret)))))))⟩
theorem L23_ok : zAa Tryz.prog Tryz.f23 [⟨11,10,.imm⟩] = some L23 := by kernel_rfl
def L27 : LFn := ⟨9,[(.tmp 2)],(sO [oC 2 0] (.seq (sO [oM 3 0,oV 4 .eql 3 16,oM 5 4,oW 6 5 0,oF 7 5 (bI .eql (.t 6) (kI 17)),oP 8 5 (kB true) (.t 7)] (cD 8 (sO [oC 2 1] .ret) .skip)) (sO [oC 2 2] .ret)))⟩
theorem L27_ok : zAa Tryz.prog Tryz.f27 [] = some L27 := by kernel_rfl
def L29 : LFn := ⟨8,[(.tmp 3)],(sO [oX 3 (.mv (kB false))] (sO [oL 4 1,oM 5 0,oX 6 (y2 30 4 5),oX 7 (.not (.t 6)),oM 3 7] .ret))⟩
theorem L29_ok : zAa Tryz.prog Tryz.f29 [] = some L29 := by kernel_rfl
def L30 : LFn := ⟨15,[(.tmp 4)],(sO [oX 4 (.mv (kB false))] (sO [oM 5 1,oM 6 0,oX 7 (y1 59 6),oB 8 .geq 5 7,oM 9 8,oU 10 9 1,oU 11 9 0,oT 12 9 (y1 60 11),oT 13 9 (bI .leq (.t 10) (.t 12)),oP 14 9 (.t 13) (kB false),oM 4 14] .ret))⟩
theorem L30_ok : zAa Tryz.prog Tryz.f30 [] = some L30 := by kernel_rfl
def L34 : LFn := ⟨82,[(.tmp 6),(.tmp 7)],(sO [oX 6 (.mv (.c zAg)),oC 7 0] (sO [oM 13 2,oX 14 (.len .slc (.t 13)),oM 8 14] (.seq (sO [oM 15 1,oV 16 .eql 15 16] (cD 16 (.seq (.drawA [oN (.mv (.c .any)),oM 18 2,oM 19 8,oV 20 .sub 19 1,oX 21 (.slice .slc 1 (.t 18) none (some (.t 20))),oN (.mv (.c .any)),oM 23 0,oM 24 2,oM 25 8,oV 26 .sub 25 1,oI 27 1 24 26,oL 28 27,oX 29 (.neg (.t 28)),oX 30 (y2 33 23 29),oX 31 (.bsl true 1 1 [i0] [(0,(.t 30))]),oN (.mv (.c .any)),oN (.mv (.c .any)),oC 7 0] [(oX 17 (.bsl false 1 0 [i0] []),[4,10,11]),(oX 22 (.append 1 8 (.t 17) (.t 21)),[10,11]),(oX 32 (.append 1 8 (.t 22) (.t 31)),[]),(oM 6 32,[])] []) .ret) .skip)) (.seq (sO [oM 33 1,oV 34 .eql 33 17] (cD 34 (.seq (.drawA [oN (.mv (.c .any)),oM 36 2,oM 37 8,oV 38 .sub 37 1,oX 39 (.slice .slc 1 (.t 36) none (some (.t 38))),oN (.mv (.c .any)),oM 41 2,oM 42 8,oV 43 .sub 42 1,oI 44 1 41 43,oL 45 44,oV 46 .eql 45 0,oX 47 (y1 61 46),oX 48 (.bsl true 1 1 [i0] [(0,(.t 47))]),oN (.mv (.c .any)),oN (.mv (.c .any)),oC 7 0] [(oX 35 (.bsl false 1 0 [i0] []),[4,9,10]),(oX 40 (.append 1 8 (.t 35) (.t 39)),[9,10]),(oX 49 (.append 1 8 (.t 40) (.t 48)),[]),(oM 6 49,[])] []) .ret) .skip)) (.seq (.draw [oM 51 0,oM 52 1,oX 53 (y1 63 52),oM 54 2,oM 55 8,oV 56 .sub 55 2,oI 57 1 54 56,oL 58 57,oM 59 2,oM 60 8,oV 61 .sub 60 1,oI 62 1 59 61,oL 63 62,oX 64 (y4 62 51 53 58 63),oM 50 64,oE 65 50 0,oE 66 50 1,oE 67 50 2,oM 9 65,oM 10 66,oM 11 67] []) (sO [oX 68 (.bsl false 1 0 [i0] []),oM 69 2,oM 70 8,oV 71 .sub 70 2,oX 72 (.slice .slc 1 (.t 69) none (some (.t 71))),oX 73 (.append 1 8 (.t 68) (.t 72)),oM 12 73] (.seq (sO [oM 74 10,oV 75 .neq 74 0] (cD 75 (sO [oM 76 12,oM 77 10,oM 6 76,oM 7 77] .ret) .skip)) (sO [oM 78 12,oM 79 9,oX 80 (.bsl true 1 1 [i0] [(0,(.t 79))]),oX 81 (.append 1 8 (.t 78) (.t 80)),oM 6 81,oC 7 0] .ret))))))))⟩
theorem L34_ok : zAa Tryz.prog Tryz.f34 [⟨3,14,.imm⟩,⟨5,13,.imm⟩,⟨10,2,.imm⟩,⟨3,0,(.drw [0,5,15,16])⟩,⟨5,0,(.drw [0,5,14,15])⟩] = some L34 := by kernel_rfl
def L35 : LFn := ⟨47,[(.tmp 2)],(sO [oX 1 (.box false (.t 0)),oX 2 (.mv (kB false))] (sO [oC 3 0] (.seq (sO [oC 4 0] (.block 0 (.loop (.seq (sO [oM 5 4,oD 6 0 1,oL 7 6,oX 8 (.len .slc (.t 7)),oB 9 .lss 5 8] (cD 9 .skip (.exit 0))) (.seq (.block 1 (sO [oM 12 3,oD 13 0 1,oL 14 13,oM 15 4,oI 16 6 14 15,oD 17 5 16,oL 18 17,oX 19 (y1 37 18),oB 20 .add 12 19,oM 3 20] (sO [oD 21 0 1,oL 22 21,oM 23 4,oI 24 6 22 23,oD 25 0 24,oL 26 25,oX 27 (.len .str (.t 26)),oV 28 .gtr 27 60,oM 29 28,oF 30 29 (.faddr 0 (.t 1)),oF 31 29 (.load false 1 (.t 30)),oW 32 29 4,oF 33 29 (.iaddr 6 (.t 31) (.t 32)),oF 34 29 (.faddr 4 (.t 33)),oF 35 29 (.load false 1 (.t 34)),oF 36 29 (.len .slc (.t 35)),oF 37 29 (bI .gtr (.t 36) (kI 200)),oP 38 29 (kB true) (.t 37)] (cD 38 (sO [oX 2 (.mv (kB false))] .ret) .skip)))) (.ops [oM 10 4,oV 11 .add 10 1,oM 4 11])))))) (sO [oD 39 0 1,oL 40 39,oX 41 (.len .slc (.t 40)),oV 42 .leq 41 20,oM 43 42,oU 44 43 3,oT 45 43 (bI .leq (.t 44) (kI 500)),oP 46 43 (.t 45) (kB false),oM 2 46] .ret))))⟩
theorem L35_ok : zAa Tryz.prog Tryz.f35 [] = some L35 := by kernel_rfl
def L37 : LFn := ⟨28,[(.tmp 2)],(sO [oC 2 0] (sO [oC 3 0] (.seq (sO [oC 4 0] (.block 0 (.loop (.seq (sO [oM 5 4,oM 6 0,oX 7 (.len .slc (.t 6)),oB 8 .lss 5 7] (cD 8 .skip (.exit 0))) (.seq (.block 1 (.draw [oM 11 3,oV 12 .add 11 1,oM 13 0,oM 14 4,oI 15 5 13 14,oD 16 3 15,oL 17 16,oX 18 (y1 37 17),oB 19 .add 12 18,oM 20 0,oM 21 4,oI 22 5 20 21,oD 23 4 22,oL 24 23,oX 25 (y1 37 24),oB 26 .add 19 25,oM 3 26] [])) (.ops [oM 9 4,oV 10 .add 9 1,oM 4 10])))))) (sO [oM 27 3,oM 2 27] .ret))))⟩
theorem L37_ok : zAa Tryz.prog Tryz.f37 [] = some L37 := by kernel_rfl
def L38 : LFn := ⟨28,[(.tmp 2)],(sO [oC 2 0] (sO [oC 3 0] (.seq (sO [oC 4 0] (.block 0 (.loop (.seq (sO [oM 5 4,oM 6 0,oX 7 (.len .slc (.t 6)),oB 8 .lss 5 7] (cD 8 .skip (.exit 0))) (.seq (.block 1 (.draw [oM 11 3,oM 12 0,oM 13 4,oI 14 5 12 13,oD 15 3 14,oL 16 15,oX 17 (y1 38 16),oX 18 (bI .add (kI 1) (.t 17)),oM 19 0,oM 20 4,oI 21 5 19 20,oD 22 4 21,oL 23 22,oX 24 (y1 38 23),oX 25 (bI .add (kI 1) (.t 24)),oX 26 (.max3 (.t 11) (.t 18) (.t 25)),oM 3 26] [])) (.ops [oM 9 4,oV 10 .add 9 1,oM 4 10])))))) (sO [oM 27 3,oM 2 27] .ret))))⟩
theorem L38_ok : zAa Tryz.prog Tryz.f38 [] = some L38 := by kernel_rfl
def L39 : LFn := ⟨200,[(.tmp 8)],(sO [oX 4 (.box false (.t 0)),oC 8 0] (sO [oD 17 0 4,oL 18 17,oM 19 1,oI 20 6 18 19,oA 21 6 20,oX 9 (.alloc [s0,i0,i0,i0,zAg,zAg]),oS 6 9 21] (sO [oC 10 0] (.seq (sO [oC 11 0] (.block 0 (.loop (.seq (sO [oM 22 11,oM 23 2,oX 24 (.len .slc (.t 23)),oB 25 .lss 22 24] (cD 25 .skip (.exit 0))) (.seq (.block 1 (sO [oM 28 2,oM 29 11,oI 30 5 28 29,oA 31 5 30,oX 12 (.alloc [i0,i0,i0,zAg,zAg]),oS 5 12 31] (sO [oC 13 0,oC 14 0] (.seq (sO [oA 32 5 12,oD 33 2 9,oL 34 33,oX 35 (y2 67 32 34),oX 36 (.not (.t 35))] (cD 36 (sO [oC 8 (-1)] .ret) .skip)) (.seq (.block 2 (sO [oD 38 0 12,oL 39 38,oV 40 .eql 39 0,oM 41 40,oF 42 41 (.faddr 0 (.t 12)),oF 43 41 (.load false 1 (.t 42)),oF 44 41 (bI .eql (.t 43) (kI 1)),oP 45 41 (kB true) (.t 44),oM 37 45] (cD 37 (.ops [oC 14 1]) (sO [oD 47 0 12,oL 48 47,oV 49 .eql 48 2,oM 50 49,oF 51 50 (.faddr 0 (.t 12)),oF 52 50 (.load false 1 (.t 51)),oF 53 50 (bI .eql (.t 52) (kI 22)),oP 54 50 (kB true) (.t 53),oM 46 54] (cD 46 (.ops [oC 13 1,oC 14 (-1)]) (sO [oD 56 0 12,oL 57 56,oV 58 .eql 57 3,oM 59 58,oF 60 59 (.faddr 0 (.t 12)),oF 61 59 (.load false 1 (.t 60)),oF 62 59 (bI .eql (.t 61) (kI 16)),oP 63 59 (kB true) (.t 62),oM 64 63,oF 65 64 (.faddr 0 (.t 12)),oF 66 64 (.load false 1 (.t 65)),oF 67 64 (bI .eql (.t 66) (kI 17)),oP 68 64 (kB true) (.t 67),oM 55 68] (cD 55 (.ops [oC 13 1]) (sO [oD 70 0 12,oL 71 70,oV 72 .eql 71 4,oM 69 72] (cD 69 (.ops [oC 13 2,oC 14 (-2)]) (sO [oD 74 0 12,oL 75 74,oV 76 .geq 75 5,oM 77 76,oT 78 77 (.faddr 0 (.t 12)),oT 79 77 (.load false 1 (.t 78)),oT 80 77 (bI .leq (.t 79) (kI 15)),oP 81 77 (.t 80) (kB false),oM 73 81] (cD 73 (.ops [oC 13 2,oC 14 (-1)]) (sO [oD 83 0 12,oL 84 83,oV 85 .eql 84 18,oM 82 85] (cD 82 (.seq (sO [oM 86 10,oV 87 .lss 86 1] (cD 87 (sO [oC 8 (-1)] .ret) .skip)) (.seq (.draw [oA 88 1 4,oM 89 1,oD 90 3 12,oL 91 90,oM 92 3,oM 93 92,oU 94 93 10,oT 95 93 (bI .eql (.t 94) (kI 1)),oP 96 93 (.t 95) (kB false),oX 97 (y4 39 88 89 91 96),oA 98 1 4,oM 99 1,oD 100 4 12,oL 101 100,oM 102 3,oM 103 102,oU 104 103 10,oT 105 103 (bI .eql (.t 104) (kI 1)),oP 106 103 (.t 105) (kB false),oX 107 (y4 39 98 99 101 106),oM 15 97,oM 16 107] []) (.seq (sO [oM 108 15,oV 109 .lss 108 0,oM 110 109,oW 111 110 15,oW 112 110 16,oF 113 110 (bI .neq (.t 111) (.t 112)),oP 114 110 (kB true) (.t 113)] (cD 114 (sO [oC 8 (-1)] .ret) .skip)) (.ops [oM 115 15,oV 116 .sub 115 1,oM 14 116])))) (sO [oD 118 0 12,oL 119 118,oV 120 .eql 119 19,oM 117 120] (cD 117 (sO [oM 121 3,oX 122 (.not (.t 121)),oM 123 122,oW 124 123 10,oF 125 123 (bI .neq (.t 124) (kI 0)),oP 126 123 (kB true) (.t 125),oM 127 126,oF 128 127 (.load true 1 (.t 4)),oW 129 127 1,oF 130 127 (.faddr 4 (.t 12)),oF 131 127 (.load false 1 (.t 130)),oF 132 127 (cF 39 [(.t 128),(.t 129),(.t 131),(kB false)]),oF 133 127 (bI .neq (.t 132) (kI 1)),oP 134 127 (kB true) (.t 133),oM 135 134,oF 136 135 (.load true 1 (.t 4)),oW 137 135 1,oF 138 135 (.faddr 3 (.t 12)),oF 139 135 (.load false 1 (.t 138)),oF 140 135 (cF 39 [(.t 136),(.t 137),(.t 139),(kB true)]),oF 141 135 (bI .neq (.t 140) (kI 0)),oP 142 135 (kB true) (.t 141)] (cD 142 (sO [oC 8 (-1)] .ret) .skip)) (sO [oD 144 0 12,oL 145 144,oV 146 .eql 145 20,oM 143 146] (cD 143 (.seq (sO [oD 147 1 12,oL 148 147,oV 149 .lss 148 0,oM 150 149,oF 151 150 (.faddr 1 (.t 12)),oF 152 150 (.load false 1 (.t 151)),oW 153 150 1,oF 154 150 (bI .geq (.t 152) (.t 153)),oP 155 150 (kB true) (.t 154)] (cD 155 (sO [oC 8 (-1)] .ret) .skip)) (sO [oD 156 0 4,oL 157 156,oD 158 1 12,oL 159 158,oI 160 6 157 159,oD 161 1 160,oL 162 161,oM 13 162] (.ops [oD 163 0 4,oL 164 163,oD 165 1 12,oL 166 165,oI 167 6 164 166,oA 168 6 167,oX 169 (y1 68 168),oM 170 13,oB 171 .sub 169 170,oM 14 171]))) (sO [oD 173 0 12,oL 174 173,oV 175 .eql 174 21,oM 172 175] (cD 172 (.seq (sO [oM 176 3,oX 177 (.not (.t 176)),oM 178 177,oW 179 178 10,oF 180 178 (.faddr 3 (.t 9)),oF 181 178 (.load false 1 (.t 180)),oF 182 178 (.max2 (.t 181) (kI 0)),oF 183 178 (bI .neq (.t 179) (.t 182)),oP 184 178 (kB true) (.t 183)] (cD 184 (sO [oC 8 (-1)] .ret) .skip)) (.ops [oM 185 10,oX 186 (.neg (.t 185)),oM 14 186])) .skip))))))))))))))))))) (.seq (sO [oM 187 10,oM 188 13,oB 189 .lss 187 188,oM 190 189,oW 191 190 10,oW 192 190 14,oF 193 190 (bI .add (.t 191) (.t 192)),oF 194 190 (bI .gtr (.t 193) (kI 1024)),oP 195 190 (kB true) (.t 194)] (cD 195 (sO [oC 8 (-1)] .ret) .skip)) (.ops [oM 196 10,oM 197 14,oB 198 .add 196 197,oM 10 198]))))))) (.ops [oM 26 11,oV 27 .add 26 1,oM 11 27])))))) (sO [oM 199 10,oM 8 199] .ret)))))⟩
theorem L39_ok : zAa Tryz.prog Tryz.f39 [] = some L39 := by kernel_rfl
def L41 : LFn := ⟨111,[(.tmp 8),(.tmp 9)],(sO [oX 4 (.box false (.t 0)),oX 6 (.box false (.t 2)),oX 8 (.mv (.c (.v (.pointer none)))),oC 9 0] (.seq (sO [oD 17 0 6,oL 18 17,oV 19 .lss 18 2,oM 20 19,oF 21 20 (.faddr 0 (.t 6)),oF 22 20 (.load false 1 (.t 21)),oF 23 20 (bI .gtr (.t 22) (kI 8)),oP 24 20 (kB true) (.t 23),oM 25 24,oF 26 25 (.faddr 1 (.t 6)),oF 27 25 (.load false 1 (.t 26)),oF 28 25 (bI .lss (.t 27) (kI 0)),oP 29 25 (kB true) (.t 28),oM 30 29,oF 31 30 (.faddr 1 (.t 6)),oF 32 30 (.load false 1 (.t 31)),oF 33 30 (bI .gtr (.t 32) (kI 8)),oP 34 30 (kB true) (.t 33),oM 35 34,oF 36 35 (.load true 1 (.t 4)),oF 37 35 (y1 69 36),oF 38 35 (.not (.t 37)),oP 39 35 (kB true) (.t 38)] (cD 39 (sO [oX 8 (.mv (.c (.v (.pointer none)))),oC 9 1] .ret) .skip)) (sO [oA 41 1 4,oM 42 1,oD 43 1 6,oL 44 43,oX 45 (y3 70 41 42 44),oM 40 45,oE 46 40 0,oE 47 40 1,oM 10 46,oM 11 47] (.seq (.block 0 (sO [oM 49 11,oV 50 .neq 49 0,oM 48 50] (cD 48 (sO [oX 8 (.mv (.c (.v (.pointer none)))),oC 9 7] .ret) (sO [oM 52 10,oV 53 .gtr 52 67108864,oM 51 53] (cD 51 (sO [oX 8 (.mv (.c (.v (.pointer none)))),oC 9 8] .ret) (sO [oM 55 3,oX 56 (.len .slc (.t 55)),oD 57 0 4,oL 58 57,oM 59 1,oI 60 6 58 59,oD 61 1 60,oL 62 61,oB 63 .neq 56 62,oM 64 63,oW 65 64 3,oF 66 64 (.mkfn (.func 71) [] [(.t 6)]),oF 67 64 (y2 28 65 66),oP 68 64 (kB true) (.t 67),oM 54 68] (cD 54 (sO [oX 8 (.mv (.c (.v (.pointer none)))),oC 9 2] .ret) .skip))))))) (.seq (.drawA [oA 69 1 4,oA 70 2 6,oD 71 0 6,oL 72 71,oN (.mv (.c .any)),oN (.mv (.c .any)),oN (.mv (.c .any)),oN (.mv (.c .any))] [(oX 73 (y1 26 72),[0,1]),(oX 74 (.build [zAg,i0,i0,zAg,zAg,(.v (.map none)),i0] [(0,(1,(.t 69))),(1,(2,(.t 70))),(5,(1,(.t 73)))]),[]),(oX 75 (.box false (.t 74)),[]),(oM 12 75,[])] []) (.seq (sO [oD 76 0 4,oL 77 76,oX 78 (.len .slc (.t 77)),oC 79 0] (.block 1 (.loop (sO [oB 80 .lss 79 78] (.seq (cD 80 .skip (.exit 1)) (.seq (.block 2 (sO [oI 81 6 77 79,oA 82 6 81,oX 14 (.alloc [s0,i0,i0,i0,zAg,zAg]),oS 6 14 82] (sO [oD 84 5 14,oL 85 84,oX 86 (cF 72 [(.t 85),(kI 0)]),oM 83 86,oE 87 83 0,oE 88 83 1,oM 15 87,oM 16 88] (.drawA [oM 89 12,oM 90 12,oM 91 12,oK 92 91,oD 93 3 92,oL 94 93,oM 95 15,oX 96 (.bsl true 1 1 [zAg] [(0,(.t 95))]),oN (.mv (.c .any)),oM 98 12,oK 99 98,oD 100 4 99,oL 101 100,oM 102 16,oX 103 (.bsl true 1 1 [i0] [(0,(.t 102))]),oN (.mv (.c .any)),oK 105 89,oD 106 3 105,oN (.mv (.c .any)),oK 107 90,oD 108 4 107,oN (.mv (.c .any))] [(oX 97 (.append 1 24 (.t 94) (.t 96)),[10,11,12,16,17,19,20]),(oX 104 (.append 1 8 (.t 101) (.t 103)),[16,17,19,20]),(oS 1 106 97,[19,20]),(oS 1 108 104,[])] [])))) (.ops [oV 109 .add 79 1,oM 79 109]))))))) (sO [oM 110 12,oM 8 110,oC 9 0] .ret)))))))⟩
theorem L41_ok : zAa Tryz.prog Tryz.f41 [⟨15,7,.imm⟩,⟨15,14,.imm⟩,⟨10,0,(.drw [4,5,6,7])⟩,⟨15,0,(.drw [8,15,18,21])⟩] = some L41 := by kernel_rfl
def L42 : zVR := ⟨15,[(.cell 6 true 2),(.cell 7 false 1),(.cell 8 false 1)],(.seq (.ops [oX 6 (.alloc [i0,zAg]),oX 7 (.alloc [i0]),oX 8 (.alloc [i0])]) (.seq (.ops [oN (.store 1 (.t 7) (kI (-1))),oN (.store 1 (.t 8) (kI (-1)))]) (.cut [oX 9 (.mkfn (.func 73) [] [(.t 6),(.t 7),(.t 8)])] (.t 9) [] (.seq (.seq (.ops [oM 10 0]) (.seq (.ops [oM 11 1]) (.seq (.ops [oM 12 2]) (.seq (.ops []) (.seq (.callp (some 13) (.c (.fn (.func 74) [] [])) [(.t 10),(.t 11),(.t 12)]) (.seq (.ops [oX 14 (.build [i0,zAg] [(1,(1,(.t 13)))])]) (.seq (.ops [oS 2 6 14]) (.seq (.ops [oN (.store 1 (.t 7) (kI (-1)))]) (.seq (.ops [oN (.store 1 (.t 8) (kI (-1)))]) (.ops [])))))))))) .ret))))⟩
theorem L42_ok : zJS Tryz.prog Tryz.f42 [⟨3,3,.cut⟩] = some L42 := by kernel_rfl
def L49 : LFn := ⟨83,[(.cell 8 true 7),(.tmp 9),(.tmp 10)],(sO [oX 4 (.box false (.t 0)),oX 6 (.box false (.t 2)),oX 8 (.alloc [zAg,i0,i0,i0,i0,i0,i0]),oX 9 (.mv (.c zAg)),oC 10 0] (.seq (sO [oA 16 2 6,oX 17 (y1 14 16),oX 18 (.not (.t 17)),oM 19 18,oF 20 19 (.load true 1 (.t 4)),oF 21 19 (y1 13 20),oF 22 19 (.not (.t 21)),oP 23 19 (kB true) (.t 22)] (cD 23 (sO [oX 24 (.build [zAg,i0,i0,i0,i0,i0,i0] []),oS 7 8 24,oX 9 (.mv (.c zAg)),oC 10 1] .ret) .skip)) (.seq (sO [oM 25 1,oV 26 .lss 25 0,oM 27 26,oW 28 27 1,oF 29 27 (.faddr 0 (.t 4)),oF 30 27 (.load false 1 (.t 29)),oF 31 27 (.len .slc (.t 30)),oF 32 27 (bI .geq (.t 28) (.t 31)),oP 33 27 (kB true) (.t 32)] (cD 33 (sO [oX 34 (.build [zAg,i0,i0,i0,i0,i0,i0] []),oS 7 8 34,oX 9 (.mv (.c zAg)),oC 10 7] .ret) .skip)) (.seq (sO [oA 36 1 4,oM 37 1,oD 38 1 6,oL 39 38,oX 40 (y3 23 36 37 39),oM 35 40,oE 41 35 0,oE 42 35 1,oM 11 41,oM 12 42] (sO [oM 43 11,oV 44 .gtr 43 67108864] (cD 44 (sO [oX 45 (.build [zAg,i0,i0,i0,i0,i0,i0] []),oS 7 8 45,oX 9 (.mv (.c zAg)),oC 10 8] .ret) .skip))) (.seq (sO [oM 46 3,oX 47 (.len .slc (.t 46)),oD 48 0 4,oL 49 48,oM 50 1,oI 51 6 49 50,oD 52 1 51,oL 53 52,oB 54 .neq 47 53] (cD 54 (sO [oX 55 (.build [zAg,i0,i0,i0,i0,i0,i0] []),oS 7 8 55,oX 9 (.mv (.c zAg)),oC 10 2] .ret) .skip)) (.seq (sO [oC 13 0] (.block 0 (.loop (.seq (sO [oM 56 13,oM 57 3,oX 58 (.len .slc (.t 57)),oB 59 .lss 56 58] (cD 59 .skip (.exit 0))) (.seq (.block 1 (.seq (.draw [oD 62 0 6,oL 63 62,oM 64 3,oM 65 13,oI 66 1 64 65,oL 67 66,oX 68 (y2 33 63 67),oM 69 3,oM 70 13,oI 71 1 69 70,oL 72 71,oB 73 .neq 68 72] []) (cD 73 (sO [oX 74 (.build [zAg,i0,i0,i0,i0,i0,i0] []),oS 7 8 74,oX 9 (.mv (.c zAg)),oC 10 2] .ret) .skip))) (.ops [oM 60 13,oV 61 .add 60 1,oM 13 61])))))) (sO [oA 75 1 4,oA 76 2 6,oX 77 (.build [zAg,i0,i0,i0,i0,i0,i0] [(0,(1,(.t 75))),(1,(2,(.t 76))),(4,(1,(kI (-1)))),(5,(1,(kI (-1))))]),oX 14 (.alloc [zAg,i0,i0,i0,i0,i0,i0]),oS 7 14 77] (sO [oM 78 1,oM 79 3,oX 80 (y3 90 14 78 79),oM 15 80] (sO [oA 81 7 14,oM 82 15,oS 7 8 81,oM 9 82,oC 10 0,oX 9 (.frz (.t 9))] .ret)))))))))⟩
theorem L49_ok : zAa Tryz.prog Tryz.f49 [⟨17,5,(.pre 9 (.frz (.t 9)))⟩] = some L49 := by kernel_rfl
def L50 : LFn := ⟨82,[(.tmp 6)],(sO [oC 6 0] (sO [oC 7 0] (.seq (sO [oC 8 0] (.block 0 (.loop (.seq (sO [oM 10 8,oM 11 0,oX 12 (.len .slc (.t 11)),oB 13 .lss 10 12] (cD 13 .skip (.exit 0))) (.seq (.block 1 (sO [oC 9 1] (.seq (sO [oM 16 0,oM 17 8,oI 18 5 16 17,oD 19 0 18,oL 20 19] (.block 2 (sO [oV 22 .eql 20 18,oM 21 22] (cD 21 (.drawA [oM 23 0,oM 24 8,oI 25 5 23 24,oD 26 3 25,oL 27 26,oM 28 1,oM 29 2,oN (.mv (.c .any)),oM 31 0,oM 32 8,oI 33 5 31 32,oD 34 4 33,oL 35 34,oM 36 1,oM 37 2,oN (.mv (.c .any)),oN (.mv (.c .any)),oN (.mv (.c .any)),oN (.mv (.c .any))] [(oX 30 (y3 50 27 28 29),[10,11,12]),(oX 38 (y3 50 35 36 37),[]),(oX 39 (.max2 (.t 30) (.t 38)),[]),(oX 40 (bI .add (kI 1) (.t 39)),[]),(oM 9 40,[])] []) (sO [oV 42 .eql 20 19,oM 41 42] (cD 41 (.drawA [oM 43 2,oV 44 .add 43 1,oM 45 0,oM 46 8,oI 47 5 45 46,oD 48 4 47,oL 49 48,oM 50 1,oM 51 2,oX 52 (.callh (.c (.fn (.func 50) [] [])) [(.t 49),(.t 50),(.t 51)]),oB 53 .mul 44 52,oX 54 (bI .add (kI 1) (.t 53)),oM 55 2,oM 56 0,oM 57 8,oI 58 5 56 57,oD 59 3 58,oL 60 59,oM 61 1,oM 62 2,oX 63 (.callh (.c (.fn (.func 50) [] [])) [(.t 60),(.t 61),(.t 62)]),oB 64 .mul 55 63,oB 65 .add 54 64,oM 9 65] [] []) (sO [oV 67 .eql 20 20,oM 66 67] (cD 66 (.ops [oM 68 1,oM 69 0,oM 70 8,oI 71 5 69 70,oD 72 1 71,oL 73 72,oI 74 1 68 73,oL 75 74,oX 76 (bI .add (kI 1) (.t 75)),oM 9 76]) .skip)))))))) (.ops [oM 77 7,oM 78 9,oB 79 .add 77 78,oX 80 (.min2 (.t 79) (kI 67108865)),oM 7 80])))) (.ops [oM 14 8,oV 15 .add 14 1,oM 8 15])))))) (sO [oM 81 7,oM 6 81] .ret))))⟩
theorem L50_ok : zAa Tryz.prog Tryz.f50 [⟨10,9,.imm⟩,⟨10,20,.imm⟩,⟨8,0,(.drw [7,15,16,17,18])⟩,⟨10,0,(.drw [])⟩] = some L50 := by kernel_rfl
def L54 : LFn := ⟨20,[(.tmp 3),(.tmp 4),(.tmp 5)],(sO [oX 3 (.mv (.c zAg)),oC 4 0,oC 5 0] (sO [oM 7 0,oX 8 (.len .slc (.t 7)),oV 9 .sub 8 1,oM 6 9] (.seq (.draw [oM 10 0,oM 11 6,oX 12 (.slice .slc 1 (.t 10) none (some (.t 11))),oL 13 1,oM 14 0,oM 15 6,oI 16 1 14 15,oL 17 16,oX 18 (.neg (.t 17)),oX 19 (y2 48 13 18),oM 3 12,oM 4 19,oC 5 0] []) .ret)))⟩
theorem L54_ok : zAa Tryz.prog Tryz.f54 [] = some L54 := by kernel_rfl
def L55 : LFn := ⟨20,[(.tmp 2),(.tmp 3),(.tmp 4)],(sO [oX 2 (.mv (.c zAg)),oC 3 0,oC 4 0] (sO [oM 6 0,oX 7 (.len .slc (.t 6)),oV 8 .sub 7 1,oM 5 8] (.seq (sO [oM 9 0,oM 10 5,oI 11 1 9 10,oL 12 11,oV 13 .eql 12 0] (cD 13 (sO [oM 14 0,oM 15 5,oX 16 (.slice .slc 1 (.t 14) none (some (.t 15))),oM 2 16,oC 3 1,oC 4 0] .ret) .skip)) (sO [oM 17 0,oM 18 5,oX 19 (.slice .slc 1 (.t 17) none (some (.t 18))),oM 2 19,oC 3 0,oC 4 0] .ret))))⟩
theorem L55_ok : zAa Tryz.prog Tryz.f55 [] = some L55 := by kernel_rfl
def L56 : LFn := ⟨3,[(.tmp 0)],(sO [oX 0 (.mv (.c (.v (.map none))))] (sO [⟨(some 1),none,.mkmap⟩,oN (.ins .int (.t 1) (kI 5) (.c (.v (.string (mkS [43]))))),oN (.ins .int (.t 1) (kI 6) (.c (.v (.string (mkS [45]))))),oN (.ins .int (.t 1) (kI 7) (.c (.v (.string (mkS [42]))))),oN (.ins .int (.t 1) (kI 8) (.c (.v (.string (mkS [47]))))),oN (.ins .int (.t 1) (kI 9) (.c (.v (.string (mkS [37]))))),oN (.ins .int (.t 1) (kI 10) (.c (.v (.string (mkS [61,61]))))),oN (.ins .int (.t 1) (kI 11) (.c (.v (.string (mkS [33,61]))))),oN (.ins .int (.t 1) (kI 12) (.c (.v (.string (mkS [60]))))),oN (.ins .int (.t 1) (kI 13) (.c (.v (.string (mkS [60,61]))))),oN (.ins .int (.t 1) (kI 14) (.c (.v (.string (mkS [62]))))),oN (.ins .int (.t 1) (kI 15) (.c (.v (.string (mkS [62,61]))))),oM 2 1,oM 0 2,oX 0 (.frz (.t 0))] .ret))⟩
theorem L56_ok : zAa Tryz.prog Tryz.f56 [⟨1,14,(.pre 0 (.frz (.t 0)))⟩] = some L56 := by kernel_rfl
def L57 : LFn := ⟨35,[(.tmp 4),(.tmp 5),(.tmp 6)],(sO [oX 4 (.mv (.c zAg)),oC 5 0,oC 6 0] (sO [oM 11 0,oX 12 (.len .slc (.t 11)),oV 13 .sub 12 2,oM 7 13] (.seq (.draw [oL 15 1,oL 16 2,oM 17 0,oM 18 7,oI 19 1 17 18,oL 20 19,oM 21 0,oM 22 7,oV 23 .add 22 1,oI 24 1 21 23,oL 25 24,oX 26 (y4 18 15 16 20 25),oM 14 26,oE 27 14 0,oE 28 14 1,oE 29 14 2,oM 8 27,oM 9 28,oM 10 29] []) (sO [oM 30 0,oM 31 7,oX 32 (.slice .slc 1 (.t 30) none (some (.t 31))),oM 33 8,oM 34 9,oM 4 32,oM 5 33,oM 6 34] .ret))))⟩
theorem L57_ok : zAa Tryz.prog Tryz.f57 [] = some L57 := by kernel_rfl
def L61 : LFn := ⟨4,[(.tmp 2)],(sO [oC 2 0] (.seq (sO [oM 3 0] (cD 3 (sO [oC 2 1] .ret) .skip)) (sO [oC 2 0] .ret)))⟩
theorem L61_ok : zAa Tryz.prog Tryz.f61 [] = some L61 := by kernel_rfl
def L63 : LFn := ⟨8,[(.tmp 2)],(sO [oX 2 (.mv (.c s0))] (sO [oX 3 (.bsl false 1 11 [s0] [(0,(.c (.v (.string (mkS [43]))))),(1,(.c (.v (.string (mkS [45]))))),(2,(.c (.v (.string (mkS [42]))))),(3,(.c (.v (.string (mkS [47]))))),(4,(.c (.v (.string (mkS [37]))))),(5,(.c (.v (.string (mkS [61,61]))))),(6,(.c (.v (.string (mkS [33,61]))))),(7,(.c (.v (.string (mkS [60]))))),(8,(.c (.v (.string (mkS [60,61]))))),(9,(.c (.v (.string (mkS [62]))))),(10,(.c (.v (.string (mkS [62,61])))))]),oM 4 0,oV 5 .sub 4 5,oI 6 1 3 5,oL 7 6,oM 2 7] .ret))⟩
theorem L63_ok : zAa Tryz.prog Tryz.f63 [] = some L63 := by kernel_rfl
def L67 : LFn := ⟨106,[(.tmp 4)],(sO [oX 2 (.box false (.t 0)),oX 4 (.mv (kB false))] (.seq (sO [oD 5 0 2,oL 6 5,oV 7 .lss 6 0,oM 8 7,oF 9 8 (.faddr 0 (.t 2)),oF 10 8 (.load false 1 (.t 9)),oF 11 8 (bI .gtr (.t 10) (kI 22)),oP 12 8 (kB true) (.t 11)] (cD 12 (sO [oX 4 (.mv (kB false))] .ret) .skip)) (.seq (sO [oD 13 0 2,oL 14 13,oV 15 .neq 14 18,oM 16 15,oT 17 16 (.faddr 0 (.t 2)),oT 18 16 (.load false 1 (.t 17)),oT 19 16 (bI .neq (.t 18) (kI 19)),oP 20 16 (.t 19) (kB false),oM 21 20,oT 22 21 (.faddr 3 (.t 2)),oT 23 21 (.load false 1 (.t 22)),oT 24 21 (.len .slc (.t 23)),oT 25 21 (bI .gtr (.t 24) (kI 0)),oU 26 21 25,oF 27 26 (.faddr 4 (.t 2)),oF 28 26 (.load false 1 (.t 27)),oF 29 26 (.len .slc (.t 28)),oF 30 26 (bI .gtr (.t 29) (kI 0)),oT 31 21 (.pick (.t 26) (kB true) (.t 30)),oP 32 21 (.t 31) (kB false)] (cD 32 (sO [oX 4 (.mv (kB false))] .ret) .skip)) (.seq (sO [oD 33 0 2,oL 34 33] (.block 0 (sO [oV 36 .eql 34 0,oM 35 36] (cD 35 (sO [oD 37 1 2,oL 38 37,oV 39 .geq 38 0,oM 40 39,oT 41 40 (.faddr 1 (.t 2)),oT 42 40 (.load false 1 (.t 41)),oT 43 40 (bI .leq (.t 42) (kI 999999999)),oP 44 40 (.t 43) (kB false),oM 45 44,oT 46 45 (.faddr 2 (.t 2)),oT 47 45 (.load false 1 (.t 46)),oT 48 45 (bI .eql (.t 47) (kI 0)),oP 49 45 (.t 48) (kB false),oM 4 49] .ret) (.seq (sO [oV 51 .eql 34 1,oM 50 51] (cD 50 .skip (.ops [oV 52 .eql 34 2,oM 50 52]))) (cD 50 (sO [oD 53 1 2,oL 54 53,oV 55 .geq 54 0,oM 56 55,oT 57 56 (.faddr 1 (.t 2)),oT 58 56 (.load false 1 (.t 57)),oU 59 56 1,oT 60 56 (bI .lss (.t 58) (.t 59)),oP 61 56 (.t 60) (kB false),oM 62 61,oT 63 62 (.faddr 2 (.t 2)),oT 64 62 (.load false 1 (.t 63)),oT 65 62 (bI .eql (.t 64) (kI 0)),oP 66 62 (.t 65) (kB false),oM 4 66] .ret) (.seq (sO [oV 68 .eql 34 3,oM 67 68] (cD 67 .skip (.ops [oV 69 .eql 34 4,oM 67 69]))) (cD 67 (sO [oD 70 1 2,oL 71 70,oV 72 .geq 71 0,oM 73 72,oT 74 73 (.faddr 2 (.t 2)),oT 75 73 (.load false 1 (.t 74)),oT 76 73 (bI .geq (.t 75) (kI 1)),oP 77 73 (.t 76) (kB false),oM 78 77,oT 79 78 (.faddr 1 (.t 2)),oT 80 78 (.load false 1 (.t 79)),oU 81 78 1,oT 82 78 (bI .lss (.t 80) (.t 81)),oP 83 78 (.t 82) (kB false),oM 84 83,oT 85 84 (.faddr 2 (.t 2)),oT 86 84 (.load false 1 (.t 85)),oU 87 84 1,oT 88 84 (.faddr 1 (.t 2)),oT 89 84 (.load false 1 (.t 88)),oT 90 84 (bI .sub (.t 87) (.t 89)),oT 91 84 (bI .leq (.t 86) (.t 90)),oP 92 84 (.t 91) (kB false),oM 4 92] .ret) (sO [oV 94 .eql 34 20,oM 93 94] (cD 93 (sO [oD 95 2 2,oL 96 95,oV 97 .eql 96 0,oM 4 97] .ret) .skip)))))))))) (sO [oD 98 1 2,oL 99 98,oV 100 .eql 99 0,oM 101 100,oT 102 101 (.faddr 2 (.t 2)),oT 103 101 (.load false 1 (.t 102)),oT 104 101 (bI .eql (.t 103) (kI 0)),oP 105 101 (.t 104) (kB false),oM 4 105] .ret)))))⟩
theorem L67_ok : zAa Tryz.prog Tryz.f67 [] = some L67 := by kernel_rfl
def L68 : LFn := ⟨11,[(.tmp 2)],(sO [oX 1 (.box false (.t 0)),oC 2 0] (.seq (sO [oD 3 3 1,oL 4 3,oV 5 .geq 4 0] (cD 5 (sO [oD 6 3 1,oL 7 6,oM 2 7] .ret) .skip)) (sO [oD 8 4 1,oL 9 8,oX 10 (.len .slc (.t 9)),oM 2 10] .ret)))⟩
theorem L68_ok : zAa Tryz.prog Tryz.f68 [] = some L68 := by kernel_rfl
def L69 : zVR := ⟨108,[(.cell 2 false 1)],(.seq (.ops [oX 1 (.box false (.t 0)),oX 2 (.alloc [(.v (.bool false))])]) (.cut [oX 8 (.mkfn (.func 126) [] [(.t 2)])] (.t 8) [] (.seq (.seq (.ops [oD 9 0 1]) (.seq (.ops [oL 10 9]) (.seq (.ops [oX 11 (.len .slc (.t 10))]) (.seq (.ops [oV 12 .leq 11 8]) (.seq (.ops []) (.seq (.callp (some 13) (.c (.fn (.func 127) [] [])) [(.t 12)]) (.ops []))))))) (.seq (.ops [oA 14 1 1,oX 15 (.build [zAg,i0,i0] [(0,(1,(.t 14)))]),oX 16 (.box false (.t 15)),oM 3 16]) (.seq (.seq (.ops [oD 17 0 1,oL 18 17,oX 19 (.len .slc (.t 18)),oC 20 0]) (.block 0 (.loop (.seq (.ops [oB 21 .lss 20 19]) (.seq (cD 21 .skip (.exit 0)) (.seq (.block 1 (.seq (.ops [oM 22 20,oI 23 6 18 20,oA 24 6 23,oX 5 (.alloc [s0,i0,i0,i0,zAg,zAg]),oM 4 22,oS 6 5 24]) (.seq (.ops [oM 25 3,oM 26 4,oK 27 25,oD 28 1 27,oS 1 28 26]) (.seq (.seq (.ops [oD 29 0 5]) (.seq (.ops [oL 30 29]) (.seq (.ops [oX 31 (y1 128 30)]) (.seq (.ops [oM 32 31]) (.seq (.ops [oT 33 32 (.faddr 0 (.t 1))]) (.seq (.ops [oT 34 32 (.load false 1 (.t 33))]) (.seq (.ops [oU 35 32 4]) (.seq (.ops [oT 36 32 (.slice .slc 6 (.t 34) none (some (.t 35)))]) (.seq (.ops [oT 37 32 (.mkfn (.func 130) [] [(.t 5)])]) (.seq (.ops [oT 38 32 (y2 129 36 37)]) (.seq (.ops [oT 39 32 (.not (.t 38))]) (.seq (.ops [oP 40 32 (.t 39) (kB false)]) (.seq (.ops []) (.seq (.callp (some 41) (.c (.fn (.func 127) [] [])) [(.t 40)]) (.ops []))))))))))))))) (.seq (.seq (.ops [oD 42 1 5]) (.seq (.ops [oL 43 42]) (.seq (.ops [oV 44 .geq 43 0]) (.seq (.ops [oM 45 44]) (.seq (.ops [oT 46 45 (.faddr 1 (.t 5))]) (.seq (.ops [oT 47 45 (.load false 1 (.t 46))]) (.seq (.ops [oT 48 45 (.faddr 2 (.t 5))]) (.seq (.ops [oT 49 45 (.load false 1 (.t 48))]) (.seq (.ops [oT 50 45 (bI .leq (.t 47) (.t 49))]) (.seq (.ops [oP 51 45 (.t 50) (kB false)]) (.seq (.ops [oM 52 51]) (.seq (.ops [oT 53 52 (.faddr 2 (.t 5))]) (.seq (.ops [oT 54 52 (.load false 1 (.t 53))]) (.seq (.ops [oT 55 52 (bI .leq (.t 54) (kI 1024))]) (.seq (.ops [oP 56 52 (.t 55) (kB false)]) (.seq (.ops [oM 57 56]) (.seq (.ops [oT 58 57 (.faddr 3 (.t 5))]) (.seq (.ops [oT 59 57 (.load false 1 (.t 58))]) (.seq (.ops [oT 60 57 (bI .geq (.t 59) (kI (-1)))]) (.seq (.ops [oP 61 57 (.t 60) (kB false)]) (.seq (.ops [oM 62 61]) (.seq (.ops [oT 63 62 (.faddr 3 (.t 5))]) (.seq (.ops [oT 64 62 (.load false 1 (.t 63))]) (.seq (.ops [oT 65 62 (bI .leq (.t 64) (kI 128))]) (.seq (.ops [oP 66 62 (.t 65) (kB false)]) (.seq (.ops []) (.seq (.callp (some 67) (.c (.fn (.func 127) [] [])) [(.t 66)]) (.ops [])))))))))))))))))))))))))))) (.seq (.seq (.ops [oD 68 4 5]) (.seq (.ops [oL 69 68]) (.seq (.ops [oX 70 (.len .slc (.t 69))]) (.seq (.ops [oV 71 .leq 70 128]) (.seq (.ops [oM 72 71]) (.seq (.ops [oT 73 72 (.faddr 3 (.t 5))]) (.seq (.ops [oT 74 72 (.load false 1 (.t 73))]) (.seq (.ops [oT 75 72 (bI .eql (.t 74) (kI (-1)))]) (.seq (.ops [oU 76 72 75]) (.seq (.ops [oF 77 76 (.faddr 4 (.t 5))]) (.seq (.ops [oF 78 76 (.load false 1 (.t 77))]) (.seq (.ops [oF 79 76 (.len .slc (.t 78))]) (.seq (.ops [oF 80 76 (bI .eql (.t 79) (kI 0))]) (.seq (.ops [oT 81 72 (.pick (.t 76) (kB true) (.t 80))]) (.seq (.ops [oP 82 72 (.t 81) (kB false)]) (.seq (.ops []) (.seq (.callp (some 83) (.c (.fn (.func 127) [] [])) [(.t 82)]) (.ops [])))))))))))))))))) (.seq (.seq (.ops [oD 84 4 5,oL 85 84,oX 86 (.len .slc (.t 85)),oC 87 0]) (.block 2 (.loop (.seq (.ops [oB 88 .lss 87 86]) (.seq (cD 88 .skip (.exit 2)) (.seq (.block 3 (.seq (.ops [oI 89 1 85 87,oL 90 89,oM 7 90]) (.seq (.ops [oM 91 7]) (.seq (.ops [oV 92 .geq 91 0]) (.seq (.ops [oM 93 92]) (.seq (.ops [oU 94 93 7]) (.seq (.ops [oT 95 93 (.faddr 2 (.t 5))]) (.seq (.ops [oT 96 93 (.load false 1 (.t 95))]) (.seq (.ops [oT 97 93 (bI .lss (.t 94) (.t 96))]) (.seq (.ops [oP 98 93 (.t 97) (kB false)]) (.seq (.ops []) (.seq (.callp (some 99) (.c (.fn (.func 127) [] [])) [(.t 98)]) (.ops []))))))))))))) (.ops [oV 100 .add 87 1,oM 87 100]))))))) (.seq (.ops [oM 101 3]) (.seq (.ops [oD 102 5 5]) (.seq (.ops [oL 103 102]) (.seq (.ops []) (.seq (.callp (some 104) (.c (.fn (.func 131) [] [])) [(.t 101),(.t 103),(kB true),(kI 1)]) (.seq (.ops [oV 105 .eql 104 0]) (.seq (.ops []) (.seq (.callp (some 106) (.c (.fn (.func 127) [] [])) [(.t 105)]) (.ops [])))))))))))))))) (.ops [oV 107 .add 20 1,oM 20 107]))))))) (.seq (.ops [oN (.store 1 (.t 2) (kB true))]) .ret))))))⟩
theorem L69_ok : zJS Tryz.prog Tryz.f69 [⟨2,4,.cut⟩,⟨8,12,.cut⟩,⟨9,25,.cut⟩,⟨10,15,.cut⟩,⟨14,8,.cut⟩,⟨16,3,.cut⟩,⟨16,5,.cut⟩] = some L69 := by kernel_rfl
def L70 : LFn := ⟨55,[(.tmp 6),(.tmp 7)],(sO [oX 3 (.box false (.t 0)),oC 6 0,oC 7 0] (.seq (.block 0 (sO [oA 12 1 3,oX 13 (y1 69 12),oX 14 (.not (.t 13)),oM 11 14] (cD 11 (sO [oC 6 0,oC 7 1] .ret) (sO [oM 16 1,oV 17 .lss 16 0,oM 18 17,oW 19 18 1,oF 20 18 (.faddr 0 (.t 3)),oF 21 18 (.load false 1 (.t 20)),oF 22 18 (.len .slc (.t 21)),oF 23 18 (bI .geq (.t 19) (.t 22)),oP 24 18 (kB true) (.t 23),oM 15 24] (cD 15 (sO [oC 6 0,oC 7 7] .ret) (sO [oM 26 2,oV 27 .lss 26 0,oM 28 27,oW 29 28 2,oF 30 28 (bI .gtr (.t 29) (kI 8)),oP 31 28 (kB true) (.t 30),oM 25 31] (cD 25 (sO [oC 6 0,oC 7 2] .ret) .skip))))))) (sO [oX 8 (.mv (.c zAg)),oX 8 (.own 1 (.t 8))] (.seq (sO [oD 32 0 3,oL 33 32,oM 34 1,oV 35 .add 34 1,oX 36 (.slice .slc 6 (.t 33) none (some (.t 35))),oX 37 (.len .slc (.t 36)),oC 38 0] (.block 1 (.loop (sO [oB 39 .lss 38 37] (.seq (cD 39 .skip (.exit 1)) (.seq (.block 2 (sO [oI 40 6 36 38,oA 41 6 40,oX 10 (.alloc [s0,i0,i0,i0,zAg,zAg]),oS 6 10 41] (.ops [oM 42 8,oD 43 5 10,oL 44 43,oM 45 2,oM 46 8,oX 47 (y3 132 44 45 46),oX 48 (.bsl true 1 1 [i0] [(0,(.t 47))]),oX 49 (.append 1 8 (.t 42) (.t 48)),oM 8 49]))) (.ops [oV 50 .add 38 1,oM 38 50]))))))) (sO [oM 51 8,oM 52 1,oI 53 1 51 52,oL 54 53,oM 6 54,oC 7 0] .ret)))))⟩
theorem L70_ok : zAa Tryz.prog Tryz.f70 [⟨11,6,.imm⟩,⟨7,1,(.pre 8 (.own 1 (.t 8)))⟩] = some L70 := by kernel_rfl
def L71 : LFn := ⟨9,[(.tmp 3)],(sO [oX 3 (.mv (kB false))] (sO [oD 4 0 1,oL 5 4,oM 6 0,oX 7 (y2 30 5 6),oX 8 (.not (.t 7)),oM 3 8] .ret))⟩
theorem L71_ok : zAa Tryz.prog Tryz.f71 [] = some L71 := by kernel_rfl
def L72 : LFn := ⟨43,[(.tmp 4),(.tmp 5)],(sO [oX 4 (.mv (.c zAg)),oC 5 0] (sO [oX 6 (.mv (.c zAg)),oX 6 (.own 8 (.t 6))] (.seq (sO [oM 10 0,oX 11 (.len .slc (.t 10)),oC 12 0] (.block 0 (.loop (sO [oB 13 .lss 12 11] (.seq (cD 13 .skip (.exit 0)) (.seq (.block 1 (sO [oI 14 5 10 12,oA 15 5 14,oX 8 (.alloc [i0,i0,i0,zAg,zAg]),oS 5 8 15] (sO [oA 16 5 8,oM 17 1,oX 18 (.build [i0,i0,i0,zAg,zAg,i0,zAg,zAg] [(0,(5,(.t 16))),(5,(1,(.t 17)))]),oX 9 (.alloc [i0,i0,i0,zAg,zAg,i0,zAg,zAg]),oS 8 9 18] (sO [oD 20 3 8,oL 21 20,oM 22 1,oV 23 .add 22 1,oX 24 (y2 72 21 23),oM 19 24,oE 25 19 0,oE 26 19 1,oD 27 6 9,oS 1 27 25,oM 1 26] (sO [oD 29 4 8,oL 30 29,oM 31 1,oX 32 (y2 72 30 31),oM 28 32,oE 33 28 0,oE 34 28 1,oD 35 7 9,oS 1 35 33,oM 1 34] (.ops [oM 36 6,oA 37 8 9,oX 38 (.bsl true 8 1 [i0,i0,i0,zAg,zAg,i0,zAg,zAg] [(0,(.t 37))]),oX 39 (.append 8 128 (.t 36) (.t 38)),oM 6 39])))))) (.ops [oV 40 .add 12 1,oM 12 40]))))))) (sO [oM 41 6,oM 42 1,oM 4 41,oM 5 42,oX 4 (.frz (.t 4))] .ret))))⟩
theorem L72_ok : zAa Tryz.prog Tryz.f72 [⟨8,2,.imm⟩,⟨10,4,(.pre 4 (.frz (.t 4)))⟩,⟨1,1,(.pre 6 (.own 8 (.t 6)))⟩] = some L72 := by kernel_rfl
def L73 : zVS := ⟨29,[6,3],(.seq (sO [oM 7 3,oX 8 (.nili false (.t 7))] (cD 8 .ret .skip)) (sO [oM 10 3,oX 11 (.asrt 121 (.agg [i0,i0,i0]) (.t 10)),oM 9 11,oE 12 9 0,oE 13 9 1,oX 4 (.alloc [i0,i0,i0]),oS 3 4 12,oM 5 13] (.seq (sO [oM 14 5,oX 15 (.not (.t 14)),oM 16 15,oF 17 16 (.load true 3 (.t 4)),oF 18 16 (.build [i0,i0,i0] []),oF 19 16 (.bin (.agg [.int,.int,.int]) .eql (.t 17) (.t 18)),oP 20 16 (kB true) (.t 19)] (cD 20 (.ops [oM 21 3,oN (.panicv (.t 21))]) .skip)) (.drawA [oD 22 0 4,oL 23 22,oX 24 (.build [i0,zAg] [(0,(1,(.t 23)))]),oD 25 1 4,oL 26 25,oD 27 2 4,oL 28 27,oN (.mv (.c .any)),oN (.mv (.c .any)),oN (.mv (.c .any))] [(oS 2 0 24,[3,4,5,6]),(oS 1 1 26,[5,6]),(oS 1 2 28,[])] []))))⟩
theorem L73_ok : zJT Tryz.prog Tryz.f73 [⟨5,0,(.drw [7,8,9])⟩] = some L73 := by kernel_rfl
def L74 : LFn := ⟨81,[(.tmp 6)],(sO [oX 6 (.mv (.c zAg))] (sO [oM 13 0,oK 14 13,oD 15 0 14,oD 16 0 15,oL 17 16,oM 18 1,oI 19 6 17 18,oA 20 6 19,oX 7 (.alloc [s0,i0,i0,i0,zAg,zAg]),oS 6 7 20] (sO [oM 21 1,oD 22 2 7,oL 23 22,oX 24 (.msl 1 8 [i0] (.t 23) (.t 23)),oX 25 (.build [i0,zAg,zAg] [(0,(1,(.t 21))),(1,(1,(.t 24)))]),oX 26 (.box false (.t 25)),oM 8 26] (sO [oM 27 8,oK 28 27,oD 29 1 28,oL 30 29,oM 31 2,oX 32 (.copy 1 (.t 30) (.t 31))] (.seq (sO [oM 33 0] (sO [oM 34 8] (sO [oM 35 0] (sO [oK 36 35] (sO [oD 37 3 36] (sO [oL 38 37] (sO [oM 39 1] (sO [oI 40 1 38 39] (sO [oL 41 40] (sO [] (.seq (.callp (some 42) (.c (.fn (.func 133) [] [])) [(.t 33),(.t 34),(.t 41)]) (sO [oM 9 42] (.ops []))))))))))))) (.seq (sO [oD 43 3 7,oL 44 43,oV 45 .geq 44 0] (cD 45 (.seq (sO [oM 46 9,oX 47 (.not (.t 46))] (cD 47 (sO [oM 48 1] (sO [oM 49 0] (sO [oK 50 49] (sO [oD 51 4 50] (sO [oL 52 51] (sO [oM 53 1] (sO [oI 54 1 52 53] (sO [oL 55 54] (sO [oX 56 (.build [i0,i0,i0] [(0,(1,(kI 4))),(1,(1,(.t 48))),(2,(1,(.t 55)))])] (sO [] (.pan 57 121 (.t 56)))))))))))) .skip)) (sO [oM 58 8,oK 59 58,oD 60 2 59,oL 61 60,oM 6 61,oX 6 (.frz (.t 6))] .ret)) .skip)) (sO [oX 10 (.mv (.c zAg)),oX 10 (.own 1 (.t 10))] (.seq (sO [oD 62 4 7,oL 63 62,oX 64 (.len .slc (.t 63)),oC 65 0] (.block 0 (.loop (sO [oB 66 .lss 65 64] (.seq (cD 66 .skip (.exit 0)) (.seq (.block 1 (sO [oI 67 1 63 65,oL 68 67,oM 12 68] (.ops [oM 69 10,oM 70 8,oK 71 70,oD 72 1 71,oL 73 72,oM 74 12,oI 75 1 73 74,oL 76 75,oX 77 (.bsl true 1 1 [i0] [(0,(.t 76))]),oX 78 (.append 1 8 (.t 69) (.t 77)),oM 10 78]))) (.ops [oV 79 .add 65 1,oM 65 79]))))))) (sO [oM 80 10,oM 6 80,oX 6 (.frz (.t 6))] .ret)))))))))⟩
theorem L74_ok : zAa Tryz.prog Tryz.f74 [⟨8,5,(.pre 6 (.frz (.t 6)))⟩,⟨13,8,.imm⟩,⟨15,2,(.pre 6 (.frz (.t 6)))⟩,⟨9,1,(.pre 10 (.own 1 (.t 10)))⟩,⟨4,9,.cut⟩,⟨7,9,.cut⟩] = some L74 := by kernel_rfl
def L90 : LFn := ⟨95,[(.tmp 6)],(sO [oX 6 (.mv (.c zAg))] (sO [oM 13 0,oK 14 13,oD 15 0 14,oD 16 0 15,oL 17 16,oM 18 1,oI 19 6 17 18,oA 20 6 19,oX 7 (.alloc [s0,i0,i0,i0,zAg,zAg]),oS 6 7 20] (sO [oM 21 1,oD 22 2 7,oL 23 22,oX 24 (.msl 1 8 [i0] (.t 23) (.t 23)),oX 25 (.build [i0,zAg,zAg] [(0,(1,(.t 21))),(1,(1,(.t 24)))]),oX 8 (.alloc [i0,zAg,zAg]),oS 3 8 25] (.seq (sO [oC 9 0] (.block 0 (.loop (.seq (sO [oM 26 9,oM 27 2,oX 28 (.len .slc (.t 27)),oB 29 .lss 26 28] (cD 29 .skip (.exit 0))) (.seq (.block 1 (.draw [oD 32 1 8,oL 33 32,oM 34 9,oM 35 2,oM 36 9,oI 37 1 35 36,oL 38 37,oI 39 1 33 34] [oS 1 39 38])) (.ops [oM 30 9,oV 31 .add 30 1,oM 9 31])))))) (sO [oM 40 0,oD 41 5 7,oL 42 41,oX 43 (cF 135 [(.t 40),(.t 8),(.t 42),(kI 0)]),oM 10 43] (.seq (sO [oM 44 0,oK 45 44,oD 46 3 45,oL 47 46,oV 48 .eql 47 0,oM 49 48,oU 50 49 10,oT 51 49 (.not (.t 50)),oP 52 49 (.t 51) (kB false),oM 53 52,oT 54 53 (.faddr 3 (.t 7)),oT 55 53 (.load false 1 (.t 54)),oT 56 53 (bI .geq (.t 55) (kI 0)),oP 57 53 (.t 56) (kB false)] (cD 57 (.ops [oM 58 0,oM 59 1,oD 60 5 7,oL 61 60,oX 62 (y1 37 61),oX 63 (cF 136 [(.t 58),(kI 4),(.t 59),(.t 62)])]) .skip)) (.seq (sO [oM 64 0,oK 65 64,oD 66 3 65,oL 67 66,oV 68 .neq 67 0] (cD 68 (sO [oX 6 (.mv (.c zAg))] .ret) .skip)) (.seq (sO [oD 69 3 7,oL 70 69,oV 71 .geq 70 0] (cD 71 (sO [oD 72 2 8,oL 73 72,oM 6 73,oX 6 (.frz (.t 6))] .ret) .skip)) (sO [oX 74 (.bsl false 1 0 [i0] []),oM 11 74] (.seq (sO [oC 12 0] (.block 2 (.loop (.seq (sO [oM 75 12,oD 76 4 7,oL 77 76,oX 78 (.len .slc (.t 77)),oB 79 .lss 75 78] (cD 79 .skip (.exit 2))) (.seq (.block 3 (.draw [oM 82 11,oD 83 1 8,oL 84 83,oD 85 4 7,oL 86 85,oM 87 12,oI 88 1 86 87,oL 89 88,oI 90 1 84 89,oL 91 90,oX 92 (.bsl true 1 1 [i0] [(0,(.t 91))])] [oX 93 (.append 1 8 (.t 82) (.t 92)),oM 11 93])) (.ops [oM 80 12,oV 81 .add 80 1,oM 12 81])))))) (sO [oM 94 11,oM 6 94,oX 6 (.frz (.t 6))] .ret)))))))))))⟩
theorem L90_ok : zAa Tryz.prog Tryz.f90 [⟨13,3,(.pre 6 (.frz (.t 6)))⟩,⟨18,10,.imm⟩,⟨19,2,(.pre 6 (.frz (.t 6)))⟩,⟨6,8,.tail⟩,⟨18,11,.tail⟩] = some L90 := by kernel_rfl
def L126 : zVS := ⟨10,[4],(.block 0 (sO [oX 6 (.nili false (.t 4))] (cD 6 (.ops [oM 1 4]) (sO [oX 7 (.asrt 185 (.agg []) (.t 4)),oE 8 7 1,oE 9 7 0] (cD 8 (sO [oX 2 (.alloc []),oS 0 2 9] (.ops [oN (.store 1 (.t 0) (kB false))])) (sO [oM 3 4] (.ops [oM 5 3,oN (.panicv (.t 5))])))))))⟩
theorem L126_ok : zJT Tryz.prog Tryz.f126 [] = some L126 := by kernel_rfl
def L127 : LFn := ⟨6,[],(sO [oM 2 0,oX 3 (.not (.t 2))] (cD 3 (sO [oX 4 (.build [] [])] (sO [] (.pan 5 185 (.t 4)))) .skip))⟩
theorem L127_ok : zAa Tryz.prog Tryz.f127 [⟨1,1,.cut⟩] = some L127 := by kernel_rfl
def L130 : LFn := ⟨9,[(.tmp 3)],(sO [oX 2 (.box false (.t 0)),oX 3 (.mv (kB false))] (sO [oD 4 0 2,oL 5 4,oD 6 0 1,oL 7 6,oX 8 (.bin .str .eql (.t 5) (.t 7)),oM 3 8] .ret))⟩
theorem L130_ok : zAa Tryz.prog Tryz.f130 [] = some L130 := by kernel_rfl
def L131 : LFn := ⟨282,[(.tmp 8)],(sO [oC 8 0] (.seq (sO [oM 21 3] (sO [oV 22 .leq 21 256] (sO [oM 23 22] (sO [oW 24 23 1] (sO [oF 25 23 (.len .slc (.t 24))] (sO [oF 26 23 (bI .eql (.t 25) (kI 0))] (sO [oP 27 23 (kB true) (.t 26)] (sO [] (.seq (.callp (some 28) (.c (.fn (.func 127) [] [])) [(.t 27)]) (.ops [])))))))))) (.seq (.drawA [oM 29 0,oK 30 29,oD 31 0 30,oD 32 0 31,oL 33 32,oM 34 0,oK 35 34,oD 36 1 35,oL 37 36,oI 38 6 33 37,oA 39 6 38,oN (.mv (.c .any)),oN (.mv (.c .any))] [(oX 9 (.alloc [s0,i0,i0,i0,zAg,zAg]),[1,2,3,4,6,7,8,9,10]),(oS 6 9 39,[])] []) (sO [oX 10 (.alloc [i0]),oN (.store 1 (.t 10) (kI 0))] (sO [oX 40 (.mkfn (.func 177) [] [(.t 10)]),oM 11 40] (sO [oX 41 (.mkfn (.func 178) [] [(.t 9)]),oM 12 41] (.seq (sO [oM 42 1,oX 43 (.len .slc (.t 42)),oC 44 0] (.block 0 (.loop (sO [oB 45 .lss 44 43] (.seq (cD 45 .skip (.exit 0)) (.seq (.block 1 (sO [oI 46 5 42 44,oA 47 5 46,oX 14 (.alloc [i0,i0,i0,zAg,zAg]),oS 5 14 47] (sO [oM 48 0,oK 49 48,oD 50 2 49,oL 51 50,oV 52 .add 51 1,oK 53 48,oD 54 2 53,oS 1 54 52] (.seq (sO [oM 55 0] (sO [oK 56 55] (sO [oD 57 2 56] (sO [oL 58 57] (sO [oV 59 .leq 58 32768] (sO [] (.seq (.callp (some 60) (.c (.fn (.func 127) [] [])) [(.t 59)]) (.ops [])))))))) (sO [oX 15 (.mv (kB false)),oX 16 (.mv (kB false)),oX 17 (.mv (kB false))] (.seq (sO [oD 61 0 14,oL 62 61] (.block 2 (sO [oV 75 .eql 62 0,oM 74 75] (cD 74 (sO [oX 15 (.mv (kB true))] (.seq (sO [oD 76 1 14] (sO [oL 77 76] (sO [oV 78 .geq 77 0] (sO [oM 79 78] (sO [oT 80 79 (.faddr 1 (.t 14))] (sO [oT 81 79 (.load false 1 (.t 80))] (sO [oT 82 79 (bI .leq (.t 81) (kI 999999999))] (sO [oP 83 79 (.t 82) (kB false)] (sO [] (.seq (.callp (some 84) (.c (.fn (.func 127) [] [])) [(.t 83)]) (.ops []))))))))))) (sO [oM 85 11] (sO [] (.seq (.callp (some 86) (.t 85) [(kI 0),(kI 1)]) (.ops [])))))) (sO [oV 88 .eql 62 1,oM 87 88] (cD 87 (sO [oX 15 (.mv (kB true))] (.seq (sO [oM 89 12] (sO [oD 90 1 14] (sO [oL 91 90] (sO [] (.seq (.callp (some 92) (.t 89) [(.t 91)]) (sO [] (.seq (.callp (some 93) (.c (.fn (.func 127) [] [])) [(.t 92)]) (.ops [])))))))) (sO [oM 94 11] (sO [] (.seq (.callp (some 95) (.t 94) [(kI 0),(kI 1)]) (.ops [])))))) (sO [oV 97 .eql 62 2,oM 96 97] (cD 96 (sO [oX 15 (.mv (kB true))] (.seq (sO [oM 98 12] (sO [oD 99 1 14] (sO [oL 100 99] (sO [] (.seq (.callp (some 101) (.t 98) [(.t 100)]) (sO [] (.seq (.callp (some 102) (.c (.fn (.func 127) [] [])) [(.t 101)]) (.ops [])))))))) (sO [oM 103 11] (sO [] (.seq (.callp (some 104) (.t 103) [(kI 1),(kI (-1))]) (.ops [])))))) (.seq (sO [oV 106 .eql 62 3,oM 105 106] (cD 105 .skip (.ops [oV 107 .eql 62 4,oM 105 107]))) (cD 105 (sO [oX 15 (.mv (kB true)),oX 16 (.mv (kB true))] (.seq (sO [oM 108 12] (sO [oD 109 1 14] (sO [oL 110 109] (sO [] (.seq (.callp (some 111) (.t 108) [(.t 110)]) (sO [oM 112 111] (sO [oT 113 112 (.faddr 2 (.t 14))] (sO [oT 114 112 (.load false 1 (.t 113))] (sO [oT 115 112 (bI .geq (.t 114) (kI 1))] (sO [oP 116 112 (.t 115) (kB false)] (sO [oM 117 116] (sO [oT 118 117 (.faddr 2 (.t 14))] (sO [oT 119 117 (.load false 1 (.t 118))] (sO [oT 120 117 (.faddr 2 (.t 9))] (sO [oT 121 117 (.load false 1 (.t 120))] (sO [oT 122 117 (bI .leq (.t 119) (.t 121))] (sO [oP 123 117 (.t 122) (kB false)] (sO [oM 124 123] (sO [oU 125 124 12] (sO [oT 126 124 (.faddr 1 (.t 14))] (sO [oT 127 124 (.load false 1 (.t 126))] (sO [oT 128 124 (.faddr 2 (.t 14))] (sO [oT 129 124 (.load false 1 (.t 128))] (sO [oT 130 124 (bI .add (.t 127) (.t 129))] (sO [oT 131 124 (bI .sub (.t 130) (kI 1))] (sO [] (.seq (.ti ⟨(some 132),(some (124,true)),(.call (.t 125) [(.t 131)])⟩) (sO [oP 133 124 (.t 132) (kB false)] (sO [] (.seq (.callp (some 134) (.c (.fn (.func 127) [] [])) [(.t 133)]) (.ops []))))))))))))))))))))))))))))))) (sO [oD 135 0 14,oL 136 135,oV 137 .eql 136 3] (cD 137 (sO [oM 138 11] (sO [] (.seq (.callp (some 139) (.t 138) [(kI 1),(kI 0)]) (.ops [])))) (sO [oM 140 11] (sO [] (.seq (.callp (some 141) (.t 140) [(kI 2),(kI (-2))]) (.ops [])))))))) (.seq (sO [oV 143 .eql 62 16,oM 142 143] (cD 142 .skip (.ops [oV 144 .eql 62 17,oM 142 144]))) (cD 142 (sO [oM 145 11] (sO [] (.seq (.callp (some 146) (.t 145) [(kI 1),(kI 0)]) (.ops [])))) (sO [oV 148 .eql 62 22,oM 147 148] (cD 147 (sO [oM 149 11] (sO [] (.seq (.callp (some 150) (.t 149) [(kI 1),(kI (-1))]) (.ops [])))) (sO [oV 152 .eql 62 18,oM 151 152] (cD 151 (sO [oX 17 (.mv (kB true))] (.seq (sO [oM 153 11] (sO [] (.seq (.callp (some 154) (.t 153) [(kI 1),(kI (-1))]) (.ops [])))) (sO [oM 155 2,oM 156 155,oT 157 156 (.load false 1 (.t 10)),oT 158 156 (bI .eql (.t 157) (kI 0)),oP 159 156 (.t 158) (kB false),oM 18 159] (.seq (sO [oM 160 0] (sO [oD 161 3 14] (sO [oL 162 161] (sO [oM 163 18] (sO [oM 164 3] (sO [oV 165 .add 164 1] (sO [] (.seq (.callp (some 166) (.c (.fn (.func 131) [] [])) [(.t 160),(.t 162),(.t 163),(.t 165)]) (sO [oM 19 166] (.ops [])))))))))) (.seq (sO [oM 167 0] (sO [oD 168 4 14] (sO [oL 169 168] (sO [oM 170 18] (sO [oM 171 3] (sO [oV 172 .add 171 1] (sO [] (.seq (.callp (some 173) (.c (.fn (.func 131) [] [])) [(.t 167),(.t 169),(.t 170),(.t 172)]) (sO [oM 174 19] (sO [oB 175 .eql 173 174] (sO [] (.seq (.callp (some 176) (.c (.fn (.func 127) [] [])) [(.t 175)]) (.ops []))))))))))))) (sO [oM 177 11] (sO [oM 178 19] (sO [] (.seq (.callp (some 179) (.t 177) [(kI 0),(.t 178)]) (.ops [])))))))))) (sO [oV 181 .eql 62 19,oM 180 181] (cD 180 (sO [oX 17 (.mv (kB true))] (sO [oL 182 10] (sO [oV 183 .eql 182 0] (sO [oM 184 183] (sO [oU 185 184 2] (sO [oP 186 184 (.t 185) (kB false)] (sO [oM 187 186] (sO [oU 188 187 0] (sO [oT 189 187 (.faddr 3 (.t 14))] (sO [oT 190 187 (.load false 1 (.t 189))] (sO [oU 191 187 3] (sO [oT 192 187 (bI .add (.t 191) (kI 1))] (sO [] (.seq (.ti ⟨(some 193),(some (187,true)),(cF 131 [(.t 188),(.t 190),(kB true),(.t 192)])⟩) (sO [oT 194 187 (bI .eql (.t 193) (kI 0))] (sO [oP 195 187 (.t 194) (kB false)] (sO [oM 196 195] (sO [oU 197 196 0] (sO [oT 198 196 (.faddr 4 (.t 14))] (sO [oT 199 196 (.load false 1 (.t 198))] (sO [oU 200 196 3] (sO [oT 201 196 (bI .add (.t 200) (kI 1))] (sO [] (.seq (.ti ⟨(some 202),(some (196,true)),(cF 131 [(.t 197),(.t 199),(kB false),(.t 201)])⟩) (sO [oT 203 196 (bI .eql (.t 202) (kI 1))] (sO [oP 204 196 (.t 203) (kB false)] (sO [] (.seq (.callp (some 205) (.c (.fn (.func 127) [] [])) [(.t 204)]) (.ops []))))))))))))))))))))))))))))) (sO [oV 207 .eql 62 20,oM 206 207] (cD 206 (sO [oX 15 (.mv (kB true))] (.seq (.drawX [oD 208 1 14,oL 209 208,oV 210 .geq 209 0,oM 211 210,oT 212 211 (.faddr 1 (.t 14)),oT 213 211 (.load false 1 (.t 212)),oU 214 211 0,oT 215 211 (.nilchk (.t 214)),oT 216 211 (.faddr 1 (.t 215)),oT 217 211 (.load false 1 (.t 216)),oT 218 211 (bI .lss (.t 213) (.t 217)),oP 219 211 (.t 218) (kB false),oN (.mv (.c .any))] [(oX 220 (y1 127 219),(true,[]))] []) (.seq (.drawA [oM 221 0,oK 222 221,oD 223 0 222,oD 224 0 223,oL 225 224,oD 226 1 14,oL 227 226,oI 228 6 225 227,oA 229 6 228,oN (.mv (.c .any)),oN (.mv (.c .any))] [(oX 20 (.alloc [s0,i0,i0,i0,zAg,zAg]),[1,2,3,4,5,6,7,8]),(oS 6 20 229,[])] []) (.drawX [oM 230 11,oD 231 1 20,oL 232 231,oA 233 6 20,oN (.mv (.c .any)),oD 235 1 20,oL 236 235,oN (.mv (.c .any)),oN (.mv (.c .any))] [(oX 234 (y1 179 233),(false,[1,2,5,6])),(oB 237 .sub 234 236,(false,[1,2])),(oX 238 (.call (.t 230) [(.t 232),(.t 237)]),(true,[]))] [])))) (sO [oV 240 .eql 62 21,oM 239 240] (cD 239 (.seq (sO [oM 241 2] (sO [oM 242 241] (sO [oT 243 242 (.load false 1 (.t 10))] (sO [oT 244 242 (.faddr 3 (.t 9))] (sO [oT 245 242 (.load false 1 (.t 244))] (sO [oT 246 242 (.max2 (.t 245) (kI 0))] (sO [oT 247 242 (bI .eql (.t 243) (.t 246))] (sO [oP 248 242 (.t 247) (kB false)] (sO [] (.seq (.callp (some 249) (.c (.fn (.func 127) [] [])) [(.t 248)]) (.ops []))))))))))) (.ops [oN (.store 1 (.t 10) (kI 0))])) (.seq (sO [oD 63 0 14] (sO [oL 64 63] (sO [oV 65 .geq 64 5] (sO [oM 66 65] (sO [oT 67 66 (.faddr 0 (.t 14))] (sO [oT 68 66 (.load false 1 (.t 67))] (sO [oT 69 66 (bI .leq (.t 68) (kI 15))] (sO [oP 70 66 (.t 69) (kB false)] (sO [] (.seq (.callp (some 71) (.c (.fn (.func 127) [] [])) [(.t 70)]) (.ops []))))))))))) (sO [oM 72 11] (sO [] (.seq (.callp (some 73) (.t 72) [(kI 2),(kI (-1))]) (.ops []))))))))))))))))))))))))))) (sO [oM 250 15] (sO [oM 251 250] (sO [oF 252 251 (.faddr 1 (.t 14))] (sO [oF 253 251 (.load false 1 (.t 252))] (sO [oF 254 251 (bI .eql (.t 253) (kI 0))] (sO [oP 255 251 (kB true) (.t 254)] (sO [oM 256 255] (sO [oU 257 256 16] (sO [oU 258 256 257] (sO [oF 259 258 (.faddr 2 (.t 14))] (sO [oF 260 258 (.load false 1 (.t 259))] (sO [oF 261 258 (bI .eql (.t 260) (kI 0))] (sO [oT 262 256 (.pick (.t 258) (kB true) (.t 261))] (sO [oP 263 256 (.t 262) (kB false)] (sO [oM 264 263] (sO [oU 265 264 17] (sO [oU 266 264 265] (sO [oF 267 266 (.faddr 3 (.t 14))] (sO [oF 268 266 (.load false 1 (.t 267))] (sO [oF 269 266 (.len .slc (.t 268))] (sO [oF 270 266 (bI .eql (.t 269) (kI 0))] (sO [oW 271 266 270] (sO [oT 272 271 (.faddr 4 (.t 14))] (sO [oT 273 271 (.load false 1 (.t 272))] (sO [oT 274 271 (.len .slc (.t 273))] (sO [oT 275 271 (bI .eql (.t 274) (kI 0))] (sO [oF 276 266 (.pick (.t 271) (.t 275) (kB false))] (sO [oT 277 264 (.pick (.t 266) (kB true) (.t 276))] (sO [oP 278 264 (.t 277) (kB false)] (sO [] (.seq (.callp (some 279) (.c (.fn (.func 127) [] [])) [(.t 278)]) (.ops [])))))))))))))))))))))))))))))))))))))) (.ops [oV 280 .add 44 1,oM 44 280]))))))) (sO [oL 281 10,oM 8 281] .ret))))))))⟩
theorem L131_ok : zAa Tryz.prog Tryz.f131 [⟨1,7,.cut⟩,⟨10,5,.cut⟩,⟨17,8,.cut⟩,⟨18,1,.cut⟩,⟨21,3,.cut⟩,⟨21,4,.cut⟩,⟨22,1,.cut⟩,⟨25,3,.cut⟩,⟨25,4,.cut⟩,⟨26,1,.cut⟩,⟨30,3,.cut⟩,⟨30,24,.cut⟩,⟨30,26,.cut⟩,⟨32,1,.cut⟩,⟨33,1,.cut⟩,⟨36,1,.cut⟩,⟨38,1,.cut⟩,⟨41,1,.cut⟩,⟨43,6,.cut⟩,⟨44,6,.cut⟩,⟨44,9,.cut⟩,⟨45,2,.cut⟩,⟨48,11,.cut⟩,⟨48,20,.cut⟩,⟨48,23,.cut⟩,⟨51,12,.cut⟩,⟨53,8,.cut⟩,⟨55,8,.cut⟩,⟨13,8,.cut⟩,⟨14,1,.cut⟩,⟨57,29,.cut⟩,⟨2,0,(.drw [11,12])⟩,⟨51,0,(.drw [12])⟩,⟨52,0,(.drw [9,10])⟩,⟨53,0,(.drw [4,7,8])⟩] = some L131 := by kernel_rfl
def L132 : LFn := ⟨69,[(.tmp 6)],(sO [oC 6 0] (sO [oC 7 0] (.seq (sO [oM 11 0,oX 12 (.len .slc (.t 11)),oC 13 0] (.block 0 (.loop (sO [oB 14 .lss 13 12] (.seq (cD 14 .skip (.exit 0)) (.seq (.block 1 (sO [oI 15 5 11 13,oA 16 5 15,oX 9 (.alloc [i0,i0,i0,zAg,zAg]),oS 5 9 16] (sO [oC 10 1] (.seq (sO [oD 17 0 9,oL 18 17] (.block 2 (sO [oV 20 .eql 18 18,oM 19 20] (cD 19 (.drawA [oM 21 10,oD 22 3 9,oL 23 22,oM 24 1,oM 25 2,oN (.mv (.c .any)),oD 27 4 9,oL 28 27,oM 29 1,oM 30 2,oN (.mv (.c .any)),oN (.mv (.c .any)),oN (.mv (.c .any)),oN (.mv (.c .any))] [(oX 26 (y3 132 23 24 25),[6,7]),(oX 31 (y3 132 28 29 30),[]),(oX 32 (.max2 (.t 26) (.t 31)),[]),(oB 33 .add 21 32,[]),(oM 10 33,[])] []) (sO [oV 35 .eql 18 19,oM 34 35] (cD 34 (.drawA [oM 36 10,oM 37 1,oV 38 .add 37 1,oD 39 4 9,oL 40 39,oM 41 1,oM 42 2,oX 43 (.callh (.c (.fn (.func 132) [] [])) [(.t 40),(.t 41),(.t 42)]),oB 44 .mul 38 43,oM 45 1,oD 46 3 9,oL 47 46,oM 48 1,oM 49 2,oX 50 (.callh (.c (.fn (.func 132) [] [])) [(.t 47),(.t 48),(.t 49)]),oB 51 .mul 45 50,oB 52 .add 44 51,oB 53 .add 36 52,oM 10 53] [] []) (sO [oV 55 .eql 18 20,oM 54 55] (cD 54 (.ops [oM 56 10,oM 57 2,oD 58 1 9,oL 59 58,oI 60 1 57 59,oL 61 60,oB 62 .add 56 61,oM 10 62]) .skip)))))))) (.ops [oM 63 7,oM 64 10,oB 65 .add 63 64,oX 66 (.min2 (.t 65) (kI 67108865)),oM 7 66]))))) (.ops [oV 67 .add 13 1,oM 13 67]))))))) (sO [oM 68 7,oM 6 68] .ret))))⟩
theorem L132_ok : zAa Tryz.prog Tryz.f132 [⟨10,7,.imm⟩,⟨10,14,.imm⟩,⟨8,0,(.drw [5,10,11,12,13])⟩,⟨10,0,(.drw [])⟩] = some L132 := by kernel_rfl
def L133 : LFn := ⟨20,[(.tmp 6)],(sO [oX 6 (.mv (kB false))] (.seq (sO [oM 9 2,oX 10 (.len .slc (.t 9)),oC 11 0] (.block 0 (.loop (sO [oB 12 .lss 11 10] (.seq (cD 12 .skip (.exit 0)) (.seq (.block 1 (sO [oI 13 8 9 11,oA 14 8 13,oX 8 (.alloc [i0,i0,i0,zAg,zAg,i0,zAg,zAg]),oS 8 8 14] (.seq (sO [oM 15 0] (sO [oM 16 1] (sO [oA 17 8 8] (sO [] (.seq (.callp (some 18) (.c (.fn (.func 180) [] [])) [(.t 15),(.t 16),(.t 17)]) (.ops [])))))) (cD 18 (sO [oX 6 (.mv (kB true))] .ret) .skip)))) (.ops [oV 19 .add 11 1,oM 11 19]))))))) (sO [oX 6 (.mv (kB false))] .ret)))⟩
theorem L133_ok : zAa Tryz.prog Tryz.f133 [⟨4,3,.cut⟩] = some L133 := by kernel_rfl
def L135 : LFn := ⟨45,[(.tmp 8)],(sO [oX 8 (.mv (kB false))] (.seq (sO [oC 9 0] (.block 0 (.loop (.seq (sO [oM 10 9,oM 11 2,oX 12 (.len .slc (.t 11)),oB 13 .lss 10 12] (cD 13 .skip (.exit 0))) (.seq (.block 1 (.seq (sO [oM 16 0,oM 17 1,oM 18 2,oM 19 9,oI 20 5 18 19,oA 21 5 20,oM 22 3,oX 23 (y4 185 16 17 21 22)] (cD 23 (sO [oX 8 (.mv (kB true))] .ret) .skip)) (.seq (sO [oM 24 0,oK 25 24,oD 26 3 25,oL 27 26,oV 28 .neq 27 0] (cD 28 (sO [oX 8 (.mv (kB false))] .ret) .skip)) (.draw [oM 29 3,oV 30 .add 29 1,oM 31 2,oM 32 9,oI 33 5 31 32,oD 34 3 33,oL 35 34,oX 36 (y1 37 35),oB 37 .add 30 36,oM 38 2,oM 39 9,oI 40 5 38 39,oD 41 4 40,oL 42 41,oX 43 (y1 37 42),oB 44 .add 37 43,oM 3 44] [])))) (.ops [oM 14 9,oV 15 .add 14 1,oM 9 15])))))) (sO [oX 8 (.mv (kB false))] .ret)))⟩
theorem L135_ok : zAa Tryz.prog Tryz.f135 [] = some L135 := by kernel_rfl
def L136 : LFn := ⟨20,[],(.ops [oM 8 0,oM 9 0,oM 10 0,oM 11 1,oM 12 2,oM 13 3,oK 14 8,oD 15 3 14,oS 1 15 11,oK 16 9,oD 17 4 16,oS 1 17 12,oK 18 10,oD 19 5 18,oS 1 19 13])⟩
theorem L136_ok : zAa Tryz.prog Tryz.f136 [] = some L136 := by kernel_rfl
def L177 : LFn := ⟨15,[],(.seq (sO [oL 5 2] (sO [oM 6 0] (sO [oB 7 .geq 5 6] (sO [] (.seq (.callp (some 8) (.c (.fn (.func 127) [] [])) [(.t 7)]) (.ops [])))))) (sO [oL 9 2,oM 10 1,oB 11 .add 9 10,oS 1 2 11] (sO [oL 12 2] (sO [oV 13 .leq 12 1024] (sO [] (.seq (.callp (some 14) (.c (.fn (.func 127) [] [])) [(.t 13)]) (.ops [])))))))⟩
theorem L177_ok : zAa Tryz.prog Tryz.f177 [⟨0,3,.cut⟩,⟨2,2,.cut⟩] = some L177 := by kernel_rfl
def L178 : LFn := ⟨12,[(.tmp 3)],(sO [oX 3 (.mv (kB false))] (sO [oM 4 0,oV 5 .geq 4 0,oM 6 5,oU 7 6 0,oT 8 6 (.faddr 2 (.t 1)),oT 9 6 (.load false 1 (.t 8)),oT 10 6 (bI .lss (.t 7) (.t 9)),oP 11 6 (.t 10) (kB false),oM 3 11] .ret))⟩
theorem L178_ok : zAa Tryz.prog Tryz.f178 [] = some L178 := by kernel_rfl
def L179 : LFn := ⟨11,[(.tmp 2)],(sO [oX 1 (.box false (.t 0)),oC 2 0] (.seq (sO [oD 3 3 1,oL 4 3,oV 5 .geq 4 0] (cD 5 (sO [oD 6 3 1,oL 7 6,oM 2 7] .ret) .skip)) (sO [oD 8 4 1,oL 9 8,oX 10 (.len .slc (.t 9)),oM 2 10] .ret)))⟩
theorem L179_ok : zAa Tryz.prog Tryz.f179 [] = some L179 := by kernel_rfl
def L180 : LFn := ⟨219,[(.tmp 6)],(sO [oX 4 (.box false (.t 1)),oX 5 (.box false (.t 2)),oX 6 (.mv (kB false))] (sO [oM 16 0,oK 17 16,oD 18 6 17,oL 19 18,oV 20 .add 19 1,oK 21 16,oD 22 6 21,oS 1 22 20] (sO [oX 23 (.mkfn (.func 223) [] [(.t 4),(.t 5)]),oX 7 (.alloc [(.v .nilFunc)]),oS 1 7 23] (sO [oX 24 (.mkfn (.func 224) [] [(.t 5),(.t 7)]),oM 8 24] (.seq (sO [oD 25 0 5,oD 26 0 25,oL 27 26] (.block 0 (sO [oV 58 .eql 27 0,oM 57 58] (cD 57 (.drawA [oL 59 4,oM 60 0,oK 61 60,oD 62 1 61,oD 63 0 62,oL 64 63,oD 65 0 5,oD 66 1 65,oL 67 66,oN (.mv (.c .any)),oN (.mv (.c .any)),oN (.mv (.c .any))] [(oX 68 (y2 48 64 67),[0]),(oX 69 (.bsl true 1 1 [i0] [(0,(.t 68))]),[0]),(oX 70 (y2 225 59 69),[])] []) (sO [oV 72 .eql 27 1,oM 71 72] (cD 71 (.drawA [oL 73 4,oL 74 4,oK 75 74,oD 76 1 75,oL 77 76,oD 78 0 5,oD 79 1 78,oL 80 79,oI 81 1 77 80,oL 82 81,oX 83 (.bsl true 1 1 [i0] [(0,(.t 82))]),oN (.mv (.c .any))] [(oX 84 (y2 225 73 83),[])] []) (sO [oV 86 .eql 27 2,oM 85 86] (cD 85 (.drawA [oL 87 4,oK 88 87,oD 89 1 88,oL 90 89,oD 91 0 5,oD 92 1 91,oL 93 92,oL 94 4,oN (.mv (.c .any)),oI 96 1 90 93,oN (.mv (.c .any))] [(oX 95 (y1 226 94),[0,1,2,3,4,5,6,9]),(oS 1 96 95,[])] []) (sO [oV 98 .eql 27 3,oM 97 98] (cD 97 (.drawX [oL 99 4,oL 100 4,oK 101 100,oD 102 1 101,oL 103 102,oM 104 8,oL 105 4,oN (.mv (.c .any)),oN (.mv (.c .any)),oN (.mv (.c .any)),oN (.mv (.c .any)),oN (.mv (.c .any)),oN (.mv (.c .any))] [(oX 106 (y1 226 105),(false,[0,1,2,3,4])),(oX 107 (.call (.t 104) [(.t 106)]),(true,[0,1,2,3,4])),(oI 108 1 103 107,(false,[0])),(oL 109 108,(false,[0])),(oX 110 (.bsl true 1 1 [i0] [(0,(.t 109))]),(false,[0])),(oX 111 (y2 225 99 110),(false,[]))] []) (sO [oV 113 .eql 27 4,oM 112 113] (cD 112 (sO [oL 114 4,oX 115 (y1 226 114),oM 9 115] (.drawX [oL 116 4,oK 117 116,oD 118 1 117,oL 119 118,oM 120 8,oL 121 4,oN (.mv (.c .any)),oN (.mv (.c .any)),oM 124 9,oN (.mv (.c .any)),oN (.mv (.c .any))] [(oX 122 (y1 226 121),(false,[0,1,2,3])),(oX 123 (.call (.t 120) [(.t 122)]),(true,[0,1,2,3])),(oI 125 1 119 123,(false,[])),(oS 1 125 124,(false,[]))] [])) (sO [oV 127 .eql 27 18,oM 126 127] (cD 126 (.seq (sO [oL 128 4,oX 129 (y1 226 128),oV 130 .neq 129 0] (cD 130 (.seq (sO [oM 131 0] (sO [oL 132 4] (sO [oD 133 6 5] (sO [oL 134 133] (sO [] (.seq (.callp (some 135) (.c (.fn (.func 133) [] [])) [(.t 131),(.t 132),(.t 134)]) (sO [oM 6 135] (.ops [])))))))) .ret) .skip)) (.seq (sO [oM 136 0] (sO [oL 137 4] (sO [oD 138 7 5] (sO [oL 139 138] (sO [] (.seq (.callp (some 140) (.c (.fn (.func 133) [] [])) [(.t 136),(.t 137),(.t 139)]) (sO [oM 6 140] (.ops [])))))))) .ret)) (sO [oV 142 .eql 27 19,oM 141 142] (cD 141 (sO [oC 10 0] (.block 1 (.loop (.seq (.block 2 (.seq (sO [oM 145 0] (sO [oL 146 4] (sO [oD 147 7 5] (sO [oL 148 147] (sO [] (.seq (.callp (some 149) (.c (.fn (.func 133) [] [])) [(.t 145),(.t 146),(.t 148)]) (.ops []))))))) (.seq (sO [oL 150 4,oX 151 (y1 226 150),oV 152 .eql 151 0] (cD 152 (sO [oX 6 (.mv (kB false))] .ret) .skip)) (.seq (sO [oM 153 10,oM 154 0,oK 155 154,oD 156 1 155,oD 157 1 156,oL 158 157,oB 159 .eql 153 158] (cD 159 (sO [oL 160 7] (sO [] (.seq (.callp (some 161) (.t 160) [(kI 5)]) (.ops [])))) .skip)) (.seq (sO [oM 162 0] (sO [oL 163 4] (sO [oD 164 6 5] (sO [oL 165 164] (sO [] (.seq (.callp (some 166) (.c (.fn (.func 133) [] [])) [(.t 162),(.t 163),(.t 165)]) (.ops []))))))) (cD 166 (sO [oX 6 (.mv (kB true))] .ret) .skip)))))) (.ops [oM 143 10,oV 144 .add 143 1,oM 10 144]))))) (sO [oV 168 .eql 27 20,oM 167 168] (cD 167 (.seq (.draw [oL 169 4,oK 170 169,oD 171 2 170,oL 172 171,oX 173 (.len .slc (.t 172)),oM 174 0,oK 175 174,oD 176 0 175,oD 177 0 176,oL 178 177,oD 179 0 5,oD 180 1 179,oL 181 180,oI 182 6 178 181,oD 183 1 182,oL 184 183,oB 185 .sub 173 184,oM 11 185] []) (sO [oL 186 4,oK 187 186,oD 188 2 187,oL 189 188,oM 190 11,oX 191 (.slice .slc 1 (.t 189) (some (.t 190)) none),oX 192 (y1 31 191),oM 12 192] (.seq (.draw [oL 193 4,oL 194 4,oK 195 194,oD 196 2 195,oL 197 196,oM 198 11,oX 199 (.slice .slc 1 (.t 197) none (some (.t 198))),oK 200 193,oD 201 2 200] [oS 1 201 199]) (.drawX [oL 202 4,oM 203 0,oD 204 0 5,oD 205 1 204,oL 206 205,oM 207 12,oN (.mv (.c .any)),oN (.mv (.c .any))] [(oX 208 (y3 74 203 206 207),(true,[0])),(oX 209 (y2 225 202 208),(false,[]))] [])))) (sO [oV 211 .eql 27 21,oM 210 211] (cD 210 (sO [oX 6 (.mv (kB true))] .ret) (sO [oV 213 .eql 27 22,oM 212 213] (cD 212 (sO [oL 214 4,oX 215 (y1 226 214),oV 216 .eql 215 0] (cD 216 (sO [oL 217 7] (sO [] (.seq (.callp (some 218) (.t 217) [(kI 3)]) (.ops [])))) .skip)) (.seq (.draw [oM 29 0,oK 30 29,oD 31 5 30,oL 32 31,oD 33 0 5,oD 34 0 33,oL 35 34,oX 36 (.look .int (.v .nilFunc) false (.t 32) (.t 35)),oL 37 4,oK 38 37,oD 39 2 38,oL 40 39,oX 41 (.callh (.t 36) [(.t 40)]),oM 28 41,oE 42 28 0,oE 43 28 1,oE 44 28 2,oM 13 42,oM 14 43,oM 15 44] []) (.seq (sO [oM 45 15,oV 46 .neq 45 0] (cD 46 (sO [oL 47 7] (sO [oM 48 15] (sO [] (.seq (.callp (some 49) (.t 47) [(.t 48)]) (.ops []))))) .skip)) (.drawA [oL 50 4,oM 51 13,oM 52 14,oX 53 (.bsl true 1 1 [i0] [(0,(.t 52))]),oN (.mv (.c .any)),oK 55 50,oD 56 2 55,oN (.mv (.c .any))] [(oX 54 (.append 1 8 (.t 51) (.t 53)),[0,5,6]),(oS 1 56 54,[])] []))))))))))))))))))))))))) (sO [oX 6 (.mv (kB false))] .ret))))))⟩
theorem L180_ok : zAa Tryz.prog Tryz.f180 [⟨5,12,.imm⟩,⟨10,10,.imm⟩,⟨12,10,.imm⟩,⟨16,11,.imm⟩,⟨8,3,.imm⟩,⟨16,8,.cut⟩,⟨19,7,.cut⟩,⟨22,4,.cut⟩,⟨23,4,.cut⟩,⟨27,4,.cut⟩,⟨31,1,.cut⟩,⟨32,4,.cut⟩,⟨38,6,.cut⟩,⟨43,1,.cut⟩,⟨5,12,.cut⟩,⟨7,2,.cut⟩,⟨10,0,(.drw [9,10,11])⟩,⟨12,0,(.drw [11])⟩,⟨14,0,(.drw [8,10])⟩,⟨16,0,(.drw [7,8,9,10,11,12])⟩,⟨19,0,(.drw [6,7,9,10])⟩,⟨37,9,.tail⟩,⟨38,0,(.drw [6,7])⟩,⟨8,0,(.drw [4,7])⟩] = some L180 := by kernel_rfl
def L185 : LFn := ⟨306,[(.tmp 8)],(sO [oX 6 (.box false (.t 2)),oX 8 (.mv (kB false))] (sO [oM 18 0,oM 19 0,oK 20 19,oD 21 6 20,oL 22 21,oV 23 .add 22 1,oK 24 18,oD 25 6 24,oS 1 25 23] (sO [oM 26 3,oV 27 .add 26 1,oD 28 3 6,oL 29 28,oX 30 (y1 37 29),oB 31 .add 27 30,oM 9 31] (.seq (.block 0 (sO [oD 33 0 6,oL 34 33,oV 35 .eql 34 0,oM 32 35] (cD 32 (.drawA [oM 36 1,oM 37 0,oK 38 37,oD 39 1 38,oD 40 0 39,oL 41 40,oD 42 1 6,oL 43 42,oN (.mv (.c .any)),oN (.mv (.c .any))] [(oX 44 (y2 33 41 43),[]),(oX 45 (y2 229 36 44),[])] []) (sO [oD 47 0 6,oL 48 47,oV 49 .eql 48 1,oM 46 49] (cD 46 (.drawA [oM 50 1,oM 51 1,oK 52 51,oD 53 1 52,oL 54 53,oD 55 1 6,oL 56 55,oI 57 1 54 56,oL 58 57,oN (.mv (.c .any))] [(oX 59 (y2 229 50 58),[])] []) (sO [oD 61 0 6,oL 62 61,oV 63 .eql 62 2,oM 60 63] (cD 60 (.drawA [oM 64 1,oK 65 64,oD 66 1 65,oL 67 66,oD 68 1 6,oL 69 68,oM 70 1,oN (.mv (.c .any)),oI 72 1 67 69,oN (.mv (.c .any))] [(oX 71 (y1 230 70),[1,2,3,4,5,8]),(oS 1 72 71,[])] []) (sO [oD 74 0 6,oL 75 74,oV 76 .eql 75 3,oM 73 76] (cD 73 (sO [oM 77 1,oX 78 (y1 230 77),oM 10 78] (.seq (sO [oM 79 10,oV 80 .lss 79 0,oM 81 80,oW 82 81 10,oF 83 81 (.faddr 2 (.t 6)),oF 84 81 (.load false 1 (.t 83)),oF 85 81 (bI .geq (.t 82) (.t 84)),oP 86 81 (kB true) (.t 85)] (cD 86 (sO [oM 87 0,oM 88 1,oK 89 88,oD 90 0 89,oL 91 90,oM 92 3,oX 93 (cF 136 [(.t 87),(kI 2),(.t 91),(.t 92)])] (sO [oX 8 (.mv (kB false))] .ret)) .skip)) (.drawA [oM 94 1,oM 95 1,oK 96 95,oD 97 1 96,oL 98 97,oD 99 1 6,oL 100 99,oM 101 10,oB 102 .add 100 101,oI 103 1 98 102,oL 104 103,oN (.mv (.c .any))] [(oX 105 (y2 229 94 104),[])] []))) (sO [oD 107 0 6,oL 108 107,oV 109 .eql 108 4,oM 106 109] (cD 106 (sO [oM 110 1,oX 111 (y1 230 110),oM 11 111] (sO [oM 112 1,oX 113 (y1 230 112),oM 12 113] (.seq (sO [oM 114 12,oV 115 .lss 114 0,oM 116 115,oW 117 116 12,oF 118 116 (.faddr 2 (.t 6)),oF 119 116 (.load false 1 (.t 118)),oF 120 116 (bI .geq (.t 117) (.t 119)),oP 121 116 (kB true) (.t 120)] (cD 121 (sO [oM 122 0,oM 123 1,oK 124 123,oD 125 0 124,oL 126 125,oM 127 3,oX 128 (cF 136 [(.t 122),(kI 2),(.t 126),(.t 127)])] (sO [oX 8 (.mv (kB false))] .ret)) .skip)) (.draw [oM 129 1,oK 130 129,oD 131 1 130,oL 132 131,oD 133 1 6,oL 134 133,oM 135 12,oB 136 .add 134 135,oM 137 11,oI 138 1 132 136] [oS 1 138 137])))) (sO [oD 140 0 6,oL 141 140,oV 142 .geq 141 5,oM 143 142,oT 144 143 (.faddr 0 (.t 6)),oT 145 143 (.load false 1 (.t 144)),oT 146 143 (bI .leq (.t 145) (kI 17)),oP 147 143 (.t 146) (kB false),oM 139 147] (cD 139 (.seq (.seq (.drawX [oM 149 0,oK 150 149,oD 151 1 150,oD 152 0 151,oL 153 152,oD 154 0 6,oL 155 154,oM 156 1,oK 157 156,oD 158 2 157,oL 159 158,oN (.mv (.c .any))] [(oX 160 (y3 34 153 155 159),(false,[]))] []) (.ops [oM 148 160,oE 161 148 0,oE 162 148 1,oM 13 161,oM 14 162])) (sO [oM 163 1,oM 164 13,oK 165 163,oD 166 2 165,oS 1 166 164] (sO [oM 167 14,oV 168 .neq 167 0] (cD 168 (.ops [oM 169 0,oM 170 14,oM 171 1,oK 172 171,oD 173 0 172,oL 174 173,oM 175 3,oX 176 (y4 136 169 170 174 175)]) .skip)))) (sO [oD 178 0 6,oL 179 178,oV 180 .eql 179 18,oM 177 180] (cD 177 (.seq (sO [oM 181 1,oX 182 (y1 230 181),oV 183 .neq 182 0] (cD 183 (sO [oM 184 0,oM 185 1,oD 186 3 6,oL 187 186,oM 188 3,oV 189 .add 188 1,oX 190 (y4 135 184 185 187 189),oM 8 190] .ret) .skip)) (sO [oM 191 0,oM 192 1,oD 193 4 6,oL 194 193,oM 195 9,oX 196 (y4 135 191 192 194 195),oM 8 196] .ret)) (sO [oD 198 0 6,oL 199 198,oV 200 .eql 199 19,oM 197 200] (cD 197 (sO [oC 15 0] (.block 1 (.loop (.seq (.block 2 (sO [oM 203 0,oM 204 1,oD 205 4 6,oL 206 205,oM 207 9,oX 208 (y4 135 203 204 206 207)] (.seq (sO [oM 209 0,oK 210 209,oD 211 3 210,oL 212 211,oV 213 .neq 212 0,oM 214 213,oW 215 214 1,oF 216 214 (y1 230 215),oF 217 214 (bI .eql (.t 216) (kI 0)),oP 218 214 (kB true) (.t 217)] (cD 218 (sO [oX 8 (.mv (kB false))] .ret) .skip)) (.seq (sO [oM 219 15,oM 220 0,oK 221 220,oD 222 1 221,oD 223 1 222,oL 224 223,oB 225 .eql 219 224] (cD 225 (sO [oM 226 0,oM 227 1,oK 228 227,oD 229 0 228,oL 230 229,oM 231 3,oX 232 (cF 136 [(.t 226),(kI 5),(.t 230),(.t 231)])] (sO [oX 8 (.mv (kB false))] .ret)) .skip)) (.seq (sO [oM 233 0,oM 234 1,oD 235 3 6,oL 236 235,oM 237 3,oV 238 .add 237 1,oX 239 (y4 135 233 234 236 238)] (cD 239 (sO [oX 8 (.mv (kB true))] .ret) .skip)) (sO [oM 240 0,oK 241 240,oD 242 3 241,oL 243 242,oV 244 .neq 243 0] (cD 244 (sO [oX 8 (.mv (kB false))] .ret) .skip))))))) (.ops [oM 201 15,oV 202 .add 201 1,oM 15 202]))))) (sO [oD 246 0 6,oL 247 246,oV 248 .eql 247 20,oM 245 248] (cD 245 (.seq (.draw [oM 249 1,oK 250 249,oD 251 2 250,oL 252 251,oX 253 (.len .slc (.t 252)),oM 254 0,oK 255 254,oD 256 0 255,oD 257 0 256,oL 258 257,oD 259 1 6,oL 260 259,oI 261 6 258 260,oD 262 1 261,oL 263 262,oB 264 .sub 253 263,oM 16 264] []) (sO [oX 265 (.bsl false 1 0 [i0] []),oM 266 1,oK 267 266,oD 268 2 267,oL 269 268,oM 270 16,oX 271 (.slice .slc 1 (.t 269) (some (.t 270)) none),oX 272 (.append 1 8 (.t 265) (.t 271)),oM 17 272] (.drawA [oM 273 1,oM 274 1,oK 275 274,oD 276 2 275,oL 277 276,oM 278 16,oX 279 (.slice .slc 1 (.t 277) none (some (.t 278))),oM 280 0,oD 281 1 6,oL 282 281,oM 283 17,oN (.mv (.c .any)),oN (.mv (.c .any)),oK 286 273,oD 287 2 286,oN (.mv (.c .any))] [(oX 284 (y3 90 280 282 283),[2,3,4,6,13,14]),(oX 285 (.append 1 8 (.t 279) (.t 284)),[13,14]),(oS 1 287 285,[])] []))) (sO [oD 289 0 6,oL 290 289,oV 291 .eql 290 21,oM 288 291] (cD 288 (sO [oX 8 (.mv (kB true))] .ret) (sO [oD 293 0 6,oL 294 293,oV 295 .eql 294 22,oM 292 295] (cD 292 (sO [oM 296 1,oX 297 (y1 230 296),oV 298 .eql 297 0] (cD 298 (.ops [oM 299 0,oM 300 1,oK 301 300,oD 302 0 301,oL 303 302,oM 304 3,oX 305 (cF 136 [(.t 299),(kI 3),(.t 303),(.t 304)])]) .skip)) .skip))))))))))))))))))))))) (sO [oX 8 (.mv (kB false))] .ret)))))⟩
theorem L185_ok : zAa Tryz.prog Tryz.f185 [⟨23,12,.late⟩,⟨23,0,(.drw [11])⟩,⟨4,0,(.drw [8,9])⟩,⟨6,0,(.drw [9])⟩,⟨8,0,(.drw [7,9])⟩,⟨14,0,(.drw [11])⟩,⟨21,10,.tail⟩,⟨47,0,(.drw [11,12,15])⟩] = some L185 := by kernel_rfl
def L223 : LFn := ⟨13,[],(.drawX [oM 4 0,oL 5 1,oK 6 5,oD 7 0 6,oL 8 7,oD 9 5 2,oL 10 9,oX 11 (.build [i0,i0,i0] [(0,(1,(.t 4))),(1,(1,(.t 8))),(2,(1,(.t 10)))]),oX 12 (.mkif 121 (.t 11)),oN (.mv (.c .any))] [(oN (.panicv (.t 12)),(true,[]))] [])⟩
theorem L223_ok : zAa Tryz.prog Tryz.f223 [⟨0,9,.cut⟩,⟨0,0,(.drw [9])⟩] = some L223 := by kernel_rfl
def L224 : LFn := ⟨21,[(.tmp 4)],(sO [oC 4 0] (.seq (sO [oM 5 0,oV 6 .lss 5 0,oM 7 6,oW 8 7 0,oF 9 7 (.faddr 0 (.t 1)),oF 10 7 (.faddr 2 (.t 9)),oF 11 7 (.load false 1 (.t 10)),oF 12 7 (bI .geq (.t 8) (.t 11)),oP 13 7 (kB true) (.t 12)] (cD 13 (sO [oL 14 2] (sO [] (.seq (.callp (some 15) (.t 14) [(kI 2)]) (.ops [])))) .skip)) (sO [oD 16 0 1,oD 17 1 16,oL 18 17,oM 19 0,oB 20 .add 18 19,oM 4 20] .ret)))⟩
theorem L224_ok : zAa Tryz.prog Tryz.f224 [⟨2,1,.cut⟩] = some L224 := by kernel_rfl
def L225 : LFn := ⟨13,[],(.ops [oM 4 0,oM 5 0,oK 6 5,oD 7 2 6,oL 8 7,oM 9 1,oX 10 (.append 1 8 (.t 8) (.t 9)),oK 11 4,oD 12 2 11,oS 1 12 10])⟩
theorem L225_ok : zAa Tryz.prog Tryz.f225 [] = some L225 := by kernel_rfl
def L226 : LFn := ⟨28,[(.tmp 2)],(sO [oC 2 0] (sO [oM 5 0,oK 6 5,oD 7 2 6,oL 8 7,oX 9 (.len .slc (.t 8)),oV 10 .sub 9 1,oM 3 10] (sO [oM 11 0,oK 12 11,oD 13 2 12,oL 14 13,oM 15 3,oI 16 1 14 15,oL 17 16,oM 4 17] (sO [oM 18 0,oM 19 0,oK 20 19,oD 21 2 20,oL 22 21,oM 23 3,oX 24 (.slice .slc 1 (.t 22) none (some (.t 23))),oK 25 18,oD 26 2 25,oS 1 26 24] (sO [oM 27 4,oM 2 27] .ret)))))⟩
theorem L226_ok : zAa Tryz.prog Tryz.f226 [] = some L226 := by kernel_rfl
def L229 : LFn := ⟨14,[],(.ops [oM 4 0,oM 5 0,oK 6 5,oD 7 2 6,oL 8 7,oM 9 1,oX 10 (.bsl true 1 1 [i0] [(0,(.t 9))]),oX 11 (.append 1 8 (.t 8) (.t 10)),oK 12 4,oD 13 2 12,oS 1 13 11])⟩
theorem L229_ok : zAa Tryz.prog Tryz.f229 [⟨0,6,.imm⟩] = some L229 := by kernel_rfl
def L230 : LFn := ⟨28,[(.tmp 2)],(sO [oC 2 0] (sO [oM 5 0,oK 6 5,oD 7 2 6,oL 8 7,oX 9 (.len .slc (.t 8)),oV 10 .sub 9 1,oM 3 10] (sO [oM 11 0,oK 12 11,oD 13 2 12,oL 14 13,oM 15 3,oI 16 1 14 15,oL 17 16,oM 4 17] (sO [oM 18 0,oM 19 0,oK 20 19,oD 21 2 20,oL 22 21,oM 23 3,oX 24 (.slice .slc 1 (.t 22) none (some (.t 23))),oK 25 18,oD 26 2 25,oS 1 26 24] (sO [oM 27 4,oM 2 27] .ret)))))⟩
theorem L230_ok : zAa Tryz.prog Tryz.f230 [] = some L230 := by kernel_rfl
set_option linter.unusedVariables false
theorem zRn (x : Ins) : (zAp x).length = 5 := by rw [zDv]; rfl
theorem zOm (x : Ins) : (zAp x).take 5 = zAp x := by rw [zDv]; rfl
theorem zP (q : Pr) : (prR q).length = 6 := rfl
theorem zBK (q : Pr) : (prR q).take 6 = prR q := rfl
theorem zDf (q : Pr) : c1s (prR q) = true := rfl
theorem zY (cs : List AV) : cellsOf (.agg cs) = cs := rfl
theorem zFr (l : List Ins) : zM l ≤ 1048576 → ∀ H, zAe 37 [.sl 5 (l.map zAp)] H (int (zM l : Nat)) := by
 induction l using Ins.indL with
 | h l ih =>
 intro hs H
 refine enter Tryz.func37 L37_ok (zXs rfl) ?_
 have hln := zR l
 repeat' (simp -implicitDefEqProofs (disch := omega) only [L37, push_cast, Nat.reduceAdd])
 refine zAh (fun (j : Nat) e' H' => e' 0 = .sl 5 (l.map zAp) ∧ e' 3 = int (zM (l.take j) : Nat) ∧ e' 4 = int j ∧ H' = H ∧ j ≤ l.length) (fun j => l.length - j) 0 ?_ ?_
 ·exact ⟨rfl, rfl, rfl, rfl, zXJ _⟩
 rintro j e' H' ⟨h0, h3, h4, rfl, hj⟩
 by_cases hlt : j < l.length
 ·have hk := zAq hlt
  have hb := zAl l (j + 1)
  rw [zAf hlt, zCj] at hb
  have hx := ih _ hk
  repeat' (first | refine zXx (by omega) ?_ | refine zN (hx.1 (by omega) _) rfl ?_ | refine zN (hx.2 (by omega) _) rfl ?_ | simp -implicitDefEqProofs (disch := omega) only [h0, h3, h4, zQ, zDv, zXr, zO, push_cast, simprocAttr, ↓reduceIte])
  exact .mk (j + 1) ⟨h0, zDS rfl (by rw [zAf hlt, zCj]; omega), rfl, rfl, hlt⟩ (by omega)
 ·have e : j = l.length := by omega
  subst e
  rw [zZb] at h3
  repeat' (simp -implicitDefEqProofs (disch := omega) only [h0, h3, h4, zXr, zT, push_cast, simprocAttr, ↓reduceIte])
theorem levR (l : List Ins) : zM l ≤ 1048576 → ∀ H, zAe 38 [.sl 5 (l.map zAp)] H (int (zAy l : Nat)) := by
 induction l using Ins.indL with
 | h l ih =>
 intro hs H
 refine enter Tryz.func38 L38_ok (zXs rfl) ?_
 have hln := zR l
 repeat' (simp -implicitDefEqProofs (disch := omega) only [L38, push_cast, Nat.reduceAdd])
 refine zAh (fun (j : Nat) e' H' => e' 0 = .sl 5 (l.map zAp) ∧ e' 3 = int (zAy (l.take j) : Nat) ∧ e' 4 = int j ∧ H' = H ∧ j ≤ l.length) (fun j => l.length - j) 0 ?_ ?_
 ·exact ⟨rfl, rfl, rfl, rfl, zXJ _⟩
 rintro j e' H' ⟨h0, h3, h4, rfl, hj⟩
 by_cases hlt : j < l.length
 ·have hk := zAq hlt
  have hb := zAl l (j + 1)
  have hb2 := zAk (l.take j)
  have hb3 := zAk (l.getD j default).body
  have hb4 := zAk (l.getD j default).els
  rw [zAf hlt, zCj] at hb
  have hx := ih _ hk
  repeat' (first | refine zXx (by omega) ?_ | refine zN (hx.1 (by omega) _) rfl ?_ | refine zN (hx.2 (by omega) _) rfl ?_ | simp -implicitDefEqProofs (disch := omega) only [h0, h3, h4, zQ, zDv, zXr, zO, push_cast, simprocAttr, ↓reduceIte] | split)
  all_goals exact .mk (j + 1) ⟨h0, zDS rfl (by rw [zAN hlt, zMx]; omega), rfl, rfl, hlt⟩ (by omega)
 ·have e : j = l.length := by omega
  subst e
  rw [zZb] at h3
  repeat' (simp -implicitDefEqProofs (disch := omega) only [h0, h3, h4, zXr, zT, push_cast, simprocAttr, ↓reduceIte])
theorem zN7 (q : Pr) (hs : q.outs.length ≤ 1048576) (H : zC) : zAe 68 [.agg (prR q)] H (int (zCw q)) := by
 refine ACall.drop (R := fun x => x = int (zCw q)) ?_
 refine enter Tryz.func68 L68_ok (zXs rfl) ?_
 unfold zCw
 by_cases h : 0 ≤ q.res
 ·rw [if_pos h]
  repeat' (simp -implicitDefEqProofs (disch := omega) only [L68, zY, prR, h, push_cast, simprocAttr, ↓reduceIte, zXq])
  exact ⟨_, rfl⟩
 ·rw [if_neg h]
  repeat' (simp -implicitDefEqProofs (disch := omega) only [L68, zY, prR, h, zXr, push_cast, simprocAttr, ↓reduceIte, zXq])
  exact ⟨_, rfl⟩
theorem zAC (l m : List Ins) : (l.isEmpty && m.isEmpty) = decide (l.length = 0 ∧ m.length = 0) := by
 rw [zY0]
 simp [zZQ, zXK]
theorem zOq (o a b : Int) (l m : List Ins) (slots : Int) (h1 : l.length ≤ 1048576) (h2 : m.length ≤ 1048576) (hs : -1048576 ≤ slots ∧ slots ≤ 1048576) (H : zC) : zAe 67 [.agg [int o, int a, int b, .sl 5 (l.map zAp), .sl 5 (m.map zAp)], int slots] H (bool (decide (zW slots o a b (l.isEmpty && m.isEmpty)))) := by
 refine ACall.drop (R := fun y => y = bool (decide (zW slots o a b (l.isEmpty && m.isEmpty)))) ?_
 refine enter Tryz.func67 L67_ok (zXs rfl) ?_
 rw [zAC]
 have hcase : (o < 0) ∨ (22 < o) ∨ (o = 0) ∨ (o = 1) ∨ (o = 2) ∨ (o = 3) ∨ (o = 4) ∨ o = 20 ∨ o = 18 ∨ o = 19 ∨ (5 ≤ o ∧ o ≤ 22 ∧ ¬ o = 18 ∧ ¬ o = 19 ∧ ¬ o = 20) := by omega
 by_cases he : o = 18 ∨ o = 19 ∨ (l.length = 0 ∧ m.length = 0)
 ·rcases hcase with hc | hc | hc | hc | hc | hc | hc | hc | hc | hc | hc
  ·repeat' (simp -implicitDefEqProofs (disch := omega) only [L67, zY, zO, push_cast, simprocAttr, ↓reduceIte, zXq])
   all_goals (refine ⟨zAX ?_, _, rfl⟩; simp only [zXB, zXH, zYZ, true_iff, zYi, zXQ, zY8, iff_true] at *; simp only [zW, zXB]; omega)
  ·repeat' (simp -implicitDefEqProofs (disch := omega) only [L67, zY, zO, zT, push_cast, simprocAttr, ↓reduceIte, zXq])
   all_goals (refine ⟨zAX ?_, _, rfl⟩; simp only [zXB, zXH, zYZ, true_iff, zYi, zXQ, zY8, iff_true] at *; simp only [zW, zXB]; omega)
  ·repeat' (first | simp -implicitDefEqProofs (disch := omega) only [L67, zY, zXr, zT, zAd, zAn, zAi, zX, push_cast, simprocAttr, ↓reduceIte, zXq] | split)
   all_goals (refine ⟨zAX ?_, _, rfl⟩; simp only [zXB, zXH, zYZ, true_iff, zYi, zXQ, zY8, iff_true] at *; simp only [zW, zXB]; omega)
  ·repeat' (first | simp -implicitDefEqProofs (disch := omega) only [L67, zY, zXr, zO, zT, zAd, zAn, zAi, zX, push_cast, simprocAttr, ↓reduceIte, zXq] | split)
   all_goals (refine ⟨zAX ?_, _, rfl⟩; simp only [zXB, zXH, zYZ, true_iff, zYi, zXQ, zY8, iff_true] at *; simp only [zW, zXB]; omega)
  ·repeat' (first | simp -implicitDefEqProofs (disch := omega) only [L67, zY, zXr, zO, zT, zAd, zAn, zAi, zX, push_cast, simprocAttr, ↓reduceIte, zXq] | split)
   all_goals (refine ⟨zAX ?_, _, rfl⟩; simp only [zXB, zXH, zYZ, true_iff, zYi, zXQ, zY8, iff_true] at *; simp only [zW, zXB]; omega)
  ·repeat' (first | simp -implicitDefEqProofs (disch := omega) only [L67, zY, zXr, zO, zT, zAd, zAn, zAi, zX, push_cast, simprocAttr, ↓reduceIte, zXq] | split)
   all_goals (refine ⟨zAX ?_, _, rfl⟩; simp only [zXB, zXH, zYZ, true_iff, zYi, zXQ, zY8, iff_true] at *; simp only [zW, zXB]; omega)
  ·repeat' (first | simp -implicitDefEqProofs (disch := omega) only [L67, zY, zXr, zO, zT, zAd, zAn, zAi, zX, push_cast, simprocAttr, ↓reduceIte, zXq] | split)
   all_goals (refine ⟨zAX ?_, _, rfl⟩; simp only [zXB, zXH, zYZ, true_iff, zYi, zXQ, zY8, iff_true] at *; simp only [zW, zXB]; omega)
  ·repeat' (simp -implicitDefEqProofs (disch := omega) only [L67, zY, zXr, zT, zAi, zX, push_cast, simprocAttr, ↓reduceIte, zXq])
   all_goals (refine ⟨zAX ?_, _, rfl⟩; simp only [zXB, zXH, zYZ, true_iff, zYi, zXQ, zY8, iff_true] at *; simp only [zW, zXB]; omega)
  ·repeat' (first | simp -implicitDefEqProofs (disch := omega) only [L67, zY, zT, zAi, zX, push_cast, simprocAttr, ↓reduceIte, zXq] | split)
   all_goals (refine ⟨zAX ?_, _, rfl⟩; simp only [zXB, zXH, zYZ, true_iff, zYi, zXQ, zY8, iff_true] at *; simp only [zW, zXB]; omega)
  ·repeat' (first | simp -implicitDefEqProofs (disch := omega) only [L67, zY, zT, zAi, zX, push_cast, simprocAttr, ↓reduceIte, zXq] | split)
   all_goals (refine ⟨zAX ?_, _, rfl⟩; simp only [zXB, zXH, zYZ, true_iff, zYi, zXQ, zY8, iff_true] at *; simp only [zW, zXB]; omega)
  ·repeat' (first | simp -implicitDefEqProofs (disch := omega) only [L67, zY, zXr, zT, zAi, zX, push_cast, simprocAttr, ↓reduceIte, zXq] | split)
   all_goals (refine ⟨zAX ?_, _, rfl⟩; simp only [zXB, zXH, zYZ, true_iff, zYi, zXQ, zY8, iff_true] at *; simp only [zW, zXB]; omega)
 ·have h2' : (o < 0) ∨ (22 < o) ∨ (0 ≤ o ∧ o ≤ 22 ∧ ¬ o = 18 ∧ ¬ o = 19) := by omega
  clear hcase
  rcases h2' with hc | hc | hc
  ·repeat' (simp -implicitDefEqProofs (disch := omega) only [L67, zY, zO, push_cast, simprocAttr, ↓reduceIte, zXq])
   all_goals (refine ⟨zAX ?_, _, rfl⟩; simp only [zXB, zXH, zYZ, true_iff, zYi, zXQ, zY8, iff_true] at *; simp only [zW, zXB]; omega)
  ·repeat' (simp -implicitDefEqProofs (disch := omega) only [L67, zY, zO, zT, push_cast, simprocAttr, ↓reduceIte, zXq])
   all_goals (refine ⟨zAX ?_, _, rfl⟩; simp only [zXB, zXH, zYZ, true_iff, zYi, zXQ, zY8, iff_true] at *; simp only [zW, zXB]; omega)
  ·by_cases hl : 0 < l.length
   ·repeat' (simp -implicitDefEqProofs (disch := omega) only [L67, zY, zXr, zO, zT, zX, push_cast, simprocAttr, ↓reduceIte, zXq])
    all_goals (refine ⟨zAX ?_, _, rfl⟩; simp only [zXB, zXH, zYZ, true_iff, zYi, zXQ, zY8, iff_true] at *; simp only [zW, zXB]; omega)
   ·repeat' (simp -implicitDefEqProofs (disch := omega) only [L67, zY, zXr, zO, zT, zX, push_cast, simprocAttr, ↓reduceIte, zXq])
    all_goals (refine ⟨zAX ?_, _, rfl⟩; simp only [zXB, zXH, zYZ, true_iff, zYi, zXQ, zY8, iff_true] at *; simp only [zW, zXB]; omega)
theorem zF {α : Type} (H l : List α) : (H ++ l)[H.length]? = l[0]? := by rw [zXz (zXL _), zZl]
def zFb : Option Int → Int
 | some h => h
 | none => -1
theorem zAD {ps : List Pr} {j : Nat} (h : j < ps.length) : (ps.map prR).getD j [] = prR (ps.getD j default) := zQ h
theorem zDj {h n c : Int} (h1 : n ≤ h) (h2 : h + c ≤ 1024) : chg h n c = some (h + c) := if_pos ⟨h1, h2⟩
theorem zEU {h n c : Int} (h1 : ¬ (n ≤ h ∧ h + c ≤ 1024)) : chg h n c = none := if_neg h1
set_option maxHeartbeats 8000000 in
theorem effR (ps : List Pr) (k : Nat) (hk : k < ps.length) (hps : ps.length ≤ 1048576) (hp : zBZ ps k) (hh : zCk (ps.getD k default)) (l : List Ins) : zM l ≤ 1048576 → ∀ (out : Bool) (H : zC), zAe 39 [.agg [zAM ps], int k, .sl 5 (l.map zAp), bool out] H (int (zFb (zBl ps k l out 0))) := by
 induction l using Ins.indL with
 | h l ih =>
 intro hs out H
 refine ACall.drop (R := fun x => x = int (zFb (zBl ps k l out 0))) ?_
 refine enter Tryz.func39 L39_ok (zXs rfl) ?_
 have hln := zR l
 repeat' (first | refine zXx (by omega) ?_ | simp -implicitDefEqProofs (disch := omega) only [L39, zY, zAD, zP, zBK, zDf, zXr, push_cast, simprocAttr, ↓reduceIte, zXq])
 refine zAh (fun (st : Nat × Int × zC) e' H' => e' 1 = int k ∧ e' 2 = .sl 5 (l.map zAp) ∧ e' 3 = bool out ∧ e' 4 = .ptr H.length 0 0 ∧ e' 9 = .ptr (H.length + 1) 0 0 ∧ e' 10 = int st.2.1 ∧ e' 11 = int st.1 ∧ H' = H ++ st.2.2 ∧ 2 ≤ st.2.2.length ∧
  st.2.2[0]? = some (.box [zAM ps]) ∧ st.2.2[1]? = some (.box (prR (ps.getD k default))) ∧ st.1 ≤ l.length ∧ 0 ≤ st.2.1 ∧ st.2.1 ≤ 1024 ∧ zBl ps k l out 0 = zBl ps k (l.drop st.1) out st.2.1) (fun st => l.length - st.1) (0, 0, [HO.box [zAM ps], HO.box (prR (ps.getD k default))]) ?_ ?_
 ·exact ⟨rfl, rfl, rfl, rfl, rfl, rfl, rfl, rfl, by simp, rfl, rfl, zXJ _, by simp, by simp, by simp⟩
 rintro ⟨j, h, ext⟩ e' H' ⟨h1, h2, h3, h4, h9, h10, h11, rfl, hel, g4, g9, hj, hh0, hh1, heff⟩
 simp only at h10 h11 hel g4 g9 hj hh0 hh1 heff
 by_cases hlt : j < l.length
 ·have hk0 := zAq hlt
  have hb := zAl l (j + 1)
  rw [zAf hlt, zCj] at hb
  have hx := ih _ hk0
  rw [zAR ps k hlt] at heff
  have hrow : (l.map zAp).getD j [] = zAp (l.getD j default) := zQ hlt
  generalize l.getD j default = x at *
  obtain ⟨o, a, b, bd, el⟩ := x
  have hr2 : zAp (.mk o a b bd el) = [int o, int a, int b, .sl 5 (bd.map zAp), .sl 5 (el.map zAp)] := by simp [zAp, zAI]
  rw [hr2] at hrow
  simp only [zB1] at heff
  have hbd : zM bd ≤ 1048576 := by simp only [Ins.body, Ins.els] at hb; omega
  have hed : zM el ≤ 1048576 := by simp only [Ins.body, Ins.els] at hb; omega
  have hx1 := fun out H => hx.1 hbd out H
  have hx2 := fun out H => hx.2 hed out H
  simp only [Ins.body, Ins.els] at hx1 hx2
  have hbl := zR bd
  have hell := zR el
  clear hx ih hb
  obtain ⟨q1, q2, q3, q4, q5, q6, q7, q8⟩ := hh
  have hfR := fun H => zOq o a b bd el (ps.getD k default).slots (by omega) (by omega) (by omega) H
  have hsl : (prR (ps.getD k default)).drop 2 = [int (ps.getD k default).slots, int (ps.getD k default).res, .sl 1 ((ps.getD k default).outs.map iR), .sl 5 ((ps.getD k default).body.map zAp)] := rfl
  have hsl3 : (prR (ps.getD k default)).drop 3 = [int (ps.getD k default).res, .sl 1 ((ps.getD k default).outs.map iR), .sl 5 ((ps.getD k default).body.map zAp)] := rfl
  by_cases hf : zW (ps.getD k default).slots o a b (bd.isEmpty && el.isEmpty)
  ·rw [if_pos hf] at heff
   have hd : decide (zW (ps.getD k default).slots o a b (bd.isEmpty && el.isEmpty)) = true := zXU hf
   obtain ⟨f1, f2, _⟩ := hf
   have hcase : (o = 0) ∨ (o = 1) ∨ (o = 2) ∨ (o = 22) ∨ (o = 3) ∨ (o = 16) ∨ (o = 17) ∨ (o = 4) ∨ (5 ≤ o ∧ o ≤ 15) ∨ o = 18 ∨ o = 19 ∨ o = 20 ∨ o = 21 := by omega
   rcases hcase with hc | hc | hc | hc | hc | hc | hc | hc | hc | hc | hc | hc | hc
   ·have he : zCo ps k o a out h = chg h 0 1 := by
     unfold zCo
     repeat (first | rw [if_pos (by omega)] | rw [if_neg (by omega)])
    rw [if_neg (by omega), if_neg (by omega), he] at heff
    by_cases hcc : 0 ≤ h ∧ h + 1 ≤ 1024
    ·rw [zDj hcc.1 hcc.2] at heff
     repeat' (first | refine zXx (by omega) ?_ | refine zA (hfR _) ?_ | simp -implicitDefEqProofs (disch := omega) only [h2, h9, h10, h11, g9, zB, zF, hrow, hsl, zY, zXr, zP, hd, zO, zT, zAi, push_cast, simprocAttr, ↓reduceIte, zXq])
     exact .mk (j + 1, h + 1, _) ⟨h1, h2, h3, h4, h9, zDS rfl (by dsimp only <;> omega), rfl, rfl, by simp; omega, by rw [zB (by omega)]; exact g4, by rw [zB (by omega)]; exact g9, hlt, by simp only; omega, by simp only; omega, heff⟩ (by simp only; omega)
    ·rw [zEU hcc] at heff
     repeat' (first | refine zXx (by omega) ?_ | refine zA (hfR _) ?_ | simp -implicitDefEqProofs (disch := omega) only [h2, h9, h10, h11, g9, zB, zF, hrow, hsl, zY, zXr, zP, hd, zO, zT, zAi, push_cast, simprocAttr, ↓reduceIte, zXq])
     all_goals first | exact ⟨by rw [heff]; rfl, _, rfl⟩ | (exfalso; omega)
   ·have he : zCo ps k o a out h = chg h 0 1 := by
     unfold zCo
     repeat (first | rw [if_pos (by omega)] | rw [if_neg (by omega)])
    rw [if_neg (by omega), if_neg (by omega), he] at heff
    by_cases hcc : 0 ≤ h ∧ h + 1 ≤ 1024
    ·rw [zDj hcc.1 hcc.2] at heff
     repeat' (first | refine zXx (by omega) ?_ | refine zA (hfR _) ?_ | simp -implicitDefEqProofs (disch := omega) only [h2, h9, h10, h11, g9, zB, zF, hrow, hsl, zY, zXr, zP, hd, zO, zT, zAi, zX, push_cast, simprocAttr, ↓reduceIte, zXq])
     exact .mk (j + 1, h + 1, _) ⟨h1, h2, h3, h4, h9, zDS rfl (by dsimp only <;> omega), rfl, rfl, by simp; omega, by rw [zB (by omega)]; exact g4, by rw [zB (by omega)]; exact g9, hlt, by simp only; omega, by simp only; omega, heff⟩ (by simp only; omega)
    ·rw [zEU hcc] at heff
     repeat' (first | refine zXx (by omega) ?_ | refine zA (hfR _) ?_ | simp -implicitDefEqProofs (disch := omega) only [h2, h9, h10, h11, g9, zB, zF, hrow, hsl, zY, zXr, zP, hd, zO, zT, zAi, zX, push_cast, simprocAttr, ↓reduceIte, zXq])
     all_goals first | exact ⟨by rw [heff]; rfl, _, rfl⟩ | (exfalso; omega)
   ·have he : zCo ps k o a out h = chg h 1 (-1) := by
     unfold zCo
     repeat (first | rw [if_pos (by omega)] | rw [if_neg (by omega)])
    rw [if_neg (by omega), if_neg (by omega), he] at heff
    by_cases hcc : 1 ≤ h ∧ h + (-1) ≤ 1024
    ·rw [zDj hcc.1 hcc.2] at heff
     repeat' (first | refine zXx (by omega) ?_ | refine zA (hfR _) ?_ | simp -implicitDefEqProofs (disch := omega) only [h2, h9, h10, h11, g9, zB, zF, hrow, hsl, zY, zXr, zP, hd, zO, zT, zAi, zX, push_cast, simprocAttr, ↓reduceIte, zXq])
     exact .mk (j + 1, h + (-1), _) ⟨h1, h2, h3, h4, h9, zDS rfl (by dsimp only <;> omega), rfl, rfl, by simp; omega, by rw [zB (by omega)]; exact g4, by rw [zB (by omega)]; exact g9, hlt, by simp only; omega, by simp only; omega, heff⟩ (by simp only; omega)
    ·rw [zEU hcc] at heff
     repeat' (first | refine zXx (by omega) ?_ | refine zA (hfR _) ?_ | simp -implicitDefEqProofs (disch := omega) only [h2, h9, h10, h11, g9, zB, zF, hrow, hsl, zY, zXr, zP, hd, zO, zAi, zX, push_cast, simprocAttr, ↓reduceIte, zXq])
     all_goals first | exact ⟨by rw [heff]; rfl, _, rfl⟩ | (exfalso; omega)
   ·have he : zCo ps k o a out h = chg h 1 (-1) := by
     unfold zCo
     repeat (first | rw [if_pos (by omega)] | rw [if_neg (by omega)])
    rw [if_neg (by omega), if_neg (by omega), he] at heff
    by_cases hcc : 1 ≤ h ∧ h + (-1) ≤ 1024
    ·rw [zDj hcc.1 hcc.2] at heff
     repeat' (first | refine zXx (by omega) ?_ | refine zA (hfR _) ?_ | simp -implicitDefEqProofs (disch := omega) only [h2, h9, h10, h11, g9, zB, zF, hrow, hsl, zY, zXr, zP, hd, zO, zT, zAi, zX, push_cast, simprocAttr, ↓reduceIte, zXq])
     exact .mk (j + 1, h + (-1), _) ⟨h1, h2, h3, h4, h9, zDS rfl (by dsimp only <;> omega), rfl, rfl, by simp; omega, by rw [zB (by omega)]; exact g4, by rw [zB (by omega)]; exact g9, hlt, by simp only; omega, by simp only; omega, heff⟩ (by simp only; omega)
    ·rw [zEU hcc] at heff
     repeat' (first | refine zXx (by omega) ?_ | refine zA (hfR _) ?_ | simp -implicitDefEqProofs (disch := omega) only [h2, h9, h10, h11, g9, zB, zF, hrow, hsl, zY, zXr, zP, hd, zO, zAi, zX, push_cast, simprocAttr, ↓reduceIte, zXq])
     all_goals first | exact ⟨by rw [heff]; rfl, _, rfl⟩ | (exfalso; omega)
   ·have he : zCo ps k o a out h = chg h 1 0 := by
     unfold zCo
     repeat (first | rw [if_pos (by omega)] | rw [if_neg (by omega)])
    rw [if_neg (by omega), if_neg (by omega), he] at heff
    by_cases hcc : 1 ≤ h ∧ h + 0 ≤ 1024
    ·rw [zDj hcc.1 hcc.2] at heff
     repeat' (first | refine zXx (by omega) ?_ | refine zA (hfR _) ?_ | simp -implicitDefEqProofs (disch := omega) only [h2, h9, h10, h11, g9, zB, zF, hrow, hsl, zY, zXr, zP, hd, zO, zT, zAi, zX, push_cast, simprocAttr, ↓reduceIte, zXq])
     exact .mk (j + 1, h + 0, _) ⟨h1, h2, h3, h4, h9, zDS rfl (by dsimp only <;> omega), rfl, rfl, by simp; omega, by rw [zB (by omega)]; exact g4, by rw [zB (by omega)]; exact g9, hlt, by simp only; omega, by simp only; omega, heff⟩ (by simp only; omega)
    ·rw [zEU hcc] at heff
     repeat' (first | refine zXx (by omega) ?_ | refine zA (hfR _) ?_ | simp -implicitDefEqProofs (disch := omega) only [h2, h9, h10, h11, g9, zB, zF, hrow, hsl, zY, zXr, zP, hd, zO, zAi, zX, push_cast, simprocAttr, ↓reduceIte, zXq])
     all_goals first | exact ⟨by rw [heff]; rfl, _, rfl⟩ | (exfalso; omega)
   ·have he : zCo ps k o a out h = chg h 1 0 := by
     unfold zCo
     repeat (first | rw [if_pos (by omega)] | rw [if_neg (by omega)])
    rw [if_neg (by omega), if_neg (by omega), he] at heff
    by_cases hcc : 1 ≤ h ∧ h + 0 ≤ 1024
    ·rw [zDj hcc.1 hcc.2] at heff
     repeat' (first | refine zXx (by omega) ?_ | refine zA (hfR _) ?_ | simp -implicitDefEqProofs (disch := omega) only [h2, h9, h10, h11, g9, zB, zF, hrow, hsl, zY, zXr, zP, hd, zO, zT, zAi, zX, push_cast, simprocAttr, ↓reduceIte, zXq])
     exact .mk (j + 1, h + 0, _) ⟨h1, h2, h3, h4, h9, zDS rfl (by dsimp only <;> omega), rfl, rfl, by simp; omega, by rw [zB (by omega)]; exact g4, by rw [zB (by omega)]; exact g9, hlt, by simp only; omega, by simp only; omega, heff⟩ (by simp only; omega)
    ·rw [zEU hcc] at heff
     repeat' (first | refine zXx (by omega) ?_ | refine zA (hfR _) ?_ | simp -implicitDefEqProofs (disch := omega) only [h2, h9, h10, h11, g9, zB, zF, hrow, hsl, zY, zXr, zP, hd, zO, zAi, zX, push_cast, simprocAttr, ↓reduceIte, zXq])
     all_goals first | exact ⟨by rw [heff]; rfl, _, rfl⟩ | (exfalso; omega)
   ·have he : zCo ps k o a out h = chg h 1 0 := by
     unfold zCo
     repeat (first | rw [if_pos (by omega)] | rw [if_neg (by omega)])
    rw [if_neg (by omega), if_neg (by omega), he] at heff
    by_cases hcc : 1 ≤ h ∧ h + 0 ≤ 1024
    ·rw [zDj hcc.1 hcc.2] at heff
     repeat' (first | refine zXx (by omega) ?_ | refine zA (hfR _) ?_ | simp -implicitDefEqProofs (disch := omega) only [h2, h9, h10, h11, g9, zB, zF, hrow, hsl, zY, zXr, zP, hd, zO, zT, zAi, zX, push_cast, simprocAttr, ↓reduceIte, zXq])
     exact .mk (j + 1, h + 0, _) ⟨h1, h2, h3, h4, h9, zDS rfl (by dsimp only <;> omega), rfl, rfl, by simp; omega, by rw [zB (by omega)]; exact g4, by rw [zB (by omega)]; exact g9, hlt, by simp only; omega, by simp only; omega, heff⟩ (by simp only; omega)
    ·rw [zEU hcc] at heff
     repeat' (first | refine zXx (by omega) ?_ | refine zA (hfR _) ?_ | simp -implicitDefEqProofs (disch := omega) only [h2, h9, h10, h11, g9, zB, zF, hrow, hsl, zY, zXr, zP, hd, zO, zAi, zX, push_cast, simprocAttr, ↓reduceIte, zXq])
     all_goals first | exact ⟨by rw [heff]; rfl, _, rfl⟩ | (exfalso; omega)
   ·have he : zCo ps k o a out h = chg h 2 (-2) := by
     unfold zCo
     repeat (first | rw [if_pos (by omega)] | rw [if_neg (by omega)])
    rw [if_neg (by omega), if_neg (by omega), he] at heff
    by_cases hcc : 2 ≤ h ∧ h + (-2) ≤ 1024
    ·rw [zDj hcc.1 hcc.2] at heff
     repeat' (first | refine zXx (by omega) ?_ | refine zA (hfR _) ?_ | simp -implicitDefEqProofs (disch := omega) only [h2, h9, h10, h11, g9, zB, zF, hrow, hsl, zY, zXr, zP, hd, zO, zT, zAi, zX, push_cast, simprocAttr, ↓reduceIte, zXq])
     exact .mk (j + 1, h + (-2), _) ⟨h1, h2, h3, h4, h9, zDS rfl (by dsimp only <;> omega), rfl, rfl, by simp; omega, by rw [zB (by omega)]; exact g4, by rw [zB (by omega)]; exact g9, hlt, by simp only; omega, by simp only; omega, heff⟩ (by simp only; omega)
    ·rw [zEU hcc] at heff
     repeat' (first | refine zXx (by omega) ?_ | refine zA (hfR _) ?_ | simp -implicitDefEqProofs (disch := omega) only [h2, h9, h10, h11, g9, zB, zF, hrow, hsl, zY, zXr, zP, hd, zO, zAi, zX, push_cast, simprocAttr, ↓reduceIte, zXq])
     all_goals first | exact ⟨by rw [heff]; rfl, _, rfl⟩ | (exfalso; omega)
   ·have he : zCo ps k o a out h = chg h 2 (-1) := by
     unfold zCo
     repeat (first | rw [if_pos (by omega)] | rw [if_neg (by omega)])
    rw [if_neg (by omega), if_neg (by omega), he] at heff
    by_cases hcc : 2 ≤ h ∧ h + (-1) ≤ 1024
    ·rw [zDj hcc.1 hcc.2] at heff
     repeat' (first | refine zXx (by omega) ?_ | refine zA (hfR _) ?_ | simp -implicitDefEqProofs (disch := omega) only [h2, h9, h10, h11, g9, zB, zF, hrow, hsl, zY, zXr, zP, hd, zO, zT, zAd, zX, push_cast, simprocAttr, ↓reduceIte, zXq])
     exact .mk (j + 1, h + (-1), _) ⟨h1, h2, h3, h4, h9, zDS rfl (by dsimp only <;> omega), rfl, rfl, by simp; omega, by rw [zB (by omega)]; exact g4, by rw [zB (by omega)]; exact g9, hlt, by simp only; omega, by simp only; omega, heff⟩ (by simp only; omega)
    ·rw [zEU hcc] at heff
     repeat' (first | refine zXx (by omega) ?_ | refine zA (hfR _) ?_ | simp -implicitDefEqProofs (disch := omega) only [h2, h9, h10, h11, g9, zB, zF, hrow, hsl, zY, zXr, zP, hd, zO, zAd, zX, push_cast, simprocAttr, ↓reduceIte, zXq])
     all_goals first | exact ⟨by rw [heff]; rfl, _, rfl⟩ | (exfalso; omega)
   ·cases out with
    | false =>
     subst hc
     rw [if_pos rfl] at heff
     by_cases hh : 1 ≤ h
     ·rw [if_pos hh] at heff
      simp only [zZX] at heff
      have c1 := hx1 false
      have c2 := hx2 false
      cases e1 : zBl ps k bd false 0 with
      | none =>
       rw [e1] at heff c1
       simp only [zFb] at c1
       generalize zFb (zBl ps k el false 0) = y at c2
       repeat' (first | refine zXx (by omega) ?_ | refine zA (hfR _) ?_ | refine zN (c1 _) rfl ?_ | refine zN (c2 _) rfl ?_ | simp -implicitDefEqProofs (disch := omega) only [h1, h2, h3, h4, h9, h10, h11, g4, g9, zB, zF, hrow, hsl, zY, zXr, zP, hd, zO, zT, push_cast, simprocAttr, ↓reduceIte, zXq])
       all_goals first | exact ⟨by rw [heff]; rfl, _, rfl⟩ | (exfalso; omega)
      | some y1 =>
       have r1 := zAT hp bd _ 0 y1 (by omega) (by omega) e1
       rw [e1] at heff c1
       simp only [zFb] at c1
       cases e2 : zBl ps k el false 0 with
       | none =>
        rw [e2] at heff c2
        simp only [zFb] at c2
        repeat' (first | refine zXx (by omega) ?_ | refine zA (hfR _) ?_ | refine zN (c1 _) rfl ?_ | refine zN (c2 _) rfl ?_ | simp -implicitDefEqProofs (disch := omega) only [h1, h2, h3, h4, h9, h10, h11, g4, g9, zB, zF, hrow, hsl, zY, zXr, zP, hd, zO, zT, zX, push_cast, simprocAttr, ↓reduceIte, zXq])
        all_goals first | exact ⟨by rw [heff]; rfl, _, rfl⟩ | (exfalso; omega)
       | some y2 =>
        have r2 := zAT hp el _ 0 y2 (by omega) (by omega) e2
        rw [e2] at heff c2
        simp only [zFb] at c2
        by_cases hy : y1 = y2
        ·subst hy
         simp only [if_true] at heff
         by_cases hcc : 0 ≤ h ∧ h + (y1 - 1) ≤ 1024
         ·rw [zDj hcc.1 hcc.2] at heff
          repeat' (first | refine zXx (by omega) ?_ | refine zA (hfR _) ?_ | refine zN (c1 _) rfl ?_ | refine zN (c2 _) rfl ?_ | simp -implicitDefEqProofs (disch := omega) only [h1, h2, h3, h4, h9, h10, h11, g4, g9, zB, zF, hrow, hsl, zY, zXr, zP, hd, zO, zT, push_cast, simprocAttr, ↓reduceIte, zXq])
          exact .mk (j + 1, h + (y1 - 1), _) ⟨h1, h2, h3, h4, h9, zDS rfl (by dsimp only <;> omega), rfl, rfl, by simp; omega, by rw [zB (by omega)]; exact g4, by rw [zB (by omega)]; exact g9, hlt, by simp only; omega, by simp only; omega, heff⟩ (by simp only; omega)
         ·rw [zEU hcc] at heff
          repeat' (first | refine zXx (by omega) ?_ | refine zA (hfR _) ?_ | refine zN (c1 _) rfl ?_ | refine zN (c2 _) rfl ?_ | simp -implicitDefEqProofs (disch := omega) only [h1, h2, h3, h4, h9, h10, h11, g4, g9, zB, zF, hrow, hsl, zY, zXr, zP, hd, zO, zT, push_cast, simprocAttr, ↓reduceIte, zXq])
          all_goals first | exact ⟨by rw [heff]; rfl, _, rfl⟩ | (exfalso; omega)
        ·simp only [if_neg hy] at heff
         repeat' (first | refine zXx (by omega) ?_ | refine zA (hfR _) ?_ | refine zN (c1 _) rfl ?_ | refine zN (c2 _) rfl ?_ | simp -implicitDefEqProofs (disch := omega) only [h1, h2, h3, h4, h9, h10, h11, g4, g9, zB, zF, hrow, hsl, zY, zXr, zP, hd, zO, zT, zX, push_cast, simprocAttr, ↓reduceIte, zXq])
         all_goals first | exact ⟨by rw [heff]; rfl, _, rfl⟩ | (exfalso; omega)
     ·rw [if_neg hh] at heff
      repeat' (first | refine zXx (by omega) ?_ | refine zA (hfR _) ?_ | simp -implicitDefEqProofs (disch := omega) only [h2, h9, h10, h11, g9, zB, zF, hrow, hsl, zY, zXr, zP, hd, zO, push_cast, simprocAttr, ↓reduceIte, zXq])
      all_goals first | exact ⟨by rw [heff]; rfl, _, rfl⟩ | (exfalso; omega)
    | true =>
     by_cases h1e : h = 1
     ·subst hc
      rw [if_pos rfl] at heff
      by_cases hh : 1 ≤ h
      ·rw [if_pos hh] at heff
       have hde : decide (h = 1) = true := zXU h1e
       simp only [zZF, hde] at heff
       have c1 := hx1 true
       have c2 := hx2 true
       cases e1 : zBl ps k bd true 0 with
       | none =>
        rw [e1] at heff c1
        simp only [zFb] at c1
        generalize zFb (zBl ps k el true 0) = y at c2
        repeat' (first | refine zXx (by omega) ?_ | refine zA (hfR _) ?_ | refine zN (c1 _) rfl ?_ | refine zN (c2 _) rfl ?_ | simp -implicitDefEqProofs (disch := omega) only [h1, h2, h3, h4, h9, h10, h11, g4, g9, zB, zF, hrow, hsl, zY, zXr, zP, hd, zO, zT, zAi, push_cast, simprocAttr, ↓reduceIte, zXq])
        all_goals first | exact ⟨by rw [heff]; rfl, _, rfl⟩ | (exfalso; omega)
       | some y1 =>
        have r1 := zAT hp bd _ 0 y1 (by omega) (by omega) e1
        rw [e1] at heff c1
        simp only [zFb] at c1
        cases e2 : zBl ps k el true 0 with
        | none =>
         rw [e2] at heff c2
         simp only [zFb] at c2
         repeat' (first | refine zXx (by omega) ?_ | refine zA (hfR _) ?_ | refine zN (c1 _) rfl ?_ | refine zN (c2 _) rfl ?_ | simp -implicitDefEqProofs (disch := omega) only [h1, h2, h3, h4, h9, h10, h11, g4, g9, zB, zF, hrow, hsl, zY, zXr, zP, hd, zO, zT, zAi, zX, push_cast, simprocAttr, ↓reduceIte, zXq])
         all_goals first | exact ⟨by rw [heff]; rfl, _, rfl⟩ | (exfalso; omega)
        | some y2 =>
         have r2 := zAT hp el _ 0 y2 (by omega) (by omega) e2
         rw [e2] at heff c2
         simp only [zFb] at c2
         by_cases hy : y1 = y2
         ·subst hy
          simp only [if_true] at heff
          by_cases hcc : 0 ≤ h ∧ h + (y1 - 1) ≤ 1024
          ·rw [zDj hcc.1 hcc.2] at heff
           repeat' (first | refine zXx (by omega) ?_ | refine zA (hfR _) ?_ | refine zN (c1 _) rfl ?_ | refine zN (c2 _) rfl ?_ | simp -implicitDefEqProofs (disch := omega) only [h1, h2, h3, h4, h9, h10, h11, g4, g9, zB, zF, hrow, hsl, zY, zXr, zP, hd, zO, zT, zAi, push_cast, simprocAttr, ↓reduceIte, zXq])
           exact .mk (j + 1, h + (y1 - 1), _) ⟨h1, h2, h3, h4, h9, zDS rfl (by dsimp only <;> omega), rfl, rfl, by simp; omega, by rw [zB (by omega)]; exact g4, by rw [zB (by omega)]; exact g9, hlt, by simp only; omega, by simp only; omega, heff⟩ (by simp only; omega)
          ·rw [zEU hcc] at heff
           repeat' (first | refine zXx (by omega) ?_ | simp -implicitDefEqProofs (disch := omega) only [push_cast])
           all_goals first | exact ⟨by rw [heff]; rfl, _, rfl⟩ | (exfalso; omega)
         ·simp only [if_neg hy] at heff
          repeat' (first | refine zXx (by omega) ?_ | refine zA (hfR _) ?_ | refine zN (c1 _) rfl ?_ | refine zN (c2 _) rfl ?_ | simp -implicitDefEqProofs (disch := omega) only [h1, h2, h3, h4, h9, h10, h11, g4, g9, zB, zF, hrow, hsl, zY, zXr, zP, hd, zO, zT, zAi, zX, push_cast, simprocAttr, ↓reduceIte, zXq])
          all_goals first | exact ⟨by rw [heff]; rfl, _, rfl⟩ | (exfalso; omega)
      ·rw [if_neg hh] at heff
       repeat' (first | refine zXx (by omega) ?_ | simp -implicitDefEqProofs (disch := omega) only [push_cast])
       all_goals first | exact ⟨by rw [heff]; rfl, _, rfl⟩ | (exfalso; omega)
     ·subst hc
      rw [if_pos rfl] at heff
      by_cases hh : 1 ≤ h
      ·rw [if_pos hh] at heff
       have hde : decide (h = 1) = false := zX9 h1e
       simp only [zZF, hde] at heff
       have c1 := hx1 false
       have c2 := hx2 false
       cases e1 : zBl ps k bd false 0 with
       | none =>
        rw [e1] at heff c1
        simp only [zFb] at c1
        generalize zFb (zBl ps k el false 0) = y at c2
        repeat' (first | refine zXx (by omega) ?_ | refine zA (hfR _) ?_ | refine zN (c1 _) rfl ?_ | refine zN (c2 _) rfl ?_ | simp -implicitDefEqProofs (disch := omega) only [h1, h2, h3, h4, h9, h10, h11, g4, g9, zB, zF, hrow, hsl, zY, zXr, zP, hd, zO, zT, zX, push_cast, simprocAttr, ↓reduceIte, zXq])
        all_goals first | exact ⟨by rw [heff]; rfl, _, rfl⟩ | (exfalso; omega)
       | some y1 =>
        have r1 := zAT hp bd _ 0 y1 (by omega) (by omega) e1
        rw [e1] at heff c1
        simp only [zFb] at c1
        cases e2 : zBl ps k el false 0 with
        | none =>
         rw [e2] at heff c2
         simp only [zFb] at c2
         repeat' (first | refine zXx (by omega) ?_ | refine zA (hfR _) ?_ | refine zN (c1 _) rfl ?_ | refine zN (c2 _) rfl ?_ | simp -implicitDefEqProofs (disch := omega) only [h1, h2, h3, h4, h9, h10, h11, g4, g9, zB, zF, hrow, hsl, zY, zXr, zP, hd, zO, zT, zX, push_cast, simprocAttr, ↓reduceIte, zXq])
         all_goals first | exact ⟨by rw [heff]; rfl, _, rfl⟩ | (exfalso; omega)
        | some y2 =>
         have r2 := zAT hp el _ 0 y2 (by omega) (by omega) e2
         rw [e2] at heff c2
         simp only [zFb] at c2
         by_cases hy : y1 = y2
         ·subst hy
          simp only [if_true] at heff
          by_cases hcc : 0 ≤ h ∧ h + (y1 - 1) ≤ 1024
          ·rw [zDj hcc.1 hcc.2] at heff
           repeat' (first | refine zXx (by omega) ?_ | refine zA (hfR _) ?_ | refine zN (c1 _) rfl ?_ | refine zN (c2 _) rfl ?_ | simp -implicitDefEqProofs (disch := omega) only [h1, h2, h3, h4, h9, h10, h11, g4, g9, zB, zF, hrow, hsl, zY, zXr, zP, hd, zO, zT, zX, push_cast, simprocAttr, ↓reduceIte, zXq])
           exact .mk (j + 1, h + (y1 - 1), _) ⟨h1, h2, h3, h4, h9, zDS rfl (by dsimp only <;> omega), rfl, rfl, by simp; omega, by rw [zB (by omega)]; exact g4, by rw [zB (by omega)]; exact g9, hlt, by simp only; omega, by simp only; omega, heff⟩ (by simp only; omega)
          ·rw [zEU hcc] at heff
           repeat' (first | refine zXx (by omega) ?_ | refine zA (hfR _) ?_ | refine zN (c1 _) rfl ?_ | refine zN (c2 _) rfl ?_ | simp -implicitDefEqProofs (disch := omega) only [h1, h2, h3, h4, h9, h10, h11, g4, g9, zB, zF, hrow, hsl, zY, zXr, zP, hd, zO, zT, zX, push_cast, simprocAttr, ↓reduceIte, zXq])
           all_goals first | exact ⟨by rw [heff]; rfl, _, rfl⟩ | (exfalso; omega)
         ·simp only [if_neg hy] at heff
          repeat' (first | refine zXx (by omega) ?_ | refine zA (hfR _) ?_ | refine zN (c1 _) rfl ?_ | refine zN (c2 _) rfl ?_ | simp -implicitDefEqProofs (disch := omega) only [h1, h2, h3, h4, h9, h10, h11, g4, g9, zB, zF, hrow, hsl, zY, zXr, zP, hd, zO, zT, zX, push_cast, simprocAttr, ↓reduceIte, zXq])
          all_goals first | exact ⟨by rw [heff]; rfl, _, rfl⟩ | (exfalso; omega)
      ·rw [if_neg hh] at heff
       repeat' (first | refine zXx (by omega) ?_ | refine zA (hfR _) ?_ | simp -implicitDefEqProofs (disch := omega) only [h2, h9, h10, h11, g9, zB, zF, hrow, hsl, zY, zXr, zP, hd, zO, push_cast, simprocAttr, ↓reduceIte, zXq])
       all_goals first | exact ⟨by rw [heff]; rfl, _, rfl⟩ | (exfalso; omega)
   ·subst hc
    rw [if_neg (by omega), if_pos rfl] at heff
    have c1 := hx1 true
    have c2 := hx2 false
    cases out with
    | false =>
     rw [if_neg (by simp)] at heff
     repeat' (first | refine zXx (by omega) ?_ | refine zA (hfR _) ?_ | simp -implicitDefEqProofs (disch := omega) only [h2, h3, h9, h11, g9, zB, zF, hrow, hsl, zY, zXr, zP, hd, zO, push_cast, simprocAttr, ↓reduceIte, zXq])
     all_goals first | exact ⟨by rw [heff]; rfl, _, rfl⟩ | (exfalso; omega)
    | true =>
     by_cases hh : h = 0
     ·subst hh
      cases e2 : zBl ps k el false 0 with
      | none =>
       rw [e2] at heff c2
       rw [if_neg (by simp)] at heff
       simp only [zFb] at c2
       repeat' (first | refine zXx (by omega) ?_ | refine zA (hfR _) ?_ | refine zA (c2 _) ?_ | simp -implicitDefEqProofs (disch := omega) only [h1, h2, h3, h4, h9, h10, h11, g4, g9, zB, zF, hrow, hsl, zY, zXr, zP, hd, zO, push_cast, simprocAttr, ↓reduceIte, zXq])
       all_goals first | exact ⟨by rw [heff]; rfl, _, rfl⟩ | (exfalso; omega)
      | some y2 =>
       rw [e2] at heff c2
       simp only [zFb] at c2
       by_cases hy2 : y2 = 1
       ·subst hy2
        cases e1 : zBl ps k bd true 0 with
        | none =>
         rw [e1] at heff c1
         rw [if_neg (by simp)] at heff
         simp only [zFb] at c1
         repeat' (first | refine zXx (by omega) ?_ | refine zA (hfR _) ?_ | refine zA (c2 _) ?_ | refine zA (c1 _) ?_ | simp -implicitDefEqProofs (disch := omega) only [h1, h2, h3, h4, h9, h10, h11, g4, g9, zB, zF, hrow, hsl, zY, zXr, zP, hd, zO, push_cast, simprocAttr, ↓reduceIte, zXq])
         all_goals first | exact ⟨by rw [heff]; rfl, _, rfl⟩ | (exfalso; omega)
        | some y1 =>
         rw [e1] at heff c1
         simp only [zFb] at c1
         by_cases hy1 : y1 = 0
         ·subst hy1
          rw [if_pos (by simp)] at heff
          repeat' (first | refine zXx (by omega) ?_ | refine zA (hfR _) ?_ | refine zA (c2 _) ?_ | refine zA (c1 _) ?_ | simp -implicitDefEqProofs (disch := omega) only [h1, h2, h3, h4, h9, h10, h11, g4, g9, zB, zF, hrow, hsl, zY, zXr, zP, hd, zO, push_cast, simprocAttr, ↓reduceIte, zXq])
          exact .mk (j + 1, 0, _) ⟨h1, h2, h3, h4, h9, zDS rfl (by dsimp only <;> omega), rfl, rfl, by simp; omega, by rw [zB (by omega)]; exact g4, by rw [zB (by omega)]; exact g9, hlt, by simp only; omega, by simp only; omega, heff⟩ (by simp only; omega)
         ·rw [if_neg (by simp [hy1])] at heff
          repeat' (first | refine zXx (by omega) ?_ | refine zA (hfR _) ?_ | refine zA (c2 _) ?_ | refine zA (c1 _) ?_ | simp -implicitDefEqProofs (disch := omega) only [h1, h2, h3, h4, h9, h10, h11, g4, g9, zB, zF, hrow, hsl, zY, zXr, zP, hd, zO, zX, push_cast, simprocAttr, ↓reduceIte, zXq])
          all_goals first | exact ⟨by rw [heff]; rfl, _, rfl⟩ | (exfalso; omega)
       ·rw [if_neg (by simp [hy2])] at heff
        repeat' (first | refine zXx (by omega) ?_ | refine zA (hfR _) ?_ | refine zA (c2 _) ?_ | simp -implicitDefEqProofs (disch := omega) only [h1, h2, h3, h4, h9, h10, h11, g4, g9, zB, zF, hrow, hsl, zY, zXr, zP, hd, zO, zX, push_cast, simprocAttr, ↓reduceIte, zXq])
        all_goals first | exact ⟨by rw [heff]; rfl, _, rfl⟩ | (exfalso; omega)
     ·rw [if_neg (by simp [hh])] at heff
      repeat' (first | refine zXx (by omega) ?_ | refine zA (hfR _) ?_ | simp -implicitDefEqProofs (disch := omega) only [h2, h3, h9, h10, h11, g9, zB, zF, hrow, hsl, zY, zXr, zP, hd, zO, zX, push_cast, simprocAttr, ↓reduceIte, zXq])
      all_goals first | exact ⟨by rw [heff]; rfl, _, rfl⟩ | (exfalso; omega)
   ·subst hc
    rw [if_neg (by omega), if_neg (by omega)] at heff
    have he : zCo ps k 20 a out h = if 0 ≤ a ∧ a < k then chg h (ps.getD a.toNat default).par (zCw (ps.getD a.toNat default) - (ps.getD a.toNat default).par) else none := by
     unfold zCo
     rw [if_neg (by omega), if_neg (by omega), if_neg (by omega), if_neg (by omega), if_pos rfl]
    rw [he] at heff
    by_cases ha : 0 ≤ a ∧ a < k
    ·rw [if_pos ha] at heff
     obtain ⟨p1, p2, p3, p4⟩ := hp a.toNat (by omega)
     have po := zDO p3 p4
     have cO := fun H => zN7 (ps.getD a.toNat default) (by omega) H
     have hpr : (prR (ps.getD a.toNat default)).drop 1 = [int (ps.getD a.toNat default).par, int (ps.getD a.toNat default).slots, int (ps.getD a.toNat default).res, .sl 1 ((ps.getD a.toNat default).outs.map iR), .sl 5 ((ps.getD a.toNat default).body.map zAp)] := rfl
     by_cases hcc : (ps.getD a.toNat default).par ≤ h ∧ h + (zCw (ps.getD a.toNat default) - (ps.getD a.toNat default).par) ≤ 1024
     ·rw [zDj hcc.1 hcc.2] at heff
      repeat' (first | refine zXx (by omega) ?_ | refine zA (hfR _) ?_ | refine zA (cO _) ?_ | simp -implicitDefEqProofs (disch := omega) only [h1, h2, h4, h9, h10, h11, g4, g9, zB, zF, hrow, hsl, zY, zXr, zP, hd, zAD, zBK, hpr, zO, zT, zAn, push_cast, simprocAttr, ↓reduceIte, zXq])
      exact .mk (j + 1, h + (zCw (ps.getD a.toNat default) - (ps.getD a.toNat default).par), _) ⟨h1, h2, h3, h4, h9, zDS rfl (by dsimp only <;> omega), rfl, rfl, by simp; omega, by rw [zB (by omega)]; exact g4, by rw [zB (by omega)]; exact g9, hlt, by simp only; omega, by simp only; omega, heff⟩ (by simp only; omega)
     ·rw [zEU hcc] at heff
      repeat' (first | refine zXx (by omega) ?_ | refine zA (hfR _) ?_ | refine zA (cO _) ?_ | simp -implicitDefEqProofs (disch := omega) only [h1, h2, h4, h9, h10, h11, g4, g9, zB, zF, hrow, hsl, zY, zXr, zP, hd, zAD, zBK, hpr, zO, zT, zAn, push_cast, simprocAttr, ↓reduceIte, zXq] | split)
      all_goals first | exact ⟨by rw [heff]; rfl, _, rfl⟩ | (exfalso; omega)
    ·rw [if_neg ha] at heff
     repeat' (first | refine zXx (by omega) ?_ | refine zA (hfR _) ?_ | simp -implicitDefEqProofs (disch := omega) only [h1, h2, h9, h11, g9, zB, zF, hrow, hsl, zY, zXr, zP, hd, zO, zT, zAd, push_cast, simprocAttr, ↓reduceIte, zXq] | split)
     all_goals first | exact ⟨by rw [heff]; rfl, _, rfl⟩ | (exfalso; omega)
   ·subst hc
    rw [if_neg (by omega), if_neg (by omega)] at heff
    have he : zCo ps k 21 a out h = if out = true ∧ h = max (ps.getD k default).res 0 then chg h 0 (-h) else none := by
     unfold zCo
     rw [if_neg (by omega), if_neg (by omega), if_neg (by omega), if_neg (by omega), if_neg (by omega), if_pos rfl]
    rw [he] at heff
    cases out with
    | false =>
     rw [if_neg (by simp)] at heff
     repeat' (first | refine zXx (by omega) ?_ | refine zA (hfR _) ?_ | simp -implicitDefEqProofs (disch := omega) only [h2, h3, h9, h11, g9, zB, zF, hrow, hsl, zY, zXr, zP, hd, zO, push_cast, simprocAttr, ↓reduceIte, zXq])
     all_goals first | exact ⟨by rw [heff]; rfl, _, rfl⟩ | (exfalso; omega)
    | true =>
     by_cases hm : h = max (ps.getD k default).res 0
     ·rw [if_pos ⟨rfl, hm⟩, zDj hh0 (by omega)] at heff
      by_cases hr : (ps.getD k default).res < 0
      ·have hmx : (if (ps.getD k default).res < 0 then (0 : Int) else (ps.getD k default).res) = 0 := if_pos hr
       repeat' (first | refine zXx (by omega) ?_ | refine zA (hfR _) ?_ | simp -implicitDefEqProofs (disch := omega) only [h2, h3, h9, h10, h11, g9, zB, zF, hrow, hsl, hsl3, zY, zXr, zP, hd, hmx, zO, zT, zAi, push_cast, simprocAttr, ↓reduceIte, zXq])
       exact .mk (j + 1, h + -h, _) ⟨h1, h2, h3, h4, h9, zDS rfl (by dsimp only <;> omega), rfl, rfl, by simp; omega, by rw [zB (by omega)]; exact g4, by rw [zB (by omega)]; exact g9, hlt, by simp only; omega, by simp only; omega, heff⟩ (by simp only; omega)
      ·have hmx : (if (ps.getD k default).res < 0 then (0 : Int) else (ps.getD k default).res) = (ps.getD k default).res := if_neg hr
       repeat' (first | refine zXx (by omega) ?_ | refine zA (hfR _) ?_ | simp -implicitDefEqProofs (disch := omega) only [h2, h3, h9, h10, h11, g9, zB, zF, hrow, hsl, hsl3, zY, zXr, zP, hd, hmx, zO, zT, zAi, push_cast, simprocAttr, ↓reduceIte, zXq])
       exact .mk (j + 1, h + -h, _) ⟨h1, h2, h3, h4, h9, zDS rfl (by dsimp only <;> omega), rfl, rfl, by simp; omega, by rw [zB (by omega)]; exact g4, by rw [zB (by omega)]; exact g9, hlt, by simp only; omega, by simp only; omega, heff⟩ (by simp only; omega)
     ·rw [if_neg (fun hh => hm hh.2)] at heff
      by_cases hr : (ps.getD k default).res < 0
      ·have hmx : (if (ps.getD k default).res < 0 then (0 : Int) else (ps.getD k default).res) = 0 := if_pos hr
       repeat' (first | refine zXx (by omega) ?_ | refine zA (hfR _) ?_ | simp -implicitDefEqProofs (disch := omega) only [h2, h3, h9, h10, h11, g9, zB, zF, hrow, hsl, hsl3, zY, zXr, zP, hd, hmx, zO, zX, push_cast, simprocAttr, ↓reduceIte, zXq])
       all_goals first | exact ⟨by rw [heff]; rfl, _, rfl⟩ | (exfalso; omega)
      ·have hmx : (if (ps.getD k default).res < 0 then (0 : Int) else (ps.getD k default).res) = (ps.getD k default).res := if_neg hr
       repeat' (first | refine zXx (by omega) ?_ | refine zA (hfR _) ?_ | simp -implicitDefEqProofs (disch := omega) only [h2, h3, h9, h10, h11, g9, zB, zF, hrow, hsl, hsl3, zY, zXr, zP, hd, hmx, zO, zX, push_cast, simprocAttr, ↓reduceIte, zXq])
       all_goals first | exact ⟨by rw [heff]; rfl, _, rfl⟩ | (exfalso; omega)
  ·rw [if_neg hf] at heff
   have hd : decide (zW (ps.getD k default).slots o a b (bd.isEmpty && el.isEmpty)) = false := zX9 hf
   repeat' (first | refine zXx (by omega) ?_ | refine zA (hfR _) ?_ | simp -implicitDefEqProofs (disch := omega) only [h2, h9, h11, g9, zB, zF, hrow, hsl, zY, zXr, zP, hd, zO, push_cast, simprocAttr, ↓reduceIte, zXq])
   exact ⟨by rw [heff]; rfl, _, rfl⟩
 ·have e : j = l.length := by omega
  subst e
  rw [zZi] at heff
  repeat' (simp -implicitDefEqProofs (disch := omega) only [h2, h10, h11, zXr, zT, push_cast, simprocAttr, ↓reduceIte])
  exact ⟨by rw [heff]; rfl, _, rfl⟩
theorem zUH (known : List Int) (L : Int) (hk : zEZ known) (h0 : 0 ≤ L) (h8 : L ≤ 8) (hkl : known.length ≤ 1048576) (l : List Ins) : zM l ≤ 1048576 → zGd known.length l → ∀ (H : zC) (r ver : Nat), H[r]? = some (.arr ver 1 (known.map iR)) → ACall Tryz.prog 50 [.sl 5 (l.map zAp), .os r ver 0 known.length, int L] H fun y H' => y = int (zA5 known L l 0) ∧ H' = H := by
 induction l using Ins.indL with
 | h l ih =>
 intro hs hcl H r ver hr
 refine enter Tryz.func50 L50_ok (zXs rfl) ?_
 have hln := zR l
 repeat' (simp -implicitDefEqProofs (disch := omega) only [L50, push_cast, Nat.reduceAdd])
 refine zAh (fun (st : Nat × Int) e' H' => e' 0 = .sl 5 (l.map zAp) ∧ e' 1 = .os r ver 0 known.length ∧ e' 2 = int L ∧ e' 7 = int st.2 ∧ e' 8 = int st.1 ∧ H' = H ∧ st.1 ≤ l.length ∧ 0 ≤ st.2 ∧ st.2 ≤ 67108865 ∧ zA5 known L l 0 = zA5 known L (l.drop st.1) st.2) (fun st => l.length - st.1) (0, 0) ?_ ?_
 ·exact ⟨rfl, rfl, rfl, rfl, rfl, rfl, zXJ _, by simp, by simp, by simp⟩
 rintro ⟨j, s⟩ e' H' ⟨h0', h1', h2', h7, h8', rfl, hj, hs0, hs1, hc⟩
 simp only at h7 h8' hj hs0 hs1 hc
 by_cases hlt : j < l.length
 ·have hk0 := zAq hlt
  have hb := zAl l (j + 1)
  rw [zAf hlt, zCj] at hb
  have hx := ih _ hk0
  have hci := (zKk _ _).1 (zGc hcl hk0)
  rw [zGN _ _ hlt] at hc
  have hrow : (l.map zAp).getD j [] = zAp (l.getD j default) := zQ hlt
  have hrg := zEh hk h0 h8 (l.getD j default)
  generalize l.getD j default = x at *
  obtain ⟨o, a, b, bd, el⟩ := x
  have hr2 : zAp (.mk o a b bd el) = [int o, int a, int b, .sl 5 (bd.map zAp), .sl 5 (el.map zAp)] := by simp [zAp, zAI]
  rw [hr2] at hrow
  simp only [zIs] at hc hrg
  simp only [Ins.op, Ins.a, Ins.b, Ins.body, Ins.els] at hci hb hx
  have n1 := zBx hk h0 h8 bd 0 (by omega) (by omega)
  have n2 := zBx hk h0 h8 el 0 (by omega) (by omega)
  have e1 : 0 ≤ (L + 1) * zA5 known L el 0 ∧ (L + 1) * zA5 known L el 0 ≤ 9 * 67108865 := ⟨zZo (by omega) n2.1, zZp (by omega) n2.2 n2.1 (by omega)⟩
  have e2 : 0 ≤ L * zA5 known L bd 0 ∧ L * zA5 known L bd 0 ≤ 8 * 67108865 := ⟨zZo h0 n1.1, zZp (by omega) n1.2 n1.1 (by omega)⟩
  have c1 := hx.1 (by omega) hci.2.1 H' r ver hr
  have c2 := hx.2 (by omega) hci.2.2 H' r ver hr
  clear hx ih
  by_cases h18 : o = 18
  ·subst h18
   simp only [if_true] at hc hrg
   repeat' (first | refine zXx (by omega) ?_ | refine zA (c1) ?_ | refine zA (c2) ?_ | simp -implicitDefEqProofs (disch := omega) only [h0', h1', h2', h7, h8', hrow, zXF, zXr, zO, push_cast, simprocAttr, ↓reduceIte] | split)
   all_goals exact .mk (j + 1, min (s + (1 + max (zA5 known L bd 0) (zA5 known L el 0))) 67108865) ⟨h0', h1', h2', zDS rfl (by dsimp only <;> omega), rfl, rfl, hlt, by dsimp only; omega, by dsimp only; omega, hc⟩ (by dsimp only; omega)
  ·by_cases h19 : o = 19
   ·subst h19
    rw [if_neg (by omega), if_pos rfl] at hc hrg
    repeat' (first | refine zXx (by omega) ?_ | refine zAG (c1) ?_ | refine zAG (c2) ?_ | simp -implicitDefEqProofs (disch := omega) only [h0', h1', h2', h7, h8', hrow, zXF, zXr, zO, push_cast, simprocAttr, ↓reduceIte] | split)
    all_goals exact .mk (j + 1, min (s + (1 + (L + 1) * zA5 known L el 0 + L * zA5 known L bd 0)) 67108865) ⟨h0', h1', h2', zDS rfl (by dsimp only <;> omega), rfl, rfl, hlt, by dsimp only; omega, by dsimp only; omega, hc⟩ (by dsimp only; omega)
   ·by_cases h20 : o = 20
    ·subst h20
     rw [if_neg (by omega), if_neg (by omega), if_pos rfl] at hc hrg
     have ha := hci.1 rfl
     have hkr : (known.map iR).getD a.toNat [] = iR (known.getD a.toNat default) := zQ (by omega)
     simp only [iR] at hkr
     repeat' (first | refine zXx (by omega) ?_ | simp -implicitDefEqProofs (disch := omega) only [h0', h1', h7, h8', hrow, hkr, hr, zXF, zXr, zO, push_cast, simprocAttr, ↓reduceIte] | split)
     all_goals exact .mk (j + 1, min (s + (1 + known.getD a.toNat default)) 67108865) ⟨h0', h1', h2', zDS rfl (by dsimp only <;> omega), rfl, rfl, hlt, by dsimp only; omega, by dsimp only; omega, hc⟩ (by dsimp only; omega)
    ·rw [if_neg (by omega), if_neg (by omega), if_neg (by omega)] at hc hrg
     repeat' (first | refine zXx (by omega) ?_ | simp -implicitDefEqProofs (disch := omega) only [h0', h7, h8', hrow, zXF, zXr, zO, zX, push_cast, simprocAttr, ↓reduceIte] | split)
     all_goals exact .mk (j + 1, min (s + (1)) 67108865) ⟨h0', h1', h2', zDS rfl (by dsimp only <;> omega), rfl, rfl, hlt, by dsimp only; omega, by dsimp only; omega, hc⟩ (by dsimp only; omega)
 ·have e : j = l.length := by omega
  subst e
  rw [zZi] at hc
  simp only [zA5] at hc
  repeat' (simp -implicitDefEqProofs (disch := omega) only [h0', h7, h8', zXr, zT, push_cast, simprocAttr, ↓reduceIte])
  exact by rw [hc]
theorem zUI (known : List Int) (L : Int) (hk : zEZ known) (h0 : 0 ≤ L) (h8 : L ≤ 8) (hkl : known.length ≤ 1048576) (l : List Ins) : zM l ≤ 1048576 → zGd known.length l → ∀ (H : zC) (r ver : Nat), H[r]? = some (.arr ver 1 (known.map iR)) → ACall Tryz.prog 132 [.sl 5 (l.map zAp), int L, .os r ver 0 known.length] H fun y H' => y = int (zA5 known L l 0) ∧ H' = H := by
 induction l using Ins.indL with
 | h l ih =>
 intro hs hcl H r ver hr
 refine ACall.drop (R := fun y => y = int (zA5 known L l 0)) ?_
 have hrl := (zXA.1 hr).1
 refine enter Tryz.func132 L132_ok (zXs rfl) ?_
 have hln := zR l
 repeat' (simp -implicitDefEqProofs (disch := omega) only [L132, zXr, push_cast, simprocAttr, ↓reduceIte])
 refine zAh (fun (st : Nat × Int × zC) e' H' => e' 1 = int L ∧ e' 2 = .os r ver 0 known.length ∧ e' 7 = int st.2.1 ∧ e' 11 = .sl 5 (l.map zAp) ∧ e' 12 = int l.length ∧ e' 13 = int st.1 ∧ H' = H ++ st.2.2 ∧ st.1 ≤ l.length ∧ 0 ≤ st.2.1 ∧ st.2.1 ≤ 67108865 ∧ zA5 known L l 0 = zA5 known L (l.drop st.1) st.2.1) (fun st => l.length - st.1) (0, 0, []) ?_ ?_
 ·exact ⟨rfl, rfl, rfl, rfl, rfl, rfl, by simp, zXJ _, by simp, by simp, by simp⟩
 rintro ⟨j, s, ext⟩ e' H' ⟨h1', h2', h7, h11, h12, h13, rfl, hj, hs0, hs1, hc⟩
 simp only at h7 h13 hj hs0 hs1 hc
 by_cases hlt : j < l.length
 ·have hk0 := zAq hlt
  have hb := zAl l (j + 1)
  rw [zAf hlt, zCj] at hb
  have hx := ih _ hk0
  have hci := (zKk _ _).1 (zGc hcl hk0)
  rw [zGN _ _ hlt] at hc
  have hrow : (l.map zAp).getD j [] = zAp (l.getD j default) := zQ hlt
  have hrg := zEh hk h0 h8 (l.getD j default)
  generalize l.getD j default = x at *
  obtain ⟨o, a, b, bd, el⟩ := x
  have hr2 : zAp (.mk o a b bd el) = [int o, int a, int b, .sl 5 (bd.map zAp), .sl 5 (el.map zAp)] := by simp [zAp, zAI]
  rw [hr2] at hrow
  simp only [zIs] at hc hrg
  simp only [Ins.op, Ins.a, Ins.b, Ins.body, Ins.els] at hci hb hx
  have n1 := zBx hk h0 h8 bd 0 (by omega) (by omega)
  have n2 := zBx hk h0 h8 el 0 (by omega) (by omega)
  have e1 : 0 ≤ (L + 1) * zA5 known L el 0 ∧ (L + 1) * zA5 known L el 0 ≤ 9 * 67108865 := ⟨zZo (by omega) n2.1, zZp (by omega) n2.2 n2.1 (by omega)⟩
  have e2 : 0 ≤ L * zA5 known L bd 0 ∧ L * zA5 known L bd 0 ≤ 8 * 67108865 := ⟨zZo h0 n1.1, zZp (by omega) n1.2 n1.1 (by omega)⟩
  have hrA : ∀ X : zC, (H ++ X)[r]? = some (.arr ver 1 (known.map iR)) := fun X => by rw [zB hrl]; exact hr
  have hr' : 0 = 0 := rfl
  have c1 := fun X => hx.1 (by omega) hci.2.1 (H ++ X) r ver (hrA X)
  have c2 := fun X => hx.2 (by omega) hci.2.2 (H ++ X) r ver (hrA X)
  clear hx ih
  by_cases h18 : o = 18
  ·subst h18
   simp only [if_true] at hc hrg
   repeat' (first | refine zXx (by omega) ?_ | refine zA (c1 _) ?_ | refine zA (c2 _) ?_ | simp -implicitDefEqProofs (disch := omega) only [h1', h2', h7, h11, h12, h13, hrow, zXF, zXr, zY, zO, push_cast, simprocAttr, ↓reduceIte, zXq] | split)
   all_goals exact .mk (j + 1, min (s + (1 + max (zA5 known L bd 0) (zA5 known L el 0))) 67108865, _) ⟨h1', h2', zDS rfl (by dsimp only <;> omega), h11, h12, rfl, rfl, hlt, by dsimp only; omega, by dsimp only; omega, hc⟩ (by dsimp only; omega)
  ·by_cases h19 : o = 19
   ·subst h19
    rw [if_neg (by omega), if_pos rfl] at hc hrg
    repeat' (first | refine zXx (by omega) ?_ | refine zAG (c1 _) ?_ | refine zAG (c2 _) ?_ | simp -implicitDefEqProofs (disch := omega) only [h1', h2', h7, h11, h12, h13, hrow, zXF, zXr, zY, zO, push_cast, simprocAttr, ↓reduceIte, zXq] | split)
    all_goals exact .mk (j + 1, min (s + (1 + (L + 1) * zA5 known L el 0 + L * zA5 known L bd 0)) 67108865, _) ⟨h1', h2', zDS rfl (by dsimp only <;> omega), h11, h12, rfl, rfl, hlt, by dsimp only; omega, by dsimp only; omega, hc⟩ (by dsimp only; omega)
   ·by_cases h20 : o = 20
    ·subst h20
     rw [if_neg (by omega), if_neg (by omega), if_pos rfl] at hc hrg
     have ha := hci.1 rfl
     have hkr : (known.map iR).getD a.toNat [] = iR (known.getD a.toNat default) := zQ (by omega)
     simp only [iR] at hkr
     repeat' (first | refine zXx (by omega) ?_ | simp -implicitDefEqProofs (disch := omega) only [h2', h7, h11, h12, h13, hrow, hkr, hrA, zXF, zXr, zY, zO, push_cast, simprocAttr, ↓reduceIte, zXq] | split)
     all_goals exact .mk (j + 1, min (s + (1 + known.getD a.toNat default)) 67108865, _) ⟨h1', h2', zDS rfl (by dsimp only <;> omega), h11, h12, rfl, rfl, hlt, by dsimp only; omega, by dsimp only; omega, hc⟩ (by dsimp only; omega)
    ·rw [if_neg (by omega), if_neg (by omega), if_neg (by omega)] at hc hrg
     repeat' (first | refine zXx (by omega) ?_ | simp -implicitDefEqProofs (disch := omega) only [h7, h11, h12, h13, hrow, zXF, zXr, zY, zO, zX, push_cast, simprocAttr, ↓reduceIte, zXq] | split)
     all_goals exact .mk (j + 1, min (s + (1)) 67108865, _) ⟨h1', h2', zDS rfl (by dsimp only <;> omega), h11, h12, rfl, rfl, hlt, by dsimp only; omega, by dsimp only; omega, hc⟩ (by dsimp only; omega)
 ·have e : j = l.length := by omega
  subst e
  rw [zZi] at hc
  simp only [zA5] at hc
  repeat' (simp -implicitDefEqProofs (disch := omega) only [h7, h12, h13, zT, push_cast, ↓reduceIte, Nat.reduceEqDiff])
  exact ⟨by rw [hc], _, rfl⟩
noncomputable def zCO (ps : List Pr) : Bool := @decide (zBt ps) (Classical.propDecidable _)
theorem zB9 {ps : List Pr} : zCO ps = true ↔ zBt ps := by unfold zCO; exact @decide_eq_true_iff _ (Classical.propDecidable _)
theorem zEl {ps : List Pr} (h : ¬ zBt ps) : zCO ps = false := by
 cases hb : zCO ps with
 | false => rfl
 | true => exact absurd (zB9.1 hb) h
theorem zBH (q : Pr) : (prR q).drop 1 = [int q.par, int q.slots, int q.res, .sl 1 (q.outs.map iR), .sl 5 (q.body.map zAp)] := rfl
theorem zBA (q : Pr) : (prR q).drop 2 = [int q.slots, int q.res, .sl 1 (q.outs.map iR), .sl 5 (q.body.map zAp)] := rfl
theorem zA7 (q : Pr) : (prR q).drop 3 = [int q.res, .sl 1 (q.outs.map iR), .sl 5 (q.body.map zAp)] := rfl
theorem zAV (q : Pr) : (prR q).drop 4 = [.sl 1 (q.outs.map iR), .sl 5 (q.body.map zAp)] := rfl
theorem zA6 (q : Pr) : (prR q).drop 5 = [.sl 5 (q.body.map zAp)] := rfl
theorem zBU (q : Pr) : (prR q).drop 0 = [str q.name, int q.par, int q.slots, int q.res, .sl 1 (q.outs.map iR), .sl 5 (q.body.map zAp)] := rfl
set_option maxHeartbeats 8000000 in
theorem zGO (ps : List Pr) (hs : zB0 ps) (H : zC) : zAe 13 [.agg [zAM ps]] H (bool (zCO ps)) := by
 obtain ⟨hs1, hs2, hs3⟩ := hs
 refine ACall.drop (R := fun x => x = bool (zCO ps)) ?_
 refine enter Tryz.func13 L13_ok (zXs rfl) ?_
 by_cases h8 : ps.length ≤ 8
 ·repeat' (simp -implicitDefEqProofs (disch := omega) only [L13, zY, zXr, zT, push_cast, simprocAttr, ↓reduceIte, zXq])
  refine zAh (fun (st : Nat × zC) e' H' => e' 1 = .ptr H.length 0 0 ∧ e' 3 = int (zA3 (ps.take st.1) : Nat) ∧ e' 4 = int st.1 ∧ H' = H ++ st.2 ∧ 1 ≤ st.2.length ∧ st.2[0]? = some (.box [zAM ps]) ∧ st.1 ≤ ps.length ∧ ∀ i, i < st.1 → prP ps i) (fun st => ps.length - st.1) (0, [HO.box [zAM ps]]) ?_ ?_
  ·exact ⟨rfl, rfl, rfl, rfl, by simp, rfl, zXJ _, fun i hi => by simp only at hi; omega⟩
  rintro ⟨j, ext⟩ e' H' ⟨h1, h3, h4, rfl, hel, g1, hj, hall⟩
  simp only at h3 h4 hel g1 hj hall
  by_cases hlt : j < ps.length
  ·obtain ⟨m1, m2, m3⟩ := hs3 _ (zAq hlt)
   have hfail : ¬ prP ps j → zCO ps = false := fun hn => zEl fun hv => hn (hv.2 j hlt)
   repeat' (first | refine zXx (by omega) ?_ | simp -implicitDefEqProofs (disch := omega) only [h1, h4, g1, zF, zY, zAD, zP, zBK, zDf, zXr, zO, push_cast, simprocAttr, ↓reduceIte, zXq])
   have gA : (ext ++ [HO.box (prR (ps.getD j default))])[0]? = some (.box [zAM ps]) := by rw [zB (by omega)]; exact g1
   have gB : (ext ++ [HO.box (prR (ps.getD j default))])[ext.length]? = some (.box (prR (ps.getD j default))) := by simp
   have hle : 2 ≤ (ext ++ [HO.box (prR (ps.getD j default))]).length := by simp; omega
   have hpre : ∃ z, ext ++ [HO.box (prR (ps.getD j default))] = z := ⟨_, rfl⟩
   generalize ext ++ [HO.box (prR (ps.getD j default))] = ext2 at *
   refine zAh (fun (i : Nat) e' H' => e' 1 = .ptr H.length 0 0 ∧ e' 3 = int (zA3 (ps.take j) : Nat) ∧ e' 4 = int j ∧ e' 5 = .ptr (H.length + ext.length) 0 0 ∧ e' 6 = int i ∧ H' = H ++ ext2 ∧ i ≤ j ∧ ∀ i', i' < i → ¬ (ps.getD i' default).name = (ps.getD j default).name) (fun i => j - i) 0 ?_ ?_
   ·exact ⟨h1, h3, h4, rfl, rfl, rfl, zXJ _, fun i hi => by omega⟩
   clear h1 h3 h4
   rintro i e' H' ⟨h1, h3, h4, h5, h6, rfl, hi, hne⟩
   by_cases hlt2 : i < j
   ·by_cases hnm : (ps.getD i default).name = (ps.getD j default).name
    ·rw [hfail fun hp => hp.1.2 i hlt2 hnm]
     repeat' (first | refine zXx (by omega) ?_ | simp -implicitDefEqProofs (disch := omega) only [h1, h4, h5, h6, gA, gB, zF, zAD, zP, zBU, zXr, hnm, zO, push_cast, simprocAttr, ↓reduceIte])
     exact ⟨_, rfl⟩
    ·repeat' (first | refine zXx (by omega) ?_ | simp -implicitDefEqProofs (disch := omega) only [h1, h4, h5, h6, gA, gB, zF, zAD, zP, zBU, zXr, hnm, zO, push_cast, simprocAttr, ↓reduceIte])
     exact .mk (i + 1) ⟨h1, h3, h4, h5, rfl, rfl, hlt2, zBu hne hnm⟩ (by omega)
   ·have e : i = j := by omega
    subst e
    cases hN : zEt (ps.getD i default).name with
    | false =>
     rw [hfail fun hp => by rw [hp.1.1] at hN; cases hN]
     repeat' (first | refine zA (zOc (ps.getD i default).name _ (by omega)) ?_ | simp -implicitDefEqProofs (disch := omega) only [h4, h5, h6, gB, zP, zBU, hN, zT, push_cast, simprocAttr, ↓reduceIte])
     exact ⟨_, rfl⟩
    | true =>
     by_cases hP : 0 ≤ (ps.getD i default).par ∧ (ps.getD i default).par ≤ (ps.getD i default).slots ∧ (ps.getD i default).slots ≤ 1024 ∧ -1 ≤ (ps.getD i default).res ∧ (ps.getD i default).res ≤ 128 ∧ (ps.getD i default).outs.length ≤ 128 ∧ ((ps.getD i default).res = -1 ∨ (ps.getD i default).outs.length = 0)
     ·obtain ⟨q1, q2, q3, q4, q5, q6, q7⟩ := hP
      by_cases hrs : (ps.getD i default).res = -1
      ·repeat' (first | refine zA (zOc (ps.getD i default).name _ (by omega)) ?_ | simp -implicitDefEqProofs (disch := omega) only [h4, h5, h6, gB, zP, zBU, zBH, zBA, zA7, zAV, zXr, hN, zT, zAi, push_cast, simprocAttr, ↓reduceIte])
       refine zAh (fun (m : Nat) e' H' => e' 1 = .ptr H.length 0 0 ∧ e' 3 = int (zA3 (ps.take i) : Nat) ∧ e' 4 = int i ∧ e' 5 = .ptr (H.length + ext.length) 0 0 ∧ e' 7 = int m ∧ H' = H ++ ext2 ∧ m ≤ (ps.getD i default).outs.length ∧ ∀ m', m' < m → 0 ≤ (ps.getD i default).outs.getD m' default ∧ (ps.getD i default).outs.getD m' default < (ps.getD i default).slots) (fun m => (ps.getD i default).outs.length - m) 0 ?_ ?_
       ·exact ⟨h1, h3, h4, h5, rfl, rfl, zXJ _, fun m hm => by omega⟩
       clear h1 h3 h4 h5 h6
       rintro m e' H' ⟨h1, h3, h4, h5, h7, rfl, hm, hout⟩
       by_cases hlt3 : m < (ps.getD i default).outs.length
       ·have hor : ((ps.getD i default).outs.map iR).getD m [] = [int ((ps.getD i default).outs.getD m default)] := zQ hlt3
        by_cases hO : 0 ≤ (ps.getD i default).outs.getD m default ∧ (ps.getD i default).outs.getD m default < (ps.getD i default).slots
        ·repeat' (first | refine zXx (by omega) ?_ | simp -implicitDefEqProofs (disch := omega) only [h5, h7, gB, zP, zBA, zAV, hor, zXr, zO, zT, zAn, push_cast, simprocAttr, ↓reduceIte])
         exact .mk (m + 1) ⟨h1, h3, h4, h5, rfl, rfl, hlt3, zBu hout hO⟩ (by omega)
        ·rw [hfail fun hp => hO (hp.2.1.2.2.2.2.2.2.2 _ (zAq hlt3))]
         repeat' (first | refine zXx (by omega) ?_ | simp -implicitDefEqProofs (disch := omega) only [h5, h7, gB, zP, zBA, zAV, hor, zXr, zO, zT, zAd, push_cast, simprocAttr, ↓reduceIte] | split)
         all_goals first | exact ⟨_, rfl⟩ | (exfalso; omega)
       ·have e : m = (ps.getD i default).outs.length := by omega
        subst e
        have hout' : ∀ s ∈ (ps.getD i default).outs, 0 ≤ s ∧ s < (ps.getD i default).slots := by
         intro s hs
         obtain ⟨m, hm, rfl⟩ := zYB.1 hs
         have := hout m hm
         have e : (ps.getD i default).outs.getD m default = (ps.getD i default).outs[m] := by rw [zXC, zXP hm]; rfl
         rw [e] at this
         exact this
        have hH : zCk (ps.getD i default) := ⟨q1, q2, q3, q4, q5, q6, q7.imp id zXK.1, hout'⟩
        have hsn := zBf hlt
        have hpt := zDN ps (i + 1)
        have cE := fun H => effR ps i hlt hs1 (zDM hall) hH (ps.getD i default).body m3 true H
        have cC := fun H => zFr (ps.getD i default).body m3 H
        have cL := fun H => levR (ps.getD i default).body m3 H
        by_cases hA : zA3 (ps.take (i + 1)) ≤ 32768 ∧ zAy (ps.getD i default).body ≤ 256
        ·cases hE : zBl ps i (ps.getD i default).body true 0 with
         | none =>
          rw [hfail fun hp => by have := hp.2.2.2.2; rw [hE] at this; cases this]
          rw [hE] at cE
          simp only [zFb] at cE
          repeat' (first | refine zA (cC _) ?_ | refine zA (cL _) ?_ | refine zA (cE _) ?_ | simp -implicitDefEqProofs (disch := omega) only [h1, h3, h4, h5, h7, gA, gB, zF, zP, zAV, zA6, zXr, zT, push_cast, simprocAttr, ↓reduceIte])
          exact ⟨_, rfl⟩
         | some y =>
          rw [hE] at cE
          simp only [zFb] at cE
          by_cases hy : y = 0
          ·subst hy
           have hok : prP ps i := ⟨⟨hN, hne⟩, hH, hA.1, hA.2, hE⟩
           repeat' (first | refine zA (cC _) ?_ | refine zA (cL _) ?_ | refine zA (cE _) ?_ | simp -implicitDefEqProofs (disch := omega) only [h1, h3, h4, h5, h7, gA, gB, zF, zP, zAV, zA6, zXr, zT, push_cast, simprocAttr, ↓reduceIte])
           exact .mk (i + 1, ext2) ⟨h1, zDS rfl (by dsimp only <;> omega), rfl, rfl, by dsimp only; omega, gA, hlt, zBu hall hok⟩ (by dsimp only; omega)
          ·rw [hfail fun hp => by have := hp.2.2.2.2; rw [hE] at this; exact hy (by simpa using this)]
           repeat' (first | refine zA (cC _) ?_ | refine zA (cL _) ?_ | refine zA (cE _) ?_ | simp -implicitDefEqProofs (disch := omega) only [h1, h3, h4, h5, h7, gA, gB, zF, zP, zAV, zA6, zXr, zT, zX, push_cast, simprocAttr, ↓reduceIte])
           exact ⟨_, rfl⟩
        ·rw [hfail fun hp => hA ⟨hp.2.2.1, hp.2.2.2.1⟩]
         repeat' (first | refine zA (cC _) ?_ | refine zA (cL _) ?_ | simp -implicitDefEqProofs (disch := omega) only [h3, h5, h7, gB, zP, zAV, zA6, zXr, zO, zT, push_cast, simprocAttr, ↓reduceIte] | split)
         all_goals first | exact ⟨_, rfl⟩ | (exfalso; omega)
      ·repeat' (first | refine zA (zOc (ps.getD i default).name _ (by omega)) ?_ | simp -implicitDefEqProofs (disch := omega) only [h4, h5, h6, gB, zP, zBU, zBH, zBA, zA7, zAV, zXr, hN, zT, zX, push_cast, simprocAttr, ↓reduceIte])
       refine zAh (fun (m : Nat) e' H' => e' 1 = .ptr H.length 0 0 ∧ e' 3 = int (zA3 (ps.take i) : Nat) ∧ e' 4 = int i ∧ e' 5 = .ptr (H.length + ext.length) 0 0 ∧ e' 7 = int m ∧ H' = H ++ ext2 ∧ m ≤ (ps.getD i default).outs.length ∧ ∀ m', m' < m → 0 ≤ (ps.getD i default).outs.getD m' default ∧ (ps.getD i default).outs.getD m' default < (ps.getD i default).slots) (fun m => (ps.getD i default).outs.length - m) 0 ?_ ?_
       ·exact ⟨h1, h3, h4, h5, rfl, rfl, zXJ _, fun m hm => by omega⟩
       clear h1 h3 h4 h5 h6
       rintro m e' H' ⟨h1, h3, h4, h5, h7, rfl, hm, hout⟩
       by_cases hlt3 : m < (ps.getD i default).outs.length
       ·exfalso; omega
       ·have e : m = (ps.getD i default).outs.length := by omega
        subst e
        have hout' : ∀ s ∈ (ps.getD i default).outs, 0 ≤ s ∧ s < (ps.getD i default).slots := by
         intro s hs
         obtain ⟨m, hm, rfl⟩ := zYB.1 hs
         have := hout m hm
         have e : (ps.getD i default).outs.getD m default = (ps.getD i default).outs[m] := by rw [zXC, zXP hm]; rfl
         rw [e] at this
         exact this
        have hH : zCk (ps.getD i default) := ⟨q1, q2, q3, q4, q5, q6, q7.imp id zXK.1, hout'⟩
        have hsn := zBf hlt
        have hpt := zDN ps (i + 1)
        have cE := fun H => effR ps i hlt hs1 (zDM hall) hH (ps.getD i default).body m3 true H
        have cC := fun H => zFr (ps.getD i default).body m3 H
        have cL := fun H => levR (ps.getD i default).body m3 H
        by_cases hA : zA3 (ps.take (i + 1)) ≤ 32768 ∧ zAy (ps.getD i default).body ≤ 256
        ·cases hE : zBl ps i (ps.getD i default).body true 0 with
         | none =>
          rw [hfail fun hp => by have := hp.2.2.2.2; rw [hE] at this; cases this]
          rw [hE] at cE
          simp only [zFb] at cE
          repeat' (first | refine zA (cC _) ?_ | refine zA (cL _) ?_ | refine zA (cE _) ?_ | simp -implicitDefEqProofs (disch := omega) only [h1, h3, h4, h5, h7, gA, gB, zF, zP, zAV, zA6, zXr, zT, push_cast, simprocAttr, ↓reduceIte])
          exact ⟨_, rfl⟩
         | some y =>
          rw [hE] at cE
          simp only [zFb] at cE
          by_cases hy : y = 0
          ·subst hy
           have hok : prP ps i := ⟨⟨hN, hne⟩, hH, hA.1, hA.2, hE⟩
           repeat' (first | refine zA (cC _) ?_ | refine zA (cL _) ?_ | refine zA (cE _) ?_ | simp -implicitDefEqProofs (disch := omega) only [h1, h3, h4, h5, h7, gA, gB, zF, zP, zAV, zA6, zXr, zT, push_cast, simprocAttr, ↓reduceIte])
           exact .mk (i + 1, ext2) ⟨h1, zDS rfl (by dsimp only <;> omega), rfl, rfl, by dsimp only; omega, gA, hlt, zBu hall hok⟩ (by dsimp only; omega)
          ·rw [hfail fun hp => by have := hp.2.2.2.2; rw [hE] at this; exact hy (by simpa using this)]
           repeat' (first | refine zA (cC _) ?_ | refine zA (cL _) ?_ | refine zA (cE _) ?_ | simp -implicitDefEqProofs (disch := omega) only [h1, h3, h4, h5, h7, gA, gB, zF, zP, zAV, zA6, zXr, zT, zX, push_cast, simprocAttr, ↓reduceIte])
           exact ⟨_, rfl⟩
        ·rw [hfail fun hp => hA ⟨hp.2.2.1, hp.2.2.2.1⟩]
         repeat' (first | refine zA (cC _) ?_ | refine zA (cL _) ?_ | simp -implicitDefEqProofs (disch := omega) only [h3, h5, h7, gB, zP, zAV, zA6, zXr, zO, zT, push_cast, simprocAttr, ↓reduceIte] | split)
         all_goals first | exact ⟨_, rfl⟩ | (exfalso; omega)
     ·rw [hfail fun hp => hP (by
       obtain ⟨_, ⟨q1, q2, q3, q4, q5, q6, q7, _⟩, _⟩ := hp
       exact ⟨q1, q2, q3, q4, q5, q6, q7.imp id fun h => by rw [h]; rfl⟩)]
      repeat' (first | refine zA (zOc (ps.getD i default).name _ (by omega)) ?_ | simp -implicitDefEqProofs (disch := omega) only [h4, h5, h6, gB, zP, zBU, zBH, zBA, zA7, zAV, zXr, hN, zO, zT, zX, push_cast, simprocAttr, ↓reduceIte] | split)
      all_goals first | exact ⟨_, rfl⟩ | (exfalso; omega)
  ·have e : j = ps.length := by omega
   subst e
   rw [zB9.2 ⟨h8, hall⟩]
   repeat' (simp -implicitDefEqProofs (disch := omega) only [h1, h4, g1, zF, zXr, zT, push_cast, simprocAttr, ↓reduceIte])
   exact ⟨_, rfl⟩
 ·rw [zEl fun hv => h8 hv.1]
  repeat' (simp -implicitDefEqProofs (disch := omega) only [L13, zY, zXr, zO, push_cast, simprocAttr, ↓reduceIte, zXq])
  exact ⟨_, rfl⟩
theorem zQt (ps : List Pr) (hs : zB0 ps) (H : zC) : ∃ b, zAe 35 [.agg [zAM ps]] H (bool b) := by
 obtain ⟨hs1, hs2, hs3⟩ := hs
 by_cases hall : ∀ i, i < ps.length → (ps.getD i default).name.length ≤ 60 ∧ (ps.getD i default).outs.length ≤ 200
 ·refine ⟨decide (ps.length ≤ 20 ∧ zA3 ps ≤ 500), ACall.drop (R := fun x => x = bool (decide (ps.length ≤ 20 ∧ zA3 ps ≤ 500))) ?_⟩
  refine enter Tryz.func35 L35_ok (zXs rfl) ?_
  repeat' (simp -implicitDefEqProofs (disch := omega) only [L35, zY, push_cast, ↓reduceIte, Nat.reduceAdd, zXq])
  refine zAh (fun (j : Nat) e' H' => e' 1 = .ptr H.length 0 0 ∧ e' 3 = int (zA3 (ps.take j) : Nat) ∧ e' 4 = int j ∧ H' = H ++ [.box [zAM ps]] ∧ j ≤ ps.length) (fun j => ps.length - j) 0 ?_ ?_
  ·exact ⟨rfl, rfl, rfl, rfl, zXJ _⟩
  rintro j e' H' ⟨h1, h3, h4, rfl, hj⟩
  by_cases hlt : j < ps.length
  ·obtain ⟨m1, m2, m3⟩ := hs3 _ (zAq hlt)
   obtain ⟨n1, n2⟩ := hall j hlt
   have hsn := zBf hlt
   have hpt := zDN ps (j + 1)
   repeat' (first | refine zXx (by omega) ?_ | refine zA (zFr (ps.getD j default).body m3 _) ?_ | simp -implicitDefEqProofs (disch := omega) only [h1, h3, h4, zAD, zP, zBU, zAV, zA6, zXr, zO, zT, push_cast, simprocAttr, ↓reduceIte])
   exact .mk (j + 1) ⟨h1, zDS rfl (by omega), rfl, rfl, hlt⟩ (by omega)
  ·have e : j = ps.length := by omega
   subst e
   rw [zZb] at h3
   by_cases hc : ps.length ≤ 20
   ·by_cases hd : zA3 ps ≤ 500
    ·rw [zXU ⟨hc, hd⟩]
     repeat' (simp -implicitDefEqProofs (disch := omega) only [h1, h3, h4, zXr, zT, zAd, push_cast, simprocAttr, ↓reduceIte])
     exact ⟨_, rfl⟩
    ·rw [zX9 fun hh => hd hh.2]
     repeat' (simp -implicitDefEqProofs (disch := omega) only [h1, h3, h4, zXr, zT, zAd, zAn, push_cast, simprocAttr, ↓reduceIte])
     exact ⟨_, rfl⟩
   ·rw [zX9 fun hh => hc hh.1]
    repeat' (simp -implicitDefEqProofs (disch := omega) only [h1, h4, zXr, zT, zAn, push_cast, simprocAttr, ↓reduceIte])
    exact ⟨_, rfl⟩
 ·refine ⟨false, ACall.drop (R := fun x => x = bool false) ?_⟩
  refine enter Tryz.func35 L35_ok (zXs rfl) ?_
  repeat' (simp -implicitDefEqProofs (disch := omega) only [L35, zY, push_cast, ↓reduceIte, Nat.reduceAdd, zXq])
  refine zAh (fun (j : Nat) e' H' => e' 1 = .ptr H.length 0 0 ∧ e' 3 = int (zA3 (ps.take j) : Nat) ∧ e' 4 = int j ∧ H' = H ++ [.box [zAM ps]] ∧ j ≤ ps.length ∧ ∀ i, i < j → (ps.getD i default).name.length ≤ 60 ∧ (ps.getD i default).outs.length ≤ 200) (fun j => ps.length - j) 0 ?_ ?_
  ·exact ⟨rfl, rfl, rfl, rfl, zXJ _, fun i hi => by omega⟩
  rintro j e' H' ⟨h1, h3, h4, rfl, hj, hup⟩
  by_cases hlt : j < ps.length
  ·obtain ⟨m1, m2, m3⟩ := hs3 _ (zAq hlt)
   have hsn := zBf hlt
   have hpt := zDN ps (j + 1)
   by_cases hjn : (ps.getD j default).name.length ≤ 60 ∧ (ps.getD j default).outs.length ≤ 200
   ·repeat' (first | refine zXx (by omega) ?_ | refine zA (zFr (ps.getD j default).body m3 _) ?_ | simp -implicitDefEqProofs (disch := omega) only [h1, h3, h4, zAD, zP, zBU, zAV, zA6, zXr, zO, zT, push_cast, simprocAttr, ↓reduceIte])
    exact .mk (j + 1) ⟨h1, zDS rfl (by omega), rfl, rfl, hlt, zBu hup hjn⟩ (by omega)
   ·repeat' (first | refine zXx (by omega) ?_ | refine zA (zFr (ps.getD j default).body m3 _) ?_ | simp -implicitDefEqProofs (disch := omega) only [h1, h3, h4, zAD, zP, zBU, zAV, zA6, zXr, zO, zT, push_cast, simprocAttr, ↓reduceIte] | split)
    all_goals first | exact ⟨_, rfl⟩ | (exfalso; omega)
  ·have e : j = ps.length := by omega
   subst e
   exact absurd hup hall
noncomputable def zBC (ps : List Pr) (p L : Int) : AV :=
 if zCO ps = false then .tup [int 0, int 1] else if p < 0 ∨ ps.length ≤ p then .tup [int 0, int 7] else if L < 0 ∨ 8 < L then .tup [int 0, int 2] else .tup [int (zET ps p.toNat L), int 0]
theorem zPy (ps : List Pr) (hs : zB0 ps) (p L : Int) (H : zC) : zAe 23 [.agg [zAM ps], int p, int L] H (zBC ps p L) := by
 obtain ⟨hs1, hs2, hs3⟩ := hs
 have cV := fun H => zGO ps ⟨hs1, hs2, hs3⟩ H
 have hcl : ∀ x, x = zBC ps p L → x.cl = true := fun x hx => by subst hx; unfold zBC; split <;> (try split) <;> (try split) <;> simp [AV.cl, clL]
 refine ACall.drop (R := fun x => x = zBC ps p L) ?_
 refine enter Tryz.func23 L23_ok (zXs rfl) ?_
 cases hv : zCO ps with
 | false =>
  rw [hv] at cV
  have hA : zBC ps p L = .tup [int 0, int 1] := by unfold zBC; rw [if_pos hv]
  rw [hA]
  repeat' (first | refine zA (cV _) ?_ | simp -implicitDefEqProofs (disch := omega) only [L23, zY, push_cast, simprocAttr, ↓reduceIte, zXq])
  first | exact ⟨_, rfl⟩ | exact ⟨rfl, by simp [AV.cl, clL], _, rfl⟩
 | true =>
  rw [hv] at cV
  have hv2 := zB9.1 hv
  by_cases hp : p < 0 ∨ ps.length ≤ p
  ·have hA : zBC ps p L = .tup [int 0, int 7] := by unfold zBC; rw [if_neg (by simp [hv]), if_pos hp]
   rw [hA]
   rcases hp with hp | hp
   ·repeat' (first | refine zA (cV _) ?_ | simp -implicitDefEqProofs (disch := omega) only [L23, zY, zO, push_cast, simprocAttr, ↓reduceIte, zXq])
    first | exact ⟨_, rfl⟩ | exact ⟨rfl, by simp [AV.cl, clL], _, rfl⟩
   ·by_cases hp0 : p < 0
    ·omega
    ·repeat' (first | refine zA (cV _) ?_ | simp -implicitDefEqProofs (disch := omega) only [L23, zY, zXr, zT, zAd, push_cast, simprocAttr, ↓reduceIte, zXq])
     first | exact ⟨_, rfl⟩ | exact ⟨rfl, by simp [AV.cl, clL], _, rfl⟩
  ·by_cases hL : L < 0 ∨ 8 < L
   ·have hA : zBC ps p L = .tup [int 0, int 2] := by unfold zBC; rw [if_neg (by simp [hv]), if_neg hp, if_pos hL]
    rw [hA]
    rcases hL with hL | hL
    ·repeat' (first | refine zA (cV _) ?_ | simp -implicitDefEqProofs (disch := omega) only [L23, zY, zXr, zO, zT, zAn, push_cast, simprocAttr, ↓reduceIte, zXq])
     first | exact ⟨_, rfl⟩ | exact ⟨rfl, by simp [AV.cl, clL], _, rfl⟩
    ·by_cases hL0 : L < 0
     ·omega
     ·repeat' (first | refine zA (cV _) ?_ | simp -implicitDefEqProofs (disch := omega) only [L23, zY, zXr, zO, zT, zAn, push_cast, simprocAttr, ↓reduceIte, zXq])
      first | exact ⟨_, rfl⟩ | exact ⟨rfl, by simp [AV.cl, clL], _, rfl⟩
   ·have hA : zBC ps p L = .tup [int (zET ps p.toNat L), int 0] := by unfold zBC; rw [if_neg (by simp [hv]), if_neg hp, if_neg hL]
    rw [hA]
    have hlen8 := hv2.1
    have hL1 : 0 ≤ L ∧ L ≤ 8 := by omega
    have hp1 : 0 ≤ p ∧ p < ps.length := by omega
    repeat' (first | refine zA (cV _) ?_ | simp -implicitDefEqProofs (disch := omega) only [L23, zY, zXr, zT, zAn, push_cast, simprocAttr, ↓reduceIte, zXq])
    refine zAh (fun (st : Nat × Nat) e' H' => e' 1 = int p ∧ e' 2 = int L ∧ e' 3 = .ptr H.length 0 0 ∧ e' 8 = .os (H.length + 1) st.2 0 st.1 ∧ e' 9 = int st.1 ∧ H' = H ++ [.box [zAM ps], .arr st.2 1 ((zBi ps L st.1).map iR)] ∧ st.1 ≤ p.toNat + 1) (fun st => p.toNat + 1 - st.1) (0, 0) ?_ ?_
    ·exact ⟨rfl, rfl, rfl, rfl, rfl, rfl, by dsimp only; omega⟩
    rintro ⟨j, v⟩ e' H' ⟨h1, h2, h3, h8, h9, rfl, hj⟩
    simp only at h8 h9 hj
    have hcl := zDX ps L j
    have htk : ((zBi ps L j).map iR).take j = (zBi ps L j).map iR := zKn _ (by simp [hcl])
    by_cases hlt : j < p.toNat + 1
    ·obtain ⟨m1, m2, m3⟩ := hs3 _ (zAq (show j < ps.length by omega))
     have cc := zUH (zBi ps L j) L (zF6 ps hL1.1 hL1.2 j) hL1.1 hL1.2 (by omega) (ps.getD j default).body m3 (by rw [hcl]; exact zCD _ _ _ _ (hv2.2 j (by omega)).2.2.2.2) (H ++ [.box [zAM ps], .arr v 1 ((zBi ps L j).map iR)]) (H.length + 1) v (by simp [zAc])
     rw [hcl] at cc
     repeat' (first | refine zXx (by omega) ?_ | refine zA (cc) ?_ | simp -implicitDefEqProofs (disch := omega) only [h1, h2, h3, h8, h9, zAD, zP, zA6, zXr, hcl, htk, zAd, push_cast, simprocAttr, ↓reduceIte, zXq])
     refine .mk (j + 1, v + 1) ⟨h1, h2, h3, rfl, rfl, ?_, by dsimp only; omega⟩ (by dsimp only; omega)
     simp only [zBi, zYg, zYx, zZk, iR]
    ·have e : j = p.toNat + 1 := by omega
     subst e
     have hg : ((zBi ps L (p.toNat + 1)).map iR).getD p.toNat [] = [int (zET ps p.toNat L)] := by
      rw [zQ (by omega), zGM ps L (by omega)]; rfl
     repeat' (first | refine zXx (by omega) ?_ | simp -implicitDefEqProofs (disch := omega) only [h1, h8, h9, zXr, hcl, hg, zXF, zAn, push_cast, simprocAttr, ↓reduceIte, zXq])
     first | exact ⟨_, rfl⟩ | exact ⟨rfl, by simp [AV.cl, clL], _, rfl⟩
abbrev zEk : Value := .iface 185 (.agg #[])
theorem zMb (b : Bool) (H : zC) : ACallX Tryz.prog 127 [bool b] H (fun x H' => b = true ∧ H' = H) fun z H' => b = false ∧ z = zEk ∧ H' = H := by
 refine zBr Tryz.func127 L127_ok (zXs rfl) ?_
 cases b with
 | true =>
  repeat' (simp -implicitDefEqProofs (disch := omega) only [L127, push_cast, simprocAttr, ↓reduceIte])
  simp [zAO]
 | false =>
  repeat' (simp -implicitDefEqProofs (disch := omega) only [L127, rBuild, fillA, zJC, zHH, zYj, push_cast, ↓reduceIte, Nat.reduceAdd])
theorem zNU (q : Pr) (hs : q.outs.length ≤ 1048576) (H : zC) : zAe 179 [.agg (prR q)] H (int (zCw q)) := by
 refine ACall.drop (R := fun x => x = int (zCw q)) ?_
 refine enter Tryz.func179 L179_ok (zXs rfl) ?_
 unfold zCw
 by_cases h : 0 ≤ q.res
 ·rw [if_pos h]
  repeat' (simp -implicitDefEqProofs (disch := omega) only [L179, zY, prR, h, push_cast, simprocAttr, ↓reduceIte, zXq])
  exact ⟨_, rfl⟩
 ·rw [if_neg h]
  repeat' (simp -implicitDefEqProofs (disch := omega) only [L179, zY, prR, h, zXr, push_cast, simprocAttr, ↓reduceIte, zXq])
  exact ⟨_, rfl⟩
theorem zGi (h n c : Int) (hh : 0 ≤ h ∧ h ≤ 1024) (hc : -2048 ≤ c ∧ c ≤ 2048) (a : Nat) (G : zC) (hg : G[a]? = some (.box [int h])) :
  ACallX Tryz.prog 177 [int n, int c, .ptr a 0 0] G (fun _ G' => (n ≤ h ∧ h + c ≤ 1024) ∧ G' = G.set a (.box [int (h + c)])) fun z G' => z = zEk ∧ ¬ (n ≤ h ∧ h + c ≤ 1024) ∧ (G' = G ∨ G' = G.set a (.box [int (h + c)])) := by
 have ha := (zXA.1 hg).1
 refine zBr Tryz.func177 L177_ok (zXs rfl) ?_
 by_cases h1 : n ≤ h
 ·repeat' (simp -implicitDefEqProofs (disch := omega) only [L177, hg, zAd, push_cast, simprocAttr, ↓reduceIte])
  refine zJ (zMb _ _) ?_ ?_
  ·rintro x H' ⟨_, rfl⟩
   repeat' (simp -implicitDefEqProofs (disch := omega) only [hg, zI, splice, push_cast, simprocAttr, ↓reduceIte, zXq])
   refine zJ (zMb _ _) ?_ ?_
   ·rintro x H' ⟨hb, rfl⟩
    rw [zXB] at hb
    repeat' (simp -implicitDefEqProofs (disch := omega) only [zAd, push_cast])
    simp [zAO, L177, h1, hb]
   ·rintro x H' ⟨hb, rfl, rfl⟩
    rw [zXQ] at hb
    repeat' (simp -implicitDefEqProofs (disch := omega) only [zAn, push_cast])
    first | omega | exact fun hh => absurd hh.2 hb
  ·rintro x H' ⟨hb, _, _⟩
   cases hb
 ·repeat' (simp -implicitDefEqProofs (disch := omega) only [L177, hg, zAn, push_cast, simprocAttr, ↓reduceIte])
  refine zJ (zMb _ _) ?_ ?_
  ·rintro x H' ⟨hb, _⟩
   cases hb
  ·rintro x H' ⟨hb, rfl, rfl⟩
   repeat' (simp -implicitDefEqProofs (disch := omega) only [push_cast])
   first | omega | exact fun hh => absurd hh.1 h1
theorem zCi (s : Int) (q : Pr) (a : Nat) (G : zC) (hg : G[a]? = some (.box (prR q))) : ACall Tryz.prog 178 [int s, .ptr a 0 0] G fun x G' => x = bool (decide (0 ≤ s ∧ s < q.slots)) ∧ G' = G := by
 refine enter Tryz.func178 L178_ok (zXs rfl) ?_
 by_cases h1 : 0 ≤ s
 ·by_cases h2 : s < q.slots
  ·rw [zXU ⟨h1, h2⟩]
   repeat' (simp -implicitDefEqProofs (disch := omega) only [L178, hg, zBA, zP, zO, zAd, push_cast, simprocAttr, ↓reduceIte])
  ·rw [zX9 fun hh => h2 hh.2]
   repeat' (simp -implicitDefEqProofs (disch := omega) only [L178, hg, zBA, zP, zT, zAd, push_cast, simprocAttr, ↓reduceIte])
 ·rw [zX9 fun hh => h1 hh.1]
  repeat' (simp -implicitDefEqProofs (disch := omega) only [L178, zAn, push_cast, simprocAttr, ↓reduceIte])
structure Fr1 (r : Nat) (G G' : zC) : Prop where
 le : G.length ≤ G'.length
 keep : ∀ i, i < G.length → i ≠ r → G'[i]? = G[i]?
theorem Fr1.refl {r : Nat} {G : zC} : Fr1 r G G := ⟨zXL _, fun _ _ _ => rfl⟩
theorem Fr1.trans {r : Nat} {G G' G'' : zC} (h : Fr1 r G G') (h' : Fr1 r G' G'') : Fr1 r G G'' :=
 ⟨zX3 h.1 h'.1, fun i hi hne => (h'.2 i (zXN hi h.1) hne).trans (h.2 i hi hne)⟩
theorem Fr1.app {r : Nat} {G : zC} (ext : zC) : Fr1 r G (G ++ ext) := ⟨by simp, fun i hi _ => zB hi⟩
theorem Fr1.set {r : Nat} {G : zC} (x : HO) : Fr1 r G (G.set r x) := ⟨by simp, fun i hi hne => zH fun e => hne e.symm⟩
theorem Fr1.set' {r i : Nat} {G G' : zC} (h : Fr1 r G G') (hi : G.length ≤ i) (x : HO) : Fr1 r G (G'.set i x) :=
 ⟨by simpa using h.1, fun j hj hne => by rw [zH (by omega)]; exact h.2 j hj hne⟩
theorem zAS (l : List Ins) (j : Nat) : zAy (l.take j) ≤ zAy l := by
 have h := zDw (l.take j) (l.drop j)
 rw [zZd] at h
 omega
def zDy (ps : List Pr) (k : Nat) (l : List Ins) (out : Bool) (level c : Int) : Prop := (∃ e, zBl ps k l out 0 = some e) ∧ c + zM l ≤ 32768 ∧ level + zAy l ≤ 257
def zW5 (ps : List Pr) (k : Nat) (l : List Ins) : Prop := ∀ (out : Bool) (level c : Int) (G : zC) (r : Nat), G[r]? = some (.box [zAM ps, int k, int c]) → 0 ≤ c → c ≤ 32768 → 1 ≤ level → level ≤ 257 →
 ACallX Tryz.prog 131 [.ptr r 0 0, .sl 5 (l.map zAp), bool out, int level] G (fun x G' => ∃ e, x = int e ∧ zBl ps k l out 0 = some e ∧ c + zM l ≤ 32768 ∧ level + zAy l ≤ 257 ∧ Fr1 r G G' ∧ G'[r]? = some (.box [zAM ps, int k, int (c + zM l)]))
  fun z G' => z = zEk ∧ ¬ zDy ps k l out level c ∧ Fr1 r G G'
section
variable {ps : List Pr} {k : Nat} {o a b : Int} {bd el : List Ins} {out : Bool} {h n c h' : Int}
theorem zBB (h18 : ¬ o = 18) (h19 : ¬ o = 19) (he : zCo ps k o a out h = chg h n c) : zB1 ps k (.mk o a b bd el) out h = some h' ↔ zW (ps.getD k default).slots o a b (bd.isEmpty && el.isEmpty) ∧ n ≤ h ∧ h + c ≤ 1024 ∧ h' = h + c := by
 simp only [zB1]
 by_cases hf : zW (ps.getD k default).slots o a b (bd.isEmpty && el.isEmpty)
 ·rw [if_pos hf, if_neg h18, if_neg h19, he]
  constructor
  ·intro hh
   have := zAW hh
   exact ⟨hf, by omega, by omega, by omega⟩
  ·rintro ⟨_, h1, h2, rfl⟩
   exact zDj h1 h2
 ·rw [if_neg hf]
  constructor
  ·intro hh; cases hh
  ·intro hh; exact absurd hh.1 hf
theorem zCE : zB1 ps k (.mk 18 a b bd el) out h = some h' ↔ a = 0 ∧ b = 0 ∧ 1 ≤ h ∧ ∃ e, zBl ps k bd (out && decide (h = 1)) 0 = some e ∧ zBl ps k el (out && decide (h = 1)) 0 = some e ∧ h + (e - 1) ≤ 1024 ∧ h' = h + (e - 1) := by
 simp only [zB1, if_true]
 have hff : zW (ps.getD k default).slots 18 a b (bd.isEmpty && el.isEmpty) ↔ a = 0 ∧ b = 0 := by
  unfold zW
  constructor
  ·intro hh; omega
  ·intro hh
   refine ⟨?_, ?_, ?_, ?_, ?_, ?_, ?_, ?_⟩ <;> first | omega | (intro h1; omega)
 by_cases hf : a = 0 ∧ b = 0
 ·rw [if_pos (hff.2 hf)]
  by_cases h1 : 1 ≤ h
  ·rw [if_pos h1]
   cases e1 : zBl ps k bd (out && decide (h = 1)) 0 with
   | none => exact ⟨fun hh => (by cases hh), fun ⟨_, _, _, e, hh, _⟩ => (by cases hh)⟩
   | some y1 =>
    cases e2 : zBl ps k el (out && decide (h = 1)) 0 with
    | none => exact ⟨fun hh => (by cases hh), fun ⟨_, _, _, e, _, hh, _⟩ => (by cases hh)⟩
    | some y2 =>
     simp only
     by_cases hy : y1 = y2
     ·subst hy
      rw [if_pos rfl]
      constructor
      ·intro hh
       have := zAW hh
       exact ⟨hf.1, hf.2, h1, y1, rfl, rfl, by omega, by omega⟩
      ·rintro ⟨_, _, _, e, g1, _, g2, rfl⟩
       simp only [zXt] at g1
       subst g1
       exact zDj (by omega) g2
     ·rw [if_neg hy]
      exact ⟨fun hh => (by cases hh), fun ⟨_, _, _, e, g1, g2, _⟩ => by simp only [zXt] at g1 g2; omega⟩
  ·rw [if_neg h1]
   exact ⟨fun hh => (by cases hh), fun hh => absurd hh.2.2.1 h1⟩
 ·rw [if_neg fun hh => hf (hff.1 hh)]
  exact ⟨fun hh => (by cases hh), fun hh => absurd ⟨hh.1, hh.2.1⟩ hf⟩
theorem zGk : zB1 ps k (.mk 19 a b bd el) out h = some h' ↔ a = 0 ∧ b = 0 ∧ out = true ∧ h = 0 ∧ zBl ps k el false 0 = some 1 ∧ zBl ps k bd true 0 = some 0 ∧ h' = h := by
 simp only [zB1, show ¬ (19 : Int) = 18 by omega, if_true, if_false]
 have hff : zW (ps.getD k default).slots 19 a b (bd.isEmpty && el.isEmpty) ↔ a = 0 ∧ b = 0 := by
  unfold zW
  constructor
  ·intro hh; omega
  ·intro hh
   refine ⟨?_, ?_, ?_, ?_, ?_, ?_, ?_, ?_⟩ <;> first | omega | (intro h1; omega)
 by_cases hf : a = 0 ∧ b = 0
 ·rw [if_pos (hff.2 hf)]
  split
  ·rename_i hc
   simp only [zXt]
   exact ⟨fun hh => ⟨hf.1, hf.2, hc.1, hc.2.1, hc.2.2.1, hc.2.2.2, hh.symm⟩, fun hh => hh.2.2.2.2.2.2.symm⟩
  ·rename_i hc
   exact ⟨fun hh => (by cases hh), fun hh => absurd ⟨hh.2.2.1, hh.2.2.2.1, hh.2.2.2.2.1, hh.2.2.2.2.2.1⟩ hc⟩
 ·rw [if_neg fun hh => hf (hff.1 hh)]
  exact ⟨fun hh => (by cases hh), fun hh => absurd ⟨hh.1, hh.2.1⟩ hf⟩
theorem zMU : zB1 ps k (.mk 20 a b bd el) out h = some h' ↔ b = 0 ∧ (bd.length = 0 ∧ el.length = 0) ∧ (0 ≤ a ∧ a < k) ∧ (ps.getD a.toNat default).par ≤ h ∧ h + (zCw (ps.getD a.toNat default) - (ps.getD a.toNat default).par) ≤ 1024 ∧ h' = h + (zCw (ps.getD a.toNat default) - (ps.getD a.toNat default).par) := by
 simp only [zB1, show ¬ (20 : Int) = 18 by omega, show ¬ (20 : Int) = 19 by omega, if_true, if_false]
 have hff : zW (ps.getD k default).slots 20 a b (bd.isEmpty && el.isEmpty) ↔ b = 0 ∧ (bd.length = 0 ∧ el.length = 0) := by
  unfold zW
  rw [zAC, zXB]
  constructor
  ·intro hh; omega
  ·intro hh
   refine ⟨?_, ?_, ?_, ?_, ?_, ?_, ?_, ?_⟩ <;> first | omega | (intro h1; omega)
 have hes : zCo ps k 20 a out h = if 0 ≤ a ∧ a < k then chg h (ps.getD a.toNat default).par (zCw (ps.getD a.toNat default) - (ps.getD a.toNat default).par) else none := by
  unfold zCo
  rw [if_neg (by omega), if_neg (by omega), if_neg (by omega), if_neg (by omega), if_pos rfl]
 rw [hes]
 by_cases hf : b = 0 ∧ (bd.length = 0 ∧ el.length = 0)
 ·rw [if_pos (hff.2 hf)]
  split
  ·rename_i ha
   constructor
   ·intro hh
    have := zAW hh
    exact ⟨hf.1, hf.2, ha, by omega, by omega, by omega⟩
   ·rintro ⟨_, _, _, g1, g2, rfl⟩
    exact zDj g1 g2
  ·rename_i ha
   exact ⟨fun hh => (by cases hh), fun hh => absurd hh.2.2.1 ha⟩
 ·rw [if_neg fun hh => hf (hff.1 hh)]
  exact ⟨fun hh => (by cases hh), fun hh => absurd ⟨hh.1, hh.2.1⟩ hf⟩
theorem zUE : zB1 ps k (.mk 21 a b bd el) out h = some h' ↔ (a = 0 ∧ b = 0) ∧ (bd.length = 0 ∧ el.length = 0) ∧ out = true ∧ h = max (ps.getD k default).res 0 ∧ h' = 0 := by
 simp only [zB1, show ¬ (21 : Int) = 18 by omega, show ¬ (21 : Int) = 19 by omega, if_true, if_false]
 have hff : zW (ps.getD k default).slots 21 a b (bd.isEmpty && el.isEmpty) ↔ (a = 0 ∧ b = 0) ∧ (bd.length = 0 ∧ el.length = 0) := by
  unfold zW
  rw [zAC, zXB]
  constructor
  ·intro hh; omega
  ·intro hh
   refine ⟨?_, ?_, ?_, ?_, ?_, ?_, ?_, ?_⟩ <;> first | omega | (intro h1; omega)
 have hes : zCo ps k 21 a out h = if out = true ∧ h = max (ps.getD k default).res 0 then chg h 0 (-h) else none := by
  unfold zCo
  rw [if_neg (by omega), if_neg (by omega), if_neg (by omega), if_neg (by omega), if_neg (by omega), if_pos rfl]
 rw [hes]
 by_cases hf : (a = 0 ∧ b = 0) ∧ (bd.length = 0 ∧ el.length = 0)
 ·rw [if_pos (hff.2 hf)]
  split
  ·rename_i ha
   constructor
   ·intro hh
    have := zAW hh
    exact ⟨hf.1, hf.2, ha.1, ha.2, by omega⟩
   ·rintro ⟨_, _, _, g1, rfl⟩
    rw [zDj (by omega) (by omega)]
    congr 1; omega
  ·rename_i ha
   exact ⟨fun hh => (by cases hh), fun hh => absurd ⟨hh.2.2.1, hh.2.2.2.1⟩ ha⟩
 ·rw [if_neg fun hh => hf (hff.1 hh)]
  exact ⟨fun hh => (by cases hh), fun hh => absurd ⟨hh.1, hh.2.1⟩ hf⟩
end
section
variable {ps : List Pr} {k : Nat} {l : List Ins} {out : Bool} {level c : Int} {r : Nat} {G : zC}
structure EfI (ps : List Pr) (k : Nat) (l : List Ins) (out : Bool) (level c : Int) (r : Nat) (G : zC) (j : Nat) (h : Int) (e' : Env) (G' : zC) : Prop where
 e0 : e' 0 = .ptr r 0 0
 e2 : e' 2 = bool out
 e3 : e' 3 = int level
 e9 : e' 9 = .ptr G.length 0 0
 e10 : e' 10 = .ptr (G.length + 1) 0 0
 e11 : e' 11 = .fn (.func 177) [] [.ptr (G.length + 1) 0 0]
 e12 : e' 12 = .fn (.func 178) [] [.ptr G.length 0 0]
 e42 : e' 42 = .sl 5 (l.map zAp)
 e43 : e' 43 = int l.length
 e44 : e' 44 = int j
 gr : G'[r]? = some (.box [zAM ps, int k, int (c + zM (l.take j))])
 g9 : G'[G.length]? = some (.box (prR (ps.getD k default)))
 g10 : G'[G.length + 1]? = some (.box [int h])
 fr : Fr1 r G G'
 gl : G.length + 2 ≤ G'.length
 hj : j ≤ l.length
 hh : 0 ≤ h ∧ h ≤ 1024
 cc : c + zM (l.take j) ≤ 32768
 lv : level + zAy (l.take j) ≤ 257
 ef : zBl ps k l out 0 = zBl ps k (l.drop j) out h
theorem zBq {x : Ins} {j : Nat} (hlt : j < l.length) (hx : l.getD j default = x) {h : Int} (ef : zBl ps k l out 0 = zBl ps k (l.drop j) out h) (hn : (∀ h', ¬ zB1 ps k x out h = some h') ∨ 32768 < c + zM (l.take j) + zBs x ∨ 257 < level + zCz x) : ¬ zDy ps k l out level c := by
 rintro ⟨⟨e, he⟩, h2, h3⟩
 rw [ef, zAR ps k hlt, hx] at he
 have hb := zAl l (j + 1)
 rw [zAf hlt, hx] at hb
 have hb2 := zAS l (j + 1)
 rw [zAN hlt, hx] at hb2
 rcases hn with hn | hn | hn
 ·cases hI : zB1 ps k x out h with
  | none => rw [hI] at he; cases he
  | some h' => exact hn h' hI
 ·omega
 ·omega
end
theorem zAQ (H : zC) : ACall Tryz.prog 127 [bool true] H fun x H' => x = .tup [] ∧ H' = H := by
 refine enter Tryz.func127 L127_ok (zXs rfl) ?_
 repeat' (simp -implicitDefEqProofs (disch := omega) only [L127, push_cast, ↓reduceIte, Nat.reduceAdd])
 simp [zAO]
theorem zA9 (H : zC) : ACallX Tryz.prog 127 [bool false] H (fun _ _ => False) fun z H' => z = zEk ∧ H' = H :=
 (zMb false H).mono (fun _ _ h => by cases h.1) fun _ _ h => h.2
def MT (b : Bool) (H H' : zC) : Prop := b = true ∧ H' = H
def MF (b : Bool) (z : Value) (H H' : zC) : Prop := b = false ∧ z = zEk ∧ H' = H
def NT (h n c : Int) (a : Nat) (G G' : zC) : Prop := (n ≤ h ∧ h + c ≤ 1024) ∧ G' = G.set a (.box [int (h + c)])
def NF (h n c : Int) (a : Nat) (z : Value) (G G' : zC) : Prop := z = zEk ∧ ¬ (n ≤ h ∧ h + c ≤ 1024) ∧ (G' = G ∨ G' = G.set a (.box [int (h + c)]))
theorem zCT (b : Bool) (H : zC) : ACallX Tryz.prog 127 [bool b] H (fun x H' => MT b H H') fun z H' => MF b z H H' := zMb b H
theorem zCc (h n c : Int) (hh : 0 ≤ h ∧ h ≤ 1024) (hc : -2048 ≤ c ∧ c ≤ 2048) (a : Nat) (G : zC) (hg : G[a]? = some (.box [int h])) :
  ACallX Tryz.prog 177 [int n, int c, .ptr a 0 0] G (fun _ G' => NT h n c a G G') fun z G' => NF h n c a z G G' := zGi h n c hh hc a G hg
theorem zA2 {ps : List Pr} {k : Nat} {o a : Int} {out : Bool} {h : Int} : (o = 0 ∨ o = 1 → zCo ps k o a out h = chg h 0 1) ∧ (o = 2 ∨ o = 22 → zCo ps k o a out h = chg h 1 (-1)) ∧ (o = 3 ∨ o = 16 ∨ o = 17 → zCo ps k o a out h = chg h 1 0) ∧ (o = 4 → zCo ps k o a out h = chg h 2 (-2)) ∧ (5 ≤ o ∧ o ≤ 15 → zCo ps k o a out h = chg h 2 (-1)) := by
 unfold zCo
 refine ⟨fun ho => ?_, fun ho => ?_, fun ho => ?_, fun ho => ?_, fun ho => ?_⟩ <;> repeat (first | rw [if_pos (by omega)] | rw [if_neg (by omega)])
def zJy (ps : List Pr) (k : Nat) (l : List Ins) (out : Bool) (level c : Int) (r : Nat) (G : zC) (o : Int) : Prop := ∀ (j : Nat) (h : Int) (e' : Env) (G' : zC) (a b : Int) (bd el : List Ins), j < l.length → l.getD j default = .mk o a b bd el → zM l ≤ 1048576 → zW5 ps k bd → zW5 ps k el → r < G.length → 0 ≤ c → 1 ≤ level → level ≤ 256 → EfI ps k l out level c r G j h e' G' →
 zAj Tryz.prog [.code (L131.body.sub [1, 1, 1, 1, 1, 1, 0, 1, 0, 0]), .lp (Nx (fun (st : Nat × Int) e' H' => EfI ps k l out level c r G st.1 st.2 e' H') (fun st => l.length - st.1) (j, h)), .blk 0, .code (L131.body.sub [1, 1, 1, 1, 1, 1, 1])] (zI1 L131.res (fun x G' => ∃ e, x = int e ∧ zBl ps k l out 0 = some e ∧ c + zM l ≤ 32768 ∧ level + zAy l ≤ 257 ∧ Fr1 r G G' ∧ G'[r]? = some (.box [zAM ps, int k, int (c + zM l)])) fun z G' => z = zEk ∧ ¬ zDy ps k l out level c ∧ Fr1 r G G') .normal e' G'
set_option maxHeartbeats 8000000 in
theorem zWe (ps : List Pr) (k : Nat) (hk : k < ps.length) (hps : ps.length ≤ 1048576) (hp : zBZ ps k) (hh : zCk (ps.getD k default)) (l : List Ins) (out : Bool) (level c : Int) (r : Nat) (G : zC) : zJy ps k l out level c r G 0 := by
 intro j h e' G' a b bd el hlt hx hs hbd hel hrl hc0 hl0 hl1 ⟨e0, e2, e3, e9, e10, e11, e12, e42, e43, e44, gr, g9, g10, fr, gl, hj, hhh, cc, lv, ef⟩
 have hrow : (l.map zAp).getD j [] = [int 0, int a, int b, .sl 5 (bd.map zAp), .sl 5 (el.map zAp)] := by
  rw [zQ hlt, hx]; simp [zAp, zAI]
 have hrl' := zXN hrl fr.1
 have hb := zAl l (j + 1)
 have hb2 := zAS l (j + 1)
 have hsn := zAf hlt
 have hsl := zAN hlt
 rw [hx] at hsn hsl
 simp only [zBs, zCz] at hsn hsl
 have hbl := zR bd
 have hell := zR el
 have hbv := zAk bd
 have helv := zAk el
 obtain ⟨q1, q2, q3, q4, q5, q6, q7, q8⟩ := hh
 have ef0 := ef
 rw [zAR ps k hlt, hx] at ef
 have fA : ∀ B b, Fr1 r G (G'.set r B ++ [b]) := fun B b => (fr.trans (Fr1.set B)).trans (Fr1.app _)
 have fB : ∀ B b X, Fr1 r G ((G'.set r B).set (G.length + 1) X ++ [b]) := fun B b X => ((fr.trans (Fr1.set B)).set' (i := G.length + 1) (by omega) X).trans (Fr1.app _)
 have hng : ((∀ h', ¬ zB1 ps k (.mk 0 a b bd el) out h = some h') ∨ 32768 < c + zM (l.take j) + zBs (.mk 0 a b bd el) ∨ 257 < level + zCz (.mk 0 a b bd el)) → ¬ zDy ps k l out level c := zBq hlt hx ef0
 have hSr : ∀ B b, (G'.set r B ++ [b])[r]? = some B := fun B b => by rw [zB (by simpa using hrl'), zI hrl']
 have hS9 : ∀ B b, (G'.set r B ++ [b])[G.length]? = some (.box (prR (ps.getD k default))) := fun B b => by rw [zB (by rw [zXG]; omega), zH (by omega)]; exact g9
 have hS10 : ∀ B b, (G'.set r B ++ [b])[G.length + 1]? = some (.box [int h]) := fun B b => by rw [zB (by rw [zXG]; omega), zH (by omega)]; exact g10
 have hSx : ∀ B b, (G'.set r B ++ [b])[G'.length]? = some b := fun B b => by rw [zXz (by simp)]; simp
 have hTx : ∀ B b X, ((G'.set r B).set (G.length + 1) X ++ [b])[G'.length]? = some b := fun B b X => by rw [zXz (by simp)]; simp
 have hln := zR l
 have he : zCo ps k 0 a out h = chg h 0 1 := zA2.1 (by omega)
 have hes := fun h' => zBB (ps := ps) (k := k) (o := 0) (a := a) (b := b) (bd := bd) (el := el) (out := out) (h := h) (h' := h') (by omega) (by omega) he
 by_cases hcn : c + zM (l.take j) + 1 ≤ 32768
 ·cases hI : zB1 ps k (.mk 0 a b bd el) out h with
  | some h' =>
   obtain ⟨hf, f1, f2, rfl⟩ := (hes h').1 hI
   rw [hI] at ef
   have hf' := hf
   unfold zW at hf
   rw [zAC, zXB] at hf
   have hem : bd.length = 0 ∧ el.length = 0 := by omega
   have hz : zM bd = 0 ∧ zM el = 0 ∧ zAy bd = 0 ∧ zAy el = 0 := by
    rw [zXK.1 hem.1, zXK.1 hem.2]; exact ⟨rfl, rfl, rfl, rfl⟩
   have hd1 : 0 ≤ a ∧ a < (ps.getD k default).slots → decide (0 ≤ a ∧ a < (ps.getD k default).slots) = true := fun hh => zXU hh
   have hd2 : 0 ≤ a + b - 1 ∧ a + b - 1 < (ps.getD k default).slots → decide (0 ≤ a + b - 1 ∧ a + b - 1 < (ps.getD k default).slots) = true := fun hh => zXU hh
   repeat' (first | refine zXx (by omega) ?_ | refine zE (zAQ _) ?_ | simp -implicitDefEqProofs (disch := omega) only [e0, e11, e42, e43, e44, gr, hrow, zB, zG, splice, zXr, zY, hSr, hSx, L131, LCode.sub, zO, zAd, push_cast, simprocAttr, ↓reduceIte, zXq])
   refine zJ (zGi h 0 1 hhh (by omega) _ _ (hS10 _ _)) ?_ ?_
   ·rintro _ _ ⟨-, rfl⟩
    repeat' (first | refine zE (zAQ _) ?_ | simp -implicitDefEqProofs (disch := omega) only [e44, zU, zXr, hTx, zAi, push_cast, simprocAttr, ↓reduceIte])
    exact .mk (j + 1, h + 1) ⟨e0, e2, e3, e9, e10, e11, e12, e42, e43, rfl, by rw [zB (by simp; omega), zH (by omega), zI hrl', hsn]; simp only [hz, zYr, zXF]; push_cast; rw [zYP], by rw [zB (by simp; omega), zH (by omega), zH (by omega)]; exact g9, by rw [zB (by simp; omega), zI (by simp; omega)], fB _ _ _, by simp; omega, hlt, by dsimp only; omega, by dsimp only; rw [hsn]; omega, by dsimp only; rw [hsl]; omega, ef⟩ (by dsimp only; omega)
   ·rintro _ _ ⟨-, hn, -⟩
    exact absurd ⟨f1, f2⟩ hn
  | none =>
   have hn : ¬ (zW (ps.getD k default).slots 0 a b (bd.isEmpty && el.isEmpty) ∧ 0 ≤ h ∧ h + 1 ≤ 1024) := fun hh => by rw [(hes _).2 ⟨hh.1, hh.2.1, hh.2.2, rfl⟩] at hI; cases hI
   have ng := hng (.inl fun h' hh => by rw [hI] at hh; cases hh)
   unfold zW at hn
   rw [zAC, zXB] at hn
   repeat' (first | intro y0 H2 h0; obtain ⟨hb, rfl⟩ : MT _ _ H2 := h0; (try (exfalso; contradiction)); (try simp only [zXB] at hb) | intro z0 H2 h0; obtain ⟨hb, rfl, rfl⟩ : MF _ z0 _ H2 := h0; clear hb | intro y0 H2 h0; obtain ⟨hb, rfl⟩ : NT _ _ _ _ _ H2 := h0 | intro z0 H2 h0; obtain ⟨rfl, hb, rfl | rfl⟩ : NF _ _ _ _ z0 _ H2 := h0 | refine zXx (by omega) ?_ | refine zJ (zCT _ _) ?_ ?_ | refine zJ (zCc h 0 1 hhh (by omega) _ _ (hS10 _ _)) ?_ ?_ | simp -implicitDefEqProofs (disch := omega) only [e0, e11, e42, e43, e44, gr, hrow, zB, zG, zU, splice, zXr, zY, hSr, hSx, hTx, L131, LCode.sub, zO, zAd, zAn, zAi, zX, push_cast, simprocAttr, ↓reduceIte, zXq] | split)
   all_goals first | exact fA _ _ | exact fB _ _ _ | exact ⟨ng, fA _ _⟩ | exact ⟨rfl, ng, fA _ _⟩ | exact ⟨ng, fB _ _ _⟩ | exact ⟨rfl, ng, fB _ _ _⟩ | (exfalso; refine hn ⟨⟨?_, ?_, ?_, ?_, ?_, ?_, ?_, ?_⟩, ?_, ?_⟩ <;> first | omega | (intro h1; omega))
 ·repeat' (first | refine zXx (by omega) ?_ | refine zS (zA9 _) ?_ | simp -implicitDefEqProofs (disch := omega) only [e0, e42, e43, e44, gr, hrow, zB, zG, splice, zXr, zY, hSr, L131, LCode.sub, zO, zAn, push_cast, simprocAttr, ↓reduceIte, zXq])
  exact ⟨hng (.inr (.inl (by simp only [zBs]; omega))), fA _ _⟩
set_option maxHeartbeats 8000000 in
theorem zWd (ps : List Pr) (k : Nat) (hk : k < ps.length) (hps : ps.length ≤ 1048576) (hp : zBZ ps k) (hh : zCk (ps.getD k default)) (l : List Ins) (out : Bool) (level c : Int) (r : Nat) (G : zC) : zJy ps k l out level c r G 1 := by
 intro j h e' G' a b bd el hlt hx hs hbd hel hrl hc0 hl0 hl1 ⟨e0, e2, e3, e9, e10, e11, e12, e42, e43, e44, gr, g9, g10, fr, gl, hj, hhh, cc, lv, ef⟩
 have hrow : (l.map zAp).getD j [] = [int 1, int a, int b, .sl 5 (bd.map zAp), .sl 5 (el.map zAp)] := by
  rw [zQ hlt, hx]; simp [zAp, zAI]
 have hrl' := zXN hrl fr.1
 have hb := zAl l (j + 1)
 have hb2 := zAS l (j + 1)
 have hsn := zAf hlt
 have hsl := zAN hlt
 rw [hx] at hsn hsl
 simp only [zBs, zCz] at hsn hsl
 have hbl := zR bd
 have hell := zR el
 have hbv := zAk bd
 have helv := zAk el
 obtain ⟨q1, q2, q3, q4, q5, q6, q7, q8⟩ := hh
 have ef0 := ef
 rw [zAR ps k hlt, hx] at ef
 have fA : ∀ B b, Fr1 r G (G'.set r B ++ [b]) := fun B b => (fr.trans (Fr1.set B)).trans (Fr1.app _)
 have fB : ∀ B b X, Fr1 r G ((G'.set r B).set (G.length + 1) X ++ [b]) := fun B b X => ((fr.trans (Fr1.set B)).set' (i := G.length + 1) (by omega) X).trans (Fr1.app _)
 have hng : ((∀ h', ¬ zB1 ps k (.mk 1 a b bd el) out h = some h') ∨ 32768 < c + zM (l.take j) + zBs (.mk 1 a b bd el) ∨ 257 < level + zCz (.mk 1 a b bd el)) → ¬ zDy ps k l out level c := zBq hlt hx ef0
 have hSr : ∀ B b, (G'.set r B ++ [b])[r]? = some B := fun B b => by rw [zB (by simpa using hrl'), zI hrl']
 have hS9 : ∀ B b, (G'.set r B ++ [b])[G.length]? = some (.box (prR (ps.getD k default))) := fun B b => by rw [zB (by rw [zXG]; omega), zH (by omega)]; exact g9
 have hS10 : ∀ B b, (G'.set r B ++ [b])[G.length + 1]? = some (.box [int h]) := fun B b => by rw [zB (by rw [zXG]; omega), zH (by omega)]; exact g10
 have hSx : ∀ B b, (G'.set r B ++ [b])[G'.length]? = some b := fun B b => by rw [zXz (by simp)]; simp
 have hTx : ∀ B b X, ((G'.set r B).set (G.length + 1) X ++ [b])[G'.length]? = some b := fun B b X => by rw [zXz (by simp)]; simp
 have hln := zR l
 have he : zCo ps k 1 a out h = chg h 0 1 := zA2.1 (by omega)
 have hes := fun h' => zBB (ps := ps) (k := k) (o := 1) (a := a) (b := b) (bd := bd) (el := el) (out := out) (h := h) (h' := h') (by omega) (by omega) he
 by_cases hcn : c + zM (l.take j) + 1 ≤ 32768
 ·cases hI : zB1 ps k (.mk 1 a b bd el) out h with
  | some h' =>
   obtain ⟨hf, f1, f2, rfl⟩ := (hes h').1 hI
   rw [hI] at ef
   have hf' := hf
   unfold zW at hf
   rw [zAC, zXB] at hf
   have hem : bd.length = 0 ∧ el.length = 0 := by omega
   have hz : zM bd = 0 ∧ zM el = 0 ∧ zAy bd = 0 ∧ zAy el = 0 := by
    rw [zXK.1 hem.1, zXK.1 hem.2]; exact ⟨rfl, rfl, rfl, rfl⟩
   have hd1 : 0 ≤ a ∧ a < (ps.getD k default).slots → decide (0 ≤ a ∧ a < (ps.getD k default).slots) = true := fun hh => zXU hh
   have hd2 : 0 ≤ a + b - 1 ∧ a + b - 1 < (ps.getD k default).slots → decide (0 ≤ a + b - 1 ∧ a + b - 1 < (ps.getD k default).slots) = true := fun hh => zXU hh
   have hd := hd1 (by omega)
   repeat' (first | refine zXx (by omega) ?_ | refine zE (zAQ _) ?_ | refine zE (zCi a (ps.getD k default) G.length _ (hS9 _ _)) ?_ | simp -implicitDefEqProofs (disch := omega) only [e0, e11, e12, e42, e43, e44, gr, hrow, zB, zG, splice, zXr, zY, hSr, hSx, L131, LCode.sub, hd, zO, zAd, push_cast, simprocAttr, ↓reduceIte, zXq])
   refine zJ (zGi h 0 1 hhh (by omega) _ _ (hS10 _ _)) ?_ ?_
   ·rintro _ _ ⟨-, rfl⟩
    repeat' (first | refine zE (zAQ _) ?_ | simp -implicitDefEqProofs (disch := omega) only [e44, zU, zXr, hTx, zAi, push_cast, simprocAttr, ↓reduceIte])
    exact .mk (j + 1, h + 1) ⟨e0, e2, e3, e9, e10, e11, e12, e42, e43, rfl, by rw [zB (by simp; omega), zH (by omega), zI hrl', hsn]; simp only [hz, zYr, zXF]; push_cast; rw [zYP], by rw [zB (by simp; omega), zH (by omega), zH (by omega)]; exact g9, by rw [zB (by simp; omega), zI (by simp; omega)], fB _ _ _, by simp; omega, hlt, by dsimp only; omega, by dsimp only; rw [hsn]; omega, by dsimp only; rw [hsl]; omega, ef⟩ (by dsimp only; omega)
   ·rintro _ _ ⟨-, hn, -⟩
    exact absurd ⟨f1, f2⟩ hn
  | none =>
   have hn : ¬ (zW (ps.getD k default).slots 1 a b (bd.isEmpty && el.isEmpty) ∧ 0 ≤ h ∧ h + 1 ≤ 1024) := fun hh => by rw [(hes _).2 ⟨hh.1, hh.2.1, hh.2.2, rfl⟩] at hI; cases hI
   have ng := hng (.inl fun h' hh => by rw [hI] at hh; cases hh)
   unfold zW at hn
   rw [zAC, zXB] at hn
   repeat' (first | intro y0 H2 h0; obtain ⟨hb, rfl⟩ : MT _ _ H2 := h0; (try (exfalso; contradiction)); (try simp only [zXB] at hb) | intro z0 H2 h0; obtain ⟨hb, rfl, rfl⟩ : MF _ z0 _ H2 := h0; clear hb | intro y0 H2 h0; obtain ⟨hb, rfl⟩ : NT _ _ _ _ _ H2 := h0 | intro z0 H2 h0; obtain ⟨rfl, hb, rfl | rfl⟩ : NF _ _ _ _ z0 _ H2 := h0 | refine zXx (by omega) ?_ | refine zE (zCi a (ps.getD k default) G.length _ (hS9 _ _)) ?_ | refine zJ (zCT _ _) ?_ ?_ | refine zJ (zCc h 0 1 hhh (by omega) _ _ (hS10 _ _)) ?_ ?_ | simp -implicitDefEqProofs (disch := omega) only [e0, e11, e12, e42, e43, e44, gr, hrow, zB, zG, zU, splice, zXr, zY, hSr, hSx, hTx, L131, LCode.sub, zO, zAd, zAi, zX, push_cast, simprocAttr, ↓reduceIte, zXq] | split)
   all_goals first | exact fA _ _ | exact fB _ _ _ | exact ⟨ng, fA _ _⟩ | exact ⟨rfl, ng, fA _ _⟩ | exact ⟨ng, fB _ _ _⟩ | exact ⟨rfl, ng, fB _ _ _⟩ | (exfalso; refine hn ⟨⟨?_, ?_, ?_, ?_, ?_, ?_, ?_, ?_⟩, ?_, ?_⟩ <;> first | omega | (intro h1; omega))
 ·repeat' (first | refine zXx (by omega) ?_ | refine zS (zA9 _) ?_ | simp -implicitDefEqProofs (disch := omega) only [e0, e42, e43, e44, gr, hrow, zB, zG, splice, zXr, zY, hSr, L131, LCode.sub, zO, zAn, push_cast, simprocAttr, ↓reduceIte, zXq])
  exact ⟨hng (.inr (.inl (by simp only [zBs]; omega))), fA _ _⟩
set_option maxHeartbeats 8000000 in
theorem zWc (ps : List Pr) (k : Nat) (hk : k < ps.length) (hps : ps.length ≤ 1048576) (hp : zBZ ps k) (hh : zCk (ps.getD k default)) (l : List Ins) (out : Bool) (level c : Int) (r : Nat) (G : zC) : zJy ps k l out level c r G 2 := by
 intro j h e' G' a b bd el hlt hx hs hbd hel hrl hc0 hl0 hl1 ⟨e0, e2, e3, e9, e10, e11, e12, e42, e43, e44, gr, g9, g10, fr, gl, hj, hhh, cc, lv, ef⟩
 have hrow : (l.map zAp).getD j [] = [int 2, int a, int b, .sl 5 (bd.map zAp), .sl 5 (el.map zAp)] := by
  rw [zQ hlt, hx]; simp [zAp, zAI]
 have hrl' := zXN hrl fr.1
 have hb := zAl l (j + 1)
 have hb2 := zAS l (j + 1)
 have hsn := zAf hlt
 have hsl := zAN hlt
 rw [hx] at hsn hsl
 simp only [zBs, zCz] at hsn hsl
 have hbl := zR bd
 have hell := zR el
 have hbv := zAk bd
 have helv := zAk el
 obtain ⟨q1, q2, q3, q4, q5, q6, q7, q8⟩ := hh
 have ef0 := ef
 rw [zAR ps k hlt, hx] at ef
 have fA : ∀ B b, Fr1 r G (G'.set r B ++ [b]) := fun B b => (fr.trans (Fr1.set B)).trans (Fr1.app _)
 have fB : ∀ B b X, Fr1 r G ((G'.set r B).set (G.length + 1) X ++ [b]) := fun B b X => ((fr.trans (Fr1.set B)).set' (i := G.length + 1) (by omega) X).trans (Fr1.app _)
 have hng : ((∀ h', ¬ zB1 ps k (.mk 2 a b bd el) out h = some h') ∨ 32768 < c + zM (l.take j) + zBs (.mk 2 a b bd el) ∨ 257 < level + zCz (.mk 2 a b bd el)) → ¬ zDy ps k l out level c := zBq hlt hx ef0
 have hSr : ∀ B b, (G'.set r B ++ [b])[r]? = some B := fun B b => by rw [zB (by simpa using hrl'), zI hrl']
 have hS9 : ∀ B b, (G'.set r B ++ [b])[G.length]? = some (.box (prR (ps.getD k default))) := fun B b => by rw [zB (by rw [zXG]; omega), zH (by omega)]; exact g9
 have hS10 : ∀ B b, (G'.set r B ++ [b])[G.length + 1]? = some (.box [int h]) := fun B b => by rw [zB (by rw [zXG]; omega), zH (by omega)]; exact g10
 have hSx : ∀ B b, (G'.set r B ++ [b])[G'.length]? = some b := fun B b => by rw [zXz (by simp)]; simp
 have hTx : ∀ B b X, ((G'.set r B).set (G.length + 1) X ++ [b])[G'.length]? = some b := fun B b X => by rw [zXz (by simp)]; simp
 have hln := zR l
 have he : zCo ps k 2 a out h = chg h 1 (-1) := zA2.2.1 (by omega)
 have hes := fun h' => zBB (ps := ps) (k := k) (o := 2) (a := a) (b := b) (bd := bd) (el := el) (out := out) (h := h) (h' := h') (by omega) (by omega) he
 by_cases hcn : c + zM (l.take j) + 1 ≤ 32768
 ·cases hI : zB1 ps k (.mk 2 a b bd el) out h with
  | some h' =>
   obtain ⟨hf, f1, f2, rfl⟩ := (hes h').1 hI
   rw [hI] at ef
   have hf' := hf
   unfold zW at hf
   rw [zAC, zXB] at hf
   have hem : bd.length = 0 ∧ el.length = 0 := by omega
   have hz : zM bd = 0 ∧ zM el = 0 ∧ zAy bd = 0 ∧ zAy el = 0 := by
    rw [zXK.1 hem.1, zXK.1 hem.2]; exact ⟨rfl, rfl, rfl, rfl⟩
   have hd1 : 0 ≤ a ∧ a < (ps.getD k default).slots → decide (0 ≤ a ∧ a < (ps.getD k default).slots) = true := fun hh => zXU hh
   have hd2 : 0 ≤ a + b - 1 ∧ a + b - 1 < (ps.getD k default).slots → decide (0 ≤ a + b - 1 ∧ a + b - 1 < (ps.getD k default).slots) = true := fun hh => zXU hh
   have hd := hd1 (by omega)
   repeat' (first | refine zXx (by omega) ?_ | refine zE (zAQ _) ?_ | refine zE (zCi a (ps.getD k default) G.length _ (hS9 _ _)) ?_ | simp -implicitDefEqProofs (disch := omega) only [e0, e11, e12, e42, e43, e44, gr, hrow, zB, zG, splice, zXr, zY, hSr, hSx, L131, LCode.sub, hd, zO, zAd, push_cast, simprocAttr, ↓reduceIte, zXq])
   refine zJ (zGi h 1 (-1) hhh (by omega) _ _ (hS10 _ _)) ?_ ?_
   ·rintro _ _ ⟨-, rfl⟩
    repeat' (first | refine zE (zAQ _) ?_ | simp -implicitDefEqProofs (disch := omega) only [e44, zU, zXr, hTx, zAi, push_cast, simprocAttr, ↓reduceIte])
    exact .mk (j + 1, h + (-1)) ⟨e0, e2, e3, e9, e10, e11, e12, e42, e43, rfl, by rw [zB (by simp; omega), zH (by omega), zI hrl', hsn]; simp only [hz, zYr, zXF]; push_cast; rw [zYP], by rw [zB (by simp; omega), zH (by omega), zH (by omega)]; exact g9, by rw [zB (by simp; omega), zI (by simp; omega)], fB _ _ _, by simp; omega, hlt, by dsimp only; omega, by dsimp only; rw [hsn]; omega, by dsimp only; rw [hsl]; omega, ef⟩ (by dsimp only; omega)
   ·rintro _ _ ⟨-, hn, -⟩
    exact absurd ⟨f1, f2⟩ hn
  | none =>
   have hn : ¬ (zW (ps.getD k default).slots 2 a b (bd.isEmpty && el.isEmpty) ∧ 1 ≤ h ∧ h + (-1) ≤ 1024) := fun hh => by rw [(hes _).2 ⟨hh.1, hh.2.1, hh.2.2, rfl⟩] at hI; cases hI
   have ng := hng (.inl fun h' hh => by rw [hI] at hh; cases hh)
   unfold zW at hn
   rw [zAC, zXB] at hn
   repeat' (first | intro y0 H2 h0; obtain ⟨hb, rfl⟩ : MT _ _ H2 := h0; (try (exfalso; contradiction)); (try simp only [zXB] at hb) | intro z0 H2 h0; obtain ⟨hb, rfl, rfl⟩ : MF _ z0 _ H2 := h0; clear hb | intro y0 H2 h0; obtain ⟨hb, rfl⟩ : NT _ _ _ _ _ H2 := h0 | intro z0 H2 h0; obtain ⟨rfl, hb, rfl | rfl⟩ : NF _ _ _ _ z0 _ H2 := h0 | refine zXx (by omega) ?_ | refine zE (zCi a (ps.getD k default) G.length _ (hS9 _ _)) ?_ | refine zJ (zCT _ _) ?_ ?_ | refine zJ (zCc h 1 (-1) hhh (by omega) _ _ (hS10 _ _)) ?_ ?_ | simp -implicitDefEqProofs (disch := omega) only [e0, e11, e12, e42, e43, e44, gr, hrow, zB, zG, zU, splice, zXr, zY, hSr, hSx, hTx, L131, LCode.sub, zO, zAd, zAi, zX, push_cast, simprocAttr, ↓reduceIte, zXq] | split)
   all_goals first | exact fA _ _ | exact fB _ _ _ | exact ⟨ng, fA _ _⟩ | exact ⟨rfl, ng, fA _ _⟩ | exact ⟨ng, fB _ _ _⟩ | exact ⟨rfl, ng, fB _ _ _⟩ | (exfalso; refine hn ⟨⟨?_, ?_, ?_, ?_, ?_, ?_, ?_, ?_⟩, ?_, ?_⟩ <;> first | omega | (intro h1; omega))
 ·repeat' (first | refine zXx (by omega) ?_ | refine zS (zA9 _) ?_ | simp -implicitDefEqProofs (disch := omega) only [e0, e42, e43, e44, gr, hrow, zB, zG, splice, zXr, zY, hSr, L131, LCode.sub, zO, zAn, push_cast, simprocAttr, ↓reduceIte, zXq])
  exact ⟨hng (.inr (.inl (by simp only [zBs]; omega))), fA _ _⟩
set_option maxHeartbeats 8000000 in
theorem zS1 (ps : List Pr) (k : Nat) (hk : k < ps.length) (hps : ps.length ≤ 1048576) (hp : zBZ ps k) (hh : zCk (ps.getD k default)) (l : List Ins) (out : Bool) (level c : Int) (r : Nat) (G : zC) : zJy ps k l out level c r G 22 := by
 intro j h e' G' a b bd el hlt hx hs hbd hel hrl hc0 hl0 hl1 ⟨e0, e2, e3, e9, e10, e11, e12, e42, e43, e44, gr, g9, g10, fr, gl, hj, hhh, cc, lv, ef⟩
 have hrow : (l.map zAp).getD j [] = [int 22, int a, int b, .sl 5 (bd.map zAp), .sl 5 (el.map zAp)] := by
  rw [zQ hlt, hx]; simp [zAp, zAI]
 have hrl' := zXN hrl fr.1
 have hb := zAl l (j + 1)
 have hb2 := zAS l (j + 1)
 have hsn := zAf hlt
 have hsl := zAN hlt
 rw [hx] at hsn hsl
 simp only [zBs, zCz] at hsn hsl
 have hbl := zR bd
 have hell := zR el
 have hbv := zAk bd
 have helv := zAk el
 obtain ⟨q1, q2, q3, q4, q5, q6, q7, q8⟩ := hh
 have ef0 := ef
 rw [zAR ps k hlt, hx] at ef
 have fA : ∀ B b, Fr1 r G (G'.set r B ++ [b]) := fun B b => (fr.trans (Fr1.set B)).trans (Fr1.app _)
 have fB : ∀ B b X, Fr1 r G ((G'.set r B).set (G.length + 1) X ++ [b]) := fun B b X => ((fr.trans (Fr1.set B)).set' (i := G.length + 1) (by omega) X).trans (Fr1.app _)
 have hng : ((∀ h', ¬ zB1 ps k (.mk 22 a b bd el) out h = some h') ∨ 32768 < c + zM (l.take j) + zBs (.mk 22 a b bd el) ∨ 257 < level + zCz (.mk 22 a b bd el)) → ¬ zDy ps k l out level c := zBq hlt hx ef0
 have hSr : ∀ B b, (G'.set r B ++ [b])[r]? = some B := fun B b => by rw [zB (by simpa using hrl'), zI hrl']
 have hS9 : ∀ B b, (G'.set r B ++ [b])[G.length]? = some (.box (prR (ps.getD k default))) := fun B b => by rw [zB (by rw [zXG]; omega), zH (by omega)]; exact g9
 have hS10 : ∀ B b, (G'.set r B ++ [b])[G.length + 1]? = some (.box [int h]) := fun B b => by rw [zB (by rw [zXG]; omega), zH (by omega)]; exact g10
 have hSx : ∀ B b, (G'.set r B ++ [b])[G'.length]? = some b := fun B b => by rw [zXz (by simp)]; simp
 have hTx : ∀ B b X, ((G'.set r B).set (G.length + 1) X ++ [b])[G'.length]? = some b := fun B b X => by rw [zXz (by simp)]; simp
 have hln := zR l
 have he : zCo ps k 22 a out h = chg h 1 (-1) := zA2.2.1 (by omega)
 have hes := fun h' => zBB (ps := ps) (k := k) (o := 22) (a := a) (b := b) (bd := bd) (el := el) (out := out) (h := h) (h' := h') (by omega) (by omega) he
 by_cases hcn : c + zM (l.take j) + 1 ≤ 32768
 ·cases hI : zB1 ps k (.mk 22 a b bd el) out h with
  | some h' =>
   obtain ⟨hf, f1, f2, rfl⟩ := (hes h').1 hI
   rw [hI] at ef
   have hf' := hf
   unfold zW at hf
   rw [zAC, zXB] at hf
   have hem : bd.length = 0 ∧ el.length = 0 := by omega
   have hz : zM bd = 0 ∧ zM el = 0 ∧ zAy bd = 0 ∧ zAy el = 0 := by
    rw [zXK.1 hem.1, zXK.1 hem.2]; exact ⟨rfl, rfl, rfl, rfl⟩
   have hd1 : 0 ≤ a ∧ a < (ps.getD k default).slots → decide (0 ≤ a ∧ a < (ps.getD k default).slots) = true := fun hh => zXU hh
   have hd2 : 0 ≤ a + b - 1 ∧ a + b - 1 < (ps.getD k default).slots → decide (0 ≤ a + b - 1 ∧ a + b - 1 < (ps.getD k default).slots) = true := fun hh => zXU hh
   repeat' (first | refine zXx (by omega) ?_ | refine zE (zAQ _) ?_ | simp -implicitDefEqProofs (disch := omega) only [e0, e11, e42, e43, e44, gr, hrow, zB, zG, splice, zXr, zY, hSr, hSx, L131, LCode.sub, zO, zAd, push_cast, simprocAttr, ↓reduceIte, zXq])
   refine zJ (zGi h 1 (-1) hhh (by omega) _ _ (hS10 _ _)) ?_ ?_
   ·rintro _ _ ⟨-, rfl⟩
    repeat' (first | refine zE (zAQ _) ?_ | simp -implicitDefEqProofs (disch := omega) only [e44, zU, zXr, hTx, zAi, push_cast, simprocAttr, ↓reduceIte])
    exact .mk (j + 1, h + (-1)) ⟨e0, e2, e3, e9, e10, e11, e12, e42, e43, rfl, by rw [zB (by simp; omega), zH (by omega), zI hrl', hsn]; simp only [hz, zYr, zXF]; push_cast; rw [zYP], by rw [zB (by simp; omega), zH (by omega), zH (by omega)]; exact g9, by rw [zB (by simp; omega), zI (by simp; omega)], fB _ _ _, by simp; omega, hlt, by dsimp only; omega, by dsimp only; rw [hsn]; omega, by dsimp only; rw [hsl]; omega, ef⟩ (by dsimp only; omega)
   ·rintro _ _ ⟨-, hn, -⟩
    exact absurd ⟨f1, f2⟩ hn
  | none =>
   have hn : ¬ (zW (ps.getD k default).slots 22 a b (bd.isEmpty && el.isEmpty) ∧ 1 ≤ h ∧ h + (-1) ≤ 1024) := fun hh => by rw [(hes _).2 ⟨hh.1, hh.2.1, hh.2.2, rfl⟩] at hI; cases hI
   have ng := hng (.inl fun h' hh => by rw [hI] at hh; cases hh)
   unfold zW at hn
   rw [zAC, zXB] at hn
   repeat' (first | intro y0 H2 h0; obtain ⟨hb, rfl⟩ : MT _ _ H2 := h0; (try (exfalso; contradiction)); (try simp only [] at hb) | intro z0 H2 h0; obtain ⟨hb, rfl, rfl⟩ : MF _ z0 _ H2 := h0; clear hb | intro y0 H2 h0; obtain ⟨hb, rfl⟩ : NT _ _ _ _ _ H2 := h0 | intro z0 H2 h0; obtain ⟨rfl, hb, rfl | rfl⟩ : NF _ _ _ _ z0 _ H2 := h0 | refine zXx (by omega) ?_ | refine zJ (zCT _ _) ?_ ?_ | refine zJ (zCc h 1 (-1) hhh (by omega) _ _ (hS10 _ _)) ?_ ?_ | simp -implicitDefEqProofs (disch := omega) only [e0, e11, e42, e43, e44, gr, hrow, zB, zG, zU, splice, zXr, zY, hSr, hSx, hTx, L131, LCode.sub, zO, zAd, zAi, zX, push_cast, simprocAttr, ↓reduceIte, zXq] | split)
   all_goals first | exact fA _ _ | exact fB _ _ _ | exact ⟨ng, fA _ _⟩ | exact ⟨rfl, ng, fA _ _⟩ | exact ⟨ng, fB _ _ _⟩ | exact ⟨rfl, ng, fB _ _ _⟩ | (exfalso; refine hn ⟨⟨?_, ?_, ?_, ?_, ?_, ?_, ?_, ?_⟩, ?_, ?_⟩ <;> first | omega | (intro h1; omega))
 ·repeat' (first | refine zXx (by omega) ?_ | refine zS (zA9 _) ?_ | simp -implicitDefEqProofs (disch := omega) only [e0, e42, e43, e44, gr, hrow, zB, zG, splice, zXr, zY, hSr, L131, LCode.sub, zO, zAn, push_cast, simprocAttr, ↓reduceIte, zXq])
  exact ⟨hng (.inr (.inl (by simp only [zBs]; omega))), fA _ _⟩
set_option maxHeartbeats 8000000 in
theorem zWb (ps : List Pr) (k : Nat) (hk : k < ps.length) (hps : ps.length ≤ 1048576) (hp : zBZ ps k) (hh : zCk (ps.getD k default)) (l : List Ins) (out : Bool) (level c : Int) (r : Nat) (G : zC) : zJy ps k l out level c r G 3 := by
 intro j h e' G' a b bd el hlt hx hs hbd hel hrl hc0 hl0 hl1 ⟨e0, e2, e3, e9, e10, e11, e12, e42, e43, e44, gr, g9, g10, fr, gl, hj, hhh, cc, lv, ef⟩
 have hrow : (l.map zAp).getD j [] = [int 3, int a, int b, .sl 5 (bd.map zAp), .sl 5 (el.map zAp)] := by
  rw [zQ hlt, hx]; simp [zAp, zAI]
 have hrl' := zXN hrl fr.1
 have hb := zAl l (j + 1)
 have hb2 := zAS l (j + 1)
 have hsn := zAf hlt
 have hsl := zAN hlt
 rw [hx] at hsn hsl
 simp only [zBs, zCz] at hsn hsl
 have hbl := zR bd
 have hell := zR el
 have hbv := zAk bd
 have helv := zAk el
 obtain ⟨q1, q2, q3, q4, q5, q6, q7, q8⟩ := hh
 have ef0 := ef
 rw [zAR ps k hlt, hx] at ef
 have fA : ∀ B b, Fr1 r G (G'.set r B ++ [b]) := fun B b => (fr.trans (Fr1.set B)).trans (Fr1.app _)
 have fB : ∀ B b X, Fr1 r G ((G'.set r B).set (G.length + 1) X ++ [b]) := fun B b X => ((fr.trans (Fr1.set B)).set' (i := G.length + 1) (by omega) X).trans (Fr1.app _)
 have hng : ((∀ h', ¬ zB1 ps k (.mk 3 a b bd el) out h = some h') ∨ 32768 < c + zM (l.take j) + zBs (.mk 3 a b bd el) ∨ 257 < level + zCz (.mk 3 a b bd el)) → ¬ zDy ps k l out level c := zBq hlt hx ef0
 have hSr : ∀ B b, (G'.set r B ++ [b])[r]? = some B := fun B b => by rw [zB (by simpa using hrl'), zI hrl']
 have hS9 : ∀ B b, (G'.set r B ++ [b])[G.length]? = some (.box (prR (ps.getD k default))) := fun B b => by rw [zB (by rw [zXG]; omega), zH (by omega)]; exact g9
 have hS10 : ∀ B b, (G'.set r B ++ [b])[G.length + 1]? = some (.box [int h]) := fun B b => by rw [zB (by rw [zXG]; omega), zH (by omega)]; exact g10
 have hSx : ∀ B b, (G'.set r B ++ [b])[G'.length]? = some b := fun B b => by rw [zXz (by simp)]; simp
 have hTx : ∀ B b X, ((G'.set r B).set (G.length + 1) X ++ [b])[G'.length]? = some b := fun B b X => by rw [zXz (by simp)]; simp
 have hln := zR l
 have he : zCo ps k 3 a out h = chg h 1 0 := zA2.2.2.1 (by omega)
 have hes := fun h' => zBB (ps := ps) (k := k) (o := 3) (a := a) (b := b) (bd := bd) (el := el) (out := out) (h := h) (h' := h') (by omega) (by omega) he
 by_cases hcn : c + zM (l.take j) + 1 ≤ 32768
 ·cases hI : zB1 ps k (.mk 3 a b bd el) out h with
  | some h' =>
   obtain ⟨hf, f1, f2, rfl⟩ := (hes h').1 hI
   rw [hI] at ef
   have hf' := hf
   unfold zW at hf
   rw [zAC, zXB] at hf
   have hem : bd.length = 0 ∧ el.length = 0 := by omega
   have hz : zM bd = 0 ∧ zM el = 0 ∧ zAy bd = 0 ∧ zAy el = 0 := by
    rw [zXK.1 hem.1, zXK.1 hem.2]; exact ⟨rfl, rfl, rfl, rfl⟩
   have hd1 : 0 ≤ a ∧ a < (ps.getD k default).slots → decide (0 ≤ a ∧ a < (ps.getD k default).slots) = true := fun hh => zXU hh
   have hd2 : 0 ≤ a + b - 1 ∧ a + b - 1 < (ps.getD k default).slots → decide (0 ≤ a + b - 1 ∧ a + b - 1 < (ps.getD k default).slots) = true := fun hh => zXU hh
   have hd := hd1 (by omega)
   have hd' := hd2 (by omega)
   repeat' (first | refine zXx (by omega) ?_ | refine zE (zAQ _) ?_ | refine zE (zCi a (ps.getD k default) G.length _ (hS9 _ _)) ?_ | refine zE (zCi (a + b - 1) (ps.getD k default) G.length _ (hS9 _ _)) ?_ | simp -implicitDefEqProofs (disch := omega) only [e0, e9, e11, e12, e42, e43, e44, gr, hrow, zB, zG, splice, zBA, zP, zXr, zY, hSr, hS9, hSx, L131, LCode.sub, hd, hd', zO, zAd, push_cast, simprocAttr, ↓reduceIte, zXq])
   refine zJ (zGi h 1 0 hhh (by omega) _ _ (hS10 _ _)) ?_ ?_
   ·rintro _ _ ⟨-, rfl⟩
    repeat' (first | refine zE (zAQ _) ?_ | simp -implicitDefEqProofs (disch := omega) only [e44, zU, zXr, hTx, zAi, push_cast, simprocAttr, ↓reduceIte])
    exact .mk (j + 1, h + 0) ⟨e0, e2, e3, e9, e10, e11, e12, e42, e43, rfl, by rw [zB (by simp; omega), zH (by omega), zI hrl', hsn]; simp only [hz, zYr, zXF]; push_cast; rw [zYP], by rw [zB (by simp; omega), zH (by omega), zH (by omega)]; exact g9, by rw [zB (by simp; omega), zI (by simp; omega)], fB _ _ _, by simp; omega, hlt, by dsimp only; omega, by dsimp only; rw [hsn]; omega, by dsimp only; rw [hsl]; omega, ef⟩ (by dsimp only; omega)
   ·rintro _ _ ⟨-, hn, -⟩
    exact absurd ⟨f1, f2⟩ hn
  | none =>
   have hn : ¬ (zW (ps.getD k default).slots 3 a b (bd.isEmpty && el.isEmpty) ∧ 1 ≤ h ∧ h + 0 ≤ 1024) := fun hh => by rw [(hes _).2 ⟨hh.1, hh.2.1, hh.2.2, rfl⟩] at hI; cases hI
   have ng := hng (.inl fun h' hh => by rw [hI] at hh; cases hh)
   unfold zW at hn
   rw [zAC, zXB] at hn
   repeat' (first | intro y0 H2 h0; obtain ⟨hb, rfl⟩ : MT _ _ H2 := h0; (try (exfalso; contradiction)); (try simp only [zXB] at hb) | intro z0 H2 h0; obtain ⟨hb, rfl, rfl⟩ : MF _ z0 _ H2 := h0; clear hb | intro y0 H2 h0; obtain ⟨hb, rfl⟩ : NT _ _ _ _ _ H2 := h0 | intro z0 H2 h0; obtain ⟨rfl, hb, rfl | rfl⟩ : NF _ _ _ _ z0 _ H2 := h0 | refine zXx (by omega) ?_ | refine zE (zCi a (ps.getD k default) G.length _ (hS9 _ _)) ?_ | refine zE (zCi (a + b - 1) (ps.getD k default) G.length _ (hS9 _ _)) ?_ | refine zJ (zCT _ _) ?_ ?_ | refine zJ (zCc h 1 0 hhh (by omega) _ _ (hS10 _ _)) ?_ ?_ | simp -implicitDefEqProofs (disch := omega) only [e0, e9, e11, e12, e42, e43, e44, gr, hrow, zB, zG, zU, splice, zBA, zP, zXr, zY, hSr, hS9, hSx, hTx, L131, LCode.sub, zO, zAd, zAn, zAi, zX, push_cast, simprocAttr, ↓reduceIte, zXq] | split)
   all_goals first | exact fA _ _ | exact fB _ _ _ | exact ⟨ng, fA _ _⟩ | exact ⟨rfl, ng, fA _ _⟩ | exact ⟨ng, fB _ _ _⟩ | exact ⟨rfl, ng, fB _ _ _⟩ | (exfalso; refine hn ⟨⟨?_, ?_, ?_, ?_, ?_, ?_, ?_, ?_⟩, ?_, ?_⟩ <;> first | omega | (intro h1; omega))
 ·repeat' (first | refine zXx (by omega) ?_ | refine zS (zA9 _) ?_ | simp -implicitDefEqProofs (disch := omega) only [e0, e42, e43, e44, gr, hrow, zB, zG, splice, zXr, zY, hSr, L131, LCode.sub, zO, zAn, push_cast, simprocAttr, ↓reduceIte, zXq])
  exact ⟨hng (.inr (.inl (by simp only [zBs]; omega))), fA _ _⟩
set_option maxHeartbeats 8000000 in
theorem zWa (ps : List Pr) (k : Nat) (hk : k < ps.length) (hps : ps.length ≤ 1048576) (hp : zBZ ps k) (hh : zCk (ps.getD k default)) (l : List Ins) (out : Bool) (level c : Int) (r : Nat) (G : zC) : zJy ps k l out level c r G 4 := by
 intro j h e' G' a b bd el hlt hx hs hbd hel hrl hc0 hl0 hl1 ⟨e0, e2, e3, e9, e10, e11, e12, e42, e43, e44, gr, g9, g10, fr, gl, hj, hhh, cc, lv, ef⟩
 have hrow : (l.map zAp).getD j [] = [int 4, int a, int b, .sl 5 (bd.map zAp), .sl 5 (el.map zAp)] := by
  rw [zQ hlt, hx]; simp [zAp, zAI]
 have hrl' := zXN hrl fr.1
 have hb := zAl l (j + 1)
 have hb2 := zAS l (j + 1)
 have hsn := zAf hlt
 have hsl := zAN hlt
 rw [hx] at hsn hsl
 simp only [zBs, zCz] at hsn hsl
 have hbl := zR bd
 have hell := zR el
 have hbv := zAk bd
 have helv := zAk el
 obtain ⟨q1, q2, q3, q4, q5, q6, q7, q8⟩ := hh
 have ef0 := ef
 rw [zAR ps k hlt, hx] at ef
 have fA : ∀ B b, Fr1 r G (G'.set r B ++ [b]) := fun B b => (fr.trans (Fr1.set B)).trans (Fr1.app _)
 have fB : ∀ B b X, Fr1 r G ((G'.set r B).set (G.length + 1) X ++ [b]) := fun B b X => ((fr.trans (Fr1.set B)).set' (i := G.length + 1) (by omega) X).trans (Fr1.app _)
 have hng : ((∀ h', ¬ zB1 ps k (.mk 4 a b bd el) out h = some h') ∨ 32768 < c + zM (l.take j) + zBs (.mk 4 a b bd el) ∨ 257 < level + zCz (.mk 4 a b bd el)) → ¬ zDy ps k l out level c := zBq hlt hx ef0
 have hSr : ∀ B b, (G'.set r B ++ [b])[r]? = some B := fun B b => by rw [zB (by simpa using hrl'), zI hrl']
 have hS9 : ∀ B b, (G'.set r B ++ [b])[G.length]? = some (.box (prR (ps.getD k default))) := fun B b => by rw [zB (by rw [zXG]; omega), zH (by omega)]; exact g9
 have hS10 : ∀ B b, (G'.set r B ++ [b])[G.length + 1]? = some (.box [int h]) := fun B b => by rw [zB (by rw [zXG]; omega), zH (by omega)]; exact g10
 have hSx : ∀ B b, (G'.set r B ++ [b])[G'.length]? = some b := fun B b => by rw [zXz (by simp)]; simp
 have hTx : ∀ B b X, ((G'.set r B).set (G.length + 1) X ++ [b])[G'.length]? = some b := fun B b X => by rw [zXz (by simp)]; simp
 have hln := zR l
 have he : zCo ps k 4 a out h = chg h 2 (-2) := zA2.2.2.2.1 (by omega)
 have hes := fun h' => zBB (ps := ps) (k := k) (o := 4) (a := a) (b := b) (bd := bd) (el := el) (out := out) (h := h) (h' := h') (by omega) (by omega) he
 by_cases hcn : c + zM (l.take j) + 1 ≤ 32768
 ·cases hI : zB1 ps k (.mk 4 a b bd el) out h with
  | some h' =>
   obtain ⟨hf, f1, f2, rfl⟩ := (hes h').1 hI
   rw [hI] at ef
   have hf' := hf
   unfold zW at hf
   rw [zAC, zXB] at hf
   have hem : bd.length = 0 ∧ el.length = 0 := by omega
   have hz : zM bd = 0 ∧ zM el = 0 ∧ zAy bd = 0 ∧ zAy el = 0 := by
    rw [zXK.1 hem.1, zXK.1 hem.2]; exact ⟨rfl, rfl, rfl, rfl⟩
   have hd1 : 0 ≤ a ∧ a < (ps.getD k default).slots → decide (0 ≤ a ∧ a < (ps.getD k default).slots) = true := fun hh => zXU hh
   have hd2 : 0 ≤ a + b - 1 ∧ a + b - 1 < (ps.getD k default).slots → decide (0 ≤ a + b - 1 ∧ a + b - 1 < (ps.getD k default).slots) = true := fun hh => zXU hh
   have hd := hd1 (by omega)
   have hd' := hd2 (by omega)
   repeat' (first | refine zXx (by omega) ?_ | refine zE (zAQ _) ?_ | refine zE (zCi a (ps.getD k default) G.length _ (hS9 _ _)) ?_ | refine zE (zCi (a + b - 1) (ps.getD k default) G.length _ (hS9 _ _)) ?_ | simp -implicitDefEqProofs (disch := omega) only [e0, e9, e11, e12, e42, e43, e44, gr, hrow, zB, zG, splice, zBA, zP, zXr, zY, hSr, hS9, hSx, L131, LCode.sub, hd, hd', zO, zAd, push_cast, simprocAttr, ↓reduceIte, zXq])
   refine zJ (zGi h 2 (-2) hhh (by omega) _ _ (hS10 _ _)) ?_ ?_
   ·rintro _ _ ⟨-, rfl⟩
    repeat' (first | refine zE (zAQ _) ?_ | simp -implicitDefEqProofs (disch := omega) only [e44, zU, zXr, hTx, zAi, push_cast, simprocAttr, ↓reduceIte])
    exact .mk (j + 1, h + (-2)) ⟨e0, e2, e3, e9, e10, e11, e12, e42, e43, rfl, by rw [zB (by simp; omega), zH (by omega), zI hrl', hsn]; simp only [hz, zYr, zXF]; push_cast; rw [zYP], by rw [zB (by simp; omega), zH (by omega), zH (by omega)]; exact g9, by rw [zB (by simp; omega), zI (by simp; omega)], fB _ _ _, by simp; omega, hlt, by dsimp only; omega, by dsimp only; rw [hsn]; omega, by dsimp only; rw [hsl]; omega, ef⟩ (by dsimp only; omega)
   ·rintro _ _ ⟨-, hn, -⟩
    exact absurd ⟨f1, f2⟩ hn
  | none =>
   have hn : ¬ (zW (ps.getD k default).slots 4 a b (bd.isEmpty && el.isEmpty) ∧ 2 ≤ h ∧ h + (-2) ≤ 1024) := fun hh => by rw [(hes _).2 ⟨hh.1, hh.2.1, hh.2.2, rfl⟩] at hI; cases hI
   have ng := hng (.inl fun h' hh => by rw [hI] at hh; cases hh)
   unfold zW at hn
   rw [zAC, zXB] at hn
   repeat' (first | intro y0 H2 h0; obtain ⟨hb, rfl⟩ : MT _ _ H2 := h0; (try (exfalso; contradiction)); (try simp only [zXB] at hb) | intro z0 H2 h0; obtain ⟨hb, rfl, rfl⟩ : MF _ z0 _ H2 := h0; clear hb | intro y0 H2 h0; obtain ⟨hb, rfl⟩ : NT _ _ _ _ _ H2 := h0 | intro z0 H2 h0; obtain ⟨rfl, hb, rfl | rfl⟩ : NF _ _ _ _ z0 _ H2 := h0 | refine zXx (by omega) ?_ | refine zE (zCi a (ps.getD k default) G.length _ (hS9 _ _)) ?_ | refine zE (zCi (a + b - 1) (ps.getD k default) G.length _ (hS9 _ _)) ?_ | refine zJ (zCT _ _) ?_ ?_ | refine zJ (zCc h 2 (-2) hhh (by omega) _ _ (hS10 _ _)) ?_ ?_ | simp -implicitDefEqProofs (disch := omega) only [e0, e9, e11, e12, e42, e43, e44, gr, hrow, zB, zG, zU, splice, zBA, zP, zXr, zY, hSr, hS9, hSx, hTx, L131, LCode.sub, zO, zAd, zAn, zAi, zX, push_cast, simprocAttr, ↓reduceIte, zXq] | split)
   all_goals first | exact fA _ _ | exact fB _ _ _ | exact ⟨ng, fA _ _⟩ | exact ⟨rfl, ng, fA _ _⟩ | exact ⟨ng, fB _ _ _⟩ | exact ⟨rfl, ng, fB _ _ _⟩ | (exfalso; refine hn ⟨⟨?_, ?_, ?_, ?_, ?_, ?_, ?_, ?_⟩, ?_, ?_⟩ <;> first | omega | (intro h1; omega))
 ·repeat' (first | refine zXx (by omega) ?_ | refine zS (zA9 _) ?_ | simp -implicitDefEqProofs (disch := omega) only [e0, e42, e43, e44, gr, hrow, zB, zG, splice, zXr, zY, hSr, L131, LCode.sub, zO, zAn, push_cast, simprocAttr, ↓reduceIte, zXq])
  exact ⟨hng (.inr (.inl (by simp only [zBs]; omega))), fA _ _⟩
set_option maxHeartbeats 8000000 in
theorem zS7 (ps : List Pr) (k : Nat) (hk : k < ps.length) (hps : ps.length ≤ 1048576) (hp : zBZ ps k) (hh : zCk (ps.getD k default)) (l : List Ins) (out : Bool) (level c : Int) (r : Nat) (G : zC) : zJy ps k l out level c r G 16 := by
 intro j h e' G' a b bd el hlt hx hs hbd hel hrl hc0 hl0 hl1 ⟨e0, e2, e3, e9, e10, e11, e12, e42, e43, e44, gr, g9, g10, fr, gl, hj, hhh, cc, lv, ef⟩
 have hrow : (l.map zAp).getD j [] = [int 16, int a, int b, .sl 5 (bd.map zAp), .sl 5 (el.map zAp)] := by
  rw [zQ hlt, hx]; simp [zAp, zAI]
 have hrl' := zXN hrl fr.1
 have hb := zAl l (j + 1)
 have hb2 := zAS l (j + 1)
 have hsn := zAf hlt
 have hsl := zAN hlt
 rw [hx] at hsn hsl
 simp only [zBs, zCz] at hsn hsl
 have hbl := zR bd
 have hell := zR el
 have hbv := zAk bd
 have helv := zAk el
 obtain ⟨q1, q2, q3, q4, q5, q6, q7, q8⟩ := hh
 have ef0 := ef
 rw [zAR ps k hlt, hx] at ef
 have fA : ∀ B b, Fr1 r G (G'.set r B ++ [b]) := fun B b => (fr.trans (Fr1.set B)).trans (Fr1.app _)
 have fB : ∀ B b X, Fr1 r G ((G'.set r B).set (G.length + 1) X ++ [b]) := fun B b X => ((fr.trans (Fr1.set B)).set' (i := G.length + 1) (by omega) X).trans (Fr1.app _)
 have hng : ((∀ h', ¬ zB1 ps k (.mk 16 a b bd el) out h = some h') ∨ 32768 < c + zM (l.take j) + zBs (.mk 16 a b bd el) ∨ 257 < level + zCz (.mk 16 a b bd el)) → ¬ zDy ps k l out level c := zBq hlt hx ef0
 have hSr : ∀ B b, (G'.set r B ++ [b])[r]? = some B := fun B b => by rw [zB (by simpa using hrl'), zI hrl']
 have hS9 : ∀ B b, (G'.set r B ++ [b])[G.length]? = some (.box (prR (ps.getD k default))) := fun B b => by rw [zB (by rw [zXG]; omega), zH (by omega)]; exact g9
 have hS10 : ∀ B b, (G'.set r B ++ [b])[G.length + 1]? = some (.box [int h]) := fun B b => by rw [zB (by rw [zXG]; omega), zH (by omega)]; exact g10
 have hSx : ∀ B b, (G'.set r B ++ [b])[G'.length]? = some b := fun B b => by rw [zXz (by simp)]; simp
 have hTx : ∀ B b X, ((G'.set r B).set (G.length + 1) X ++ [b])[G'.length]? = some b := fun B b X => by rw [zXz (by simp)]; simp
 have hln := zR l
 have he : zCo ps k 16 a out h = chg h 1 0 := zA2.2.2.1 (by omega)
 have hes := fun h' => zBB (ps := ps) (k := k) (o := 16) (a := a) (b := b) (bd := bd) (el := el) (out := out) (h := h) (h' := h') (by omega) (by omega) he
 by_cases hcn : c + zM (l.take j) + 1 ≤ 32768
 ·cases hI : zB1 ps k (.mk 16 a b bd el) out h with
  | some h' =>
   obtain ⟨hf, f1, f2, rfl⟩ := (hes h').1 hI
   rw [hI] at ef
   have hf' := hf
   unfold zW at hf
   rw [zAC, zXB] at hf
   have hem : bd.length = 0 ∧ el.length = 0 := by omega
   have hz : zM bd = 0 ∧ zM el = 0 ∧ zAy bd = 0 ∧ zAy el = 0 := by
    rw [zXK.1 hem.1, zXK.1 hem.2]; exact ⟨rfl, rfl, rfl, rfl⟩
   have hd1 : 0 ≤ a ∧ a < (ps.getD k default).slots → decide (0 ≤ a ∧ a < (ps.getD k default).slots) = true := fun hh => zXU hh
   have hd2 : 0 ≤ a + b - 1 ∧ a + b - 1 < (ps.getD k default).slots → decide (0 ≤ a + b - 1 ∧ a + b - 1 < (ps.getD k default).slots) = true := fun hh => zXU hh
   repeat' (first | refine zXx (by omega) ?_ | refine zE (zAQ _) ?_ | simp -implicitDefEqProofs (disch := omega) only [e0, e11, e42, e43, e44, gr, hrow, zB, zG, splice, zXr, zY, hSr, hSx, L131, LCode.sub, zO, zAd, push_cast, simprocAttr, ↓reduceIte, zXq])
   refine zJ (zGi h 1 0 hhh (by omega) _ _ (hS10 _ _)) ?_ ?_
   ·rintro _ _ ⟨-, rfl⟩
    repeat' (first | refine zE (zAQ _) ?_ | simp -implicitDefEqProofs (disch := omega) only [e44, zU, zXr, hTx, zAi, push_cast, simprocAttr, ↓reduceIte])
    exact .mk (j + 1, h + 0) ⟨e0, e2, e3, e9, e10, e11, e12, e42, e43, rfl, by rw [zB (by simp; omega), zH (by omega), zI hrl', hsn]; simp only [hz, zYr, zXF]; push_cast; rw [zYP], by rw [zB (by simp; omega), zH (by omega), zH (by omega)]; exact g9, by rw [zB (by simp; omega), zI (by simp; omega)], fB _ _ _, by simp; omega, hlt, by dsimp only; omega, by dsimp only; rw [hsn]; omega, by dsimp only; rw [hsl]; omega, ef⟩ (by dsimp only; omega)
   ·rintro _ _ ⟨-, hn, -⟩
    exact absurd ⟨f1, f2⟩ hn
  | none =>
   have hn : ¬ (zW (ps.getD k default).slots 16 a b (bd.isEmpty && el.isEmpty) ∧ 1 ≤ h ∧ h + 0 ≤ 1024) := fun hh => by rw [(hes _).2 ⟨hh.1, hh.2.1, hh.2.2, rfl⟩] at hI; cases hI
   have ng := hng (.inl fun h' hh => by rw [hI] at hh; cases hh)
   unfold zW at hn
   rw [zAC, zXB] at hn
   repeat' (first | intro y0 H2 h0; obtain ⟨hb, rfl⟩ : MT _ _ H2 := h0; (try (exfalso; contradiction)); (try simp only [] at hb) | intro z0 H2 h0; obtain ⟨hb, rfl, rfl⟩ : MF _ z0 _ H2 := h0; clear hb | intro y0 H2 h0; obtain ⟨hb, rfl⟩ : NT _ _ _ _ _ H2 := h0 | intro z0 H2 h0; obtain ⟨rfl, hb, rfl | rfl⟩ : NF _ _ _ _ z0 _ H2 := h0 | refine zXx (by omega) ?_ | refine zJ (zCT _ _) ?_ ?_ | refine zJ (zCc h 1 0 hhh (by omega) _ _ (hS10 _ _)) ?_ ?_ | simp -implicitDefEqProofs (disch := omega) only [e0, e11, e42, e43, e44, gr, hrow, zB, zG, zU, splice, zXr, zY, hSr, hSx, hTx, L131, LCode.sub, zO, zAd, zAi, zX, push_cast, simprocAttr, ↓reduceIte, zXq] | split)
   all_goals first | exact fA _ _ | exact fB _ _ _ | exact ⟨ng, fA _ _⟩ | exact ⟨rfl, ng, fA _ _⟩ | exact ⟨ng, fB _ _ _⟩ | exact ⟨rfl, ng, fB _ _ _⟩ | (exfalso; refine hn ⟨⟨?_, ?_, ?_, ?_, ?_, ?_, ?_, ?_⟩, ?_, ?_⟩ <;> first | omega | (intro h1; omega))
 ·repeat' (first | refine zXx (by omega) ?_ | refine zS (zA9 _) ?_ | simp -implicitDefEqProofs (disch := omega) only [e0, e42, e43, e44, gr, hrow, zB, zG, splice, zXr, zY, hSr, L131, LCode.sub, zO, zAn, push_cast, simprocAttr, ↓reduceIte, zXq])
  exact ⟨hng (.inr (.inl (by simp only [zBs]; omega))), fA _ _⟩
set_option maxHeartbeats 8000000 in
theorem zS6 (ps : List Pr) (k : Nat) (hk : k < ps.length) (hps : ps.length ≤ 1048576) (hp : zBZ ps k) (hh : zCk (ps.getD k default)) (l : List Ins) (out : Bool) (level c : Int) (r : Nat) (G : zC) : zJy ps k l out level c r G 17 := by
 intro j h e' G' a b bd el hlt hx hs hbd hel hrl hc0 hl0 hl1 ⟨e0, e2, e3, e9, e10, e11, e12, e42, e43, e44, gr, g9, g10, fr, gl, hj, hhh, cc, lv, ef⟩
 have hrow : (l.map zAp).getD j [] = [int 17, int a, int b, .sl 5 (bd.map zAp), .sl 5 (el.map zAp)] := by
  rw [zQ hlt, hx]; simp [zAp, zAI]
 have hrl' := zXN hrl fr.1
 have hb := zAl l (j + 1)
 have hb2 := zAS l (j + 1)
 have hsn := zAf hlt
 have hsl := zAN hlt
 rw [hx] at hsn hsl
 simp only [zBs, zCz] at hsn hsl
 have hbl := zR bd
 have hell := zR el
 have hbv := zAk bd
 have helv := zAk el
 obtain ⟨q1, q2, q3, q4, q5, q6, q7, q8⟩ := hh
 have ef0 := ef
 rw [zAR ps k hlt, hx] at ef
 have fA : ∀ B b, Fr1 r G (G'.set r B ++ [b]) := fun B b => (fr.trans (Fr1.set B)).trans (Fr1.app _)
 have fB : ∀ B b X, Fr1 r G ((G'.set r B).set (G.length + 1) X ++ [b]) := fun B b X => ((fr.trans (Fr1.set B)).set' (i := G.length + 1) (by omega) X).trans (Fr1.app _)
 have hng : ((∀ h', ¬ zB1 ps k (.mk 17 a b bd el) out h = some h') ∨ 32768 < c + zM (l.take j) + zBs (.mk 17 a b bd el) ∨ 257 < level + zCz (.mk 17 a b bd el)) → ¬ zDy ps k l out level c := zBq hlt hx ef0
 have hSr : ∀ B b, (G'.set r B ++ [b])[r]? = some B := fun B b => by rw [zB (by simpa using hrl'), zI hrl']
 have hS9 : ∀ B b, (G'.set r B ++ [b])[G.length]? = some (.box (prR (ps.getD k default))) := fun B b => by rw [zB (by rw [zXG]; omega), zH (by omega)]; exact g9
 have hS10 : ∀ B b, (G'.set r B ++ [b])[G.length + 1]? = some (.box [int h]) := fun B b => by rw [zB (by rw [zXG]; omega), zH (by omega)]; exact g10
 have hSx : ∀ B b, (G'.set r B ++ [b])[G'.length]? = some b := fun B b => by rw [zXz (by simp)]; simp
 have hTx : ∀ B b X, ((G'.set r B).set (G.length + 1) X ++ [b])[G'.length]? = some b := fun B b X => by rw [zXz (by simp)]; simp
 have hln := zR l
 have he : zCo ps k 17 a out h = chg h 1 0 := zA2.2.2.1 (by omega)
 have hes := fun h' => zBB (ps := ps) (k := k) (o := 17) (a := a) (b := b) (bd := bd) (el := el) (out := out) (h := h) (h' := h') (by omega) (by omega) he
 by_cases hcn : c + zM (l.take j) + 1 ≤ 32768
 ·cases hI : zB1 ps k (.mk 17 a b bd el) out h with
  | some h' =>
   obtain ⟨hf, f1, f2, rfl⟩ := (hes h').1 hI
   rw [hI] at ef
   have hf' := hf
   unfold zW at hf
   rw [zAC, zXB] at hf
   have hem : bd.length = 0 ∧ el.length = 0 := by omega
   have hz : zM bd = 0 ∧ zM el = 0 ∧ zAy bd = 0 ∧ zAy el = 0 := by
    rw [zXK.1 hem.1, zXK.1 hem.2]; exact ⟨rfl, rfl, rfl, rfl⟩
   have hd1 : 0 ≤ a ∧ a < (ps.getD k default).slots → decide (0 ≤ a ∧ a < (ps.getD k default).slots) = true := fun hh => zXU hh
   have hd2 : 0 ≤ a + b - 1 ∧ a + b - 1 < (ps.getD k default).slots → decide (0 ≤ a + b - 1 ∧ a + b - 1 < (ps.getD k default).slots) = true := fun hh => zXU hh
   repeat' (first | refine zXx (by omega) ?_ | refine zE (zAQ _) ?_ | simp -implicitDefEqProofs (disch := omega) only [e0, e11, e42, e43, e44, gr, hrow, zB, zG, splice, zXr, zY, hSr, hSx, L131, LCode.sub, zO, zAd, push_cast, simprocAttr, ↓reduceIte, zXq])
   refine zJ (zGi h 1 0 hhh (by omega) _ _ (hS10 _ _)) ?_ ?_
   ·rintro _ _ ⟨-, rfl⟩
    repeat' (first | refine zE (zAQ _) ?_ | simp -implicitDefEqProofs (disch := omega) only [e44, zU, zXr, hTx, zAi, push_cast, simprocAttr, ↓reduceIte])
    exact .mk (j + 1, h + 0) ⟨e0, e2, e3, e9, e10, e11, e12, e42, e43, rfl, by rw [zB (by simp; omega), zH (by omega), zI hrl', hsn]; simp only [hz, zYr, zXF]; push_cast; rw [zYP], by rw [zB (by simp; omega), zH (by omega), zH (by omega)]; exact g9, by rw [zB (by simp; omega), zI (by simp; omega)], fB _ _ _, by simp; omega, hlt, by dsimp only; omega, by dsimp only; rw [hsn]; omega, by dsimp only; rw [hsl]; omega, ef⟩ (by dsimp only; omega)
   ·rintro _ _ ⟨-, hn, -⟩
    exact absurd ⟨f1, f2⟩ hn
  | none =>
   have hn : ¬ (zW (ps.getD k default).slots 17 a b (bd.isEmpty && el.isEmpty) ∧ 1 ≤ h ∧ h + 0 ≤ 1024) := fun hh => by rw [(hes _).2 ⟨hh.1, hh.2.1, hh.2.2, rfl⟩] at hI; cases hI
   have ng := hng (.inl fun h' hh => by rw [hI] at hh; cases hh)
   unfold zW at hn
   rw [zAC, zXB] at hn
   repeat' (first | intro y0 H2 h0; obtain ⟨hb, rfl⟩ : MT _ _ H2 := h0; (try (exfalso; contradiction)); (try simp only [] at hb) | intro z0 H2 h0; obtain ⟨hb, rfl, rfl⟩ : MF _ z0 _ H2 := h0; clear hb | intro y0 H2 h0; obtain ⟨hb, rfl⟩ : NT _ _ _ _ _ H2 := h0 | intro z0 H2 h0; obtain ⟨rfl, hb, rfl | rfl⟩ : NF _ _ _ _ z0 _ H2 := h0 | refine zXx (by omega) ?_ | refine zJ (zCT _ _) ?_ ?_ | refine zJ (zCc h 1 0 hhh (by omega) _ _ (hS10 _ _)) ?_ ?_ | simp -implicitDefEqProofs (disch := omega) only [e0, e11, e42, e43, e44, gr, hrow, zB, zG, zU, splice, zXr, zY, hSr, hSx, hTx, L131, LCode.sub, zO, zAd, zAi, zX, push_cast, simprocAttr, ↓reduceIte, zXq] | split)
   all_goals first | exact fA _ _ | exact fB _ _ _ | exact ⟨ng, fA _ _⟩ | exact ⟨rfl, ng, fA _ _⟩ | exact ⟨ng, fB _ _ _⟩ | exact ⟨rfl, ng, fB _ _ _⟩ | (exfalso; refine hn ⟨⟨?_, ?_, ?_, ?_, ?_, ?_, ?_, ?_⟩, ?_, ?_⟩ <;> first | omega | (intro h1; omega))
 ·repeat' (first | refine zXx (by omega) ?_ | refine zS (zA9 _) ?_ | simp -implicitDefEqProofs (disch := omega) only [e0, e42, e43, e44, gr, hrow, zB, zG, splice, zXr, zY, hSr, L131, LCode.sub, zO, zAn, push_cast, simprocAttr, ↓reduceIte, zXq])
  exact ⟨hng (.inr (.inl (by simp only [zBs]; omega))), fA _ _⟩
set_option maxHeartbeats 8000000 in
theorem zQz (ps : List Pr) (k : Nat) (hk : k < ps.length) (hps : ps.length ≤ 1048576) (hp : zBZ ps k) (hh : zCk (ps.getD k default)) (l : List Ins) (out : Bool) (level c : Int) (r : Nat) (G : zC) (o : Int) (ho : 5 ≤ o ∧ o ≤ 15) : zJy ps k l out level c r G o := by
 intro j h e' G' a b bd el hlt hx hs hbd hel hrl hc0 hl0 hl1 ⟨e0, e2, e3, e9, e10, e11, e12, e42, e43, e44, gr, g9, g10, fr, gl, hj, hhh, cc, lv, ef⟩
 have hrow : (l.map zAp).getD j [] = [int o, int a, int b, .sl 5 (bd.map zAp), .sl 5 (el.map zAp)] := by
  rw [zQ hlt, hx]; simp [zAp, zAI]
 have hrl' := zXN hrl fr.1
 have hb := zAl l (j + 1)
 have hb2 := zAS l (j + 1)
 have hsn := zAf hlt
 have hsl := zAN hlt
 rw [hx] at hsn hsl
 simp only [zBs, zCz] at hsn hsl
 have hbl := zR bd
 have hell := zR el
 have hbv := zAk bd
 have helv := zAk el
 obtain ⟨q1, q2, q3, q4, q5, q6, q7, q8⟩ := hh
 have ef0 := ef
 rw [zAR ps k hlt, hx] at ef
 have fA : ∀ B b, Fr1 r G (G'.set r B ++ [b]) := fun B b => (fr.trans (Fr1.set B)).trans (Fr1.app _)
 have fB : ∀ B b X, Fr1 r G ((G'.set r B).set (G.length + 1) X ++ [b]) := fun B b X => ((fr.trans (Fr1.set B)).set' (i := G.length + 1) (by omega) X).trans (Fr1.app _)
 have hng : ((∀ h', ¬ zB1 ps k (.mk o a b bd el) out h = some h') ∨ 32768 < c + zM (l.take j) + zBs (.mk o a b bd el) ∨ 257 < level + zCz (.mk o a b bd el)) → ¬ zDy ps k l out level c := zBq hlt hx ef0
 have hSr : ∀ B b, (G'.set r B ++ [b])[r]? = some B := fun B b => by rw [zB (by simpa using hrl'), zI hrl']
 have hS9 : ∀ B b, (G'.set r B ++ [b])[G.length]? = some (.box (prR (ps.getD k default))) := fun B b => by rw [zB (by rw [zXG]; omega), zH (by omega)]; exact g9
 have hS10 : ∀ B b, (G'.set r B ++ [b])[G.length + 1]? = some (.box [int h]) := fun B b => by rw [zB (by rw [zXG]; omega), zH (by omega)]; exact g10
 have hSx : ∀ B b, (G'.set r B ++ [b])[G'.length]? = some b := fun B b => by rw [zXz (by simp)]; simp
 have hTx : ∀ B b X, ((G'.set r B).set (G.length + 1) X ++ [b])[G'.length]? = some b := fun B b X => by rw [zXz (by simp)]; simp
 have hln := zR l
 have he : zCo ps k o a out h = chg h 2 (-1) := zA2.2.2.2.2 ho
 have hes := fun h' => zBB (ps := ps) (k := k) (o := o) (a := a) (b := b) (bd := bd) (el := el) (out := out) (h := h) (h' := h') (by omega) (by omega) he
 by_cases hcn : c + zM (l.take j) + 1 ≤ 32768
 ·cases hI : zB1 ps k (.mk o a b bd el) out h with
  | some h' =>
   obtain ⟨hf, f1, f2, rfl⟩ := (hes h').1 hI
   rw [hI] at ef
   have hf' := hf
   unfold zW at hf
   rw [zAC, zXB] at hf
   have hem : bd.length = 0 ∧ el.length = 0 := by omega
   have hz : zM bd = 0 ∧ zM el = 0 ∧ zAy bd = 0 ∧ zAy el = 0 := by
    rw [zXK.1 hem.1, zXK.1 hem.2]; exact ⟨rfl, rfl, rfl, rfl⟩
   have hd1 : 0 ≤ a ∧ a < (ps.getD k default).slots → decide (0 ≤ a ∧ a < (ps.getD k default).slots) = true := fun hh => zXU hh
   have hd2 : 0 ≤ a + b - 1 ∧ a + b - 1 < (ps.getD k default).slots → decide (0 ≤ a + b - 1 ∧ a + b - 1 < (ps.getD k default).slots) = true := fun hh => zXU hh
   repeat' (first | refine zXx (by omega) ?_ | refine zE (zAQ _) ?_ | simp -implicitDefEqProofs (disch := omega) only [e0, e11, e42, e43, e44, gr, hrow, zB, zG, splice, zXr, zY, hSr, hSx, L131, LCode.sub, zO, zAd, zX, push_cast, simprocAttr, ↓reduceIte, zXq])
   refine zJ (zGi h 2 (-1) hhh (by omega) _ _ (hS10 _ _)) ?_ ?_
   ·rintro _ _ ⟨-, rfl⟩
    repeat' (first | refine zE (zAQ _) ?_ | simp -implicitDefEqProofs (disch := omega) only [e44, zU, zXr, hTx, zAi, push_cast, simprocAttr, ↓reduceIte])
    exact .mk (j + 1, h + (-1)) ⟨e0, e2, e3, e9, e10, e11, e12, e42, e43, rfl, by rw [zB (by simp; omega), zH (by omega), zI hrl', hsn]; simp only [hz, zYr, zXF]; push_cast; rw [zYP], by rw [zB (by simp; omega), zH (by omega), zH (by omega)]; exact g9, by rw [zB (by simp; omega), zI (by simp; omega)], fB _ _ _, by simp; omega, hlt, by dsimp only; omega, by dsimp only; rw [hsn]; omega, by dsimp only; rw [hsl]; omega, ef⟩ (by dsimp only; omega)
   ·rintro _ _ ⟨-, hn, -⟩
    exact absurd ⟨f1, f2⟩ hn
  | none =>
   have hn : ¬ (zW (ps.getD k default).slots o a b (bd.isEmpty && el.isEmpty) ∧ 2 ≤ h ∧ h + (-1) ≤ 1024) := fun hh => by rw [(hes _).2 ⟨hh.1, hh.2.1, hh.2.2, rfl⟩] at hI; cases hI
   have ng := hng (.inl fun h' hh => by rw [hI] at hh; cases hh)
   unfold zW at hn
   rw [zAC, zXB] at hn
   repeat' (first | intro y0 H2 h0; obtain ⟨hb, rfl⟩ : MT _ _ H2 := h0; (try (exfalso; contradiction)); (try simp only [] at hb) | intro z0 H2 h0; obtain ⟨hb, rfl, rfl⟩ : MF _ z0 _ H2 := h0; clear hb | intro y0 H2 h0; obtain ⟨hb, rfl⟩ : NT _ _ _ _ _ H2 := h0 | intro z0 H2 h0; obtain ⟨rfl, hb, rfl | rfl⟩ : NF _ _ _ _ z0 _ H2 := h0 | refine zXx (by omega) ?_ | refine zJ (zCT _ _) ?_ ?_ | refine zJ (zCc h 2 (-1) hhh (by omega) _ _ (hS10 _ _)) ?_ ?_ | simp -implicitDefEqProofs (disch := omega) only [e0, e11, e42, e43, e44, gr, hrow, zB, zG, zU, splice, zXr, zY, hSr, hSx, hTx, L131, LCode.sub, zO, zAd, zAi, zX, push_cast, simprocAttr, ↓reduceIte, zXq] | split)
   all_goals first | exact fA _ _ | exact fB _ _ _ | exact ⟨ng, fA _ _⟩ | exact ⟨rfl, ng, fA _ _⟩ | exact ⟨ng, fB _ _ _⟩ | exact ⟨rfl, ng, fB _ _ _⟩ | (exfalso; refine hn ⟨⟨?_, ?_, ?_, ?_, ?_, ?_, ?_, ?_⟩, ?_, ?_⟩ <;> first | omega | (intro h1; omega))
 ·repeat' (first | refine zXx (by omega) ?_ | refine zS (zA9 _) ?_ | simp -implicitDefEqProofs (disch := omega) only [e0, e42, e43, e44, gr, hrow, zB, zG, splice, zXr, zY, hSr, L131, LCode.sub, zO, zAn, push_cast, simprocAttr, ↓reduceIte, zXq])
  exact ⟨hng (.inr (.inl (by simp only [zBs]; omega))), fA _ _⟩
set_option maxHeartbeats 8000000 in
theorem zQA (ps : List Pr) (k : Nat) (hk : k < ps.length) (hps : ps.length ≤ 1048576) (hp : zBZ ps k) (hh : zCk (ps.getD k default)) (l : List Ins) (out : Bool) (level c : Int) (r : Nat) (G : zC) (o : Int) (ho : o < 0 ∨ 22 < o) : zJy ps k l out level c r G o := by
 intro j h e' G' a b bd el hlt hx hs hbd hel hrl hc0 hl0 hl1 ⟨e0, e2, e3, e9, e10, e11, e12, e42, e43, e44, gr, g9, g10, fr, gl, hj, hhh, cc, lv, ef⟩
 have hrow : (l.map zAp).getD j [] = [int o, int a, int b, .sl 5 (bd.map zAp), .sl 5 (el.map zAp)] := by
  rw [zQ hlt, hx]; simp [zAp, zAI]
 have hrl' := zXN hrl fr.1
 have hb := zAl l (j + 1)
 have hb2 := zAS l (j + 1)
 have hsn := zAf hlt
 have hsl := zAN hlt
 rw [hx] at hsn hsl
 simp only [zBs, zCz] at hsn hsl
 have hbl := zR bd
 have hell := zR el
 have hbv := zAk bd
 have helv := zAk el
 obtain ⟨q1, q2, q3, q4, q5, q6, q7, q8⟩ := hh
 have ef0 := ef
 rw [zAR ps k hlt, hx] at ef
 have fA : ∀ B b, Fr1 r G (G'.set r B ++ [b]) := fun B b => (fr.trans (Fr1.set B)).trans (Fr1.app _)
 have fB : ∀ B b X, Fr1 r G ((G'.set r B).set (G.length + 1) X ++ [b]) := fun B b X => ((fr.trans (Fr1.set B)).set' (i := G.length + 1) (by omega) X).trans (Fr1.app _)
 have hng : ((∀ h', ¬ zB1 ps k (.mk o a b bd el) out h = some h') ∨ 32768 < c + zM (l.take j) + zBs (.mk o a b bd el) ∨ 257 < level + zCz (.mk o a b bd el)) → ¬ zDy ps k l out level c := zBq hlt hx ef0
 have hSr : ∀ B b, (G'.set r B ++ [b])[r]? = some B := fun B b => by rw [zB (by simpa using hrl'), zI hrl']
 have hS9 : ∀ B b, (G'.set r B ++ [b])[G.length]? = some (.box (prR (ps.getD k default))) := fun B b => by rw [zB (by rw [zXG]; omega), zH (by omega)]; exact g9
 have hS10 : ∀ B b, (G'.set r B ++ [b])[G.length + 1]? = some (.box [int h]) := fun B b => by rw [zB (by rw [zXG]; omega), zH (by omega)]; exact g10
 have hSx : ∀ B b, (G'.set r B ++ [b])[G'.length]? = some b := fun B b => by rw [zXz (by simp)]; simp
 have hTx : ∀ B b X, ((G'.set r B).set (G.length + 1) X ++ [b])[G'.length]? = some b := fun B b X => by rw [zXz (by simp)]; simp
 have hln := zR l
 have hXr : ∀ B X, (G'.set r B ++ X)[r]? = some B := fun B X => by rw [zB (by simpa using hrl'), zI hrl']
 have hX9 : ∀ B X, (G'.set r B ++ X)[G.length]? = some (.box (prR (ps.getD k default))) := fun B X => by rw [zB (by rw [zXG]; omega), zH (by omega)]; exact g9
 have hX10 : ∀ B X, (G'.set r B ++ X)[G.length + 1]? = some (.box [int h]) := fun B X => by rw [zB (by rw [zXG]; omega), zH (by omega)]; exact g10
 have hXx : ∀ B b X, (G'.set r B ++ b :: X)[G'.length]? = some b := fun B b X => by rw [zXz (by simp)]; simp
 have hXy : ∀ B b d X, (G'.set r B ++ b :: d :: X)[G'.length + 1]? = some d := fun B b d X => by rw [zXz (by simp)]; simp
 have hYr : ∀ B Y X, ((G'.set r B).set (G.length + 1) Y ++ X)[r]? = some B := fun B Y X => by rw [zB (by simpa using hrl'), zH (by omega), zI hrl']
 have hY9 : ∀ B Y X, ((G'.set r B).set (G.length + 1) Y ++ X)[G.length]? = some (.box (prR (ps.getD k default))) := fun B Y X => by rw [zB (by simp; omega), zH (by omega), zH (by omega)]; exact g9
 have hY10 : ∀ B Y X, ((G'.set r B).set (G.length + 1) Y ++ X)[G.length + 1]? = some Y := fun B Y X => by rw [zB (by simp; omega), zI (by simp; omega)]
 have hYx : ∀ B Y b X, ((G'.set r B).set (G.length + 1) Y ++ b :: X)[G'.length]? = some b := fun B Y b X => by rw [zXz (by simp)]; simp
 have hXs : ∀ B b z Y, (G'.set r B ++ [b, z]).set (G'.length + 1) Y = G'.set r B ++ [b, Y] := fun B b z Y => by rw [zYw _ _ (by simp)]; simp
 have fX : ∀ B X, Fr1 r G (G'.set r B ++ X) := fun B X => (fr.trans (Fr1.set B)).trans (Fr1.app _)
 have fY : ∀ B Y X, Fr1 r G ((G'.set r B).set (G.length + 1) Y ++ X) := fun B Y X => ((fr.trans (Fr1.set B)).set' (i := G.length + 1) (by omega) Y).trans (Fr1.app _)
 by_cases hcn : c + zM (l.take j) + 1 ≤ 32768
 ·have ng := hng (.inl fun h' hh => by
   simp only [zB1] at hh
   rw [if_neg (by unfold zW; omega)] at hh
   cases hh)
  rcases ho with ho | ho
  ·repeat' (first | refine zXx (by omega) ?_ | refine zE (zAQ _) ?_ | refine zS (zA9 _) ?_ | simp -implicitDefEqProofs (disch := omega) only [e0, e42, e43, e44, gr, hrow, zB, zG, splice, zXr, zY, hXr, hXx, L131, LCode.sub, zO, zAd, zAn, zX, push_cast, simprocAttr, ↓reduceIte, zXq])
   all_goals first | exact fX _ _ | exact ⟨ng, fX _ _⟩
  ·repeat' (first | refine zXx (by omega) ?_ | refine zE (zAQ _) ?_ | refine zS (zA9 _) ?_ | simp -implicitDefEqProofs (disch := omega) only [e0, e42, e43, e44, gr, hrow, zB, zG, splice, zXr, zY, hXr, hXx, L131, LCode.sub, zO, zAd, zAn, zX, push_cast, simprocAttr, ↓reduceIte, zXq])
   all_goals first | exact fX _ _ | exact ⟨ng, fX _ _⟩
 ·repeat' (first | refine zXx (by omega) ?_ | refine zS (zA9 _) ?_ | simp -implicitDefEqProofs (disch := omega) only [e0, e42, e43, e44, gr, hrow, zB, zG, splice, zXr, zY, hXr, L131, LCode.sub, zO, zAn, push_cast, simprocAttr, ↓reduceIte, zXq])
  exact ⟨hng (.inr (.inl (by simp only [zBs]; omega))), fX _ _⟩
set_option maxHeartbeats 8000000 in
theorem zS2 (ps : List Pr) (k : Nat) (hk : k < ps.length) (hps : ps.length ≤ 1048576) (hp : zBZ ps k) (hh : zCk (ps.getD k default)) (l : List Ins) (out : Bool) (level c : Int) (r : Nat) (G : zC) : zJy ps k l out level c r G 21 := by
 intro j h e' G' a b bd el hlt hx hs hbd hel hrl hc0 hl0 hl1 ⟨e0, e2, e3, e9, e10, e11, e12, e42, e43, e44, gr, g9, g10, fr, gl, hj, hhh, cc, lv, ef⟩
 have hrow : (l.map zAp).getD j [] = [int 21, int a, int b, .sl 5 (bd.map zAp), .sl 5 (el.map zAp)] := by
  rw [zQ hlt, hx]; simp [zAp, zAI]
 have hrl' := zXN hrl fr.1
 have hb := zAl l (j + 1)
 have hb2 := zAS l (j + 1)
 have hsn := zAf hlt
 have hsl := zAN hlt
 rw [hx] at hsn hsl
 simp only [zBs, zCz] at hsn hsl
 have hbl := zR bd
 have hell := zR el
 have hbv := zAk bd
 have helv := zAk el
 obtain ⟨q1, q2, q3, q4, q5, q6, q7, q8⟩ := hh
 have ef0 := ef
 rw [zAR ps k hlt, hx] at ef
 have fA : ∀ B b, Fr1 r G (G'.set r B ++ [b]) := fun B b => (fr.trans (Fr1.set B)).trans (Fr1.app _)
 have fB : ∀ B b X, Fr1 r G ((G'.set r B).set (G.length + 1) X ++ [b]) := fun B b X => ((fr.trans (Fr1.set B)).set' (i := G.length + 1) (by omega) X).trans (Fr1.app _)
 have hng : ((∀ h', ¬ zB1 ps k (.mk 21 a b bd el) out h = some h') ∨ 32768 < c + zM (l.take j) + zBs (.mk 21 a b bd el) ∨ 257 < level + zCz (.mk 21 a b bd el)) → ¬ zDy ps k l out level c := zBq hlt hx ef0
 have hSr : ∀ B b, (G'.set r B ++ [b])[r]? = some B := fun B b => by rw [zB (by simpa using hrl'), zI hrl']
 have hS9 : ∀ B b, (G'.set r B ++ [b])[G.length]? = some (.box (prR (ps.getD k default))) := fun B b => by rw [zB (by rw [zXG]; omega), zH (by omega)]; exact g9
 have hS10 : ∀ B b, (G'.set r B ++ [b])[G.length + 1]? = some (.box [int h]) := fun B b => by rw [zB (by rw [zXG]; omega), zH (by omega)]; exact g10
 have hSx : ∀ B b, (G'.set r B ++ [b])[G'.length]? = some b := fun B b => by rw [zXz (by simp)]; simp
 have hTx : ∀ B b X, ((G'.set r B).set (G.length + 1) X ++ [b])[G'.length]? = some b := fun B b X => by rw [zXz (by simp)]; simp
 have hln := zR l
 have hXr : ∀ B X, (G'.set r B ++ X)[r]? = some B := fun B X => by rw [zB (by simpa using hrl'), zI hrl']
 have hX9 : ∀ B X, (G'.set r B ++ X)[G.length]? = some (.box (prR (ps.getD k default))) := fun B X => by rw [zB (by rw [zXG]; omega), zH (by omega)]; exact g9
 have hX10 : ∀ B X, (G'.set r B ++ X)[G.length + 1]? = some (.box [int h]) := fun B X => by rw [zB (by rw [zXG]; omega), zH (by omega)]; exact g10
 have hXx : ∀ B b X, (G'.set r B ++ b :: X)[G'.length]? = some b := fun B b X => by rw [zXz (by simp)]; simp
 have hXy : ∀ B b d X, (G'.set r B ++ b :: d :: X)[G'.length + 1]? = some d := fun B b d X => by rw [zXz (by simp)]; simp
 have hYr : ∀ B Y X, ((G'.set r B).set (G.length + 1) Y ++ X)[r]? = some B := fun B Y X => by rw [zB (by simpa using hrl'), zH (by omega), zI hrl']
 have hY9 : ∀ B Y X, ((G'.set r B).set (G.length + 1) Y ++ X)[G.length]? = some (.box (prR (ps.getD k default))) := fun B Y X => by rw [zB (by simp; omega), zH (by omega), zH (by omega)]; exact g9
 have hY10 : ∀ B Y X, ((G'.set r B).set (G.length + 1) Y ++ X)[G.length + 1]? = some Y := fun B Y X => by rw [zB (by simp; omega), zI (by simp; omega)]
 have hYx : ∀ B Y b X, ((G'.set r B).set (G.length + 1) Y ++ b :: X)[G'.length]? = some b := fun B Y b X => by rw [zXz (by simp)]; simp
 have hXs : ∀ B b z Y, (G'.set r B ++ [b, z]).set (G'.length + 1) Y = G'.set r B ++ [b, Y] := fun B b z Y => by rw [zYw _ _ (by simp)]; simp
 have fX : ∀ B X, Fr1 r G (G'.set r B ++ X) := fun B X => (fr.trans (Fr1.set B)).trans (Fr1.app _)
 have fY : ∀ B Y X, Fr1 r G ((G'.set r B).set (G.length + 1) Y ++ X) := fun B Y X => ((fr.trans (Fr1.set B)).set' (i := G.length + 1) (by omega) Y).trans (Fr1.app _)
 by_cases hcn : c + zM (l.take j) + 1 ≤ 32768
 ·cases hI : zB1 ps k (.mk 21 a b bd el) out h with
  | some h' =>
   obtain ⟨hab, hem, rfl, hm, rfl⟩ := zUE.1 hI
   rw [hI] at ef
   have hz : zM bd = 0 ∧ zM el = 0 ∧ zAy bd = 0 ∧ zAy el = 0 := by
    rw [zXK.1 hem.1, zXK.1 hem.2]; exact ⟨rfl, rfl, rfl, rfl⟩
   have fRT : ∀ B Y X, Fr1 r G ((G'.set r B).set (G.length + 1) Y ++ X) := fY
   by_cases hr : (ps.getD k default).res < 0
   ·have hmx : (if (ps.getD k default).res < 0 then (0 : Int) else (ps.getD k default).res) = 0 := if_pos hr
    repeat' (first | refine zXx (by omega) ?_ | refine zE (zAQ _) ?_ | simp -implicitDefEqProofs (disch := omega) only [e0, e2, e9, e10, e42, e43, e44, gr, hrow, zB, zG, zU, splice, zA7, zP, zXr, zY, hXr, hX9, hX10, hXx, hYx, L131, LCode.sub, hmx, zO, zAd, zAi, push_cast, simprocAttr, ↓reduceIte, zXq])
    exact .mk (j + 1, 0) ⟨e0, e2, e3, e9, e10, e11, e12, e42, e43, rfl, by rw [hYr, hsn]; simp only [hz, zYr, zXF]; push_cast; rw [zYP], hY9 _ _ _, by rw [hY10], fRT _ _ _, by simp; omega, hlt, by dsimp only; omega, by dsimp only; rw [hsn]; omega, by dsimp only; rw [hsl]; omega, ef⟩ (by dsimp only; omega)
   ·have hmx : (if (ps.getD k default).res < 0 then (0 : Int) else (ps.getD k default).res) = (ps.getD k default).res := if_neg hr
    repeat' (first | refine zXx (by omega) ?_ | refine zE (zAQ _) ?_ | simp -implicitDefEqProofs (disch := omega) only [e0, e2, e9, e10, e42, e43, e44, gr, hrow, zB, zG, zU, splice, zA7, zP, zXr, zY, hXr, hX9, hX10, hXx, hYx, L131, LCode.sub, hmx, zO, zAd, zAi, push_cast, simprocAttr, ↓reduceIte, zXq])
    exact .mk (j + 1, 0) ⟨e0, e2, e3, e9, e10, e11, e12, e42, e43, rfl, by rw [hYr, hsn]; simp only [hz, zYr, zXF]; push_cast; rw [zYP], hY9 _ _ _, by rw [hY10], fRT _ _ _, by simp; omega, hlt, by dsimp only; omega, by dsimp only; rw [hsn]; omega, by dsimp only; rw [hsl]; omega, ef⟩ (by dsimp only; omega)
  | none =>
   have ng := hng (.inl fun h' hh => by rw [hI] at hh; cases hh)
   have hn : ¬ ((a = 0 ∧ b = 0) ∧ (bd.length = 0 ∧ el.length = 0) ∧ out = true ∧ h = max (ps.getD k default).res 0) := fun hh => by rw [zUE.2 ⟨hh.1, hh.2.1, hh.2.2.1, hh.2.2.2, rfl⟩] at hI; cases hI
   cases out with
   | false =>
    repeat' (first | refine zXx (by omega) ?_ | refine zE (zAQ _) ?_ | refine zS (zA9 _) ?_ | simp -implicitDefEqProofs (disch := omega) only [e0, e2, e42, e43, e44, gr, hrow, zB, zG, splice, zXr, zY, hXr, hXx, L131, LCode.sub, zO, zAd, push_cast, simprocAttr, ↓reduceIte, zXq])
    all_goals first | exact fX _ _ | exact ⟨ng, fX _ _⟩
   | true =>
    by_cases hr : (ps.getD k default).res < 0
    ·have hmx : (if (ps.getD k default).res < 0 then (0 : Int) else (ps.getD k default).res) = 0 := if_pos hr
     repeat' (first | intro y0 H2 h0; obtain ⟨hb, rfl⟩ : MT _ _ H2 := h0; (try (exfalso; contradiction)); (try simp only [zXB] at hb) | intro z0 H2 h0; obtain ⟨hb, rfl, rfl⟩ : MF _ z0 _ H2 := h0; clear hb | refine zXx (by omega) ?_ | refine zJ (zCT _ _) ?_ ?_ | simp -implicitDefEqProofs (disch := omega) only [e0, e2, e9, e10, e42, e43, e44, gr, hrow, zB, zG, zU, splice, zA7, zP, zXr, zY, hXr, hX9, hX10, hXx, hYx, L131, LCode.sub, hmx, zO, zAd, zAi, zX, push_cast, simprocAttr, ↓reduceIte, zXq] | split)
     all_goals first | exact fX _ _ | exact fY _ _ _ | exact ⟨ng, fX _ _⟩ | exact ⟨ng, fY _ _ _⟩ | (exfalso; refine hn ⟨⟨?_, ?_⟩, ⟨?_, ?_⟩, rfl, ?_⟩ <;> omega)
    ·have hmx : (if (ps.getD k default).res < 0 then (0 : Int) else (ps.getD k default).res) = (ps.getD k default).res := if_neg hr
     repeat' (first | intro y0 H2 h0; obtain ⟨hb, rfl⟩ : MT _ _ H2 := h0; (try (exfalso; contradiction)); (try simp only [zXB] at hb) | intro z0 H2 h0; obtain ⟨hb, rfl, rfl⟩ : MF _ z0 _ H2 := h0; clear hb | refine zXx (by omega) ?_ | refine zJ (zCT _ _) ?_ ?_ | simp -implicitDefEqProofs (disch := omega) only [e0, e2, e9, e10, e42, e43, e44, gr, hrow, zB, zG, zU, splice, zA7, zP, zXr, zY, hXr, hX9, hX10, hXx, hYx, L131, LCode.sub, hmx, zO, zAd, zAi, zX, push_cast, simprocAttr, ↓reduceIte, zXq] | split)
     all_goals first | exact fX _ _ | exact fY _ _ _ | exact ⟨ng, fX _ _⟩ | exact ⟨ng, fY _ _ _⟩ | (exfalso; refine hn ⟨⟨?_, ?_⟩, ⟨?_, ?_⟩, rfl, ?_⟩ <;> omega)
 ·repeat' (first | refine zXx (by omega) ?_ | refine zS (zA9 _) ?_ | simp -implicitDefEqProofs (disch := omega) only [e0, e42, e43, e44, gr, hrow, zB, zG, splice, zXr, zY, hXr, L131, LCode.sub, zO, zAn, push_cast, simprocAttr, ↓reduceIte, zXq])
  exact ⟨hng (.inr (.inl (by simp only [zBs]; omega))), fX _ _⟩
set_option maxHeartbeats 8000000 in
theorem zS3 (ps : List Pr) (k : Nat) (hk : k < ps.length) (hps : ps.length ≤ 1048576) (hp : zBZ ps k) (hh : zCk (ps.getD k default)) (l : List Ins) (out : Bool) (level c : Int) (r : Nat) (G : zC) : zJy ps k l out level c r G 20 := by
 intro j h e' G' a b bd el hlt hx hs hbd hel hrl hc0 hl0 hl1 ⟨e0, e2, e3, e9, e10, e11, e12, e42, e43, e44, gr, g9, g10, fr, gl, hj, hhh, cc, lv, ef⟩
 have hrow : (l.map zAp).getD j [] = [int 20, int a, int b, .sl 5 (bd.map zAp), .sl 5 (el.map zAp)] := by
  rw [zQ hlt, hx]; simp [zAp, zAI]
 have hrl' := zXN hrl fr.1
 have hb := zAl l (j + 1)
 have hb2 := zAS l (j + 1)
 have hsn := zAf hlt
 have hsl := zAN hlt
 rw [hx] at hsn hsl
 simp only [zBs, zCz] at hsn hsl
 have hbl := zR bd
 have hell := zR el
 have hbv := zAk bd
 have helv := zAk el
 obtain ⟨q1, q2, q3, q4, q5, q6, q7, q8⟩ := hh
 have ef0 := ef
 rw [zAR ps k hlt, hx] at ef
 have fA : ∀ B b, Fr1 r G (G'.set r B ++ [b]) := fun B b => (fr.trans (Fr1.set B)).trans (Fr1.app _)
 have fB : ∀ B b X, Fr1 r G ((G'.set r B).set (G.length + 1) X ++ [b]) := fun B b X => ((fr.trans (Fr1.set B)).set' (i := G.length + 1) (by omega) X).trans (Fr1.app _)
 have hng : ((∀ h', ¬ zB1 ps k (.mk 20 a b bd el) out h = some h') ∨ 32768 < c + zM (l.take j) + zBs (.mk 20 a b bd el) ∨ 257 < level + zCz (.mk 20 a b bd el)) → ¬ zDy ps k l out level c := zBq hlt hx ef0
 have hSr : ∀ B b, (G'.set r B ++ [b])[r]? = some B := fun B b => by rw [zB (by simpa using hrl'), zI hrl']
 have hS9 : ∀ B b, (G'.set r B ++ [b])[G.length]? = some (.box (prR (ps.getD k default))) := fun B b => by rw [zB (by rw [zXG]; omega), zH (by omega)]; exact g9
 have hS10 : ∀ B b, (G'.set r B ++ [b])[G.length + 1]? = some (.box [int h]) := fun B b => by rw [zB (by rw [zXG]; omega), zH (by omega)]; exact g10
 have hSx : ∀ B b, (G'.set r B ++ [b])[G'.length]? = some b := fun B b => by rw [zXz (by simp)]; simp
 have hTx : ∀ B b X, ((G'.set r B).set (G.length + 1) X ++ [b])[G'.length]? = some b := fun B b X => by rw [zXz (by simp)]; simp
 have hln := zR l
 have hXr : ∀ B X, (G'.set r B ++ X)[r]? = some B := fun B X => by rw [zB (by simpa using hrl'), zI hrl']
 have hX9 : ∀ B X, (G'.set r B ++ X)[G.length]? = some (.box (prR (ps.getD k default))) := fun B X => by rw [zB (by rw [zXG]; omega), zH (by omega)]; exact g9
 have hX10 : ∀ B X, (G'.set r B ++ X)[G.length + 1]? = some (.box [int h]) := fun B X => by rw [zB (by rw [zXG]; omega), zH (by omega)]; exact g10
 have hXx : ∀ B b X, (G'.set r B ++ b :: X)[G'.length]? = some b := fun B b X => by rw [zXz (by simp)]; simp
 have hXy : ∀ B b d X, (G'.set r B ++ b :: d :: X)[G'.length + 1]? = some d := fun B b d X => by rw [zXz (by simp)]; simp
 have hYr : ∀ B Y X, ((G'.set r B).set (G.length + 1) Y ++ X)[r]? = some B := fun B Y X => by rw [zB (by simpa using hrl'), zH (by omega), zI hrl']
 have hY9 : ∀ B Y X, ((G'.set r B).set (G.length + 1) Y ++ X)[G.length]? = some (.box (prR (ps.getD k default))) := fun B Y X => by rw [zB (by simp; omega), zH (by omega), zH (by omega)]; exact g9
 have hY10 : ∀ B Y X, ((G'.set r B).set (G.length + 1) Y ++ X)[G.length + 1]? = some Y := fun B Y X => by rw [zB (by simp; omega), zI (by simp; omega)]
 have hYx : ∀ B Y b X, ((G'.set r B).set (G.length + 1) Y ++ b :: X)[G'.length]? = some b := fun B Y b X => by rw [zXz (by simp)]; simp
 have hXs : ∀ B b z Y, (G'.set r B ++ [b, z]).set (G'.length + 1) Y = G'.set r B ++ [b, Y] := fun B b z Y => by rw [zYw _ _ (by simp)]; simp
 have fX : ∀ B X, Fr1 r G (G'.set r B ++ X) := fun B X => (fr.trans (Fr1.set B)).trans (Fr1.app _)
 have fY : ∀ B Y X, Fr1 r G ((G'.set r B).set (G.length + 1) Y ++ X) := fun B Y X => ((fr.trans (Fr1.set B)).set' (i := G.length + 1) (by omega) Y).trans (Fr1.app _)
 by_cases hcn : c + zM (l.take j) + 1 ≤ 32768
 ·have hpr1 : (prR (ps.getD a.toNat default)).drop 1 = [int (ps.getD a.toNat default).par, int (ps.getD a.toNat default).slots, int (ps.getD a.toNat default).res, .sl 1 ((ps.getD a.toNat default).outs.map iR), .sl 5 ((ps.getD a.toNat default).body.map zAp)] := rfl
  by_cases ha : 0 ≤ a ∧ a < k
  ·obtain ⟨p1, p2, p3, p4⟩ := hp a.toNat (by omega)
   have po := zDO p3 p4
   have cO := fun H => zNU (ps.getD a.toNat default) (by omega) H
   cases hI : zB1 ps k (.mk 20 a b bd el) out h with
   | some h' =>
    obtain ⟨hb0, hem, _, f1, f2, rfl⟩ := zMU.1 hI
    rw [hI] at ef
    have hz : zM bd = 0 ∧ zM el = 0 ∧ zAy bd = 0 ∧ zAy el = 0 := by
     rw [zXK.1 hem.1, zXK.1 hem.2]; exact ⟨rfl, rfl, rfl, rfl⟩
    repeat' (first | refine zXx (by omega) ?_ | refine zA (cO _) ?_ | refine zE (zAQ _) ?_ | simp -implicitDefEqProofs (disch := omega) only [e0, e11, e42, e43, e44, gr, hrow, zB, zG, splice, zP, zXr, zY, hXr, hXx, hXy, hXs, L131, LCode.sub, zAD, zBK, zDf, hpr1, zO, zAd, push_cast, simprocAttr, ↓reduceIte, zXq])
    refine zAU (zCc h (ps.getD a.toNat default).par (zCw (ps.getD a.toNat default) - (ps.getD a.toNat default).par) hhh (by omega) _ _ (hX10 _ _)) ?_ ?_
    ·intro y0 H2 h0
     obtain ⟨-, rfl⟩ : NT _ _ _ _ _ H2 := h0
     simp -implicitDefEqProofs (disch := omega) only [zB, zG, zH, zI, zZ, zU, zAB, zAv, zAA, zAz, zO, zT, zAd, zAn, zAi, zX, push_cast, simprocAttr, ↓reduceIte, zXq]
     repeat' (first | refine zE (zAQ _) ?_ | simp -implicitDefEqProofs (disch := omega) only [e44, zXr, hYx, zAi, push_cast, simprocAttr, ↓reduceIte])
     exact .mk (j + 1, h + (zCw (ps.getD a.toNat default) - (ps.getD a.toNat default).par)) ⟨e0, e2, e3, e9, e10, e11, e12, e42, e43, rfl, by rw [hYr, hsn]; simp only [hz, zYr, zXF]; push_cast; rw [zYP], hY9 _ _ _, by rw [hY10], fY _ _ _, by simp; omega, hlt, by dsimp only; omega, by dsimp only; rw [hsn]; omega, by dsimp only; rw [hsl]; omega, ef⟩ (by dsimp only; omega)
    ·intro z0 H2 h0
     obtain ⟨-, hn, -⟩ : NF _ _ _ _ z0 _ H2 := h0
     exact absurd ⟨f1, f2⟩ hn
   | none =>
    have ng := hng (.inl fun h' hh => by rw [hI] at hh; cases hh)
    have hn : ¬ (b = 0 ∧ (bd.length = 0 ∧ el.length = 0) ∧ (ps.getD a.toNat default).par ≤ h ∧ h + (zCw (ps.getD a.toNat default) - (ps.getD a.toNat default).par) ≤ 1024) := fun hh => by rw [zMU.2 ⟨hh.1, hh.2.1, ha, hh.2.2.1, hh.2.2.2, rfl⟩] at hI; cases hI
    repeat' (first | intro y0 H2 h0; obtain ⟨hb, rfl⟩ : MT _ _ H2 := h0; (try (exfalso; contradiction)); (try simp only [zXB] at hb) | intro z0 H2 h0; obtain ⟨hb, rfl, rfl⟩ : MF _ z0 _ H2 := h0; clear hb | intro y0 H2 h0; obtain ⟨hb, rfl⟩ : NT _ _ _ _ _ H2 := h0 | intro z0 H2 h0; obtain ⟨rfl, hb, rfl | rfl⟩ : NF _ _ _ _ z0 _ H2 := h0 | refine zXx (by omega) ?_ | refine zE (zAQ _) ?_ | refine zA (cO _) ?_ | refine zJ (zCT _ _) ?_ ?_ | refine zJ (zCc h (ps.getD a.toNat default).par (zCw (ps.getD a.toNat default) - (ps.getD a.toNat default).par) hhh (by omega) _ _ (hX10 _ _)) ?_ ?_ | simp -implicitDefEqProofs (disch := omega) only [e0, e11, e42, e43, e44, gr, hrow, zB, zG, zU, splice, zP, zXr, zY, hXr, hXx, hXy, hYx, hXs, L131, LCode.sub, zAD, zBK, zDf, hpr1, zO, zAd, zAi, zX, push_cast, simprocAttr, ↓reduceIte, zXq] | split)
    all_goals first | exact fX _ _ | exact fY _ _ _ | exact ⟨ng, fX _ _⟩ | exact ⟨ng, fY _ _ _⟩ | (exfalso; refine hn ⟨?_, ⟨?_, ?_⟩, ?_, ?_⟩ <;> omega)
  ·have ng := hng (.inl fun h' hh => ha (zMU.1 hh).2.2.1)
   repeat' (first | intro y0 H2 h0; obtain ⟨hb, rfl⟩ : MT _ _ H2 := h0; (try (exfalso; contradiction)); (try simp only [zXB] at hb) | intro z0 H2 h0; obtain ⟨hb, rfl, rfl⟩ : MF _ z0 _ H2 := h0; clear hb | refine zXx (by omega) ?_ | refine zE (zAQ _) ?_ | refine zJ (zCT _ _) ?_ ?_ | simp -implicitDefEqProofs (disch := omega) only [e0, e42, e43, e44, gr, hrow, zB, zG, splice, zXr, zY, hXr, hXx, L131, LCode.sub, zO, zT, zAd, zAn, push_cast, simprocAttr, ↓reduceIte, zXq] | split)
   all_goals first | exact fX _ _ | exact ⟨ng, fX _ _⟩ | (exfalso; omega)
 ·repeat' (first | refine zXx (by omega) ?_ | refine zS (zA9 _) ?_ | simp -implicitDefEqProofs (disch := omega) only [e0, e42, e43, e44, gr, hrow, zB, zG, splice, zXr, zY, hXr, L131, LCode.sub, zO, zAn, push_cast, simprocAttr, ↓reduceIte, zXq])
  exact ⟨hng (.inr (.inl (by simp only [zBs]; omega))), fX _ _⟩
set_option maxHeartbeats 8000000 in
theorem zS5 (ps : List Pr) (k : Nat) (hk : k < ps.length) (hps : ps.length ≤ 1048576) (hp : zBZ ps k) (hh : zCk (ps.getD k default)) (l : List Ins) (out : Bool) (level c : Int) (r : Nat) (G : zC) : zJy ps k l out level c r G 18 := by
 intro j h e' G' a b bd el hlt hx hs hbd hel hrl hc0 hl0 hl1 ⟨e0, e2, e3, e9, e10, e11, e12, e42, e43, e44, gr, g9, g10, fr, gl, hj, hhh, cc, lv, ef⟩
 have hrow : (l.map zAp).getD j [] = [int 18, int a, int b, .sl 5 (bd.map zAp), .sl 5 (el.map zAp)] := by
  rw [zQ hlt, hx]; simp [zAp, zAI]
 have hrl' := zXN hrl fr.1
 have hb := zAl l (j + 1)
 have hb2 := zAS l (j + 1)
 have hsn := zAf hlt
 have hsl := zAN hlt
 rw [hx] at hsn hsl
 simp only [zBs, zCz] at hsn hsl
 have hbl := zR bd
 have hell := zR el
 have hbv := zAk bd
 have helv := zAk el
 obtain ⟨q1, q2, q3, q4, q5, q6, q7, q8⟩ := hh
 have ef0 := ef
 rw [zAR ps k hlt, hx] at ef
 have fA : ∀ B b, Fr1 r G (G'.set r B ++ [b]) := fun B b => (fr.trans (Fr1.set B)).trans (Fr1.app _)
 have fB : ∀ B b X, Fr1 r G ((G'.set r B).set (G.length + 1) X ++ [b]) := fun B b X => ((fr.trans (Fr1.set B)).set' (i := G.length + 1) (by omega) X).trans (Fr1.app _)
 have hng : ((∀ h', ¬ zB1 ps k (.mk 18 a b bd el) out h = some h') ∨ 32768 < c + zM (l.take j) + zBs (.mk 18 a b bd el) ∨ 257 < level + zCz (.mk 18 a b bd el)) → ¬ zDy ps k l out level c := zBq hlt hx ef0
 have hSr : ∀ B b, (G'.set r B ++ [b])[r]? = some B := fun B b => by rw [zB (by simpa using hrl'), zI hrl']
 have hS9 : ∀ B b, (G'.set r B ++ [b])[G.length]? = some (.box (prR (ps.getD k default))) := fun B b => by rw [zB (by rw [zXG]; omega), zH (by omega)]; exact g9
 have hS10 : ∀ B b, (G'.set r B ++ [b])[G.length + 1]? = some (.box [int h]) := fun B b => by rw [zB (by rw [zXG]; omega), zH (by omega)]; exact g10
 have hSx : ∀ B b, (G'.set r B ++ [b])[G'.length]? = some b := fun B b => by rw [zXz (by simp)]; simp
 have hTx : ∀ B b X, ((G'.set r B).set (G.length + 1) X ++ [b])[G'.length]? = some b := fun B b X => by rw [zXz (by simp)]; simp
 have hln := zR l
 have hXr : ∀ B X, (G'.set r B ++ X)[r]? = some B := fun B X => by rw [zB (by simpa using hrl'), zI hrl']
 have hX9 : ∀ B X, (G'.set r B ++ X)[G.length]? = some (.box (prR (ps.getD k default))) := fun B X => by rw [zB (by rw [zXG]; omega), zH (by omega)]; exact g9
 have hX10 : ∀ B X, (G'.set r B ++ X)[G.length + 1]? = some (.box [int h]) := fun B X => by rw [zB (by rw [zXG]; omega), zH (by omega)]; exact g10
 have hXx : ∀ B b X, (G'.set r B ++ b :: X)[G'.length]? = some b := fun B b X => by rw [zXz (by simp)]; simp
 have hXy : ∀ B b d X, (G'.set r B ++ b :: d :: X)[G'.length + 1]? = some d := fun B b d X => by rw [zXz (by simp)]; simp
 have hYr : ∀ B Y X, ((G'.set r B).set (G.length + 1) Y ++ X)[r]? = some B := fun B Y X => by rw [zB (by simpa using hrl'), zH (by omega), zI hrl']
 have hY9 : ∀ B Y X, ((G'.set r B).set (G.length + 1) Y ++ X)[G.length]? = some (.box (prR (ps.getD k default))) := fun B Y X => by rw [zB (by simp; omega), zH (by omega), zH (by omega)]; exact g9
 have hY10 : ∀ B Y X, ((G'.set r B).set (G.length + 1) Y ++ X)[G.length + 1]? = some Y := fun B Y X => by rw [zB (by simp; omega), zI (by simp; omega)]
 have hYx : ∀ B Y b X, ((G'.set r B).set (G.length + 1) Y ++ b :: X)[G'.length]? = some b := fun B Y b X => by rw [zXz (by simp)]; simp
 have hXs : ∀ B b z Y, (G'.set r B ++ [b, z]).set (G'.length + 1) Y = G'.set r B ++ [b, Y] := fun B b z Y => by rw [zYw _ _ (by simp)]; simp
 have fX : ∀ B X, Fr1 r G (G'.set r B ++ X) := fun B X => (fr.trans (Fr1.set B)).trans (Fr1.app _)
 have fY : ∀ B Y X, Fr1 r G ((G'.set r B).set (G.length + 1) Y ++ X) := fun B Y X => ((fr.trans (Fr1.set B)).set' (i := G.length + 1) (by omega) Y).trans (Fr1.app _)
 by_cases hcn : c + zM (l.take j) + 1 ≤ 32768
 ·cases out with
  | false =>
   have hio : (false && decide (h = 1)) = false := rfl
   have h18 := fun h' => zCE (ps := ps) (k := k) (a := a) (b := b) (bd := bd) (el := el) (out := false) (h := h) (h' := h')
   have hx0 := hx
   repeat' (first | refine zXx (by omega) ?_ | refine zE (zAQ _) ?_ | simp -implicitDefEqProofs (disch := omega) only [e0, e11, e42, e43, e44, gr, hrow, zB, zG, splice, zXr, zY, hXr, hXx, L131, LCode.sub, zO, zAd, push_cast, simprocAttr, ↓reduceIte, zXq])
   refine zJ (zCc h 1 (-1) hhh (by omega) _ _ (hX10 _ _)) ?_ ?_
   ·intro y0 H2 h0
    obtain ⟨hb1, rfl⟩ : NT _ _ _ _ _ H2 := h0
    simp -implicitDefEqProofs (disch := omega) only [zB, zG, zH, zI, zZ, zU, zAB, zAv, zAA, zAz, zO, zT, zAd, zAn, zAi, zX, push_cast, simprocAttr, ↓reduceIte, zXq]
    repeat' (simp -implicitDefEqProofs (disch := omega) only [e0, e2, e3, hYx, push_cast, simprocAttr, ↓reduceIte])
    refine zJ (hbd false (level + 1) (c + zM (l.take j) + 1) _ r (hYr _ _ _) (by omega) (by omega) (by omega) (by omega)) ?_ ?_
    ·rintro y0 G2 ⟨y1, rfl, he1, hc1, hv1, hf1, hr2⟩
     have rg1 := zAT hp bd _ 0 y1 (by omega) (by omega) he1
     have fr2 : Fr1 r G G2 := (fY _ _ _).trans hf1
     have l2 : G'.length + 1 ≤ G2.length := by have := hf1.1; simpa using this
     have k9 : G2[G.length]? = some (.box (prR (ps.getD k default))) := (hf1.2 _ (by simp; omega) (by omega)).trans (hY9 _ _ _)
     have k10 : G2[G.length + 1]? = some (.box [int (h + -1)]) := (hf1.2 _ (by simp; omega) (by omega)).trans (hY10 _ _ _)
     have kx : G2[G'.length]? = some (.box [int 18, int a, int b, .sl 5 (bd.map zAp), .sl 5 (el.map zAp)]) := (hf1.2 _ (by simp) (by omega)).trans (hYx _ _ _ _)
     clear hf1
     repeat' (simp -implicitDefEqProofs (disch := omega) only [e0, e3, kx, push_cast, simprocAttr, ↓reduceIte])
     refine zJ (hel false (level + 1) (c + zM (l.take j) + 1 + zM bd) G2 r hr2 (by omega) (by omega) (by omega) (by omega)) ?_ ?_
     ·rintro y0 G3 ⟨y2, rfl, he2, hc2, hv2, hf2, hr3⟩
      have rg2 := zAT hp el _ 0 y2 (by omega) (by omega) he2
      have fr3 : Fr1 r G G3 := fr2.trans hf2
      have l3 : G'.length + 1 ≤ G3.length := zX3 l2 hf2.1
      have m9 : G3[G.length]? = some (.box (prR (ps.getD k default))) := (hf2.2 _ (by omega) (by omega)).trans k9
      have m10 : G3[G.length + 1]? = some (.box [int (h + -1)]) := (hf2.2 _ (by omega) (by omega)).trans k10
      have mx : G3[G'.length]? = some (.box [int 18, int a, int b, .sl 5 (bd.map zAp), .sl 5 (el.map zAp)]) := (hf2.2 _ (by omega) (by omega)).trans kx
      clear hf2 k9 k10 kx
      have fR3 : ∀ X, Fr1 r G (G3.set (G.length + 1) X) := fun X => fr3.set' (by omega) X
      by_cases hy : y2 = y1
      ·subst hy
       repeat' (first | refine zE (zAQ _) ?_ | simp -implicitDefEqProofs (disch := omega) only [e11, push_cast, ↓reduceIte, Nat.reduceEqDiff])
       refine zJ (zCc (h + -1) 0 y2 (by omega) (by omega) _ _ m10) ?_ ?_
       ·intro y0 H2 h0
        obtain ⟨hb2, rfl⟩ : NT _ _ _ _ _ H2 := h0
        by_cases hab : a = 0 ∧ b = 0
        ·have hI := (h18 _).2 ⟨hab.1, hab.2, by omega, y2, by rw [hio]; exact he1, by rw [hio]; exact he2, by omega, rfl⟩
         rw [hI] at ef
         repeat' (first | refine zE (zAQ _) ?_ | simp -implicitDefEqProofs (disch := omega) only [e44, mx, zH, zAi, push_cast, simprocAttr, ↓reduceIte])
         have hcnt : c + (zM (l.take j) : Int) + 1 + zM bd + zM el = c + (zM (l.take (j + 1)) : Nat) := by rw [hsn]; push_cast; omega
         have hyy : h + -1 + y2 = h + (y2 - 1) := by omega
         exact .mk (j + 1, h + (y2 - 1)) ⟨e0, e2, e3, e9, e10, e11, e12, e42, e43, rfl, by rw [zH (by omega), hr3, hcnt], by rw [zH (by omega)]; exact m9, by rw [zI (by omega), hyy], fR3 _, by simp; omega, hlt, by dsimp only; omega, by dsimp only; rw [hsn]; omega, by dsimp only; rw [hsl]; omega, ef⟩ (by dsimp only; omega)
        ·have ng := hng (.inl fun h' hh => hab (by obtain ⟨g1, g2, _⟩ := zCE.1 hh; exact ⟨g1, g2⟩))
         repeat' (first | refine zXx (by omega) ?_ | refine zS (zA9 _) ?_ | simp -implicitDefEqProofs (disch := omega) only [mx, zH, zAi, zX, push_cast, simprocAttr, ↓reduceIte] | split)
         all_goals first | exact fR3 _ | exact ⟨ng, fR3 _⟩ | (exfalso; omega)
       ·intro z0 H2 h0
        obtain ⟨rfl, hb2, hH2⟩ : NF _ _ _ _ z0 _ H2 := h0
        have ng := hng (.inl fun h' hh => by
         obtain ⟨g1, g2, g3, e, g4, g5, g6, g7⟩ := zCE.1 hh
         rw [hio, he1] at g4
         simp only [zXt] at g4
         omega)
        rcases hH2 with rfl | rfl
        ·repeat' (first | refine zXx (by omega) ?_ | simp -implicitDefEqProofs (disch := omega) only [push_cast])
         first | exact fr3 | exact ⟨ng, fr3⟩
        ·repeat' (first | refine zXx (by omega) ?_ | simp -implicitDefEqProofs (disch := omega) only [push_cast, Int.reduceNeg])
         first | exact fR3 _ | exact ⟨ng, fR3 _⟩
      ·have ng := hng (.inl fun h' hh => by
        obtain ⟨g1, g2, g3, e, g4, g5, g6, g7⟩ := zCE.1 hh
        rw [hio, he1] at g4
        rw [hio, he2] at g5
        simp only [zXt] at g4 g5
        omega)
       repeat' (first | refine zXx (by omega) ?_ | refine zS (zA9 _) ?_ | simp -implicitDefEqProofs (disch := omega) only [zX, push_cast, ↓reduceIte, Nat.reduceEqDiff])
       first | exact fr3 | exact ⟨ng, fr3⟩
     ·rintro z0 G3 ⟨rfl, hb2, hf2⟩
      have ng := hng (by
       by_cases hg : ∃ e, zBl ps k el false 0 = some e
       ·refine .inr (zXY fun hno => hb2 ⟨hg, ?_, ?_⟩) <;> simp only [zBs, zCz] at hno <;> omega
       ·exact .inl fun h' hh => by
         obtain ⟨g1, g2, g3, e, g4, g5, g6, g7⟩ := zCE.1 hh
         rw [hio] at g5
         exact hg ⟨_, g5⟩)
      repeat' (first | refine zXx (by omega) ?_ | simp -implicitDefEqProofs (disch := omega) only [push_cast])
      first | exact fr2.trans hf2 | exact ⟨ng, fr2.trans hf2⟩
    ·rintro z0 G2 ⟨rfl, hb2, hf2⟩
     have ng := hng (by
      by_cases hg : ∃ e, zBl ps k bd false 0 = some e
      ·refine .inr (zXY fun hno => hb2 ⟨hg, ?_, ?_⟩) <;> simp only [zBs, zCz] at hno <;> omega
      ·exact .inl fun h' hh => by
        obtain ⟨g1, g2, g3, e, g4, g5, g6, g7⟩ := zCE.1 hh
        rw [hio] at g4
        exact hg ⟨_, g4⟩)
     repeat' (first | refine zXx (by omega) ?_ | simp -implicitDefEqProofs (disch := omega) only [push_cast])
     first | exact (fY _ _ _).trans hf2 | exact ⟨ng, (fY _ _ _).trans hf2⟩
   ·intro z0 H2 h0
    obtain ⟨rfl, hb2, hH2⟩ : NF _ _ _ _ z0 _ H2 := h0
    have ng := hng (.inl fun h' hh => by
     obtain ⟨g1, g2, g3, _⟩ := zCE.1 hh
     omega)
    rcases hH2 with rfl | rfl
    ·repeat' (first | refine zXx (by omega) ?_ | simp -implicitDefEqProofs (disch := omega) only [push_cast])
     first | exact fX _ _ | exact ⟨ng, fX _ _⟩
    ·simp -implicitDefEqProofs (disch := omega) only [zB, zG, zH, zI, zZ, zU, zAB, zAv, zAA, zAz, zO, zT, zAd, zAn, zAi, zX, push_cast, simprocAttr, ↓reduceIte, zXq]
     repeat' (refine zXx (by omega) ?_)
     first | exact fY _ _ _ | exact ⟨ng, fY _ _ _⟩
  | true =>
   by_cases h1e : h = 1
   ·have hio : (true && decide (h = 1)) = true := by simp [h1e]
    have h18 := fun h' => zCE (ps := ps) (k := k) (a := a) (b := b) (bd := bd) (el := el) (out := true) (h := h) (h' := h')
    have hx0 := hx
    repeat' (first | refine zXx (by omega) ?_ | refine zE (zAQ _) ?_ | simp -implicitDefEqProofs (disch := omega) only [e0, e11, e42, e43, e44, gr, hrow, zB, zG, splice, zXr, zY, hXr, hXx, L131, LCode.sub, zO, zAd, push_cast, simprocAttr, ↓reduceIte, zXq])
    refine zJ (zCc h 1 (-1) hhh (by omega) _ _ (hX10 _ _)) ?_ ?_
    ·intro y0 H2 h0
     obtain ⟨hb1, rfl⟩ : NT _ _ _ _ _ H2 := h0
     simp -implicitDefEqProofs (disch := omega) only [zB, zG, zH, zI, zZ, zU, zAB, zAv, zAA, zAz, zO, zT, zAd, zAn, zAi, zX, push_cast, simprocAttr, ↓reduceIte, zXq]
     repeat' (simp -implicitDefEqProofs (disch := omega) only [e0, e2, e3, e10, hY10, hYx, zAi, push_cast, simprocAttr, ↓reduceIte])
     refine zJ (hbd true (level + 1) (c + zM (l.take j) + 1) _ r (hYr _ _ _) (by omega) (by omega) (by omega) (by omega)) ?_ ?_
     ·rintro y0 G2 ⟨y1, rfl, he1, hc1, hv1, hf1, hr2⟩
      have rg1 := zAT hp bd _ 0 y1 (by omega) (by omega) he1
      have fr2 : Fr1 r G G2 := (fY _ _ _).trans hf1
      have l2 : G'.length + 1 ≤ G2.length := by have := hf1.1; simpa using this
      have k9 : G2[G.length]? = some (.box (prR (ps.getD k default))) := (hf1.2 _ (by simp; omega) (by omega)).trans (hY9 _ _ _)
      have k10 : G2[G.length + 1]? = some (.box [int (h + -1)]) := (hf1.2 _ (by simp; omega) (by omega)).trans (hY10 _ _ _)
      have kx : G2[G'.length]? = some (.box [int 18, int a, int b, .sl 5 (bd.map zAp), .sl 5 (el.map zAp)]) := (hf1.2 _ (by simp) (by omega)).trans (hYx _ _ _ _)
      clear hf1
      repeat' (simp -implicitDefEqProofs (disch := omega) only [e0, e3, kx, push_cast, simprocAttr, ↓reduceIte])
      refine zJ (hel true (level + 1) (c + zM (l.take j) + 1 + zM bd) G2 r hr2 (by omega) (by omega) (by omega) (by omega)) ?_ ?_
      ·rintro y0 G3 ⟨y2, rfl, he2, hc2, hv2, hf2, hr3⟩
       have rg2 := zAT hp el _ 0 y2 (by omega) (by omega) he2
       have fr3 : Fr1 r G G3 := fr2.trans hf2
       have l3 : G'.length + 1 ≤ G3.length := zX3 l2 hf2.1
       have m9 : G3[G.length]? = some (.box (prR (ps.getD k default))) := (hf2.2 _ (by omega) (by omega)).trans k9
       have m10 : G3[G.length + 1]? = some (.box [int (h + -1)]) := (hf2.2 _ (by omega) (by omega)).trans k10
       have mx : G3[G'.length]? = some (.box [int 18, int a, int b, .sl 5 (bd.map zAp), .sl 5 (el.map zAp)]) := (hf2.2 _ (by omega) (by omega)).trans kx
       clear hf2 k9 k10 kx
       have fR3 : ∀ X, Fr1 r G (G3.set (G.length + 1) X) := fun X => fr3.set' (by omega) X
       by_cases hy : y2 = y1
       ·subst hy
        repeat' (first | refine zE (zAQ _) ?_ | simp -implicitDefEqProofs (disch := omega) only [e11, push_cast, simprocAttr, ↓reduceIte])
        refine zJ (zCc (h + -1) 0 y2 (by omega) (by omega) _ _ m10) ?_ ?_
        ·intro y0 H2 h0
         obtain ⟨hb2, rfl⟩ : NT _ _ _ _ _ H2 := h0
         by_cases hab : a = 0 ∧ b = 0
         ·have hI := (h18 _).2 ⟨hab.1, hab.2, by omega, y2, by rw [hio]; exact he1, by rw [hio]; exact he2, by omega, rfl⟩
          rw [hI] at ef
          repeat' (first | refine zE (zAQ _) ?_ | simp -implicitDefEqProofs (disch := omega) only [e44, mx, zH, zAi, push_cast, simprocAttr, ↓reduceIte])
          have hcnt : c + (zM (l.take j) : Int) + 1 + zM bd + zM el = c + (zM (l.take (j + 1)) : Nat) := by rw [hsn]; push_cast; omega
          have hyy : h + -1 + y2 = h + (y2 - 1) := by omega
          exact .mk (j + 1, h + (y2 - 1)) ⟨e0, e2, e3, e9, e10, e11, e12, e42, e43, rfl, by rw [zH (by omega), hr3, hcnt], by rw [zH (by omega)]; exact m9, by rw [zI (by omega), hyy], fR3 _, by simp; omega, hlt, by dsimp only; omega, by dsimp only; rw [hsn]; omega, by dsimp only; rw [hsl]; omega, ef⟩ (by dsimp only; omega)
         ·have ng := hng (.inl fun h' hh => hab (by obtain ⟨g1, g2, _⟩ := zCE.1 hh; exact ⟨g1, g2⟩))
          repeat' (first | refine zXx (by omega) ?_ | refine zS (zA9 _) ?_ | simp -implicitDefEqProofs (disch := omega) only [mx, zH, zAi, zX, push_cast, simprocAttr, ↓reduceIte] | split)
          all_goals first | exact fR3 _ | exact ⟨ng, fR3 _⟩ | (exfalso; omega)
        ·intro z0 H2 h0
         obtain ⟨rfl, hb2, hH2⟩ : NF _ _ _ _ z0 _ H2 := h0
         have ng := hng (.inl fun h' hh => by
          obtain ⟨g1, g2, g3, e, g4, g5, g6, g7⟩ := zCE.1 hh
          rw [hio, he1] at g4
          simp only [zXt] at g4
          omega)
         rcases hH2 with rfl | rfl
         ·repeat' (refine zXx (by omega) ?_)
          first | exact fr3 | exact ⟨ng, fr3⟩
         ·repeat' (refine zXx (by omega) ?_)
          first | exact fR3 _ | exact ⟨ng, fR3 _⟩
       ·have ng := hng (.inl fun h' hh => by
         obtain ⟨g1, g2, g3, e, g4, g5, g6, g7⟩ := zCE.1 hh
         rw [hio, he1] at g4
         rw [hio, he2] at g5
         simp only [zXt] at g4 g5
         omega)
        repeat' (first | refine zXx (by omega) ?_ | refine zS (zA9 _) ?_ | simp -implicitDefEqProofs (disch := omega) only [zX, push_cast, simprocAttr, ↓reduceIte])
        first | exact fr3 | exact ⟨ng, fr3⟩
      ·rintro z0 G3 ⟨rfl, hb2, hf2⟩
       have ng := hng (by
        by_cases hg : ∃ e, zBl ps k el true 0 = some e
        ·refine .inr (zXY fun hno => hb2 ⟨hg, ?_, ?_⟩) <;> simp only [zBs, zCz] at hno <;> omega
        ·exact .inl fun h' hh => by
          obtain ⟨g1, g2, g3, e, g4, g5, g6, g7⟩ := zCE.1 hh
          rw [hio] at g5
          exact hg ⟨_, g5⟩)
       repeat' (first | refine zXx (by omega) ?_ | simp -implicitDefEqProofs (disch := omega) only [push_cast, Int.reduceNeg])
       first | exact fr2.trans hf2 | exact ⟨ng, fr2.trans hf2⟩
     ·rintro z0 G2 ⟨rfl, hb2, hf2⟩
      have ng := hng (by
       by_cases hg : ∃ e, zBl ps k bd true 0 = some e
       ·refine .inr (zXY fun hno => hb2 ⟨hg, ?_, ?_⟩) <;> simp only [zBs, zCz] at hno <;> omega
       ·exact .inl fun h' hh => by
         obtain ⟨g1, g2, g3, e, g4, g5, g6, g7⟩ := zCE.1 hh
         rw [hio] at g4
         exact hg ⟨_, g4⟩)
      repeat' (first | refine zXx (by omega) ?_ | simp -implicitDefEqProofs (disch := omega) only [push_cast, Int.reduceNeg])
      first | exact (fY _ _ _).trans hf2 | exact ⟨ng, (fY _ _ _).trans hf2⟩
    ·intro z0 H2 h0
     obtain ⟨rfl, hb2, hH2⟩ : NF _ _ _ _ z0 _ H2 := h0
     have ng := hng (.inl fun h' hh => by
      obtain ⟨g1, g2, g3, _⟩ := zCE.1 hh
      omega)
     rcases hH2 with rfl | rfl
     ·repeat' (refine zXx (by omega) ?_)
      first | exact fX _ _ | exact ⟨ng, fX _ _⟩
     ·simp -implicitDefEqProofs (disch := omega) only [zB, zG, zH, zI, zZ, zU, zAB, zAv, zAA, zAz, zO, zT, zAd, zAn, zAi, zX, push_cast, simprocAttr, ↓reduceIte, zXq]
      repeat' (refine zXx (by omega) ?_)
      first | exact fY _ _ _ | exact ⟨ng, fY _ _ _⟩
   ·have hio : (true && decide (h = 1)) = false := by simp [h1e]
    have h18 := fun h' => zCE (ps := ps) (k := k) (a := a) (b := b) (bd := bd) (el := el) (out := true) (h := h) (h' := h')
    have hx0 := hx
    repeat' (first | refine zXx (by omega) ?_ | refine zE (zAQ _) ?_ | simp -implicitDefEqProofs (disch := omega) only [e0, e11, e42, e43, e44, gr, hrow, zB, zG, splice, zXr, zY, hXr, hXx, L131, LCode.sub, zO, zAd, push_cast, simprocAttr, ↓reduceIte, zXq])
    refine zJ (zCc h 1 (-1) hhh (by omega) _ _ (hX10 _ _)) ?_ ?_
    ·intro y0 H2 h0
     obtain ⟨hb1, rfl⟩ : NT _ _ _ _ _ H2 := h0
     simp -implicitDefEqProofs (disch := omega) only [zB, zG, zH, zI, zZ, zU, zAB, zAv, zAA, zAz, zO, zT, zAd, zAn, zAi, zX, push_cast, simprocAttr, ↓reduceIte, zXq]
     repeat' (simp -implicitDefEqProofs (disch := omega) only [e0, e2, e3, e10, hY10, hYx, zX, push_cast, simprocAttr, ↓reduceIte])
     refine zJ (hbd false (level + 1) (c + zM (l.take j) + 1) _ r (hYr _ _ _) (by omega) (by omega) (by omega) (by omega)) ?_ ?_
     ·rintro y0 G2 ⟨y1, rfl, he1, hc1, hv1, hf1, hr2⟩
      have rg1 := zAT hp bd _ 0 y1 (by omega) (by omega) he1
      have fr2 : Fr1 r G G2 := (fY _ _ _).trans hf1
      have l2 : G'.length + 1 ≤ G2.length := by have := hf1.1; simpa using this
      have k9 : G2[G.length]? = some (.box (prR (ps.getD k default))) := (hf1.2 _ (by simp; omega) (by omega)).trans (hY9 _ _ _)
      have k10 : G2[G.length + 1]? = some (.box [int (h + -1)]) := (hf1.2 _ (by simp; omega) (by omega)).trans (hY10 _ _ _)
      have kx : G2[G'.length]? = some (.box [int 18, int a, int b, .sl 5 (bd.map zAp), .sl 5 (el.map zAp)]) := (hf1.2 _ (by simp) (by omega)).trans (hYx _ _ _ _)
      clear hf1
      repeat' (simp -implicitDefEqProofs (disch := omega) only [e0, e3, kx, push_cast, simprocAttr, ↓reduceIte])
      refine zJ (hel false (level + 1) (c + zM (l.take j) + 1 + zM bd) G2 r hr2 (by omega) (by omega) (by omega) (by omega)) ?_ ?_
      ·rintro y0 G3 ⟨y2, rfl, he2, hc2, hv2, hf2, hr3⟩
       have rg2 := zAT hp el _ 0 y2 (by omega) (by omega) he2
       have fr3 : Fr1 r G G3 := fr2.trans hf2
       have l3 : G'.length + 1 ≤ G3.length := zX3 l2 hf2.1
       have m9 : G3[G.length]? = some (.box (prR (ps.getD k default))) := (hf2.2 _ (by omega) (by omega)).trans k9
       have m10 : G3[G.length + 1]? = some (.box [int (h + -1)]) := (hf2.2 _ (by omega) (by omega)).trans k10
       have mx : G3[G'.length]? = some (.box [int 18, int a, int b, .sl 5 (bd.map zAp), .sl 5 (el.map zAp)]) := (hf2.2 _ (by omega) (by omega)).trans kx
       clear hf2 k9 k10 kx
       have fR3 : ∀ X, Fr1 r G (G3.set (G.length + 1) X) := fun X => fr3.set' (by omega) X
       by_cases hy : y2 = y1
       ·subst hy
        repeat' (first | refine zE (zAQ _) ?_ | simp -implicitDefEqProofs (disch := omega) only [e11, push_cast, simprocAttr, ↓reduceIte])
        refine zJ (zCc (h + -1) 0 y2 (by omega) (by omega) _ _ m10) ?_ ?_
        ·intro y0 H2 h0
         obtain ⟨hb2, rfl⟩ : NT _ _ _ _ _ H2 := h0
         by_cases hab : a = 0 ∧ b = 0
         ·have hI := (h18 _).2 ⟨hab.1, hab.2, by omega, y2, by rw [hio]; exact he1, by rw [hio]; exact he2, by omega, rfl⟩
          rw [hI] at ef
          repeat' (first | refine zE (zAQ _) ?_ | simp -implicitDefEqProofs (disch := omega) only [e44, mx, zH, zAi, push_cast, simprocAttr, ↓reduceIte])
          have hcnt : c + (zM (l.take j) : Int) + 1 + zM bd + zM el = c + (zM (l.take (j + 1)) : Nat) := by rw [hsn]; push_cast; omega
          have hyy : h + -1 + y2 = h + (y2 - 1) := by omega
          exact .mk (j + 1, h + (y2 - 1)) ⟨e0, e2, e3, e9, e10, e11, e12, e42, e43, rfl, by rw [zH (by omega), hr3, hcnt], by rw [zH (by omega)]; exact m9, by rw [zI (by omega), hyy], fR3 _, by simp; omega, hlt, by dsimp only; omega, by dsimp only; rw [hsn]; omega, by dsimp only; rw [hsl]; omega, ef⟩ (by dsimp only; omega)
         ·have ng := hng (.inl fun h' hh => hab (by obtain ⟨g1, g2, _⟩ := zCE.1 hh; exact ⟨g1, g2⟩))
          repeat' (first | refine zXx (by omega) ?_ | refine zS (zA9 _) ?_ | simp -implicitDefEqProofs (disch := omega) only [mx, zH, zAi, zX, push_cast, simprocAttr, ↓reduceIte] | split)
          all_goals first | exact fR3 _ | exact ⟨ng, fR3 _⟩ | (exfalso; omega)
        ·intro z0 H2 h0
         obtain ⟨rfl, hb2, hH2⟩ : NF _ _ _ _ z0 _ H2 := h0
         have ng := hng (.inl fun h' hh => by
          obtain ⟨g1, g2, g3, e, g4, g5, g6, g7⟩ := zCE.1 hh
          rw [hio, he1] at g4
          simp only [zXt] at g4
          omega)
         rcases hH2 with rfl | rfl
         ·repeat' (first | refine zXx (by omega) ?_ | simp -implicitDefEqProofs (disch := omega) only [push_cast, Int.reduceNeg])
          first | exact fr3 | exact ⟨ng, fr3⟩
         ·repeat' (first | refine zXx (by omega) ?_ | simp -implicitDefEqProofs (disch := omega) only [push_cast, Int.reduceNeg])
          first | exact fR3 _ | exact ⟨ng, fR3 _⟩
       ·have ng := hng (.inl fun h' hh => by
         obtain ⟨g1, g2, g3, e, g4, g5, g6, g7⟩ := zCE.1 hh
         rw [hio, he1] at g4
         rw [hio, he2] at g5
         simp only [zXt] at g4 g5
         omega)
        repeat' (first | refine zXx (by omega) ?_ | refine zS (zA9 _) ?_ | simp -implicitDefEqProofs (disch := omega) only [zX, push_cast, simprocAttr, ↓reduceIte])
        first | exact fr3 | exact ⟨ng, fr3⟩
      ·rintro z0 G3 ⟨rfl, hb2, hf2⟩
       have ng := hng (by
        by_cases hg : ∃ e, zBl ps k el false 0 = some e
        ·refine .inr (zXY fun hno => hb2 ⟨hg, ?_, ?_⟩) <;> simp only [zBs, zCz] at hno <;> omega
        ·exact .inl fun h' hh => by
          obtain ⟨g1, g2, g3, e, g4, g5, g6, g7⟩ := zCE.1 hh
          rw [hio] at g5
          exact hg ⟨_, g5⟩)
       repeat' (first | refine zXx (by omega) ?_ | simp -implicitDefEqProofs (disch := omega) only [push_cast, Int.reduceNeg])
       first | exact fr2.trans hf2 | exact ⟨ng, fr2.trans hf2⟩
     ·rintro z0 G2 ⟨rfl, hb2, hf2⟩
      have ng := hng (by
       by_cases hg : ∃ e, zBl ps k bd false 0 = some e
       ·refine .inr (zXY fun hno => hb2 ⟨hg, ?_, ?_⟩) <;> simp only [zBs, zCz] at hno <;> omega
       ·exact .inl fun h' hh => by
         obtain ⟨g1, g2, g3, e, g4, g5, g6, g7⟩ := zCE.1 hh
         rw [hio] at g4
         exact hg ⟨_, g4⟩)
      repeat' (first | refine zXx (by omega) ?_ | simp -implicitDefEqProofs (disch := omega) only [push_cast, Int.reduceNeg])
      first | exact (fY _ _ _).trans hf2 | exact ⟨ng, (fY _ _ _).trans hf2⟩
    ·intro z0 H2 h0
     obtain ⟨rfl, hb2, hH2⟩ : NF _ _ _ _ z0 _ H2 := h0
     have ng := hng (.inl fun h' hh => by
      obtain ⟨g1, g2, g3, _⟩ := zCE.1 hh
      omega)
     rcases hH2 with rfl | rfl
     ·repeat' (first | refine zXx (by omega) ?_ | simp -implicitDefEqProofs (disch := omega) only [push_cast])
      first | exact fX _ _ | exact ⟨ng, fX _ _⟩
     ·simp -implicitDefEqProofs (disch := omega) only [zB, zG, zH, zI, zZ, zU, zAB, zAv, zAA, zAz, zO, zT, zAd, zAn, zAi, zX, push_cast, simprocAttr, ↓reduceIte, zXq]
      repeat' (refine zXx (by omega) ?_)
      first | exact fY _ _ _ | exact ⟨ng, fY _ _ _⟩
 ·repeat' (first | refine zXx (by omega) ?_ | refine zS (zA9 _) ?_ | simp -implicitDefEqProofs (disch := omega) only [e0, e42, e43, e44, gr, hrow, zB, zG, splice, zXr, zY, hXr, L131, LCode.sub, zO, zAn, push_cast, simprocAttr, ↓reduceIte, zXq])
  exact ⟨hng (.inr (.inl (by simp only [zBs]; omega))), fX _ _⟩
end Go.Proofs.YtaipgalanpcgoaaGreat
