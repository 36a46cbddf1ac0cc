/- Parts,merged by a program (wip/tools/merge2.py): Fp Fm Ax28 Ax29 Ax30 Ax37 Ax38 Ax39 Cp2 Cp3 Cp4 Ax42 Fn Cp5 Bd1 Bd2 Ff Fm1 Mc3 Mc4 Mc5 Mc6 Mc7 Mc8 Mc9 Cp7. -/
import Derived.Test.YtbibhcmcjldhdaaGreatDoorM3
import Derived.Test.YtbibhcmcjldhdaaGreatDoorChecked
import Derived.RecoverIn
import Derived.Shelf.Strings.Builder1
import Derived.KernelRfl
namespace Go.Proofs.YtbibhcmcjldhdaaGreatDoor
open Go Go.Ax
set_option maxRecDepth 100000
set_option linter.unusedSimpArgs false
set_option maxHeartbeats 4000000
def L10p : zTB := ⟨97,[(.cell 2 true 1),(.cell 3 false 1)],(.seq (.ops [oX 2 (.alloc [zAl]),oX 3 (.alloc [(int 0)])]) (.seq (.seq (.ops [oM 11 0,oX 12 (.len .str (.t 11)),oV 13 .gtr 12 1048576]) (cD 13 (.seq (.ops [oX 14 (.build [zAl] []),oS 1 2 14,oN (.store 1 (.t 3) (kI 8))]) .ret) .skip)) (.cut [oX 15 (.mkfn (.func 22) [] [(.t 2),(.t 3)])] (.t 15) [] (.seq (.ops [oX 16 (.build [zAl] []),oX 17 (.box false (.t 16)),oX 4 (.alloc [(.v (.pointer none))]),oS 1 4 17]) (.seq (.seq (.ops [oM 18 0,oX 19 (cF 23 [(.t 18),(.c (.v (.string (mkS [10]))))])]) (.block 0 (.range (.t 19) [20] (.ops [oM 5 20]) (.block 1 (.seq (.ops [oX 6 (.alloc [zAl])]) (.seq (.seq (.ops [oM 21 5,oX 22 (cF 23 [(.t 21),(.c (.v (.string (mkS [32]))))])]) (.block 2 (.range (.t 22) [23] (.ops [oM 7 23]) (.block 3 (.seq (.ops [oM 24 7,oX 25 (.bin .str .neq (.t 24) (.c (.v (.string (mkS [])))))]) (cD 25 (.ops [oL 26 6,oM 27 7,oX 28 (.bsl true 1 1 [(.v (.string (mkS [])))] [(0,(.t 27))]),oX 29 (.append 1 16 (.t 26) (.t 28)),oS 1 6 29]) .skip)))))) (.seq (.ops [oX 6 (.frzf 1 0 (.t 6)),oL 30 6,oX 31 (.len .slc (.t 30)),oV 32 .gtr 31 0]) (cD 32 (.drawA [oL 33 4,oL 34 4,oK 35 34,oD 36 0 35,oL 37 36,oL 38 6,oX 39 (.bsl true 1 1 [zAl] [(0,(.t 38))]),oN (.mv (.c .any)),oK 41 33,oD 42 0 41,oN (.mv (.c .any))] [(oX 40 (.append 1 24 (.t 37) (.t 39)),[0,8,9]),(oS 1 42 40,[])] []) .skip)))))))) (.seq (.block 4 (.loop (.seq (.seq (.ops [oL 43 4,oK 44 43,oD 45 0 44,oL 46 45,oX 47 (.len .slc (.t 46)),oV 48 .gtr 47 0]) (cD 48 .skip (.exit 4))) (.block 5 (.seq (.ops [oL 49 4,oX 50 (y1 24 49),oM 8 50]) (.seq (.seq (.ops [oM 51 8]) (.seq (.ops [oX 52 (.iaddr 1 (.t 51) (kI 0))]) (.seq (.ops [oL 53 52]) (.seq (.ops [oX 54 (.bin .str .eql (.t 53) (.c (.v (.string (mkS [112,114,111,99])))))]) (.seq (.ops [oM 55 54]) (.seq (.ops [oU 56 55 8]) (.seq (.ops [oT 57 55 (.len .slc (.t 56))]) (.seq (.ops [oT 58 55 (bI .geq (.t 57) (kI 5))]) (.seq (.ops [oP 59 55 (.t 58) (kB false)]) (.seq (.ops []) (.seq (.callp (some 60) (.c (.fn (.func 25) [] [])) [(.t 59)]) (.ops [])))))))))))) (.seq (.seq (.ops [oM 61 8]) (.seq (.ops [oX 62 (.slice .slc 1 (.t 61) (some (kI 2)) none)]) (.seq (.ops []) (.seq (.callp (some 63) (.c (.fn (.func 26) [] [])) [(.t 62)]) (.seq (.ops [oM 9 63]) (.ops [])))))) (.seq (.draw [oM 64 8,oX 65 (.iaddr 1 (.t 64) (kI 1)),oL 66 65,oM 67 9,oX 68 (.iaddr 1 (.t 67) (kI 0)),oL 69 68,oM 70 9,oX 71 (.iaddr 1 (.t 70) (kI 1)),oL 72 71,oM 73 9,oX 74 (.iaddr 1 (.t 73) (kI 2)),oL 75 74,oX 76 (.build [(.v (.string (mkS []))),(int 0),(int 0),(int 0),zAl,zAl] [(0,(1,(.t 66))),(1,(1,(.t 69))),(2,(1,(.t 72))),(3,(1,(.t 75)))])] [oX 10 (.alloc [(.v (.string (mkS []))),(int 0),(int 0),(int 0),zAl,zAl]),oS 6 10 76]) (.seq (.draw [oD 77 4 10,oL 78 77,oM 79 9,oX 80 (.slice .slc 1 (.t 79) (some (kI 3)) none)] [oX 81 (.append 1 8 (.t 78) (.t 80)),oD 82 4 10,oS 1 82 81]) (.seq (.seq (.ops [oL 83 4]) (.seq (.ops []) (.seq (.callp (some 84) (.c (.fn (.func 27) [] [])) [(.t 83),(.c (.v (.string (mkS [101,110,100]))))]) (.seq (.ops [oD 85 5 10]) (.seq (.ops [oS 1 85 84]) (.ops [])))))) (.ops [oX 10 (.frzf 1 4 (.t 10)),oD 86 0 2,oL 87 86,oA 88 6 10,oX 89 (.bsl true 6 1 [(.v (.string (mkS []))),(int 0),(int 0),(int 0),zAl,zAl] [(0,(.t 88))]),oX 90 (.append 6 88 (.t 87) (.t 89)),oD 91 0 2,oS 1 91 90]))))))))))) (.seq (.seq (.ops [oX 2 (.frzf 6 0 (.t 2)),oA 92 1 2,oX 93 (y1 14 92),oX 94 (.not (.t 93))]) (cD 94 (.seq (.ops [oX 95 (.build [zAl] []),oS 1 2 95,oN (.store 1 (.t 3) (kI 1))]) .ret) .skip)) (.seq (.ops [oA 96 1 2,oS 1 2 96,oN (.store 1 (.t 3) (kI 0))]) .ret))))))))⟩
theorem L10p_ok : zJA Tryz.prog Tryz.f10 [⟨12,0,(.pre 6 (.frzf 1 0 (.t 6)))⟩,⟨21,0,(.pre 10 (.frzf 1 4 (.t 10)))⟩,⟨22,0,(.pre 2 (.frzf 6 0 (.t 2)))⟩,⟨11,2,.imm⟩,⟨13,6,.imm⟩,⟨21,3,.imm⟩,⟨16,9,.cut⟩,⟨17,2,.cut⟩,⟨20,1,.cut⟩,⟨13,0,(.drw [7,10])⟩,⟨18,13,.tail⟩,⟨19,4,.tail⟩] = some L10p := by kernel_rfl
def L11p : LFn := ⟨88,[(.cell 2 true 1),(.tmp 3)],(sO [oX 2 (.alloc [zAl]),oC 3 0] (.seq (sO [oM 11 0,oX 12 (.len .str (.t 11)),oV 13 .gtr 12 1048576] (cD 13 (sO [oX 14 (.build [zAl] []),oS 1 2 14,oC 3 8] .ret) .skip)) (sO [oM 15 0,oX 16 (y1 28 15),oX 17 (.build [zAl,(int 0)] [(0,(1,(.t 16)))]),oX 4 (.alloc [zAl,(int 0)]),oS 2 4 17] (sO [oX 18 (.build [zAl] []),oX 5 (.alloc [zAl]),oS 1 5 18] (.seq (.block 0 (.loop (.seq (sO [oD 19 1 4,oL 20 19,oD 21 0 4,oL 22 21,oX 23 (.len .slc (.t 22)),oB 24 .lss 20 23] (cD 24 .skip (.exit 0))) (.block 1 (sO [oD 25 0 4,oL 26 25,oD 27 1 4,oL 28 27,oI 29 1 26 28,oL 30 29,oM 6 30] (sO [oD 31 1 4,oL 32 31,oV 33 .add 32 1,oD 34 1 4,oS 1 34 33] (.seq (sO [oM 35 6,oX 36 (.len .slc (.t 35)),oV 37 .lss 36 5,oM 38 37,oW 39 38 6,oF 40 38 (.iaddr 1 (.t 39) (kI 0)),oF 41 38 (.load false 1 (.t 40)),oF 42 38 (.bin .str .neq (.t 41) (.c (.v (.string (mkS [112,114,111,99]))))),oP 43 38 (kB true) (.t 42)] (cD 43 (sO [oX 44 (.build [zAl] []),oS 1 2 44,oC 3 3] .ret) .skip)) (sO [oM 46 6,oX 47 (.slice .slc 1 (.t 46) (some (kI 2)) none),oX 48 (y1 29 47),oM 45 48,oE 49 45 0,oE 50 45 1,oM 7 49,oM 8 50] (sO [oX 52 (cF 30 [(.t 4),(.c (.v (.string (mkS [101,110,100]))))]),oM 51 52,oE 53 51 0,oE 54 51 1,oM 9 53,oM 10 54] (.seq (sO [oM 55 8,oX 56 (.not (.t 55)),oM 57 56,oW 58 57 10,oF 59 57 (.not (.t 58)),oP 60 57 (kB true) (.t 59)] (cD 60 (sO [oX 61 (.build [zAl] []),oS 1 2 61,oC 3 3] .ret) .skip)) (.draw [oD 62 0 5,oL 63 62,oM 64 6,oX 65 (.iaddr 1 (.t 64) (kI 1)),oL 66 65,oM 67 7,oX 68 (.iaddr 1 (.t 67) (kI 0)),oL 69 68,oM 70 7,oX 71 (.iaddr 1 (.t 70) (kI 1)),oL 72 71,oM 73 7,oX 74 (.iaddr 1 (.t 73) (kI 2)),oL 75 74,oM 76 7,oX 77 (.slice .slc 1 (.t 76) (some (kI 3)) none),oM 78 9,oX 79 (.build [(.v (.string (mkS []))),(int 0),(int 0),(int 0),zAl,zAl] [(0,(1,(.t 66))),(1,(1,(.t 69))),(2,(1,(.t 72))),(3,(1,(.t 75))),(4,(1,(.t 77))),(5,(1,(.t 78)))]),oX 80 (.bsl true 6 1 [(.v (.string (mkS []))),(int 0),(int 0),(int 0),zAl,zAl] [(0,(.t 79))])] [oX 81 (.append 6 88 (.t 63) (.t 80)),oD 82 0 5,oS 1 82 81]))))))))))) (.seq (sO [oX 5 (.frzf 6 0 (.t 5)),oA 83 1 5,oX 84 (y1 7 83),oX 85 (.not (.t 84))] (cD 85 (sO [oX 86 (.build [zAl] []),oS 1 2 86,oC 3 1] .ret) .skip)) (sO [oA 87 1 5,oS 1 2 87,oC 3 0] .ret)))))))⟩
theorem L11p_ok : zAi Tryz.prog Tryz.f11 [⟨15,0,(.pre 5 (.frzf 6 0 (.t 5)))⟩,⟨14,18,.imm⟩,⟨14,19,.tail⟩] = some L11p := by kernel_rfl
def L28p : LFn := ⟨64,[(.tmp 2)],(sO [oX 2 (.mv (.c zAl))] (sO [oX 7 (.bsl false 1 0 [zAl] []),oM 3 7] (sO [oX 8 (.bsl false 1 0 [(.v (.string (mkS [])))] []),oM 4 8] (sO [oC 5 0] (.seq (sO [oC 6 0] (.block 0 (.loop (.seq (sO [oM 9 6,oM 10 0,oX 11 (.len .str (.t 10)),oB 12 .leq 9 11] (cD 12 .skip (.exit 0))) (.seq (.block 1 (.seq (sO [oM 15 6,oM 16 0,oX 17 (.len .str (.t 16)),oB 18 .lss 15 17,oM 19 18,oU 20 19 0,oU 21 19 6,oT 22 19 (.idx (.t 20) (.t 21)),oT 23 19 (bI .neq (.t 22) (.c (.v (.int .u8 32)))),oP 24 19 (.t 23) (kB false),oM 25 24,oU 26 25 0,oU 27 25 6,oT 28 25 (.idx (.t 26) (.t 27)),oT 29 25 (bI .neq (.t 28) (.c (.v (.int .u8 10)))),oP 30 25 (.t 29) (kB false)] (cD 30 (.exit 1) .skip)) (.seq (sO [oM 31 6,oM 32 5,oB 33 .gtr 31 32] (cD 33 (.ops [oM 34 4,oM 35 0,oM 36 5,oM 37 6,oX 38 (.slice .str 1 (.t 35) (some (.t 36)) (some (.t 37))),oX 39 (.bsl true 1 1 [(.v (.string (mkS [])))] [(0,(.t 38))]),oX 40 (.append 1 16 (.t 34) (.t 39)),oM 4 40]) .skip)) (sO [oM 41 6,oV 42 .add 41 1,oM 5 42] (sO [oM 43 6,oM 44 0,oX 45 (.len .str (.t 44)),oB 46 .eql 43 45,oM 47 46,oW 48 47 0,oW 49 47 6,oF 50 47 (.idx (.t 48) (.t 49)),oF 51 47 (bI .eql (.t 50) (.c (.v (.int .u8 10)))),oP 52 47 (kB true) (.t 51),oM 53 52,oU 54 53 4,oT 55 53 (.len .slc (.t 54)),oT 56 53 (bI .gtr (.t 55) (kI 0)),oP 57 53 (.t 56) (kB false)] (cD 57 (.ops [oM 58 3,oM 59 4,oX 59 (.frz (.t 59)),oX 60 (.bsl true 1 1 [zAl] [(0,(.t 59))]),oX 61 (.append 1 24 (.t 58) (.t 60)),oX 62 (.bsl false 1 0 [(.v (.string (mkS [])))] []),oM 3 61,oM 4 62]) .skip)))))) (.ops [oM 13 6,oV 14 .add 13 1,oM 6 14])))))) (sO [oM 63 3,oM 2 63,oX 2 (.frz (.t 2))] .ret))))))⟩
theorem L28p_ok : zAi Tryz.prog Tryz.f28 [⟨12,2,(.pre 59 (.frz (.t 59)))⟩,⟨9,5,.imm⟩,⟨12,2,.imm⟩,⟨13,2,(.pre 2 (.frz (.t 2)))⟩] = some L28p := by kernel_rfl
def L4 : LFn := ⟨32,[(.tmp 2)],(sO [oX 2 (.mv (kB false))] (.seq (sO [oM 7 0,oX 8 (.len .str (.t 7)),oV 9 .gtr 8 2000] (cD 9 (sO [oX 10 (y0 8),oM 2 10] .ret) .skip)) (sO [oM 12 0,oX 13 (y1 10 12),oM 11 13,oE 14 11 0,oE 15 11 1,oX 3 (.alloc [zAl]),oS 1 3 14,oM 4 15] (sO [oM 17 0,oX 18 (y1 11 17),oM 16 18,oE 19 16 0,oE 20 16 1,oX 5 (.alloc [zAl]),oS 1 5 19,oM 6 20] (sO [oA 21 1 3,oA 22 1 5,oX 23 (y2 12 21 22),oM 24 23,oU 25 24 4,oU 26 24 6,oT 27 24 (bI .eql (.t 25) (.t 26)),oP 28 24 (.t 27) (kB false),oM 29 28,oT 30 29 (y0 8),oP 31 29 (.t 30) (kB false),oM 2 31] .ret)))))⟩
theorem L4_ok : zAi Tryz.prog Tryz.f4 [] = some L4 := by kernel_rfl
def L7 : LFn := ⟨130,[(.tmp 2)],(sO [oX 1 (.box false (.t 0)),oX 2 (.mv (kB false))] (.seq (sO [oD 8 0 1,oL 9 8,oX 10 (.len .slc (.t 9)),oV 11 .gtr 10 8] (cD 11 (sO [oX 2 (.mv (kB false))] .ret) .skip)) (sO [oC 3 0] (.seq (sO [oC 4 0] (.block 0 (.loop (.seq (sO [oM 12 4,oD 13 0 1,oL 14 13,oX 15 (.len .slc (.t 14)),oB 16 .lss 12 15] (cD 16 .skip (.exit 0))) (.seq (.block 1 (sO [oD 19 0 1,oL 20 19,oM 21 4,oI 22 6 20 21,oA 23 6 22,oX 5 (.alloc [(.v (.string (mkS []))),(int 0),(int 0),(int 0),zAl,zAl]),oS 6 5 23] (.seq (sO [oC 6 0] (.block 2 (.loop (.seq (sO [oM 24 6,oM 25 4,oB 26 .lss 24 25] (cD 26 .skip (.exit 2))) (.seq (.block 3 (.seq (.draw [oD 29 0 1,oL 30 29,oM 31 6,oI 32 6 30 31,oD 33 0 32,oL 34 33,oD 35 0 5,oL 36 35,oX 37 (.bin .str .eql (.t 34) (.t 36))] []) (cD 37 (sO [oX 2 (.mv (kB false))] .ret) .skip))) (.ops [oM 27 6,oV 28 .add 27 1,oM 6 28])))))) (.seq (sO [oD 38 0 5,oL 39 38,oX 40 (y1 16 39),oX 41 (.not (.t 40)),oM 42 41,oF 43 42 (.faddr 1 (.t 5)),oF 44 42 (.load false 1 (.t 43)),oF 45 42 (bI .lss (.t 44) (kI 0)),oP 46 42 (kB true) (.t 45),oM 47 46,oF 48 47 (.faddr 1 (.t 5)),oF 49 47 (.load false 1 (.t 48)),oF 50 47 (.faddr 2 (.t 5)),oF 51 47 (.load false 1 (.t 50)),oF 52 47 (bI .gtr (.t 49) (.t 51)),oP 53 47 (kB true) (.t 52),oM 54 53,oF 55 54 (.faddr 2 (.t 5)),oF 56 54 (.load false 1 (.t 55)),oF 57 54 (bI .gtr (.t 56) (kI 1024)),oP 58 54 (kB true) (.t 57),oM 59 58,oF 60 59 (.faddr 3 (.t 5)),oF 61 59 (.load false 1 (.t 60)),oF 62 59 (bI .lss (.t 61) (kI (-1))),oP 63 59 (kB true) (.t 62),oM 64 63,oF 65 64 (.faddr 3 (.t 5)),oF 66 64 (.load false 1 (.t 65)),oF 67 64 (bI .gtr (.t 66) (kI 128)),oP 68 64 (kB true) (.t 67),oM 69 68,oF 70 69 (.faddr 4 (.t 5)),oF 71 69 (.load false 1 (.t 70)),oF 72 69 (.len .slc (.t 71)),oF 73 69 (bI .gtr (.t 72) (kI 128)),oP 74 69 (kB true) (.t 73),oM 75 74,oF 76 75 (.faddr 3 (.t 5)),oF 77 75 (.load false 1 (.t 76)),oF 78 75 (bI .neq (.t 77) (kI (-1))),oW 79 75 78,oT 80 79 (.faddr 4 (.t 5)),oT 81 79 (.load false 1 (.t 80)),oT 82 79 (.len .slc (.t 81)),oT 83 79 (bI .gtr (.t 82) (kI 0)),oF 84 75 (.pick (.t 79) (.t 83) (kB false)),oP 85 75 (kB true) (.t 84)] (cD 85 (sO [oX 2 (.mv (kB false))] .ret) .skip)) (.seq (sO [oC 7 0] (.block 4 (.loop (.seq (sO [oM 86 7,oD 87 4 5,oL 88 87,oX 89 (.len .slc (.t 88)),oB 90 .lss 86 89] (cD 90 .skip (.exit 4))) (.seq (.block 5 (.seq (.draw [oD 93 4 5,oL 94 93,oM 95 7,oI 96 1 94 95,oL 97 96,oV 98 .lss 97 0,oM 99 98,oF 100 99 (.faddr 4 (.t 5)),oF 101 99 (.load false 1 (.t 100)),oW 102 99 7,oF 103 99 (.iaddr 1 (.t 101) (.t 102)),oF 104 99 (.load false 1 (.t 103)),oF 105 99 (.faddr 2 (.t 5)),oF 106 99 (.load false 1 (.t 105)),oF 107 99 (bI .geq (.t 104) (.t 106)),oP 108 99 (kB true) (.t 107)] []) (cD 108 (sO [oX 2 (.mv (kB false))] .ret) .skip))) (.ops [oM 91 7,oV 92 .add 91 1,oM 7 92])))))) (sO [oM 109 3,oD 110 5 5,oL 111 110,oX 112 (y1 15 111),oB 113 .add 109 112,oM 3 113] (sO [oM 114 3,oV 115 .gtr 114 32768,oM 116 115,oF 117 116 (.faddr 5 (.t 5)),oF 118 116 (.load false 1 (.t 117)),oF 119 116 (y1 17 118),oF 120 116 (bI .gtr (.t 119) (kI 256)),oP 121 116 (kB true) (.t 120),oM 122 121,oF 123 122 (.load true 1 (.t 1)),oW 124 122 4,oF 125 122 (.faddr 5 (.t 5)),oF 126 122 (.load false 1 (.t 125)),oF 127 122 (cF 18 [(.t 123),(.t 124),(.t 126),(kB true)]),oF 128 122 (bI .neq (.t 127) (kI 0)),oP 129 122 (kB true) (.t 128)] (cD 129 (sO [oX 2 (.mv (kB false))] .ret) .skip)))))))) (.ops [oM 17 4,oV 18 .add 17 1,oM 4 18])))))) (sO [oX 2 (.mv (kB true))] .ret)))))⟩
theorem L7_ok : zAi Tryz.prog Tryz.f7 [] = some L7 := by kernel_rfl
def L12 : LFn := ⟨74,[(.tmp 4)],(sO [oX 2 (.box false (.t 0)),oX 3 (.box false (.t 1)),oX 4 (.mv (kB false))] (.seq (sO [oD 8 0 2,oL 9 8,oX 10 (.len .slc (.t 9)),oD 11 0 3,oL 12 11,oX 13 (.len .slc (.t 12)),oB 14 .neq 10 13] (cD 14 (sO [oX 4 (.mv (kB false))] .ret) .skip)) (.seq (sO [oC 5 0] (.block 0 (.loop (.seq (sO [oM 15 5,oD 16 0 2,oL 17 16,oX 18 (.len .slc (.t 17)),oB 19 .lss 15 18] (cD 19 .skip (.exit 0))) (.seq (.block 1 (.seq (.drawA [oD 22 0 2,oL 23 22,oM 24 5,oI 25 6 23 24,oA 26 6 25,oD 27 0 3,oL 28 27,oM 29 5,oI 30 6 28 29,oA 31 6 30,oN (.mv (.c .any)),oN (.mv (.c .any)),oX 74 (.build [(.v (.bool false)),(.v (.bool false)),(.v (.bool false)),(.v (.bool false)),(.v (.bool false)),(.v (.bool false))] [(0,(6,(.t 26)))]),oN (.mv (.c .any))] [(oX 7 (.alloc [(.v (.string (mkS []))),(int 0),(int 0),(int 0),zAl,zAl]),[0,1,3,4,5,6,8,9]),(oS 6 7 31,[])] [oX 6 (.box false (.t 26))]) (sO [oD 32 0 6,oL 33 32,oD 34 0 7,oL 35 34,oX 36 (.bin .str .neq (.t 33) (.t 35)),oM 37 36,oF 38 37 (.faddr 1 (.t 6)),oF 39 37 (.load false 1 (.t 38)),oF 40 37 (.faddr 1 (.t 7)),oF 41 37 (.load false 1 (.t 40)),oF 42 37 (bI .neq (.t 39) (.t 41)),oP 43 37 (kB true) (.t 42),oM 44 43,oF 45 44 (.faddr 2 (.t 6)),oF 46 44 (.load false 1 (.t 45)),oF 47 44 (.faddr 2 (.t 7)),oF 48 44 (.load false 1 (.t 47)),oF 49 44 (bI .neq (.t 46) (.t 48)),oP 50 44 (kB true) (.t 49),oM 51 50,oF 52 51 (.faddr 3 (.t 6)),oF 53 51 (.load false 1 (.t 52)),oF 54 51 (.faddr 3 (.t 7)),oF 55 51 (.load false 1 (.t 54)),oF 56 51 (bI .neq (.t 53) (.t 55)),oP 57 51 (kB true) (.t 56),oM 58 57,oF 59 58 (.faddr 4 (.t 6)),oF 60 58 (.load false 1 (.t 59)),oF 61 58 (.faddr 4 (.t 7)),oF 62 58 (.load false 1 (.t 61)),oF 63 58 (y2 31 60 62),oF 64 58 (.not (.t 63)),oP 65 58 (kB true) (.t 64),oM 66 65,oF 67 66 (.faddr 5 (.t 6)),oF 68 66 (.load false 1 (.t 67)),oF 69 66 (.faddr 5 (.t 7)),oF 70 66 (.load false 1 (.t 69)),oF 71 66 (y2 32 68 70),oF 72 66 (.not (.t 71)),oP 73 66 (kB true) (.t 72)] (cD 73 (sO [oX 4 (.mv (kB false))] .ret) .skip)))) (.ops [oM 20 5,oV 21 .add 20 1,oM 5 21])))))) (sO [oX 4 (.mv (kB true))] .ret))))⟩
theorem L12_ok : zAi Tryz.prog Tryz.f12 [⟨6,10,(.var 12)⟩,⟨6,0,(.drw [11,13])⟩] = some L12 := by kernel_rfl
def L14 : zTB := ⟨108,[(.cell 2 false 1)],(.seq (.ops [oX 1 (.box false (.t 0)),oX 2 (.alloc [(.v (.bool false))])]) (.cut [oX 8 (.mkfn (.func 42) [] [(.t 2)])] (.t 8) [] (.seq (.seq (.ops [oD 9 0 1]) (.seq (.ops [oL 10 9]) (.seq (.ops [oX 11 (.len .slc (.t 10))]) (.seq (.ops [oV 12 .leq 11 8]) (.seq (.ops []) (.seq (.callp (some 13) (.c (.fn (.func 25) [] [])) [(.t 12)]) (.ops []))))))) (.seq (.ops [oA 14 1 1,oX 15 (.build [zAl,(int 0),(int 0)] [(0,(1,(.t 14)))]),oX 16 (.box false (.t 15)),oM 3 16]) (.seq (.seq (.ops [oD 17 0 1,oL 18 17,oX 19 (.len .slc (.t 18)),oC 20 0]) (.block 0 (.loop (.seq (.ops [oB 21 .lss 20 19]) (.seq (cD 21 .skip (.exit 0)) (.seq (.block 1 (.seq (.ops [oM 22 20,oI 23 6 18 20,oA 24 6 23,oX 5 (.alloc [(.v (.string (mkS []))),(int 0),(int 0),(int 0),zAl,zAl]),oM 4 22,oS 6 5 24]) (.seq (.ops [oM 25 3,oM 26 4,oK 27 25,oD 28 1 27,oS 1 28 26]) (.seq (.seq (.ops [oD 29 0 5]) (.seq (.ops [oL 30 29]) (.seq (.ops [oX 31 (y1 43 30)]) (.seq (.ops [oM 32 31]) (.seq (.ops [oT 33 32 (.faddr 0 (.t 1))]) (.seq (.ops [oT 34 32 (.load false 1 (.t 33))]) (.seq (.ops [oU 35 32 4]) (.seq (.ops [oT 36 32 (.slice .slc 6 (.t 34) none (some (.t 35)))]) (.seq (.ops [oT 37 32 (.mkfn (.func 45) [] [(.t 5)])]) (.seq (.ops [oT 38 32 (y2 44 36 37)]) (.seq (.ops [oT 39 32 (.not (.t 38))]) (.seq (.ops [oP 40 32 (.t 39) (kB false)]) (.seq (.ops []) (.seq (.callp (some 41) (.c (.fn (.func 25) [] [])) [(.t 40)]) (.ops []))))))))))))))) (.seq (.seq (.ops [oD 42 1 5]) (.seq (.ops [oL 43 42]) (.seq (.ops [oV 44 .geq 43 0]) (.seq (.ops [oM 45 44]) (.seq (.ops [oT 46 45 (.faddr 1 (.t 5))]) (.seq (.ops [oT 47 45 (.load false 1 (.t 46))]) (.seq (.ops [oT 48 45 (.faddr 2 (.t 5))]) (.seq (.ops [oT 49 45 (.load false 1 (.t 48))]) (.seq (.ops [oT 50 45 (bI .leq (.t 47) (.t 49))]) (.seq (.ops [oP 51 45 (.t 50) (kB false)]) (.seq (.ops [oM 52 51]) (.seq (.ops [oT 53 52 (.faddr 2 (.t 5))]) (.seq (.ops [oT 54 52 (.load false 1 (.t 53))]) (.seq (.ops [oT 55 52 (bI .leq (.t 54) (kI 1024))]) (.seq (.ops [oP 56 52 (.t 55) (kB false)]) (.seq (.ops [oM 57 56]) (.seq (.ops [oT 58 57 (.faddr 3 (.t 5))]) (.seq (.ops [oT 59 57 (.load false 1 (.t 58))]) (.seq (.ops [oT 60 57 (bI .geq (.t 59) (kI (-1)))]) (.seq (.ops [oP 61 57 (.t 60) (kB false)]) (.seq (.ops [oM 62 61]) (.seq (.ops [oT 63 62 (.faddr 3 (.t 5))]) (.seq (.ops [oT 64 62 (.load false 1 (.t 63))]) (.seq (.ops [oT 65 62 (bI .leq (.t 64) (kI 128))]) (.seq (.ops [oP 66 62 (.t 65) (kB false)]) (.seq (.ops []) (.seq (.callp (some 67) (.c (.fn (.func 25) [] [])) [(.t 66)]) (.ops [])))))))))))))))))))))))))))) (.seq (.seq (.ops [oD 68 4 5]) (.seq (.ops [oL 69 68]) (.seq (.ops [oX 70 (.len .slc (.t 69))]) (.seq (.ops [oV 71 .leq 70 128]) (.seq (.ops [oM 72 71]) (.seq (.ops [oT 73 72 (.faddr 3 (.t 5))]) (.seq (.ops [oT 74 72 (.load false 1 (.t 73))]) (.seq (.ops [oT 75 72 (bI .eql (.t 74) (kI (-1)))]) (.seq (.ops [oU 76 72 75]) (.seq (.ops [oF 77 76 (.faddr 4 (.t 5))]) (.seq (.ops [oF 78 76 (.load false 1 (.t 77))]) (.seq (.ops [oF 79 76 (.len .slc (.t 78))]) (.seq (.ops [oF 80 76 (bI .eql (.t 79) (kI 0))]) (.seq (.ops [oT 81 72 (.pick (.t 76) (kB true) (.t 80))]) (.seq (.ops [oP 82 72 (.t 81) (kB false)]) (.seq (.ops []) (.seq (.callp (some 83) (.c (.fn (.func 25) [] [])) [(.t 82)]) (.ops [])))))))))))))))))) (.seq (.seq (.ops [oD 84 4 5,oL 85 84,oX 86 (.len .slc (.t 85)),oC 87 0]) (.block 2 (.loop (.seq (.ops [oB 88 .lss 87 86]) (.seq (cD 88 .skip (.exit 2)) (.seq (.block 3 (.seq (.ops [oI 89 1 85 87,oL 90 89,oM 7 90]) (.seq (.ops [oM 91 7]) (.seq (.ops [oV 92 .geq 91 0]) (.seq (.ops [oM 93 92]) (.seq (.ops [oU 94 93 7]) (.seq (.ops [oT 95 93 (.faddr 2 (.t 5))]) (.seq (.ops [oT 96 93 (.load false 1 (.t 95))]) (.seq (.ops [oT 97 93 (bI .lss (.t 94) (.t 96))]) (.seq (.ops [oP 98 93 (.t 97) (kB false)]) (.seq (.ops []) (.seq (.callp (some 99) (.c (.fn (.func 25) [] [])) [(.t 98)]) (.ops []))))))))))))) (.ops [oV 100 .add 87 1,oM 87 100]))))))) (.seq (.ops [oM 101 3]) (.seq (.ops [oD 102 5 5]) (.seq (.ops [oL 103 102]) (.seq (.ops []) (.seq (.callp (some 104) (.c (.fn (.func 46) [] [])) [(.t 101),(.t 103),(kB true),(kI 1)]) (.seq (.ops [oV 105 .eql 104 0]) (.seq (.ops []) (.seq (.callp (some 106) (.c (.fn (.func 25) [] [])) [(.t 105)]) (.ops [])))))))))))))))) (.ops [oV 107 .add 20 1,oM 20 107]))))))) (.seq (.ops [oN (.store 1 (.t 2) (kB true))]) .ret))))))⟩
theorem L14_ok : zNl Tryz.prog Tryz.f14 [⟨2,4,.cut⟩,⟨8,12,.cut⟩,⟨9,25,.cut⟩,⟨10,15,.cut⟩,⟨14,8,.cut⟩,⟨16,3,.cut⟩,⟨16,5,.cut⟩] = some L14 := by kernel_rfl
def L15 : LFn := ⟨28,[(.tmp 2)],(sO [oC 2 0] (sO [oC 3 0] (.seq (sO [oC 4 0] (.block 0 (.loop (.seq (sO [oM 5 4,oM 6 0,oX 7 (.len .slc (.t 6)),oB 8 .lss 5 7] (cD 8 .skip (.exit 0))) (.seq (.block 1 (.draw [oM 11 3,oV 12 .add 11 1,oM 13 0,oM 14 4,oI 15 5 13 14,oD 16 3 15,oL 17 16,oX 18 (y1 15 17),oB 19 .add 12 18,oM 20 0,oM 21 4,oI 22 5 20 21,oD 23 4 22,oL 24 23,oX 25 (y1 15 24),oB 26 .add 19 25,oM 3 26] [])) (.ops [oM 9 4,oV 10 .add 9 1,oM 4 10])))))) (sO [oM 27 3,oM 2 27] .ret))))⟩
theorem L15_ok : zAi Tryz.prog Tryz.f15 [] = some L15 := by kernel_rfl
def L17 : LFn := ⟨28,[(.tmp 2)],(sO [oC 2 0] (sO [oC 3 0] (.seq (sO [oC 4 0] (.block 0 (.loop (.seq (sO [oM 5 4,oM 6 0,oX 7 (.len .slc (.t 6)),oB 8 .lss 5 7] (cD 8 .skip (.exit 0))) (.seq (.block 1 (.draw [oM 11 3,oM 12 0,oM 13 4,oI 14 5 12 13,oD 15 3 14,oL 16 15,oX 17 (y1 17 16),oX 18 (bI .add (kI 1) (.t 17)),oM 19 0,oM 20 4,oI 21 5 19 20,oD 22 4 21,oL 23 22,oX 24 (y1 17 23),oX 25 (bI .add (kI 1) (.t 24)),oX 26 (.max3 (.t 11) (.t 18) (.t 25)),oM 3 26] [])) (.ops [oM 9 4,oV 10 .add 9 1,oM 4 10])))))) (sO [oM 27 3,oM 2 27] .ret))))⟩
theorem L17_ok : zAi Tryz.prog Tryz.f17 [] = some L17 := by kernel_rfl
def L18 : LFn := ⟨200,[(.tmp 8)],(sO [oX 4 (.box false (.t 0)),oC 8 0] (sO [oD 17 0 4,oL 18 17,oM 19 1,oI 20 6 18 19,oA 21 6 20,oX 9 (.alloc [(.v (.string (mkS []))),(int 0),(int 0),(int 0),zAl,zAl]),oS 6 9 21] (sO [oC 10 0] (.seq (sO [oC 11 0] (.block 0 (.loop (.seq (sO [oM 22 11,oM 23 2,oX 24 (.len .slc (.t 23)),oB 25 .lss 22 24] (cD 25 .skip (.exit 0))) (.seq (.block 1 (sO [oM 28 2,oM 29 11,oI 30 5 28 29,oA 31 5 30,oX 12 (.alloc [(int 0),(int 0),(int 0),zAl,zAl]),oS 5 12 31] (sO [oC 13 0,oC 14 0] (.seq (sO [oA 32 5 12,oD 33 2 9,oL 34 33,oX 35 (y2 50 32 34),oX 36 (.not (.t 35))] (cD 36 (sO [oC 8 (-1)] .ret) .skip)) (.seq (.block 2 (sO [oD 38 0 12,oL 39 38,oV 40 .eql 39 0,oM 41 40,oF 42 41 (.faddr 0 (.t 12)),oF 43 41 (.load false 1 (.t 42)),oF 44 41 (bI .eql (.t 43) (kI 1)),oP 45 41 (kB true) (.t 44),oM 37 45] (cD 37 (.ops [oC 14 1]) (sO [oD 47 0 12,oL 48 47,oV 49 .eql 48 2,oM 50 49,oF 51 50 (.faddr 0 (.t 12)),oF 52 50 (.load false 1 (.t 51)),oF 53 50 (bI .eql (.t 52) (kI 22)),oP 54 50 (kB true) (.t 53),oM 46 54] (cD 46 (.ops [oC 13 1,oC 14 (-1)]) (sO [oD 56 0 12,oL 57 56,oV 58 .eql 57 3,oM 59 58,oF 60 59 (.faddr 0 (.t 12)),oF 61 59 (.load false 1 (.t 60)),oF 62 59 (bI .eql (.t 61) (kI 16)),oP 63 59 (kB true) (.t 62),oM 64 63,oF 65 64 (.faddr 0 (.t 12)),oF 66 64 (.load false 1 (.t 65)),oF 67 64 (bI .eql (.t 66) (kI 17)),oP 68 64 (kB true) (.t 67),oM 55 68] (cD 55 (.ops [oC 13 1]) (sO [oD 70 0 12,oL 71 70,oV 72 .eql 71 4,oM 69 72] (cD 69 (.ops [oC 13 2,oC 14 (-2)]) (sO [oD 74 0 12,oL 75 74,oV 76 .geq 75 5,oM 77 76,oT 78 77 (.faddr 0 (.t 12)),oT 79 77 (.load false 1 (.t 78)),oT 80 77 (bI .leq (.t 79) (kI 15)),oP 81 77 (.t 80) (kB false),oM 73 81] (cD 73 (.ops [oC 13 2,oC 14 (-1)]) (sO [oD 83 0 12,oL 84 83,oV 85 .eql 84 18,oM 82 85] (cD 82 (.seq (sO [oM 86 10,oV 87 .lss 86 1] (cD 87 (sO [oC 8 (-1)] .ret) .skip)) (.seq (.draw [oA 88 1 4,oM 89 1,oD 90 3 12,oL 91 90,oM 92 3,oM 93 92,oU 94 93 10,oT 95 93 (bI .eql (.t 94) (kI 1)),oP 96 93 (.t 95) (kB false),oX 97 (y4 18 88 89 91 96),oA 98 1 4,oM 99 1,oD 100 4 12,oL 101 100,oM 102 3,oM 103 102,oU 104 103 10,oT 105 103 (bI .eql (.t 104) (kI 1)),oP 106 103 (.t 105) (kB false),oX 107 (y4 18 98 99 101 106),oM 15 97,oM 16 107] []) (.seq (sO [oM 108 15,oV 109 .lss 108 0,oM 110 109,oW 111 110 15,oW 112 110 16,oF 113 110 (bI .neq (.t 111) (.t 112)),oP 114 110 (kB true) (.t 113)] (cD 114 (sO [oC 8 (-1)] .ret) .skip)) (.ops [oM 115 15,oV 116 .sub 115 1,oM 14 116])))) (sO [oD 118 0 12,oL 119 118,oV 120 .eql 119 19,oM 117 120] (cD 117 (sO [oM 121 3,oX 122 (.not (.t 121)),oM 123 122,oW 124 123 10,oF 125 123 (bI .neq (.t 124) (kI 0)),oP 126 123 (kB true) (.t 125),oM 127 126,oF 128 127 (.load true 1 (.t 4)),oW 129 127 1,oF 130 127 (.faddr 4 (.t 12)),oF 131 127 (.load false 1 (.t 130)),oF 132 127 (cF 18 [(.t 128),(.t 129),(.t 131),(kB false)]),oF 133 127 (bI .neq (.t 132) (kI 1)),oP 134 127 (kB true) (.t 133),oM 135 134,oF 136 135 (.load true 1 (.t 4)),oW 137 135 1,oF 138 135 (.faddr 3 (.t 12)),oF 139 135 (.load false 1 (.t 138)),oF 140 135 (cF 18 [(.t 136),(.t 137),(.t 139),(kB true)]),oF 141 135 (bI .neq (.t 140) (kI 0)),oP 142 135 (kB true) (.t 141)] (cD 142 (sO [oC 8 (-1)] .ret) .skip)) (sO [oD 144 0 12,oL 145 144,oV 146 .eql 145 20,oM 143 146] (cD 143 (.seq (sO [oD 147 1 12,oL 148 147,oV 149 .lss 148 0,oM 150 149,oF 151 150 (.faddr 1 (.t 12)),oF 152 150 (.load false 1 (.t 151)),oW 153 150 1,oF 154 150 (bI .geq (.t 152) (.t 153)),oP 155 150 (kB true) (.t 154)] (cD 155 (sO [oC 8 (-1)] .ret) .skip)) (sO [oD 156 0 4,oL 157 156,oD 158 1 12,oL 159 158,oI 160 6 157 159,oD 161 1 160,oL 162 161,oM 13 162] (.ops [oD 163 0 4,oL 164 163,oD 165 1 12,oL 166 165,oI 167 6 164 166,oA 168 6 167,oX 169 (y1 51 168),oM 170 13,oB 171 .sub 169 170,oM 14 171]))) (sO [oD 173 0 12,oL 174 173,oV 175 .eql 174 21,oM 172 175] (cD 172 (.seq (sO [oM 176 3,oX 177 (.not (.t 176)),oM 178 177,oW 179 178 10,oF 180 178 (.faddr 3 (.t 9)),oF 181 178 (.load false 1 (.t 180)),oF 182 178 (.max2 (.t 181) (kI 0)),oF 183 178 (bI .neq (.t 179) (.t 182)),oP 184 178 (kB true) (.t 183)] (cD 184 (sO [oC 8 (-1)] .ret) .skip)) (.ops [oM 185 10,oX 186 (.neg (.t 185)),oM 14 186])) .skip))))))))))))))))))) (.seq (sO [oM 187 10,oM 188 13,oB 189 .lss 187 188,oM 190 189,oW 191 190 10,oW 192 190 14,oF 193 190 (bI .add (.t 191) (.t 192)),oF 194 190 (bI .gtr (.t 193) (kI 1024)),oP 195 190 (kB true) (.t 194)] (cD 195 (sO [oC 8 (-1)] .ret) .skip)) (.ops [oM 196 10,oM 197 14,oB 198 .add 196 197,oM 10 198]))))))) (.ops [oM 26 11,oV 27 .add 26 1,oM 11 27])))))) (sO [oM 199 10,oM 8 199] .ret)))))⟩
theorem L18_ok : zAi Tryz.prog Tryz.f18 [] = some L18 := by kernel_rfl
def L22 : zWR := ⟨12,[5],(.block 0 (sO [oX 7 (.nili false (.t 5))] (cD 7 (.ops [oM 2 5]) (sO [oX 8 (.asrt 56 (.agg []) (.t 5)),oE 9 8 1,oE 10 8 0] (cD 9 (sO [oX 3 (.alloc []),oS 0 3 10] (.ops [oX 11 (.build [zAl] []),oS 1 0 11,oN (.store 1 (.t 1) (kI 3))])) (sO [oM 4 5] (.ops [oM 6 4,oN (.panicv (.t 6))])))))))⟩
theorem L22_ok : zKm Tryz.prog Tryz.f22 [] = some L22 := by kernel_rfl
def L24 : LFn := ⟨25,[(.tmp 2)],(sO [oX 2 (.mv (.c zAl))] (.seq (sO [oM 4 0,oK 5 4,oD 6 0 5,oL 7 6,oX 8 (.len .slc (.t 7)),oV 9 .eql 8 0] (cD 9 (sO [oX 2 (.mv (.c zAl))] .ret) .skip)) (sO [oM 10 0,oK 11 10,oD 12 0 11,oL 13 12,oX 14 (.iaddr 1 (.t 13) (kI 0)),oL 15 14,oM 3 15] (sO [oM 16 0,oM 17 0,oK 18 17,oD 19 0 18,oL 20 19,oX 21 (.slice .slc 1 (.t 20) (some (kI 1)) none),oK 22 16,oD 23 0 22,oS 1 23 21] (sO [oM 24 3,oM 2 24,oX 2 (.frz (.t 2))] .ret)))))⟩
theorem L24_ok : zAi Tryz.prog Tryz.f24 [⟨5,2,(.pre 2 (.frz (.t 2)))⟩] = some L24 := by kernel_rfl
def L25 : LFn := ⟨6,[],(sO [oM 2 0,oX 3 (.not (.t 2))] (cD 3 (sO [oX 4 (.build [] [])] (sO [] (.pan 5 56 (.t 4)))) .skip))⟩
theorem L25_ok : zAi Tryz.prog Tryz.f25 [⟨1,1,.cut⟩] = some L25 := by kernel_rfl
def L29 : LFn := ⟨30,[(.tmp 2),(.tmp 3)],(sO [oX 2 (.mv (.c zAl)),oX 3 (.mv (kB false))] (sO [oX 8 (.bsl false 1 0 [(int 0)] []),oM 4 8] (.seq (sO [oC 5 0] (.block 0 (.loop (.seq (sO [oM 9 5,oM 10 0,oX 11 (.len .slc (.t 10)),oB 12 .lss 9 11] (cD 12 .skip (.exit 0))) (.seq (.block 1 (sO [oM 16 0,oM 17 5,oI 18 1 16 17,oL 19 18,oX 20 (y1 59 19),oM 15 20,oE 21 15 0,oE 22 15 1,oM 6 21,oM 7 22] (.seq (sO [oM 23 7,oX 24 (.not (.t 23))] (cD 24 (sO [oX 2 (.mv (.c zAl)),oX 3 (.mv (kB false))] .ret) .skip)) (.ops [oM 25 4,oM 26 6,oX 27 (.bsl true 1 1 [(int 0)] [(0,(.t 26))]),oX 28 (.append 1 8 (.t 25) (.t 27)),oM 4 28])))) (.ops [oM 13 5,oV 14 .add 13 1,oM 5 14])))))) (sO [oM 29 4,oM 2 29,oX 3 (.mv (kB true)),oX 2 (.frz (.t 2))] .ret))))⟩
theorem L29_ok : zAi Tryz.prog Tryz.f29 [⟨8,2,.imm⟩,⟨9,3,(.pre 2 (.frz (.t 2)))⟩] = some L29 := by kernel_rfl
def L32 : LFn := ⟨82,[(.tmp 4)],(sO [oX 4 (.mv (kB false))] (.seq (sO [oM 6 0,oX 7 (.len .slc (.t 6)),oM 8 1,oX 9 (.len .slc (.t 8)),oB 10 .neq 7 9] (cD 10 (sO [oX 4 (.mv (kB false))] .ret) .skip)) (.seq (sO [oC 5 0] (.block 0 (.loop (.seq (sO [oM 11 5,oM 12 0,oX 13 (.len .slc (.t 12)),oB 14 .lss 11 13] (cD 14 .skip (.exit 0))) (.seq (.block 1 (.seq (.draw [oM 17 0,oM 18 5,oI 19 5 17 18,oD 20 0 19,oL 21 20,oM 22 1,oM 23 5,oI 24 5 22 23,oD 25 0 24,oL 26 25,oB 27 .neq 21 26,oM 28 27,oW 29 28 0,oW 30 28 5,oF 31 28 (.iaddr 5 (.t 29) (.t 30)),oF 32 28 (.faddr 1 (.t 31)),oF 33 28 (.load false 1 (.t 32)),oW 34 28 1,oW 35 28 5,oF 36 28 (.iaddr 5 (.t 34) (.t 35)),oF 37 28 (.faddr 1 (.t 36)),oF 38 28 (.load false 1 (.t 37)),oF 39 28 (bI .neq (.t 33) (.t 38)),oP 40 28 (kB true) (.t 39),oM 41 40,oW 42 41 0,oW 43 41 5,oF 44 41 (.iaddr 5 (.t 42) (.t 43)),oF 45 41 (.faddr 2 (.t 44)),oF 46 41 (.load false 1 (.t 45)),oW 47 41 1,oW 48 41 5,oF 49 41 (.iaddr 5 (.t 47) (.t 48)),oF 50 41 (.faddr 2 (.t 49)),oF 51 41 (.load false 1 (.t 50)),oF 52 41 (bI .neq (.t 46) (.t 51)),oP 53 41 (kB true) (.t 52),oM 54 53,oW 55 54 0,oW 56 54 5,oF 57 54 (.iaddr 5 (.t 55) (.t 56)),oF 58 54 (.faddr 3 (.t 57)),oF 59 54 (.load false 1 (.t 58)),oW 60 54 1,oW 61 54 5,oF 62 54 (.iaddr 5 (.t 60) (.t 61)),oF 63 54 (.faddr 3 (.t 62)),oF 64 54 (.load false 1 (.t 63)),oF 65 54 (y2 32 59 64),oF 66 54 (.not (.t 65)),oP 67 54 (kB true) (.t 66),oM 68 67,oW 69 68 0,oW 70 68 5,oF 71 68 (.iaddr 5 (.t 69) (.t 70)),oF 72 68 (.faddr 4 (.t 71)),oF 73 68 (.load false 1 (.t 72)),oW 74 68 1,oW 75 68 5,oF 76 68 (.iaddr 5 (.t 74) (.t 75)),oF 77 68 (.faddr 4 (.t 76)),oF 78 68 (.load false 1 (.t 77)),oF 79 68 (y2 32 73 78),oF 80 68 (.not (.t 79)),oP 81 68 (kB true) (.t 80)] []) (cD 81 (sO [oX 4 (.mv (kB false))] .ret) .skip))) (.ops [oM 15 5,oV 16 .add 15 1,oM 5 16])))))) (sO [oX 4 (.mv (kB true))] .ret))))⟩
theorem L32_ok : zAi Tryz.prog Tryz.f32 [] = some L32 := by kernel_rfl
def L38 : LFn := ⟨2,[(.tmp 0)],(sO [oX 0 (.mv (.c zAl))] (sO [oX 1 (.bsl false 1 23 [(.v (.string (mkS [])))] [(0,(.c (.v (.string (mkS [112,117,115,104]))))),(1,(.c (.v (.string (mkS [108,111,97,100]))))),(2,(.c (.v (.string (mkS [115,116,111,114,101]))))),(3,(.c (.v (.string (mkS [108,111,97,100,97,116]))))),(4,(.c (.v (.string (mkS [115,116,111,114,101,97,116]))))),(5,(.c (.v (.string (mkS [97,100,100]))))),(6,(.c (.v (.string (mkS [115,117,98]))))),(7,(.c (.v (.string (mkS [109,117,108]))))),(8,(.c (.v (.string (mkS [100,105,118]))))),(9,(.c (.v (.string (mkS [109,111,100]))))),(10,(.c (.v (.string (mkS [101,113,117,97,108]))))),(11,(.c (.v (.string (mkS [117,110,101,113,117,97,108]))))),(12,(.c (.v (.string (mkS [108,101,115,115]))))),(13,(.c (.v (.string (mkS [97,116,109,111,115,116]))))),(14,(.c (.v (.string (mkS [103,114,101,97,116,101,114]))))),(15,(.c (.v (.string (mkS [97,116,108,101,97,115,116]))))),(16,(.c (.v (.string (mkS [110,101,103,97,116,101]))))),(17,(.c (.v (.string (mkS [110,111,116]))))),(18,(.c (.v (.string (mkS [105,102]))))),(19,(.c (.v (.string (mkS [108,111,111,112]))))),(20,(.c (.v (.string (mkS [99,97,108,108]))))),(21,(.c (.v (.string (mkS [114,101,116,117,114,110]))))),(22,(.c (.v (.string (mkS [97,115,115,101,114,116])))))]),oM 0 1,oX 0 (.frz (.t 0))] .ret))⟩
theorem L38_ok : zAi Tryz.prog Tryz.f38 [⟨1,2,(.pre 0 (.frz (.t 0)))⟩] = some L38 := by kernel_rfl
def L39 : LFn := ⟨12,[(.tmp 2)],(sO [oC 2 0] (.seq (sO [oM 3 0] (.block 0 (.seq (sO [oV 5 .eql 3 0,oM 4 5] (cD 4 .skip (sO [oV 6 .eql 3 1,oM 4 6] (cD 4 .skip (sO [oV 7 .eql 3 2,oM 4 7] (cD 4 .skip (.ops [oV 8 .eql 3 20,oM 4 8]))))))) (cD 4 (sO [oC 2 1] .ret) (.seq (sO [oV 10 .eql 3 3,oM 9 10] (cD 9 .skip (.ops [oV 11 .eql 3 4,oM 9 11]))) (cD 9 (sO [oC 2 2] .ret) .skip)))))) (sO [oC 2 0] .ret)))⟩
theorem L39_ok : zAi Tryz.prog Tryz.f39 [] = some L39 := by kernel_rfl
def L42 : zWR := ⟨10,[4],(.block 0 (sO [oX 6 (.nili false (.t 4))] (cD 6 (.ops [oM 1 4]) (sO [oX 7 (.asrt 56 (.agg []) (.t 4)),oE 8 7 1,oE 9 7 0] (cD 8 (sO [oX 2 (.alloc []),oS 0 2 9] (.ops [oN (.store 1 (.t 0) (kB false))])) (sO [oM 3 4] (.ops [oM 5 3,oN (.panicv (.t 5))])))))))⟩
theorem L42_ok : zKm Tryz.prog Tryz.f42 [] = some L42 := by kernel_rfl
def L45 : LFn := ⟨9,[(.tmp 3)],(sO [oX 2 (.box false (.t 0)),oX 3 (.mv (kB false))] (sO [oD 4 0 2,oL 5 4,oD 6 0 1,oL 7 6,oX 8 (.bin .str .eql (.t 5) (.t 7)),oM 3 8] .ret))⟩
theorem L45_ok : zAi Tryz.prog Tryz.f45 [] = some L45 := by kernel_rfl
def L46 : LFn := ⟨282,[(.tmp 8)],(sO [oC 8 0] (.seq (sO [oM 21 3] (sO [oV 22 .leq 21 256] (sO [oM 23 22] (sO [oW 24 23 1] (sO [oF 25 23 (.len .slc (.t 24))] (sO [oF 26 23 (bI .eql (.t 25) (kI 0))] (sO [oP 27 23 (kB true) (.t 26)] (sO [] (.seq (.callp (some 28) (.c (.fn (.func 25) [] [])) [(.t 27)]) (.ops [])))))))))) (.seq (.draw [oM 29 0,oK 30 29,oD 31 0 30,oD 32 0 31,oL 33 32,oM 34 0,oK 35 34,oD 36 1 35,oL 37 36,oI 38 6 33 37,oA 39 6 38] [oX 9 (.alloc [(.v (.string (mkS []))),(int 0),(int 0),(int 0),zAl,zAl]),oS 6 9 39]) (sO [oX 10 (.alloc [(int 0)]),oN (.store 1 (.t 10) (kI 0))] (sO [oX 40 (.mkfn (.func 73) [] [(.t 10)]),oM 11 40] (sO [oX 41 (.mkfn (.func 74) [] [(.t 9)]),oM 12 41] (.seq (sO [oM 42 1,oX 43 (.len .slc (.t 42)),oC 44 0] (.block 0 (.loop (sO [oB 45 .lss 44 43] (.seq (cD 45 .skip (.exit 0)) (.seq (.block 1 (sO [oI 46 5 42 44,oA 47 5 46,oX 14 (.alloc [(int 0),(int 0),(int 0),zAl,zAl]),oS 5 14 47] (sO [oM 48 0,oK 49 48,oD 50 2 49,oL 51 50,oV 52 .add 51 1,oK 53 48,oD 54 2 53,oS 1 54 52] (.seq (sO [oM 55 0] (sO [oK 56 55] (sO [oD 57 2 56] (sO [oL 58 57] (sO [oV 59 .leq 58 32768] (sO [] (.seq (.callp (some 60) (.c (.fn (.func 25) [] [])) [(.t 59)]) (.ops [])))))))) (sO [oX 15 (.mv (kB false)),oX 16 (.mv (kB false)),oX 17 (.mv (kB false))] (.seq (sO [oD 61 0 14,oL 62 61] (.block 2 (sO [oV 75 .eql 62 0,oM 74 75] (cD 74 (sO [oX 15 (.mv (kB true))] (.seq (sO [oD 76 1 14] (sO [oL 77 76] (sO [oV 78 .geq 77 0] (sO [oM 79 78] (sO [oT 80 79 (.faddr 1 (.t 14))] (sO [oT 81 79 (.load false 1 (.t 80))] (sO [oT 82 79 (bI .leq (.t 81) (kI 999999999))] (sO [oP 83 79 (.t 82) (kB false)] (sO [] (.seq (.callp (some 84) (.c (.fn (.func 25) [] [])) [(.t 83)]) (.ops []))))))))))) (sO [oM 85 11] (sO [] (.seq (.callp (some 86) (.t 85) [(kI 0),(kI 1)]) (.ops [])))))) (sO [oV 88 .eql 62 1,oM 87 88] (cD 87 (sO [oX 15 (.mv (kB true))] (.seq (sO [oM 89 12] (sO [oD 90 1 14] (sO [oL 91 90] (sO [] (.seq (.callp (some 92) (.t 89) [(.t 91)]) (sO [] (.seq (.callp (some 93) (.c (.fn (.func 25) [] [])) [(.t 92)]) (.ops [])))))))) (sO [oM 94 11] (sO [] (.seq (.callp (some 95) (.t 94) [(kI 0),(kI 1)]) (.ops [])))))) (sO [oV 97 .eql 62 2,oM 96 97] (cD 96 (sO [oX 15 (.mv (kB true))] (.seq (sO [oM 98 12] (sO [oD 99 1 14] (sO [oL 100 99] (sO [] (.seq (.callp (some 101) (.t 98) [(.t 100)]) (sO [] (.seq (.callp (some 102) (.c (.fn (.func 25) [] [])) [(.t 101)]) (.ops [])))))))) (sO [oM 103 11] (sO [] (.seq (.callp (some 104) (.t 103) [(kI 1),(kI (-1))]) (.ops [])))))) (.seq (sO [oV 106 .eql 62 3,oM 105 106] (cD 105 .skip (.ops [oV 107 .eql 62 4,oM 105 107]))) (cD 105 (sO [oX 15 (.mv (kB true)),oX 16 (.mv (kB true))] (.seq (sO [oM 108 12] (sO [oD 109 1 14] (sO [oL 110 109] (sO [] (.seq (.callp (some 111) (.t 108) [(.t 110)]) (sO [oM 112 111] (sO [oT 113 112 (.faddr 2 (.t 14))] (sO [oT 114 112 (.load false 1 (.t 113))] (sO [oT 115 112 (bI .geq (.t 114) (kI 1))] (sO [oP 116 112 (.t 115) (kB false)] (sO [oM 117 116] (sO [oT 118 117 (.faddr 2 (.t 14))] (sO [oT 119 117 (.load false 1 (.t 118))] (sO [oT 120 117 (.faddr 2 (.t 9))] (sO [oT 121 117 (.load false 1 (.t 120))] (sO [oT 122 117 (bI .leq (.t 119) (.t 121))] (sO [oP 123 117 (.t 122) (kB false)] (sO [oM 124 123] (sO [oU 125 124 12] (sO [oT 126 124 (.faddr 1 (.t 14))] (sO [oT 127 124 (.load false 1 (.t 126))] (sO [oT 128 124 (.faddr 2 (.t 14))] (sO [oT 129 124 (.load false 1 (.t 128))] (sO [oT 130 124 (bI .add (.t 127) (.t 129))] (sO [oT 131 124 (bI .sub (.t 130) (kI 1))] (sO [] (.seq (.ti ⟨(some 132),(some (124,true)),(.call (.t 125) [(.t 131)])⟩) (sO [oP 133 124 (.t 132) (kB false)] (sO [] (.seq (.callp (some 134) (.c (.fn (.func 25) [] [])) [(.t 133)]) (.ops []))))))))))))))))))))))))))))))) (sO [oD 135 0 14,oL 136 135,oV 137 .eql 136 3] (cD 137 (sO [oM 138 11] (sO [] (.seq (.callp (some 139) (.t 138) [(kI 1),(kI 0)]) (.ops [])))) (sO [oM 140 11] (sO [] (.seq (.callp (some 141) (.t 140) [(kI 2),(kI (-2))]) (.ops [])))))))) (.seq (sO [oV 143 .eql 62 16,oM 142 143] (cD 142 .skip (.ops [oV 144 .eql 62 17,oM 142 144]))) (cD 142 (sO [oM 145 11] (sO [] (.seq (.callp (some 146) (.t 145) [(kI 1),(kI 0)]) (.ops [])))) (sO [oV 148 .eql 62 22,oM 147 148] (cD 147 (sO [oM 149 11] (sO [] (.seq (.callp (some 150) (.t 149) [(kI 1),(kI (-1))]) (.ops [])))) (sO [oV 152 .eql 62 18,oM 151 152] (cD 151 (sO [oX 17 (.mv (kB true))] (.seq (sO [oM 153 11] (sO [] (.seq (.callp (some 154) (.t 153) [(kI 1),(kI (-1))]) (.ops [])))) (sO [oM 155 2,oM 156 155,oT 157 156 (.load false 1 (.t 10)),oT 158 156 (bI .eql (.t 157) (kI 0)),oP 159 156 (.t 158) (kB false),oM 18 159] (.seq (sO [oM 160 0] (sO [oD 161 3 14] (sO [oL 162 161] (sO [oM 163 18] (sO [oM 164 3] (sO [oV 165 .add 164 1] (sO [] (.seq (.callp (some 166) (.c (.fn (.func 46) [] [])) [(.t 160),(.t 162),(.t 163),(.t 165)]) (sO [oM 19 166] (.ops [])))))))))) (.seq (sO [oM 167 0] (sO [oD 168 4 14] (sO [oL 169 168] (sO [oM 170 18] (sO [oM 171 3] (sO [oV 172 .add 171 1] (sO [] (.seq (.callp (some 173) (.c (.fn (.func 46) [] [])) [(.t 167),(.t 169),(.t 170),(.t 172)]) (sO [oM 174 19] (sO [oB 175 .eql 173 174] (sO [] (.seq (.callp (some 176) (.c (.fn (.func 25) [] [])) [(.t 175)]) (.ops []))))))))))))) (sO [oM 177 11] (sO [oM 178 19] (sO [] (.seq (.callp (some 179) (.t 177) [(kI 0),(.t 178)]) (.ops [])))))))))) (sO [oV 181 .eql 62 19,oM 180 181] (cD 180 (sO [oX 17 (.mv (kB true))] (sO [oL 182 10] (sO [oV 183 .eql 182 0] (sO [oM 184 183] (sO [oU 185 184 2] (sO [oP 186 184 (.t 185) (kB false)] (sO [oM 187 186] (sO [oU 188 187 0] (sO [oT 189 187 (.faddr 3 (.t 14))] (sO [oT 190 187 (.load false 1 (.t 189))] (sO [oU 191 187 3] (sO [oT 192 187 (bI .add (.t 191) (kI 1))] (sO [] (.seq (.ti ⟨(some 193),(some (187,true)),(cF 46 [(.t 188),(.t 190),(kB true),(.t 192)])⟩) (sO [oT 194 187 (bI .eql (.t 193) (kI 0))] (sO [oP 195 187 (.t 194) (kB false)] (sO [oM 196 195] (sO [oU 197 196 0] (sO [oT 198 196 (.faddr 4 (.t 14))] (sO [oT 199 196 (.load false 1 (.t 198))] (sO [oU 200 196 3] (sO [oT 201 196 (bI .add (.t 200) (kI 1))] (sO [] (.seq (.ti ⟨(some 202),(some (196,true)),(cF 46 [(.t 197),(.t 199),(kB false),(.t 201)])⟩) (sO [oT 203 196 (bI .eql (.t 202) (kI 1))] (sO [oP 204 196 (.t 203) (kB false)] (sO [] (.seq (.callp (some 205) (.c (.fn (.func 25) [] [])) [(.t 204)]) (.ops []))))))))))))))))))))))))))))) (sO [oV 207 .eql 62 20,oM 206 207] (cD 206 (sO [oX 15 (.mv (kB true))] (.seq (.drawX [oD 208 1 14,oL 209 208,oV 210 .geq 209 0,oM 211 210,oT 212 211 (.faddr 1 (.t 14)),oT 213 211 (.load false 1 (.t 212)),oU 214 211 0,oT 215 211 (.nilchk (.t 214)),oT 216 211 (.faddr 1 (.t 215)),oT 217 211 (.load false 1 (.t 216)),oT 218 211 (bI .lss (.t 213) (.t 217)),oP 219 211 (.t 218) (kB false),oN (.mv (.c .any))] [(oX 220 (y1 25 219),(true,[]))] []) (.seq (.draw [oM 221 0,oK 222 221,oD 223 0 222,oD 224 0 223,oL 225 224,oD 226 1 14,oL 227 226,oI 228 6 225 227,oA 229 6 228] [oX 20 (.alloc [(.v (.string (mkS []))),(int 0),(int 0),(int 0),zAl,zAl]),oS 6 20 229]) (.drawX [oM 230 11,oD 231 1 20,oL 232 231,oA 233 6 20,oN (.mv (.c .any)),oD 235 1 20,oL 236 235,oN (.mv (.c .any)),oN (.mv (.c .any))] [(oX 234 (y1 75 233),(false,[1,2,5,6])),(oB 237 .sub 234 236,(false,[1,2])),(oX 238 (.call (.t 230) [(.t 232),(.t 237)]),(true,[]))] [])))) (sO [oV 240 .eql 62 21,oM 239 240] (cD 239 (.seq (sO [oM 241 2] (sO [oM 242 241] (sO [oT 243 242 (.load false 1 (.t 10))] (sO [oT 244 242 (.faddr 3 (.t 9))] (sO [oT 245 242 (.load false 1 (.t 244))] (sO [oT 246 242 (.max2 (.t 245) (kI 0))] (sO [oT 247 242 (bI .eql (.t 243) (.t 246))] (sO [oP 248 242 (.t 247) (kB false)] (sO [] (.seq (.callp (some 249) (.c (.fn (.func 25) [] [])) [(.t 248)]) (.ops []))))))))))) (.ops [oN (.store 1 (.t 10) (kI 0))])) (.seq (sO [oD 63 0 14] (sO [oL 64 63] (sO [oV 65 .geq 64 5] (sO [oM 66 65] (sO [oT 67 66 (.faddr 0 (.t 14))] (sO [oT 68 66 (.load false 1 (.t 67))] (sO [oT 69 66 (bI .leq (.t 68) (kI 15))] (sO [oP 70 66 (.t 69) (kB false)] (sO [] (.seq (.callp (some 71) (.c (.fn (.func 25) [] [])) [(.t 70)]) (.ops []))))))))))) (sO [oM 72 11] (sO [] (.seq (.callp (some 73) (.t 72) [(kI 2),(kI (-1))]) (.ops []))))))))))))))))))))))))))) (sO [oM 250 15] (sO [oM 251 250] (sO [oF 252 251 (.faddr 1 (.t 14))] (sO [oF 253 251 (.load false 1 (.t 252))] (sO [oF 254 251 (bI .eql (.t 253) (kI 0))] (sO [oP 255 251 (kB true) (.t 254)] (sO [oM 256 255] (sO [oU 257 256 16] (sO [oU 258 256 257] (sO [oF 259 258 (.faddr 2 (.t 14))] (sO [oF 260 258 (.load false 1 (.t 259))] (sO [oF 261 258 (bI .eql (.t 260) (kI 0))] (sO [oT 262 256 (.pick (.t 258) (kB true) (.t 261))] (sO [oP 263 256 (.t 262) (kB false)] (sO [oM 264 263] (sO [oU 265 264 17] (sO [oU 266 264 265] (sO [oF 267 266 (.faddr 3 (.t 14))] (sO [oF 268 266 (.load false 1 (.t 267))] (sO [oF 269 266 (.len .slc (.t 268))] (sO [oF 270 266 (bI .eql (.t 269) (kI 0))] (sO [oW 271 266 270] (sO [oT 272 271 (.faddr 4 (.t 14))] (sO [oT 273 271 (.load false 1 (.t 272))] (sO [oT 274 271 (.len .slc (.t 273))] (sO [oT 275 271 (bI .eql (.t 274) (kI 0))] (sO [oF 276 266 (.pick (.t 271) (.t 275) (kB false))] (sO [oT 277 264 (.pick (.t 266) (kB true) (.t 276))] (sO [oP 278 264 (.t 277) (kB false)] (sO [] (.seq (.callp (some 279) (.c (.fn (.func 25) [] [])) [(.t 278)]) (.ops [])))))))))))))))))))))))))))))))))))))) (.ops [oV 280 .add 44 1,oM 44 280]))))))) (sO [oL 281 10,oM 8 281] .ret))))))))⟩
theorem L46_ok : zAi Tryz.prog Tryz.f46 [⟨1,7,.cut⟩,⟨10,5,.cut⟩,⟨17,8,.cut⟩,⟨18,1,.cut⟩,⟨21,3,.cut⟩,⟨21,4,.cut⟩,⟨22,1,.cut⟩,⟨25,3,.cut⟩,⟨25,4,.cut⟩,⟨26,1,.cut⟩,⟨30,3,.cut⟩,⟨30,24,.cut⟩,⟨30,26,.cut⟩,⟨32,1,.cut⟩,⟨33,1,.cut⟩,⟨36,1,.cut⟩,⟨38,1,.cut⟩,⟨41,1,.cut⟩,⟨43,6,.cut⟩,⟨44,6,.cut⟩,⟨44,9,.cut⟩,⟨45,2,.cut⟩,⟨48,11,.cut⟩,⟨48,20,.cut⟩,⟨48,23,.cut⟩,⟨51,12,.cut⟩,⟨53,8,.cut⟩,⟨55,8,.cut⟩,⟨13,8,.cut⟩,⟨14,1,.cut⟩,⟨57,29,.cut⟩,⟨2,11,.tail⟩,⟨51,0,(.drw [12])⟩,⟨52,9,.tail⟩,⟨53,0,(.drw [4,7,8])⟩] = some L46 := by kernel_rfl
def L50 : LFn := ⟨106,[(.tmp 4)],(sO [oX 2 (.box false (.t 0)),oX 4 (.mv (kB false))] (.seq (sO [oD 5 0 2,oL 6 5,oV 7 .lss 6 0,oM 8 7,oF 9 8 (.faddr 0 (.t 2)),oF 10 8 (.load false 1 (.t 9)),oF 11 8 (bI .gtr (.t 10) (kI 22)),oP 12 8 (kB true) (.t 11)] (cD 12 (sO [oX 4 (.mv (kB false))] .ret) .skip)) (.seq (sO [oD 13 0 2,oL 14 13,oV 15 .neq 14 18,oM 16 15,oT 17 16 (.faddr 0 (.t 2)),oT 18 16 (.load false 1 (.t 17)),oT 19 16 (bI .neq (.t 18) (kI 19)),oP 20 16 (.t 19) (kB false),oM 21 20,oT 22 21 (.faddr 3 (.t 2)),oT 23 21 (.load false 1 (.t 22)),oT 24 21 (.len .slc (.t 23)),oT 25 21 (bI .gtr (.t 24) (kI 0)),oU 26 21 25,oF 27 26 (.faddr 4 (.t 2)),oF 28 26 (.load false 1 (.t 27)),oF 29 26 (.len .slc (.t 28)),oF 30 26 (bI .gtr (.t 29) (kI 0)),oT 31 21 (.pick (.t 26) (kB true) (.t 30)),oP 32 21 (.t 31) (kB false)] (cD 32 (sO [oX 4 (.mv (kB false))] .ret) .skip)) (.seq (sO [oD 33 0 2,oL 34 33] (.block 0 (sO [oV 36 .eql 34 0,oM 35 36] (cD 35 (sO [oD 37 1 2,oL 38 37,oV 39 .geq 38 0,oM 40 39,oT 41 40 (.faddr 1 (.t 2)),oT 42 40 (.load false 1 (.t 41)),oT 43 40 (bI .leq (.t 42) (kI 999999999)),oP 44 40 (.t 43) (kB false),oM 45 44,oT 46 45 (.faddr 2 (.t 2)),oT 47 45 (.load false 1 (.t 46)),oT 48 45 (bI .eql (.t 47) (kI 0)),oP 49 45 (.t 48) (kB false),oM 4 49] .ret) (.seq (sO [oV 51 .eql 34 1,oM 50 51] (cD 50 .skip (.ops [oV 52 .eql 34 2,oM 50 52]))) (cD 50 (sO [oD 53 1 2,oL 54 53,oV 55 .geq 54 0,oM 56 55,oT 57 56 (.faddr 1 (.t 2)),oT 58 56 (.load false 1 (.t 57)),oU 59 56 1,oT 60 56 (bI .lss (.t 58) (.t 59)),oP 61 56 (.t 60) (kB false),oM 62 61,oT 63 62 (.faddr 2 (.t 2)),oT 64 62 (.load false 1 (.t 63)),oT 65 62 (bI .eql (.t 64) (kI 0)),oP 66 62 (.t 65) (kB false),oM 4 66] .ret) (.seq (sO [oV 68 .eql 34 3,oM 67 68] (cD 67 .skip (.ops [oV 69 .eql 34 4,oM 67 69]))) (cD 67 (sO [oD 70 1 2,oL 71 70,oV 72 .geq 71 0,oM 73 72,oT 74 73 (.faddr 2 (.t 2)),oT 75 73 (.load false 1 (.t 74)),oT 76 73 (bI .geq (.t 75) (kI 1)),oP 77 73 (.t 76) (kB false),oM 78 77,oT 79 78 (.faddr 1 (.t 2)),oT 80 78 (.load false 1 (.t 79)),oU 81 78 1,oT 82 78 (bI .lss (.t 80) (.t 81)),oP 83 78 (.t 82) (kB false),oM 84 83,oT 85 84 (.faddr 2 (.t 2)),oT 86 84 (.load false 1 (.t 85)),oU 87 84 1,oT 88 84 (.faddr 1 (.t 2)),oT 89 84 (.load false 1 (.t 88)),oT 90 84 (bI .sub (.t 87) (.t 89)),oT 91 84 (bI .leq (.t 86) (.t 90)),oP 92 84 (.t 91) (kB false),oM 4 92] .ret) (sO [oV 94 .eql 34 20,oM 93 94] (cD 93 (sO [oD 95 2 2,oL 96 95,oV 97 .eql 96 0,oM 4 97] .ret) .skip)))))))))) (sO [oD 98 1 2,oL 99 98,oV 100 .eql 99 0,oM 101 100,oT 102 101 (.faddr 2 (.t 2)),oT 103 101 (.load false 1 (.t 102)),oT 104 101 (bI .eql (.t 103) (kI 0)),oP 105 101 (.t 104) (kB false),oM 4 105] .ret)))))⟩
theorem L50_ok : zAi Tryz.prog Tryz.f50 [] = some L50 := by kernel_rfl
def L51 : LFn := ⟨11,[(.tmp 2)],(sO [oX 1 (.box false (.t 0)),oC 2 0] (.seq (sO [oD 3 3 1,oL 4 3,oV 5 .geq 4 0] (cD 5 (sO [oD 6 3 1,oL 7 6,oM 2 7] .ret) .skip)) (sO [oD 8 4 1,oL 9 8,oX 10 (.len .slc (.t 9)),oM 2 10] .ret)))⟩
theorem L51_ok : zAi Tryz.prog Tryz.f51 [] = some L51 := by kernel_rfl
def L59 : LFn := ⟨26,[(.tmp 2),(.tmp 3)],(sO [oC 2 0,oX 3 (.mv (kB false))] (sO [oC 4 1] (.seq (sO [oM 7 0,oX 8 (.len .str (.t 7)),oV 9 .gtr 8 0,oM 10 9,oU 11 10 0,oT 12 10 (.idx (.t 11) (kI 0)),oT 13 10 (bI .eql (.t 12) (.c (.v (.int .u8 45)))),oP 14 10 (.t 13) (kB false)] (cD 14 (.draw [oM 15 0,oX 16 (.slice .str 1 (.t 15) (some (kI 1)) none),oC 4 (-1),oM 0 16] []) .skip)) (sO [oM 18 0,oX 19 (y1 114 18),oM 17 19,oE 20 17 0,oE 21 17 1,oM 5 20,oM 6 21] (sO [oM 22 4,oM 23 5,oB 24 .mul 22 23,oM 25 6,oM 2 24,oM 3 25] .ret)))))⟩
theorem L59_ok : zAi Tryz.prog Tryz.f59 [] = some L59 := by kernel_rfl
def L60 : LFn := ⟨2,[(.tmp 0)],(sO [oX 0 (.mv (.c zAl))] (sO [oX 1 (.bsl false 1 23 [(.v (.string (mkS [])))] [(0,(.c (.v (.string (mkS [112,117,115,104]))))),(1,(.c (.v (.string (mkS [108,111,97,100]))))),(2,(.c (.v (.string (mkS [115,116,111,114,101]))))),(3,(.c (.v (.string (mkS [108,111,97,100,97,116]))))),(4,(.c (.v (.string (mkS [115,116,111,114,101,97,116]))))),(5,(.c (.v (.string (mkS [97,100,100]))))),(6,(.c (.v (.string (mkS [115,117,98]))))),(7,(.c (.v (.string (mkS [109,117,108]))))),(8,(.c (.v (.string (mkS [100,105,118]))))),(9,(.c (.v (.string (mkS [109,111,100]))))),(10,(.c (.v (.string (mkS [101,113,117,97,108]))))),(11,(.c (.v (.string (mkS [117,110,101,113,117,97,108]))))),(12,(.c (.v (.string (mkS [108,101,115,115]))))),(13,(.c (.v (.string (mkS [97,116,109,111,115,116]))))),(14,(.c (.v (.string (mkS [103,114,101,97,116,101,114]))))),(15,(.c (.v (.string (mkS [97,116,108,101,97,115,116]))))),(16,(.c (.v (.string (mkS [110,101,103,97,116,101]))))),(17,(.c (.v (.string (mkS [110,111,116]))))),(18,(.c (.v (.string (mkS [105,102]))))),(19,(.c (.v (.string (mkS [108,111,111,112]))))),(20,(.c (.v (.string (mkS [99,97,108,108]))))),(21,(.c (.v (.string (mkS [114,101,116,117,114,110]))))),(22,(.c (.v (.string (mkS [97,115,115,101,114,116])))))]),oM 0 1,oX 0 (.frz (.t 0))] .ret))⟩
theorem L60_ok : zAi Tryz.prog Tryz.f60 [⟨1,2,(.pre 0 (.frz (.t 0)))⟩] = some L60 := by kernel_rfl
def L73 : LFn := ⟨15,[],(.seq (sO [oL 5 2] (sO [oM 6 0] (sO [oB 7 .geq 5 6] (sO [] (.seq (.callp (some 8) (.c (.fn (.func 25) [] [])) [(.t 7)]) (.ops [])))))) (sO [oL 9 2,oM 10 1,oB 11 .add 9 10,oS 1 2 11] (sO [oL 12 2] (sO [oV 13 .leq 12 1024] (sO [] (.seq (.callp (some 14) (.c (.fn (.func 25) [] [])) [(.t 13)]) (.ops [])))))))⟩
theorem L73_ok : zAi Tryz.prog Tryz.f73 [⟨0,3,.cut⟩,⟨2,2,.cut⟩] = some L73 := by kernel_rfl
def L74 : LFn := ⟨12,[(.tmp 3)],(sO [oX 3 (.mv (kB false))] (sO [oM 4 0,oV 5 .geq 4 0,oM 6 5,oU 7 6 0,oT 8 6 (.faddr 2 (.t 1)),oT 9 6 (.load false 1 (.t 8)),oT 10 6 (bI .lss (.t 7) (.t 9)),oP 11 6 (.t 10) (kB false),oM 3 11] .ret))⟩
theorem L74_ok : zAi Tryz.prog Tryz.f74 [] = some L74 := by kernel_rfl
def L75 : LFn := ⟨11,[(.tmp 2)],(sO [oX 1 (.box false (.t 0)),oC 2 0] (.seq (sO [oD 3 3 1,oL 4 3,oV 5 .geq 4 0] (cD 5 (sO [oD 6 3 1,oL 7 6,oM 2 7] .ret) .skip)) (sO [oD 8 4 1,oL 9 8,oX 10 (.len .slc (.t 9)),oM 2 10] .ret)))⟩
theorem L75_ok : zAi Tryz.prog Tryz.f75 [] = some L75 := by kernel_rfl
end Go.Proofs.YtbibhcmcjldhdaaGreatDoor
namespace Go.Ax
open Go Go.RowKit
set_option linter.unusedSimpArgs false
set_option linter.unusedVariables false
section
variable {P : Program} {k : List zEu} {Q : Out → Env → zB → Prop} {e : Env} {H : zB}
end
end Go.Ax
namespace Go.Ax
open Go
set_option linter.unusedSimpArgs false
set_option linter.unusedVariables false
variable {P : Program} {H : zB}
theorem ACall.frz {k : FuncId} {args : List AV} {R : AV->zB->Prop} (h : ACall P k args H R) (hR : ∀ x H',R x H'->(rFrz x H').ok) :
  ACall P k args H fun y H2 => ∃ x H',R x H'/\y = (rFrz x H').x/\H2 = (rFrz x H').H :=
 ⟨h.1,fun X ρ w vs a b => (h.2 X ρ w vs a b).mono fun _ w' ⟨v,x,H',ρ',e,r,g1,g2,g3⟩ => by
  obtain ⟨ρ2,f1,f2,f3⟩ := zJd g1 g2 (hR _ _ r);exact ⟨v,_,_,ρ2,e,⟨x,H',r,rfl,rfl⟩,f1,f2,g3.trans f3⟩⟩
def AV.Le (x y : AV) : Prop := ∀ (w : World) (M : Nat->Prop) (ρ : Nat->Loc) (n : Nat) (v : Value),Rep w M ρ n x v->Rep w M ρ n y v
theorem AV.Le.refl (x : AV) : AV.Le x x := fun _ _ _ _ _ h => h
theorem AV.Le.nil (sz : Nat) : AV.Le (.v (.slice none 0 0)) (.sl sz []) := fun w M ρ n v h => by
 cases h;exact .slE _ _ _ _
theorem AV.Le.agg {xs ys : List AV} (hl : xs.length = ys.length) (h : ∀ (i : Nat) (x y : AV),xs[i]? = some x->ys[i]? = some y->AV.Le x y) : AV.Le (.agg xs) (.agg ys) := fun w M ρ n v hv => by
 cases hv with
 | agg _ _ us hl' hr =>
  refine .agg _ _ _ (by omega) fun i y u hy hu => ?_;have hi : i < xs.length := by have := (zYr.1 hy).1; omega
  exact h i xs[i] y (zYK hi) hy _ _ _ _ _ (hr i _ u (zYK hi) hu)
theorem ACall.args {k : FuncId} {xs ys : List AV} {R : AV->zB->Prop} (h : ACall P k ys H R) (hl : xs.length = ys.length) (hle : ∀ (i : Nat) (x y : AV),xs[i]? = some x->ys[i]? = some y->AV.Le x y) : ACall P k xs H R :=
 ⟨h.1,fun X ρ w vs a b => h.2 X ρ w vs a (by
  obtain ⟨b1,b2⟩ := b;refine ⟨by omega,fun i y u hy hu => ?_⟩;have hi : i < xs.length := by have := (zYr.1 hy).1; omega
  exact hle i xs[i] y (zYK hi) hy _ _ _ _ _ (b2 i _ u (zYK hi) hu))⟩
theorem ACall.res {k : FuncId} {args : List AV} {R : AV->zB->Prop} (h : ACall P k args H R) : ACall P k args H fun y H' => ∃ x,R x H'/\AV.Le x y := by
 refine h.mono fun x H' r => ⟨x,r,AV.Le.refl x⟩
theorem ACall.resTo {k : FuncId} {args : List AV} {R R' : AV->zB->Prop} (h : ACall P k args H R) (hr : ∀ x H',R x H'->∃ y,AV.Le x y/\R' y H') : ACall P k args H R' :=
 ⟨h.1,fun X ρ w vs a b => (h.2 X ρ w vs a b).mono fun _ w' ⟨v,x,H',ρ',e,r,g1,g2,g3⟩ => by
  obtain ⟨y,h1,h2⟩ := hr _ _ r;exact ⟨v,y,H',ρ',e,h2,g1,h1 _ _ _ _ _ g2,g3⟩⟩
theorem zC {α : Type} {G l : List α} {i : Nat} (h : i < G.length) : (G ++ l)[i]? = G[i]? := zYD h
theorem zO {α : Type} {G l : List α} {i : Nat} {x : α} (h : i < G.length) : (G ++ l).set i x = G.set i x ++ l := zZ0 i x h
theorem zH {α : Type} {G : List α} {i j : Nat} {x : α} (h : ¬ i = j) : (G.set i x)[j]? = G[j]? := zYL h
theorem zJ {α : Type} {G : List α} {i : Nat} {x : α} (h : i < G.length) : (G.set i x)[i]? = some x := zYU h
theorem zBQ {α : Type} {G l : List α} {i j : Nat} {x : α} (h : i < G.length) : (G.set j x ++ l)[i]? = (G.set j x)[i]? := zYD (by rw [zYP]; exact h)
theorem zY {α : Type} {G l : List α} {i j : Nat} {x y : α} (h : i < G.length) : (G.set j x ++ l).set i y = (G.set j x).set i y ++ l := zZ0 i y (by rw [zYP]; exact h)
theorem zBt {α : Type} {G : List α} {i j : Nat} {x y : α} (h : i < G.length) : ((G.set j x).set i y)[i]? = some y := zYU (by rw [zYP]; exact h)
theorem zBu {α : Type} {G l : List α} {i j k : Nat} {x y : α} (h : i < G.length) : ((G.set j x).set k y ++ l)[i]? = ((G.set j x).set k y)[i]? := zYD (by rw [zYP,zYP]; exact h)
theorem zBs {α : Type} {G l : List α} {i j k : Nat} {x y z : α} (h : i < G.length) : ((G.set j x).set k y ++ l).set i z = ((G.set j x).set k y).set i z ++ l := zZ0 i z (by rw [zYP,zYP]; exact h)
theorem zA8 {α : Type} {G : List α} {i j k : Nat} {x y z : α} (h : i < G.length) : (((G.set j x).set k y).set i z)[i]? = some z := zYU (by rw [zYP,zYP]; exact h)
theorem zEJ {H G : zB} (hl : H.length <= G.length) (h : ∀ i,i < H.length->G[i]? = H[i]?) : ∃ rest,G = H ++ rest := by
 refine ⟨G.drop H.length,?_⟩;apply zzad;intro i;by_cases hi : i < H.length
 ·rw [zYD hi]; exact h i hi
 ·rw [zYz (by omega),zZh]
  congr 1
  omega
end Go.Ax
namespace Go.Ax
open Go Go.RowKit
set_option linter.unusedSimpArgs false
set_option linter.unusedVariables false
section
variable {P : Program} {w w0 w1 : World} {X : Nat → Prop} {ρ ρ0 ρ1 : Nat → Loc} {H H1 : zB} {e e1 : Env} {a a1 : Act} {n n0 : Nat}
def zQC : Option Value->FrameMode
 | none => .returning
 | some z => .panicking [{ v := z,recovered := false }]
def zCh : Option Value->FrameMode
 | none => .returning
 | some z => .panicking [{ v := z,recovered := true }]
theorem zE7 (m : Option Value) : settle (zCh m) = .returning := by cases m <;> rfl
def zP7 (P : Program) (k : FuncId) (args : List AV) (m : Option Value) (H : zB) (K : zB->Prop) : Prop :=
 ∀ X ρ w vs,HRel w X ρ H->RepL w (Mut X ρ H.length) ρ H.length args vs ->
  CallsDIn Fence.wide 0 P k vs (zQC m) w fun en u' w' => ∃ v H' ρ',en = .returned v/\u' = zCh m/\K H'/\HRel w' X ρ' H'/\Fut w ρ H.length w' ρ' H'.length
def zEC (P : Program) (res : List RV) (R : AV->zB->Prop) (k : FuncId) (args : List AV) : Out->Env->zB->Prop
 | .exit _,_,_ => False
 | .pan v,e,H => zP7 P k args (some v) H fun H' => (zAH e H' res).ok/\R (zAH e H' res).x H'
 | _,e,H => zP7 P k args none H fun H' => (zAH e H' res).ok/\R (zAH e H' res).x H'
def wpD (P : Program) (res : List RV) (R : AV->zB->Prop) : LD->Env->zB->Prop
 | .seq a b,e,H => zAa P [.code a] (fun o e' H' => o = .normal/\wpD P res R b e' H') .normal e H
 | .cut los f args body,e,H => zAa P [.ops los] (fun o e1 H1 => o = .normal/\∃ k first caps,ev e1 f = .fn (.func k) first caps/\zFk P k/\zAa P [.code body] (zEC P res R k (first ++ args.map (ev e1) ++ caps)) .normal e1 H1) .normal e H
theorem RepL.nextN {w' : World} {ρ' : Nat->Loc} {n n' : Nat} {xs : List AV} {us : Array Value} (hf : Fut w ρ n w' ρ' n') (h : RepL w (Mut X ρ n) ρ n xs us) : RepL w' (Mut X ρ' n') ρ' n' xs us :=
 ⟨h.1,fun i x u hx hu => (h.2 i x u hx hu).nextN hf⟩
theorem zE0 {B : DB} {ops : Array Oper} {Q : Exit->Act->World->Prop} {K : FuncId->List AV->Env->zB->Prop}
  (hQ : ∀ k dargs e1 H1 a1 w1 ρ1 d vs,K k dargs e1 H1->a1.tmps.size = n->HRel w1 X ρ1 H1->ER w1 X ρ1 H1 n e1 a1->Fut w0 ρ0 n0 w1 ρ1 H1.length->Mk B w0 w1 ρ1 H1.length a1.defers->RepL w1 (Mut X ρ1 H1.length) ρ1 H1.length dargs vs ->
   (∃ fv cap,d.target = .fn fv cap)->(∀ w',(invoke d.target d.args).run P w' = .ok (.enter k vs) w')->Q .normal { a1 with defers := d :: a1.defers } w1) :
  ∀ (l : List Oper) (los : List LO) (f : LX) (args : List LX) (e : Env) (H : zB) (a : Act) (w : World),zHA P n ops l = some (los,f,args) ->
   (zAD P los e H fun e1 H1 => ∃ k first caps,ev e1 f = .fn (.func k) first caps/\zFk P k/\K k (first ++ args.map (ev e1) ++ caps) e1 H1)->St B X w0 ρ0 n0 n e H a w->wpListIn (WR none) 0 P ops Q l a w
 | [],los,f,args,e,H,a,w,hl,h,hst => by cases hl
 | [o],los,f,args,e,H,a,w,hl,h,hst => by
  have hl0 : (zNm n o).map (fun p => (([] : List LO),p.1,p.2)) = some (los,f,args) := hl;clear hl;obtain ⟨⟨f',args'⟩,hl,hp⟩ := zAo hl0;clear hl0;simp only [zYS] at hp;obtain ⟨rfl,rfl,rfl⟩ := hp;unfold zNm at hl;split at hl
  ·rename_i fo ao ts ho hg hd;split at hl
   ·rename_i g m hf hm;simp only [zYq,zYS] at hl;obtain ⟨rfl,rfl⟩ := hl;obtain ⟨k,first,caps,hfv,⟨fn,hfn,hbody,hname⟩,hK⟩ := h;obtain ⟨h2,ρ,hrel,he,hfu,hmk⟩ := hst;have rf := zAd he hf;obtain ⟨hlen,hrep⟩ := zCi he _ _ hm;rw [hfv] at rf;generalize hfe : a.eval fo = fv at rf;cases rf with
    | fn _ _ _ _ fs us h1 h2' h3 h4 =>
     have hrl : RepL w (Mut X ρ H.length) ρ H.length (first ++ m.map (ev e) ++ caps) (fs ++ ao.map a.eval ++ us) := by
      refine ⟨by simp [h1,h2',hlen],fun i x u hx hu => ?_⟩;rw [zY8,zY7] at hx;rw [zzak,zZc] at hu;by_cases hi : i < first.length
      ·rw [if_pos hi] at hx;rw [if_pos (by omega)] at hu;exact h3 i x u hx hu
      ·rw [if_neg hi,zY7] at hx;rw [if_neg (by omega),zZc] at hu;simp only [zYo,zzaY] at hx hu;have hl2 : m.length = ao.size := by simpa using hlen
       by_cases hj : i - first.length < m.length
       ·rw [if_pos hj] at hx;rw [if_pos (by omega)] at hu;exact hrep (i - first.length) x u hx (by rw [<- h1] at hu; simpa using hu)
       ·rw [if_neg hj] at hx;rw [if_neg (by omega)] at hu;exact h4 (i - first.length - m.length) x u hx (by rw [<- h1,<- hl2] at hu; exact hu)
     obtain ⟨d,hrun,htar,hinv⟩ : ∃ d,(execOp a.eval o).run P w = .ok (.defer d) w/\(∃ fv cap,d.target = .fn fv cap)/\∀ w',(invoke d.target d.args).run P w' = .ok (.enter k (fs ++ ao.map a.eval ++ us)) w' := by
      refine ⟨{ target := .fn (.func k) us,args := fs ++ ao.map a.eval },?_,⟨_,_,rfl⟩,fun w' => ?_⟩
      ·unfold execOp;rw [ho];simp only [resolve,hfe,Deferred.ofValue,Sem.run_bind,Sem.run_pure,Result.andThen_ok]
      ·simp only [invoke,callFunc,Sem.run_bind,Sem.run_pure,Result.andThen_ok,run_program,hfn,hname,zYM,if_false,hbody]
     unfold wpListIn;rw [zBU hg,if_pos rfl];refine ⟨fun _ _ => trivial,?_⟩;show o.uponIn _ _ _ _ _ _ ((Oper.semAt none a.eval o).run P w);rw [Oper.semAt_none,hrun,Oper.uponIn_defer,hd];exact hQ k _ e H a w ρ d _ hK h2 hrel he hfu hmk hrl htar hinv
   ·cases hl
  ·cases hl
 | o :: o2 :: l,los,f,args,e,H,a,w,hl,h,hst => by
  unfold zHA at hl;simp only at hl;split at hl
  ·rename_i lo p h1 h2;obtain ⟨m,f',args'⟩ := p;simp only [zYq,zYS] at hl;obtain ⟨rfl,rfl,rfl⟩ := hl;have := zBl (r := none) (m0 := 0) h1 h hst (next := wpListIn (WR none) 0 P ops Q (o2 :: l)) (Q := Q) fun e'' H'' a'' w'' hK hs'' => zE0 hQ (o2 :: l) m f' args' e'' H'' a'' w'' h2 hK hs'';unfold wpListIn;exact this
  ·cases hl
theorem zLp {fn : Func} {hs : List Hn} {rs : List RV} {R : AV->zB->Prop} (hr : zEo P n fn.results.toList = some rs) : ∀ (c : Code) (ld : LD) (e : Env) (H : zB) (a : Act) (w : World),zWw P n hs c = some ld->wpD P rs R ld e H->St ⟨[],True⟩ X w0 ρ0 n0 n e H a w ->
  c.wpIn (WR none) 0 P (bodyPostM Fence.wide 0 P fn fun en w' => ∃ v x H' ρ',en = .returned v/\R x H'/\HRel w' X ρ' H'/\Rep w' (Mut X ρ' H'.length) ρ' H'.length x v/\Fut w0 ρ0 n0 w' ρ' H'.length) a w := by
 intro c;induction c with
 | seq x y ihx ihy =>
  intro ld e H a w hl h hst;unfold zWw at hl;split at hl
  ·rename_i p hp;obtain ⟨los,f,args⟩ := p;cases hb : zEv P n hs y with
   | none => rw [hb] at hl; cases hl
   | some body =>
    rw [hb,zYZ,zYq] at hl;subst hl;unfold zPZ at hp;split at hp
    ·rename_i id ops;have h : zAD P los e H fun e1 H1 => (Out.normal = .normal/\∃ k first caps,ev e1 f = .fn (.func k) first caps/\zFk P k/\zAa P [.code body] (zEC P rs R k (first ++ args.map (ev e1) ++ caps)) .normal e1 H1) := h;have h : zAD P los e H fun e1 H1 => ∃ k first caps,ev e1 f = .fn (.func k) first caps/\zFk P k/\(fun k dargs e1 H1 => zAa P [.code body] (zEC P rs R k dargs) .normal e1 H1) k (first ++ args.map (ev e1) ++ caps) e1 H1 := zBD h fun _ _ hh => hh.2
     refine wpIn_seq (wpIn_region_list (zE0 (K := fun k dargs e1 H1 => zAa P [.code body] (zEC P rs R k dargs) .normal e1 H1) (fun k dargs e1 H1 a1 w1 ρ1 d vs hK hn1 hrel1 he1 hf1 hmk1 hrl1 htar hinv => ?_) ops.toList los f args e H a w hp h hst));refine zB1 (B := ⟨d :: a1.defers,True⟩) (X := X) (w0 := w1) (ρ0 := ρ1) (n0 := H1.length) (rd := none) (m0 := 0) (H := H1) (e := e1) y hb (.inl ⟨rfl,trivial⟩) hK ⟨hn1,ρ1,hrel1,he1,Fut.refl _ _ _,Mk.nil⟩ ?_;intro o e' H' a' w' hk hst';obtain ⟨hn,ρ',g1,g2,g3,ds,d1,_,d2,d3⟩ := hst';obtain ⟨f1,f2,f3⟩ := zD2 ds d2 (fun D hD => ⟨(d3 D hD).1,(d3 D hD).2.2.2⟩) g1 g2 g3;obtain ⟨fv,cap,htar⟩ := htar;have go : ∀ m : Option Value,(zP7 P k dargs m H' fun H'' => (zAH e' H'' rs).ok/\R (zAH e' H'' rs).x H'')->LeavesInM Fence.wide 0 P fn a'.tmps (fun en w' => ∃ v x H' ρ',en = .returned v/\R x H'/\HRel w' X ρ' H'/\Rep w' (Mut X ρ' H'.length) ρ' H'.length x v/\Fut w0 ρ0 n0 w' ρ' H'.length) a'.defers (zQC m) w' := by
      intro m hd;rw [d1];refine zBm (by cases m <;> simp [zQC]) ds w' d2 (fun D hD => (d3 D hD).2.2.2) ⟨by cases m <;> simp [zQC],.inr ⟨fun hh => (by cases hh),fv,cap,k,vs,htar,hinv _,fun _ _ => trivial,?_⟩⟩;refine (hd X ρ' _ vs f1 (hrl1.nextN f3)).mono ?_;rintro en u' w'' ⟨v,H'',ρ'',rfl,rfl,⟨hok,hR⟩,q1,q2⟩;have hm1 : Mk ⟨[],True⟩ w0 w'' ρ'' H''.length a1.defers := (hmk1.fut f3).fut q2;obtain ⟨ds1,c1,_,c2,c3⟩ := hm1;have he2 : ER w'' X ρ'' H'' n e' a' := fun t ht => (f2 t ht).nextN q2;obtain ⟨p1,p2,p3⟩ := zD2 (w0 := w0) ds1 c2 (fun D hD => ⟨(c3 D hD).1,(c3 D hD).2.2.2⟩) q1 he2 ((hf1.trans f3).trans q2);show LeavesInM Fence.wide 0 P fn a'.tmps _ a1.defers (settle (zCh m)) w'';rw [zE7,c1];obtain ⟨_,v2,k3,k4⟩ := zD1 hr p1 p2 hok;exact zBm (by simp) ds1 w'' c2 (fun D hD => (c3 D hD).2.2.2) ⟨v2,k3,v2,_,H'',ρ'',rfl,hR,p1,k4,p3⟩
     cases o with
     | normal => exact go none hk
     | exit id => exact hk.elim
     | ret => exact go none hk
     | pan z => exact go (some z) hk
    ·cases hp
  ·split at hl
   ·rename_i la lb h1 h2;simp only [zYq] at hl;subst hl;refine wpIn_seq (zB1 x h1 (.inl ⟨rfl,trivial⟩) (h : awp P la e H _) hst fun o e' H' a' w' hk hs' => ?_);obtain ⟨rfl,hk⟩ := hk;exact ihy lb e' H' a' w' h2 hk hs'
   ·cases hl
 | _ => intro ld e H a w hl; cases hl
theorem zVj {k : FuncId} {fn : Func} {hs : List Hn} {L : zTB} {args : List AV} {R : AV->zB->Prop} (hf : P.funcs[k]? = some fn) (hl : zNl P fn hs = some L) (ha : args.length <= L.n)
  (h : wpD P L.res R L.body (zC7 args 0) H) : ACall P k args H R := by
 unfold zNl at hl;cases hb : fn.body with
 | none => simp [hb] at hl
 | some c =>
  cases hr : zEo P fn.ntmps fn.results.toList with
  | none => simp [hb,hr] at hl
  | some rs =>
   simp only [hb,hr] at hl;split at hl
   ·rename_i b hc;split at hl
    ·rename_i hcond;simp only [zYq] at hl;subst hl;refine ⟨⟨fn,hf,by simp [hb],hcond.2⟩,fun X ρ w vs hrel hargs => (callsIn_wide (n := 0)).1 (callsIn_of_wp_marks hf hb trivial ?_)⟩;have hvs : vs.size <= fn.ntmps := by rw [<- hargs.1]; exact ha
     refine zLp (X := X) (w0 := w) (ρ0 := ρ) (n0 := H.length) hr c b (zC7 args 0) H _ w hc h ⟨by simp; omega,ρ,hrel,fun t ht => ?_,Fut.refl _ _ _,Mk.nil⟩;rw [zDR,if_pos (zYO _),zzal];by_cases htl : t < vs.size
     ·have hx : args[t]? = some (args[t]'(by rw [hargs.1]; exact htl)) := by simp
      rw [hx,zZj];refine hargs.2 t _ _ hx ?_;simp [zYV,zZc,htl]
     ·rw [zZu (by rw [hargs.1]; omega)];exact .any _ _
    ·cases hl
   ·cases hl
end
section
variable {P : Program} {w w0 w1 : World} {X : Nat → Prop} {ρ ρ0 ρ1 : Nat → Loc} {H H1 : zB} {e e1 : Env} {a a1 : Act} {n n0 : Nat}
def recV : Option Value->Value
 | none => .nilIface
 | some z => z
def zV7 (m : Option Value) (sl : List Nat) (e : Env) : Env := sl.foldl (fun e d => up e d (.v (recV m))) e
theorem zIh {o : Oper} {d : Nat} (h : zMy o = some d) (w : World) : o.guard = none/\o.dst = some d/\(execOp a.eval o).run P w = .ok .recover w := by
 unfold zMy at h;split at h
 ·rename_i x y ho hg hd;cases h;refine ⟨hg,hd,?_⟩;unfold execOp;rw [ho];rfl
 ·cases h
theorem zNf {o : Oper} {d d2 : Nat} (h : zR2 d o = some d2) (w : World) : o.guard = none/\o.dst = some d2/\(execOp a.eval o).run P w = .ok (.value (a.eval (.tmp d))) w := by
 unfold zR2 at h;split at h
 ·rename_i d' d2' ho hg hd;split at h
  ·rename_i hdd;cases h;subst hdd;refine ⟨hg,hd,?_⟩;unfold execOp;rw [ho];rfl
  ·cases h
 ·rename_i d' d2' ho hg hd;split at h
  ·rename_i hdd;cases h;subst hdd;refine ⟨hg,hd,?_⟩;unfold execOp;rw [ho];rfl
  ·cases h
 ·cases h
theorem zJg {c₀ : Frame} {cs : List Frame} {m : Option Value} (h : c₀.mode = zQC m) :
  (m = none/\recoverD (c₀ :: cs) = none/\c₀ :: cs = { c₀ with mode := zCh m } :: cs)\/(∃ z,m = some z/\recoverD (c₀ :: cs) = some (z,{ c₀ with mode := zCh m } :: cs)) := by
 obtain ⟨f1,f2,f3,f4,md,f6,f7⟩ := c₀;simp only at h;subst h;cases m with
 | none => exact .inl ⟨rfl,rfl,rfl⟩
 | some z => exact .inr ⟨z,rfl,rfl⟩
theorem zFz {k : FuncId} {fn : Func} {hs : List Hn} {L : zWR} {args : List AV} {m : Option Value} {K : zB->Prop} (hf : P.funcs[k]? = some fn) (hl : zKm P fn hs = some L) (ha : args.length <= L.n)
  (h : zAa P [.code L.body] (fun o _ H' => (o = .normal\/o = .ret)/\K H') .normal (zV7 m L.sl (zC7 args 0)) H) : zP7 P k args m H K := by
 unfold zKm at hl;split at hl
 ·rename_i id ops rest hb;split at hl
  ·rename_i sl b hsl hc;split at hl
   ·rename_i hcond;obtain ⟨hnr,hres,hpar⟩ := hcond;simp only [zYq] at hl;subst hl;intro X ρ w vs hrel hargs;have hvs : vs.size <= fn.ntmps := by rw [<- hargs.1]; exact ha
    refine callsDIn_of_wpSIn hf hb trivial fun c₀ cs hm => ?_;refine wpSIn_seq (wpSIn_region ?_);have hst0 : St ⟨[],False⟩ X w ρ H.length fn.ntmps (zC7 args 0) H { tmps := vs ++ Array.replicate (fn.ntmps - vs.size) undef,defers := [] } w := by
     refine ⟨by simp; omega,ρ,hrel,fun t ht => ?_,Fut.refl _ _ _,Mk.nil⟩;rw [zDR,if_pos (zYO _),zzal];by_cases htl : t < vs.size
     ·have hx : args[t]? = some (args[t]'(by rw [hargs.1]; exact htl)) := by simp
      rw [hx,zZj];refine hargs.2 t _ _ hx ?_;simp [zYV,zZc,htl]
     ·rw [zZu (by rw [hargs.1]; omega)];exact .any _ _
    generalize ({ tmps := vs ++ Array.replicate (fn.ntmps - vs.size) undef,defers := [] } : Act) = a0 at hst0 ⊢;generalize zC7 args 0 = e0 at hst0 h;have fin : ∀ (a' : Act),St ⟨[],False⟩ X w ρ H.length fn.ntmps (zV7 m sl e0) H a' w->rest.wpSIn Fence.wide 0 P (bodyPostS P fn c₀ cs fun en u' w' => ∃ v H' ρ',en = .returned v/\u' = zCh m/\K H'/\HRel w' X ρ' H'/\Fut w ρ H.length w' ρ' H'.length) a' ({ c₀ with mode := zCh m } :: cs) w := by
     intro a' hst;refine wpSIn_of_wpIn rfl ?_;refine zB1 (B := ⟨[],False⟩) (rd := none) (m0 := 0) rest hc (.inr hnr) h hst fun o e' H' a2 w' hk hs' => ?_;obtain ⟨ho,hK⟩ := hk;obtain ⟨hn,ρ',g1,g2,g3,ds,d1,d0,d2,d3⟩ := hs';have hds : ds = [] := d0.resolve_left (fun hh => hh);subst hds;obtain ⟨_,v,k3,_⟩ := zD1 (rs := []) (by rw [hres]; rfl) g1 g2 (show (zAH e' H' []).ok from fun r hr => by simp at hr);have hpost : a2.defers = []/\∃ u',({ c₀ with mode := zCh m } :: cs : List Frame) = { c₀ with mode := u' } :: cs/\∃ v,(results fn a2.tmps).run P w' = .ok v w'/\∃ v' H' ρ',(Ending.returned v) = .returned v'/\u' = zCh m/\K H'/\HRel w' X ρ' H'/\Fut w ρ H.length w' ρ' H'.length :=
      ⟨by rw [d1]; rfl,zCh m,rfl,v,k3,v,H',ρ',rfl,rfl,hK,g1,g3⟩
     rcases ho with rfl | rfl <;> exact hpost
    have one : ∀ (o : Oper) (d : Nat),zMy o = some d->o.guard = none/\∀ (Q : Exit->Act->List Frame->World->Prop) (ops : Array Oper) (l : List Nat) (i : Nat),ops[i]? = some o ->
      (∀ a',St ⟨[],False⟩ X w ρ H.length fn.ntmps (up e0 d (.v (recV m))) H a' w->wpOpsSIn Fence.wide 0 P ops Q l a' ({ c₀ with mode := zCh m } :: cs) w)->wpOpsSIn Fence.wide 0 P ops Q (i :: l) a0 (c₀ :: cs) w := by
     intro o d hod;refine ⟨(zIh (P := P) (a := a0) hod w).1,fun Q ops l i hi hk => ?_⟩;obtain ⟨hg,hdst,hrun⟩ := zIh (P := P) (a := a0) hod w;obtain ⟨hs1,ρ1,hrel1,he1,hfu1,hmk1⟩ := hst0;have hput : St ⟨[],False⟩ X w ρ H.length fn.ntmps (up e0 d (.v (recV m))) H (a0.put (some d) (recV m)) w := St.put (d := some d) hmk1 hs1 he1 hfu1 hrel1 (.v _ _) (Fut.refl _ _ _);have hk := hk _ hput;unfold wpOpsSIn;rw [hi];refine ⟨fun _ _ => trivial,?_⟩;rw [if_pos (zBU hg _),hrun];rcases zJg (cs := cs) hm with ⟨rfl,hr,he⟩ | ⟨z,rfl,hr⟩
     ·simp only [hr,hdst];rw [he];exact hk
     ·simp only [hr,hdst];exact hk
    unfold zQn at hsl;split at hsl
    ·rename_i o ho;obtain ⟨d,hd,rfl⟩ := zAo hsl;obtain rfl : ops = #[o] := by apply zZD; simpa using ho
     exact (one o d hd).2 _ _ [] 0 rfl fun a' hs' => fin a' hs'
    ·rename_i o o1 ho;split at hsl
     ·rename_i d hd;obtain ⟨d2,hd2,rfl⟩ := zAo hsl;obtain rfl : ops = #[o,o1] := by apply zZD; simpa using ho
      refine (one o d hd).2 _ _ [1] 0 rfl fun a' hs' => ?_;obtain ⟨hg,hdst,hrun⟩ := zNf (P := P) (a := a') hd2 w;obtain ⟨hs1,ρ1,hrel1,he1,hfu1,hmk1⟩ := hs';have hdn : d < fn.ntmps := by simp at hpar; exact hpar.1
      have hrep := he1 d hdn;rw [zRg] at hrep;have hput := St.put (d := some d2) hmk1 hs1 he1 hfu1 hrel1 hrep (Fut.refl _ _ _);unfold wpOpsSIn;rw [show (#[o,o1] : Array Oper)[1]? = some o1 from rfl];refine ⟨fun _ _ => trivial,?_⟩;rw [if_pos (zBU hg _),hrun];simp only [hdst];exact fin _ hput
     ·cases hsl
    ·cases hsl
   ·cases hl
  ·cases hl
 ·cases hl
end
end Go.Ax
namespace Go.Ax
open Go
set_option linter.unusedSimpArgs false
set_option linter.unusedVariables false
section
variable {P : Program} {k : List zEu} {Q : Out → Env → zB → Prop} {e : Env} {H : zB}
theorem zHb {hd : List LO} {e1 : Env} : ∀ {tl : List (LO × List Nat)} {e : Env} {H : zB} {K : Env->zB->Prop} {Z : Value->zB->Prop},zEO P hd e1 (tl.map fun p => (p.1,false,p.2)) e H K Z = zDb P hd e1 tl e H K
 | [],_,_,_,_ => rfl
 | (o,js) :: tl,e,H,K,Z => by
  show aTI P false o e H (fun e' H' => zC3 P hd e1 H' js/\zEO P hd e1 (tl.map fun p => (p.1,false,p.2)) e' H' K Z) Z = zAD P [o] e H fun e' H' => zC3 P hd e1 H' js/\zDb P hd e1 tl e' H' K;have : (fun e' H' => zC3 P hd e1 H' js/\zEO P hd e1 (tl.map fun p => (p.1,false,p.2)) e' H' K Z) = fun e' H' => zC3 P hd e1 H' js/\zDb P hd e1 tl e' H' K := by
   funext e' H'
   rw [zHb]
  rw [this];rfl
@[push_cast] theorem zV0 (hd : List LO) (tl : List (LO × List Nat)) (gs : List LO) : zAa P (.code (.drawA hd tl gs) :: k) Q .normal e H = zAa P (.opq hd [] :: .opx hd (tl.map fun p => (p.1,false,p.2)) gs e :: k) Q .normal e H := by
 show zAR P hd e H (fun e1 => zDb P hd e1 tl e1 H fun e' H' => zAD P gs e' H' (zAa P k Q .normal)) = zAR P hd e H fun e' => zAD P [] e' H fun e1 H1 => zEO P hd e1 (tl.map fun p => (p.1,false,p.2)) e1 H1 (fun e' H' => zAD P gs e' H' (zAa P k Q .normal)) fun v H' => zAa P k Q (.pan v) e H';simp only [zHb];rfl
attribute [push_cast] List.map_cons List.map_nil
@[push_cast] theorem zWV (res : List RV) (R : AV->zB->Prop) (a : LCode) (b : LD) : wpD P res R (.seq a b) e H = zAa P [.code a] (fun o e' H' => o = .normal/\wpD P res R b e' H') .normal e H := rfl
@[push_cast] theorem zWW (res : List RV) (R : AV->zB->Prop) (los : List LO) (f : LX) (args : List LX) (body : LCode) : wpD P res R (.cut los f args body) e H = zAa P [.ops los] (fun o e1 H1 => o = .normal/\∃ k first caps,ev e1 f = .fn (.func k) first caps/\zFk P k/\zAa P [.code body] (zEC P res R k (first ++ args.map (ev e1) ++ caps)) .normal e1 H1) .normal e H := rfl
theorem zK {d : Option Nat} {f : FuncId} {args : List AV} {v : Value} (h : ACallX P f args H (fun _ _ => False) fun z H' => z = v/\H' = H) (hk : zAa P k Q (.pan v) e H) : zKL P f args H e d k Q :=
 zG h (fun _ _ hh => hh.elim) fun z H' ⟨h1,h2⟩ => by subst h1; subst h2; exact hk
@[push_cast] theorem zV9 : (Out.normal = .normal) = True := by simp
end
end Go.Ax
namespace Go.Proofs.YtbibhcmcjldhdaaGreatDoor
open Go Go.Ax Go.RowKit
set_option maxRecDepth 100000
set_option linter.unusedSimpArgs false
set_option linter.unusedVariables false
set_option maxHeartbeats 4000000
theorem zFW {s : List UInt8} (h : zEH s = true) : zGL 0 s < 1000000000 := by
 obtain ⟨h1,h2,h3⟩ := zCd.1 h
 have : ∀ (l : List UInt8) (n k : Nat),n < 10 ^ k->(∀ c ∈ l,isD c = true)->zGL n l < 10 ^ (k + l.length) := by
  intro l
  induction l with
  | nil => intro n k hn _; simpa [zGL] using hn
  | cons c l ih =>
   intro n k hn hc
   rw [zIt]
   have hd := zJE.1 (hc c (by simp))
   have := ih (10 * n + (c.toNat - 48)) (k + 1) (by rw [zzaG]; omega) fun x hx => hc x (by simp [hx])
   rw [zYs]
   rwa [show k + 1 + l.length = k + (l.length + 1) by omega] at this
 have hb := this s 0 0 (by simp) fun c hc => by
  obtain ⟨j,hj,rfl⟩ := zZd.1 hc
  have := h3 j hj
  simpa [zYI,hj] using this
 exact zFU (by simpa using hb) h2
def zEa (w : Wd) : AV := match zIr w with
 | some n => .tup [int n,bool true]
 | none => .tup [int 0,bool false]
theorem zKg (w : Wd) (hw : w.length <= 1048576) (H : zB) : ACall Tryz.prog 59 [str w] H fun x H' => x = zEa w/\H' = H := by
 refine ACall.drop (R := fun x => x = zEa w) ?_
 refine enter Tryz.func59 L59_ok (zYu rfl) ?_
 cases w with
 | nil =>
  have cN := fun H => zJt [] H (by simp)
  rw [zCR (by simp [zEH])] at cN
  repeat' (first | refine zA (cN _) ?_ | simp -implicitDefEqProofs (disch := omega) only [L59,push_cast,↓reduceIte,Nat.reduceEqDiff,reduceCtorEq,Nat.reduceAdd,Nat.reduceLT,Int.reduceLT,Int.reduceNeg,Int.reduceMul,zYp])
  all_goals exact ⟨rfl,[],(zY1 _).symm⟩
 | cons c s =>
  simp only [zYs] at hw
  by_cases hc : c = 45
  ·subst hc
   have hts : List.take (s.length + 1 - 1) s = s := zYN (by omega)
   have cN := fun H => zJt s H (by omega)
   cases hn : zEH s with
   | false =>
    have e : zEa (45 :: s) = .tup [int 0,bool false] := by simp [zEa,zIr,hn]
    rw [e]
    rw [zCR (by simp [hn])] at cN
    repeat' (first | refine zYt (by omega) ?_ | refine zA (cN _) ?_ | simp -implicitDefEqProofs (disch := omega) only [L59,hts,zI,zZ,zU,push_cast,↓reduceIte,Nat.reduceEqDiff,reduceCtorEq,Nat.reduceAdd,Nat.reduceLT,Int.reduceToNat,Int.reduceLE,Int.reduceNeg,Int.reduceMul,zYp])
    all_goals exact ⟨[],(zY1 _).symm⟩
   | true =>
    have hlt := zFW hn
    have e : zEa (45 :: s) = .tup [int (-(zGL 0 s : Int)),bool true] := by simp [zEa,zIr,hn]
    rw [e]
    rw [zEG hn] at cN
    repeat' (first | refine zYt (by omega) ?_ | refine zA (cN _) ?_ | simp -implicitDefEqProofs (disch := omega) only [L59,hts,zI,zZ,zU,push_cast,↓reduceIte,Nat.reduceEqDiff,reduceCtorEq,Nat.reduceAdd,Nat.reduceLT,Int.reduceToNat,Int.reduceLE,Int.reduceNeg,zYp])
    all_goals exact ⟨by rw [Int.neg_one_mul],[],(zY1 _).symm⟩
  ·have cN := fun H => zJt (c :: s) H (by simp only [zYs]; omega)
   have hc2 : ¬ (c.toNat : Int) = 45 := fun h => hc (zzav.1 (show c.toNat = 45 by omega))
   cases hn : zEH (c :: s) with
   | false =>
    have e : zEa (c :: s) = .tup [int 0,bool false] := by simp [zEa,zIr,hn,hc]
    rw [e]
    rw [zCR (by simp [hn])] at cN
    repeat' (first | refine zYt (by omega) ?_ | refine zA (cN _) ?_ | simp -implicitDefEqProofs (disch := omega) only [L59,zI,zU,push_cast,↓reduceIte,Nat.reduceEqDiff,reduceCtorEq,Nat.reduceAdd,Nat.reduceLT,Int.reduceToNat,Int.reduceLE,Int.reduceNeg,Int.reduceMul,zYp])
    all_goals exact ⟨[],(zY1 _).symm⟩
   | true =>
    have hlt := zFW hn
    have e : zEa (c :: s) = .tup [int (zGL 0 (c :: s) : Int),bool true] := by simp [zEa,zIr,hn,hc]
    rw [e]
    rw [zEG hn] at cN
    repeat' (first | refine zYt (by omega) ?_ | refine zA (cN _) ?_ | simp -implicitDefEqProofs (disch := omega) only [L59,zI,zU,push_cast,↓reduceIte,Nat.reduceEqDiff,reduceCtorEq,Nat.reduceAdd,Nat.reduceLT,Int.reduceToNat,Int.reduceLE,Int.reduceNeg,zYp])
    all_goals exact ⟨by rw [Int.one_mul],[],(zY1 _).symm⟩
theorem zKh {w : Wd} {n : Int} (h : zIr w = some n) : -1000000000 < n/\n < 1000000000 := by
 unfold zIr at h
 split at h
 ·split at h
  ·rename_i hn
   have := zFW hn
   simp only [zYq] at h
   omega
  ·cases h
 ·split at h
  ·rename_i hn
   have := zFW hn
   simp only [zYq] at h
   omega
  ·cases h
theorem zCu : ∀ {l : Ln} {ns : List Int},zBj l = some ns->ns.length = l.length
 | [],ns,h => by simp only [zBj,zYq] at h; subst h; rfl
 | w :: l,ns,h => by
  simp only [zBj] at h
  split at h
  ·cases h
  ·cases hl : zBj l with
   | none => rw [hl] at h; cases h
   | some m =>
    rw [hl] at h
    simp only [zYZ,zYq] at h
    subst h
    simp [zCu hl]
theorem zEF : ∀ (l : Ln) (w : Wd),zBj (l ++ [w]) = (match zBj l with | some ns => (match zIr w with | some n => some (ns ++ [n]) | none => none) | none => none)
 | [],w => by simp only [zYG,zBj]; cases zIr w <;> rfl
 | x :: l,w => by
  simp only [zYB,zBj,zEF l w]
  cases zIr x with
  | none => rfl
  | some n =>
   cases zBj l with
   | none => rfl
   | some ns => cases zIr w <;> rfl
theorem zCQ (l m : Ln) (h : zBj l = none) : zBj (l ++ m) = none := by
 induction l with
 | nil => cases h
 | cons x l ih =>
  simp only [zYB,zBj] at h ⊢
  cases hx : zIr x with
  | none => rfl
  | some n =>
   rw [hx] at h
   cases hl : zBj l with
   | none => rw [ih hl]; rfl
   | some ns => rw [hl] at h; cases h
def zEE (l : Ln) : AV := match zBj l with
 | some ns => .tup [.sl 1 (ns.map iR),bool true]
 | none => .tup [zAl,bool false]
theorem zIp (l : Ln) (hl : l.length <= 1048576) (hw : ∀ w ∈ l,w.length <= 1048576) (H : zB) : ACall Tryz.prog 29 [.sl 1 (l.map sR)] H fun x H' => x = zEE l/\H' = H := by
 refine ACall.drop (R := fun x => x = zEE l) ?_
 refine enter Tryz.func29 L29_ok (zYu rfl) ?_
 repeat' (simp -implicitDefEqProofs (disch := omega) only [L29,push_cast,↓reduceIte,Nat.reduceAdd])
 refine zW (fun (st : Nat × List Int) e' G => e' 0 = .sl 1 (l.map sR)/\e' 4 = .os H.length st.1 0 st.1/\e' 5 = int st.1/\st.1 <= l.length/\zBj (l.take st.1) = some st.2/\st.2.length = st.1/\G = H ++ [.arr st.1 1 (st.2.map iR)]) (fun st => l.length - st.1) (0,[]) ?_ ?_
 ·exact ⟨rfl,rfl,rfl,zYO _,rfl,rfl,rfl⟩
 rintro ⟨j,ns⟩ e' G ⟨g0,g4,g5,hj,hns,hnl,rfl⟩
 simp only at g4 g5 hj hns hnl
 by_cases hlt : j < l.length
 ·have hmem := hw _ (zAf hlt)
  have cN := fun H => zKg (l.getD j default) hmem H
  have hts := zA0 (l := l) (j := j) hlt
  have happ := zEF (l.take j) (l.getD j default)
  rw [<- hts,hns] at happ
  cases hn : zIr (l.getD j default) with
  | none =>
   have e : zEE l = .tup [zAl,bool false] := by
    have : zBj l = none := by
     rw [<- zZv (j + 1) l]
     exact zCQ _ _ (by rw [happ,hn])
    unfold zEE; rw [this]
   rw [e]
   have e2 : zEa (l.getD j default) = .tup [int 0,bool false] := by unfold zEa; rw [hn]
   rw [e2] at cN
   repeat' (first | refine zYt (by omega) ?_ | refine zA (cN _) ?_ | simp -implicitDefEqProofs (disch := omega) only [g0,g5,zL,sR,zI,push_cast,simprocAttr,↓reduceIte,zYp])
   all_goals exact ⟨_,rfl⟩
  | some n =>
   have hr := zKh hn
   have e2 : zEa (l.getD j default) = .tup [int n,bool true] := by unfold zEa; rw [hn]
   rw [e2] at cN
   have hfin : List.take j (ns.map iR) ++ [iR n] = (ns ++ [n]).map iR := by
    rw [zYN (by simp; omega)]; simp
   have hrl : (ns.map iR).length = j := by simp; omega
   generalize hRk : ns.map iR = Rk at *
   repeat' (first | refine zYt (by omega) ?_ | refine zA (cN _) ?_ | simp -implicitDefEqProofs (disch := omega) only [g0,g4,g5,zL,sR,hrl,zI,push_cast,simprocAttr,↓reduceIte,zYp])
   exact .mk (j + 1,ns ++ [n]) ⟨g0,rfl,rfl,hlt,by rw [happ,hn],by simp; omega,congrArg (fun z => H ++ [HO.arr (j + 1) 1 z]) hfin⟩ (by simp only; omega)
 ·have hjl : j = l.length := by omega
  have hnn : zBj l = some ns := by rw [<- hns,zYN (by omega)]
  have e : zEE l = .tup [.sl 1 (ns.map iR),bool true] := by unfold zEE; rw [hnn]
  rw [e]
  have hall : List.take j (ns.map iR) = ns.map iR := zYN (by simp; omega)
  have hrl : (ns.map iR).length = j := by simp; omega
  have hcl : zFj (ns.map iR) = true := zAM (fun _ => rfl) _
  repeat' (first | refine zYt (by omega) ?_ | simp -implicitDefEqProofs (disch := omega) only [g0,g4,g5,hall,hrl,hcl,zT,push_cast,simprocAttr,↓reduceIte,zYp])
  all_goals exact ⟨_,rfl⟩
def lnR (l : Ln) : List AV := [.sl 1 (l.map sR)]
def zDU (s : Wd) (f i : Nat) : Wd := (s.drop f).take (i - f)
theorem zHM {s : Wd} {f i : Nat} (h : i <= s.length) : (zDU s f i).length = i - f := by unfold zDU; simp; omega
theorem zDr (s : Wd) (i : Nat) : zDU s i i = [] := by unfold zDU; simp
theorem zN5 {s : Wd} {f i : Nat} (h : i < s.length) (hf : f <= i) : zDU s f (i + 1) = zDU s f i ++ [s.getD i 0] := by
 unfold zDU
 rw [show i + 1 - f = (i - f) + 1 by omega,List.take_add_one,zZh,show f + (i - f) = i by omega,zYK h]
 simp [List.getD,zYK h]
theorem zN0 {s : Wd} {i : Nat} (h : i < s.length) : s.drop i = s.getD i 0 :: s.drop (i + 1) := by
 rw [zY4 h]
 simp [List.getD,zYK h]
structure LnSt (s : Wd) (H : zB) (i f r v1 v2 : Nat) (now : Ln) (out : List Ln) (G : zB) : Prop where
 hf : f <= i\/(i = s.length + 1/\f = i)
 hi : i <= s.length + 1
 law : (i <= s.length/\out ++ lnM (s.drop i) (zDU s f i) now = zAY s)\/(i = s.length + 1/\out = zAY s)
 g1 : G[H.length]? = some (.arr v1 1 (out.map lnR))
 g2 : G[r]? = some (.arr v2 1 (now.map sR))
 rn : H.length < r
 fr : ∀ k,k < H.length->G[k]? = H[k]?
 ln : now.length <= i
 lo : out.length <= i
theorem LnSt.endl {s : Wd} {H G : zB} {i n v : Nat} {out : List Ln} (hn : G.length = n) (hH : H.length < n) (fr : ∀ k,k < H.length->G[k]? = H[k]?) (hi : i <= s.length) (lo : out.length <= i + 1)
  (law : (i + 1 <= s.length/\out ++ lnM (s.drop (i + 1)) [] [] = zAY s)\/(i + 1 = s.length + 1/\out = zAY s)) : LnSt s H (i + 1) (i + 1) n v 0 [] out (G.set H.length (.arr v 1 (out.map lnR)) ++ [.arr 0 1 []]) := by
 refine ⟨.inl (zYH _),by omega,?_,?_,?_,hH,fun k hk => ?_,zYO _,lo⟩
 ·rw [zDr]; exact law
 ·rw [zYD (by simp; omega),zYU (by omega)]
 ·rw [zYz (by simp; omega)]
  simp [hn]
 ·rw [zYD (by simp; omega),zYL (by omega)]; exact fr k hk
set_option maxHeartbeats 4000000 in
theorem zR3 (s : Wd) (hs : s.length <= 1048576) (H : zB) : ACall Tryz.prog 28 [str s] H fun x H' => x = .sl 1 ((zAY s).map lnR)/\H' = H := by
 refine ACall.drop (R := fun x => x = .sl 1 ((zAY s).map lnR)) ?_
 refine enter Tryz.func28 L28p_ok (zYu rfl) ?_
 repeat' (simp -implicitDefEqProofs (disch := omega) only [L28p,push_cast,↓reduceIte,Nat.reduceAdd])
 refine zW (fun (st : Nat × Nat × Nat × Nat × Nat × Ln × List Ln) e' G => e' 0 = str s/\e' 3 = .os H.length st.2.2.2.1 0 st.2.2.2.2.2.2.length/\e' 4 = .os st.2.2.1 st.2.2.2.2.1 0 st.2.2.2.2.2.1.length/\e' 5 = int st.2.1/\e' 6 = int st.1/\LnSt s H st.1 st.2.1 st.2.2.1 st.2.2.2.1 st.2.2.2.2.1 st.2.2.2.2.2.1 st.2.2.2.2.2.2 G) (fun st => s.length + 1 - st.1) (0,0,H.length + 1,0,0,[],[]) ?_ ?_
 ·refine ⟨rfl,rfl,rfl,rfl,rfl,⟨.inl (zYH _),zYO _,.inl ⟨zYO _,?_⟩,?_,?_,zzao _,fun k hk => zYD hk,zYO _,zYO _⟩⟩
  ·rw [zYG,zZ9]; exact zNq s
  ·simp
  ·rw [zA4]; rfl
 rintro ⟨i,f,r,v1,v2,now,out⟩ e' G ⟨g0,g3,g4,g5,g6,hL⟩
 simp only at g3 g4 g5 g6 hL
 obtain ⟨hf,hi,law,q1,q2,rn,fr,ln,lo⟩ := hL
 have ln2 : now.length <= i + 1 := by omega
 have lo2 : out.length <= i + 1 := by omega
 by_cases hend : i = s.length + 1
 ·obtain ⟨h1,h2⟩ : i = s.length + 1/\out = zAY s := law.resolve_left (by omega)
  have hcl : zFj (out.map lnR) = true := zAM (fun _ => rfl) _
  have hall : List.take out.length (out.map lnR) = out.map lnR := zYN (by simp)
  have hGl := (zYr.1 q1).1
  repeat' (first | refine zYt (by omega) ?_ | simp -implicitDefEqProofs (disch := omega) only [g0,g3,g6,q1,hcl,hall,zYo,zAG,push_cast,simprocAttr,↓reduceIte])
  all_goals exact ⟨by rw [h2],zEJ (by simp; omega) fun k hk => by rw [zYL (by omega)]; exact fr k hk⟩
 have hil : i <= s.length := by omega
 have law := (law.resolve_right (by omega)).2
 have hf : f <= i := hf.elim id fun h => by omega
 by_cases hlt : i < s.length
 ·rw [zN0 hlt] at law
  by_cases c32 : s.getD i 0 = 32
  ·have n32 : ((s.getD i 0).toNat : Int) = 32 := by rw [c32]; rfl
   rw [lnM,if_pos c32] at law
   by_cases hfi : f < i
   ·have hw : zFf (zDU s f i) now = now ++ [zDU s f i] := by
     unfold zFf; rw [if_neg]; intro h; have := zHM (s := s) (f := f) (i := i) hil; rw [h] at this; simp at this; omega
    rw [hw] at law
    have hfin : List.take now.length (now.map sR) ++ [sR (zDU s f i)] = (now ++ [zDU s f i]).map sR := by
     rw [zYN (by simp)]; simp
    have hcw : List.take (i - f) (List.drop f s) = zDU s f i := rfl
    repeat' (first | refine zYt (by omega) ?_ | simp -implicitDefEqProofs (disch := omega) only [g0,g4,g5,g6,q2,hcw,zYo,zI,zAg,zZ,zU,push_cast,simprocAttr,↓reduceIte,zYp])
    refine .mk (i + 1,i + 1,r,v1,v2 + 1,now ++ [zDU s f i],out) ⟨g0,g3,by simp only [zYF,zYs,zYw]; rfl,rfl,rfl,⟨.inl (zYH _),by omega,.inl ⟨hlt,by rw [zDr]; exact law⟩,?_,?_,rn,fun k hk => ?_,by simp only [zYF,zYs,zYw]; exact Nat.succ_le_succ ln,lo2⟩⟩ (by simp only; omega)
    ·rw [zYL (by omega)]; exact q1
    ·rw [zYU (zYr.1 q2).1]
     simp [sR]
    ·rw [zYL (by omega)]; exact fr k hk
   ·have hfe : f = i := by omega
    subst hfe
    have hw : zFf (zDU s f f) now = now := by unfold zFf; rw [if_pos (zDr s f)]
    rw [hw] at law
    repeat' (first | refine zYt (by omega) ?_ | simp -implicitDefEqProofs (disch := omega) only [g0,g5,g6,zI,zT,zAg,zZ,zU,push_cast,simprocAttr,↓reduceIte])
    exact .mk (f + 1,f + 1,r,v1,v2,now,out) ⟨g0,g3,g4,rfl,rfl,⟨.inl (zYH _),by omega,.inl ⟨hlt,by rw [zDr]; exact law⟩,q1,q2,rn,fr,ln2,lo2⟩⟩ (by simp only; omega)
  by_cases c10 : s.getD i 0 = 10
  ·have n10 : ((s.getD i 0).toNat : Int) = 10 := by rw [c10]; rfl
   rw [lnM,if_neg c32,if_pos c10] at law
   have hGl := (zYr.1 q1).1
   have hGr := (zYr.1 q2).1
   by_cases hfi : f < i
   ·have hw : zFf (zDU s f i) now = now ++ [zDU s f i] := by
     unfold zFf; rw [if_neg]; intro h; have := zHM (s := s) (f := f) (i := i) hil; rw [h] at this; simp at this; omega
    rw [hw,if_neg (by simp)] at law
    have hfin : List.take now.length (now.map sR) ++ [sR (zDU s f i)] = (now ++ [zDU s f i]).map sR := by
     rw [zYN (by simp)]; simp
    have hcw : List.take (i - f) (List.drop f s) = zDU s f i := rfl
    repeat' (first | refine zYt (by omega) ?_ | refine zYt ⟨by omega,zAM (fun _ => rfl) _⟩ ?_ | simp -implicitDefEqProofs (disch := omega) only [g0,g3,g4,g5,g6,q1,q2,hcw,zYo,zH,zJ,zI,zAg,zZ,zU,push_cast,simprocAttr,↓reduceIte,zYp])
    have hrow : List.take (now.length + 1) (now.map sR ++ [[AV.v (Value.string (mkS (zDU s f i)))]]) = (now ++ [zDU s f i]).map sR := by
     rw [zYN (by simp)]; simp [sR]
    have hrow2 : out.map lnR ++ [[AV.sl 1 ((now ++ [zDU s f i]).map sR)]] = (out ++ [now ++ [zDU s f i]]).map lnR := by simp [lnR]
    refine .mk (i + 1,i + 1,G.length,v1 + 1,0,[],out ++ [now ++ [zDU s f i]]) ⟨g0,by simp only [zYF,zYs,zYw]; rfl,rfl,rfl,rfl,?_⟩ (by simp only; omega)
    simp only
    rw [hrow,hrow2]
    refine LnSt.endl (by simp) (by omega) (fun k hk => ?_) hil (by simp only [zYF,zYs,zYw]; omega) (.inl ⟨hlt,by rw [<- law]; simp⟩)
    rw [zYL (by omega),zYL (by omega)]; exact fr k hk
   ·have hfe : f = i := by omega
    subst hfe
    have hw : zFf (zDU s f f) now = now := by unfold zFf; rw [if_pos (zDr s f)]
    rw [hw] at law
    by_cases hnow : now = []
    ·subst hnow
     rw [if_pos rfl] at law
     have hl0 : ([] : Ln).length = 0 := rfl
     simp only [zYw] at g4
     repeat' (first | refine zYt (by omega) ?_ | simp -implicitDefEqProofs (disch := omega) only [g0,g4,g5,g6,q2,zI,zT,zAg,zZ,zU,push_cast,simprocAttr,↓reduceIte])
     exact .mk (f + 1,f + 1,r,v1,v2,[],out) ⟨g0,g3,g4,rfl,rfl,⟨.inl (zYH _),by omega,.inl ⟨hlt,by rw [zDr]; exact law⟩,q1,q2,rn,fr,zYO _,lo2⟩⟩ (by simp only; omega)
    rw [if_neg hnow] at law
    have hnp := List.length_pos_iff.2 hnow
    have hcln : zFj (now.map sR) = true := zAM (fun _ => rfl) _
    have hrow : List.take now.length (now.map sR) = now.map sR := zYN (by simp)
    have hrow2 : out.map lnR ++ [[AV.sl 1 (now.map sR)]] = (out ++ [now]).map lnR := by simp [lnR]
    repeat' (first | refine zYt (by omega) ?_ | simp -implicitDefEqProofs (disch := omega) only [g0,g3,g4,g5,g6,q1,q2,hcln,hrow,zYo,zH,zI,zT,zAg,zZ,zU,push_cast,simprocAttr,↓reduceIte,zYp])
    refine .mk (f + 1,f + 1,G.length,v1 + 1,0,[],out ++ [now]) ⟨g0,by simp only [zYF,zYs,zYw]; rfl,rfl,rfl,rfl,?_⟩ (by simp only; omega)
    simp only
    rw [hrow2]
    refine LnSt.endl (by simp) (by omega) (fun k hk => ?_) hil (by simp only [zYF,zYs,zYw]; omega) (.inl ⟨hlt,by rw [<- law]; simp⟩)
    rw [zYL (by omega)]; exact fr k hk
  have n32 : ¬ ((s.getD i 0).toNat : Int) = 32 := fun h => c32 (zzav.1 (show (s.getD i 0).toNat = 32 by omega))
  have n10 : ¬ ((s.getD i 0).toNat : Int) = 10 := fun h => c10 (zzav.1 (show (s.getD i 0).toNat = 10 by omega))
  rw [lnM,if_neg c32,if_neg c10,<- zN5 hlt hf] at law
  repeat' (first | refine zYt (by omega) ?_ | simp -implicitDefEqProofs (disch := omega) only [g0,g6,zI,zAg,zU,push_cast,simprocAttr,↓reduceIte])
  exact .mk (i + 1,f,r,v1,v2,now,out) ⟨g0,g3,g4,g5,rfl,⟨.inl (Nat.le_succ_of_le hf),by omega,.inl ⟨hlt,law⟩,q1,q2,rn,fr,ln2,lo2⟩⟩ (by simp only; omega)
 have hie : i = s.length := by omega
 subst hie
 have hdr : s.drop s.length = [] := zZ6
 rw [hdr,lnM] at law
 have hGl := (zYr.1 q1).1
 have hGr := (zYr.1 q2).1
 by_cases hfi : f < s.length
 ·have hw : zFf (zDU s f s.length) now = now ++ [zDU s f s.length] := by
   unfold zFf; rw [if_neg]; intro h; have := zHM (s := s) (f := f) (i := s.length) hil; rw [h] at this; simp at this; omega
  rw [hw,if_neg (by simp)] at law
  have hcw : List.take (s.length - f) (List.drop f s) = zDU s f s.length := rfl
  repeat' (first | refine zYt (by omega) ?_ | refine zYt ⟨by omega,zAM (fun _ => rfl) _⟩ ?_ | simp -implicitDefEqProofs (disch := omega) only [g0,g3,g4,g5,g6,q1,q2,hcw,zYo,zH,zJ,zI,zT,zAg,push_cast,simprocAttr,↓reduceIte,zYp])
  have hrow : List.take (now.length + 1) (now.map sR ++ [[AV.v (Value.string (mkS (zDU s f s.length)))]]) = (now ++ [zDU s f s.length]).map sR := by
   rw [zYN (by simp)]; simp [sR]
  have hrow2 : out.map lnR ++ [[AV.sl 1 ((now ++ [zDU s f s.length]).map sR)]] = (out ++ [now ++ [zDU s f s.length]]).map lnR := by simp [lnR]
  refine .mk (s.length + 1,s.length + 1,G.length,v1 + 1,0,[],out ++ [now ++ [zDU s f s.length]]) ⟨g0,by simp only [zYF,zYs,zYw]; rfl,rfl,rfl,rfl,?_⟩ (by simp only; omega)
  simp only
  rw [hrow,hrow2]
  refine LnSt.endl (by simp) (by omega) (fun k hk => ?_) hil (by simp only [zYF,zYs,zYw]; omega) (.inr ⟨rfl,law⟩)
  rw [zYL (by omega),zYL (by omega)]; exact fr k hk
 ·have hfe : f = s.length := by omega
  subst hfe
  have hw : zFf (zDU s s.length s.length) now = now := by unfold zFf; rw [if_pos (zDr s _)]
  rw [hw] at law
  by_cases hnow : now = []
  ·subst hnow
   rw [if_pos rfl,zY1] at law
   simp only [zYw] at g4
   repeat' (simp -implicitDefEqProofs (disch := omega) only [g0,g4,g5,g6,q2,zT,zAg,push_cast,simprocAttr,↓reduceIte])
   exact .mk (s.length + 1,s.length + 1,r,v1,v2,[],out) ⟨g0,g3,g4,rfl,rfl,⟨.inl (zYH _),zYH _,.inr ⟨rfl,law⟩,q1,q2,rn,fr,zYO _,lo2⟩⟩ (by simp only; omega)
  rw [if_neg hnow] at law
  have hnp := List.length_pos_iff.2 hnow
  have hcln : zFj (now.map sR) = true := zAM (fun _ => rfl) _
  have hrow : List.take now.length (now.map sR) = now.map sR := zYN (by simp)
  have hrow2 : out.map lnR ++ [[AV.sl 1 (now.map sR)]] = (out ++ [now]).map lnR := by simp [lnR]
  repeat' (first | refine zYt (by omega) ?_ | simp -implicitDefEqProofs (disch := omega) only [g0,g3,g4,g5,g6,q1,q2,hcln,hrow,zYo,zH,zI,zT,zAg,push_cast,simprocAttr,↓reduceIte,zYp])
  refine .mk (s.length + 1,s.length + 1,G.length,v1 + 1,0,[],out ++ [now]) ⟨g0,by simp only [zYF,zYs,zYw]; rfl,rfl,rfl,rfl,?_⟩ (by simp only; omega)
  simp only
  rw [hrow2]
  refine LnSt.endl (by simp) (by omega) (fun k hk => ?_) hil (by simp only [zYF,zYs,zYw]; omega) (.inr ⟨rfl,law⟩)
  rw [zYL (by omega)]; exact fr k hk
def opS (w : Wd) : Nat->Int
 | 0 => -1
 | i + 1 => if opsW.getD i [] = w then i else opS w i
theorem zPr : ∀ i : Fin 23,∀ j : Fin 23,opsW.getD i.1 [] = opsW.getD j.1 []->i = j := by decide
theorem zM4 {w : Wd} {k : Nat} (hk : k < 23) (h : opsW.getD k [] = w) : ∀ i,i <= 23->opS w i = if k < i then (k : Int) else -1
 | 0,_ => by simp [opS]
 | i + 1,hi => by
  unfold opS
  by_cases he : opsW.getD i [] = w
  ·have := zPr ⟨i,by omega⟩ ⟨k,hk⟩ (by rw [he,h])
   have : i = k := congrArg Fin.val this
   subst this
   rw [if_pos he,if_pos (by omega)]
  ·rw [if_neg he,zM4 hk h i (by omega)]
   by_cases hki : k < i
   ·rw [if_pos hki,if_pos (by omega)]
   ·rw [if_neg hki,if_neg]
    intro h2
    have : k = i := by omega
    subst this
    exact he h
theorem zKe {w : Wd} (h : ∀ k,k < 23->¬ opsW.getD k [] = w) : ∀ i,i <= 23->opS w i = -1
 | 0,_ => rfl
 | i + 1,hi => by
  unfold opS
  rw [if_neg (h i (by omega))]
  exact zKe h i (by omega)
theorem zHu {w : Wd} {k : Nat} (h : opF w = some k) : k < 23/\opsW.getD k [] = w := by
 unfold opF at h
 obtain ⟨hk,h1,h2⟩ := zZE.1 h
 have hk2 : k < 23 := hk
 exact ⟨hk2,by simpa [List.getD,zYK hk] using h1⟩
theorem zPt {w : Wd} (h : opF w = none) : ∀ k,k < 23->¬ opsW.getD k [] = w := by
 intro k hk he
 unfold opF at h
 have hk2 : k < opsW.length := hk
 have := zzab.1 h (opsW.getD k []) (zAf hk2)
 rw [he] at this
 simp at this
theorem zRW (w : Wd) : opS w 23 = match opF w with | some k => (k : Int) | none => -1 := by
 cases h : opF w with
 | none => exact zKe (zPt h) 23 (zYH _)
 | some k =>
  obtain ⟨h1,h2⟩ := zHu h
  rw [zM4 h1 h2 23 (zYH _),if_pos h1]
end Go.Proofs.YtbibhcmcjldhdaaGreatDoor
namespace Go.Ax
open Go Go.RowKit
set_option linter.unusedSimpArgs false
set_option linter.unusedVariables false
mutual
def AV.lv (n : Nat) : AV->Bool
 | .agg cs => lvL n cs
 | .tup cs => lvL n cs
 | .fn _ a b => lvL n a && lvL n b
 | .os r _ _ _ => decide (r < n)
 | .ptr r _ _ => decide (r < n)
 | .pe r _ _ _ => decide (r < n)
 | .om r _ => decide (r < n)
 | _ => true
def lvL (n : Nat) : List AV->Bool
 | [] => true
 | x :: l => x.lv n && lvL n l
end
def HO.lv (n : Nat) : HO->Bool
 | .box cs => lvL n cs
 | .arr _ _ xs => xs.all (lvL n)
 | .lp .. => false
 | _ => true
mutual
def AV.ren (π : Nat->Nat) : AV->AV
 | .agg cs => .agg (zGB π cs)
 | .tup cs => .tup (zGB π cs)
 | .fn f a b => .fn f (zGB π a) (zGB π b)
 | .os r v o l => .os (π r) v o l
 | .ptr r v o => .ptr (π r) v o
 | .pe r v i o => .pe (π r) v i o
 | .om r v => .om (π r) v
 | x => x
def zGB (π : Nat->Nat) : List AV->List AV
 | [] => []
 | x :: l => x.ren π :: zGB π l
end
def HO.ren (π : Nat->Nat) : HO->HO
 | .box cs => .box (zGB π cs)
 | .arr v sz xs => .arr v sz (xs.map (zGB π))
 | o => o
theorem zFs (π : Nat->Nat) : ∀ l,zGB π l = l.map (AV.ren π)
 | [] => rfl
 | x :: l => by rw [zGB,zFs π l]; rfl
theorem zBp (π : Nat->Nat) (l : List AV) : (zGB π l).length = l.length := by rw [zFs,zYo]
theorem zDh {π : Nat->Nat} {l : List AV} {i : Nat} {y : AV} (h : (zGB π l)[i]? = some y) : ∃ x,l[i]? = some x/\y = x.ren π := by
 rw [zFs,zY6] at h;cases hx : l[i]? with
 | none => rw [hx] at h; cases h
 | some x => rw [hx] at h; cases h; exact ⟨x,rfl,rfl⟩
theorem zCM {π : Nat->Nat} {l : List AV} {i : Nat} {x : AV} (h : l[i]? = some x) : (zGB π l)[i]? = some (x.ren π) := by rw [zFs,zY6,h]; rfl
theorem zBY {n : Nat} {l : List AV} (h : lvL n l = true) : ∀ {i : Nat} {x : AV},l[i]? = some x->x.lv n = true := by
 induction l with
 | nil => intro i x hx; simp at hx
 | cons y l ih =>
  intro i x hx;simp only [lvL,zYA] at h;cases i with
  | zero => simp at hx; subst hx; exact h.1
  | succ i => simp at hx; exact ih h.2 hx
mutual
theorem AV.ren0 (π : Nat->Nat) : ∀ x : AV,x.lv 0 = true->x.ren π = x
 | .agg cs,h => by rw [AV.ren,zIg π cs (by simpa [AV.lv] using h)]
 | .tup cs,h => by rw [AV.ren,zIg π cs (by simpa [AV.lv] using h)]
 | .fn f a b,h => by
  simp only [AV.lv,zYA] at h;rw [AV.ren,zIg π a h.1,zIg π b h.2]
 | .os ..,h => by simp [AV.lv] at h
 | .ptr ..,h => by simp [AV.lv] at h
 | .pe ..,h => by simp [AV.lv] at h
 | .om ..,h => by simp [AV.lv] at h
 | .any,_ => rfl
 | .v _,_ => rfl
 | .sl _ _,_ => rfl
 | .vp _ _,_ => rfl
 | .mp _ _,_ => rfl
 | .nc,_ => rfl
 | .bnil _,_ => rfl
theorem zIg (π : Nat->Nat) : ∀ l : List AV,lvL 0 l = true->zGB π l = l
 | [],_ => rfl
 | x :: l,h => by
  simp only [lvL,zYA] at h;rw [zGB,AV.ren0 π x h.1,zIg π l h.2]
end
mutual
theorem AV.lv0 (n : Nat) : ∀ x : AV,x.lv 0 = true->x.lv n = true
 | .agg cs,h => by rw [AV.lv]; exact zQD n cs (by simpa [AV.lv] using h)
 | .tup cs,h => by rw [AV.lv]; exact zQD n cs (by simpa [AV.lv] using h)
 | .fn f a b,h => by
  simp only [AV.lv,zYA] at h ⊢;exact ⟨zQD n a h.1,zQD n b h.2⟩
 | .os ..,h => by simp [AV.lv] at h
 | .ptr ..,h => by simp [AV.lv] at h
 | .pe ..,h => by simp [AV.lv] at h
 | .om ..,h => by simp [AV.lv] at h
 | .any,_ => rfl
 | .v _,_ => rfl
 | .sl _ _,_ => rfl
 | .vp _ _,_ => rfl
 | .mp _ _,_ => rfl
 | .nc,_ => rfl
 | .bnil _,_ => rfl
theorem zQD (n : Nat) : ∀ l : List AV,lvL 0 l = true->lvL n l = true
 | [],_ => rfl
 | x :: l,h => by
  simp only [lvL,zYA] at h ⊢;exact ⟨AV.lv0 n x h.1,zQD n l h.2⟩
end
theorem HO.lv0 {o : HO} (n : Nat) (h : o.lv 0 = true) : o.lv n = true := by
 cases o <;> first | rfl | exact zQD n _ h | exact zYR.2 fun x hx => zQD n x (zYR.1 h x hx) | cases h
theorem HO.ren0 {o : HO} (π : Nat->Nat) (h : o.lv 0 = true) : o.ren π = o := by
 cases o with
 | box cs => rw [HO.ren,zIg π cs h]
 | arr v sz xs =>
  rw [HO.ren]; congr 1;exact (zzae fun x hx => zIg π x (zYR.1 h x hx)).trans (List.map_id xs)
 | _ => rfl
section
variable {P : Program} {w w' : World} {X M M' : Nat->Prop} {ρ ρ' : Nat->Loc} {H : zB} {n n' k : Nat} {π : Nat->Nat}
theorem Rep.zero {x : AV} {u : Value} (h : Rep w M ρ 0 x u) (hM : ∀ b,M' b->M b) : Rep w M' ρ' 0 x u := (h.closed rfl ρ' 0).fut (n0 := 0) (Fut.refl _ _ _) (fun b _ hb hb' => hb (hM b hb')) (fun b _ ⟨r,o,hr,_⟩ => by omega) (zYH _)
theorem Rep.ren {x : AV} {u : Value} (h : Rep w M ρ k x u) (hM : ∀ b,M' b->M b) (hρ : ∀ r,r < n->ρ' (π r) = ρ r) (hn : ∀ r,r < n->π r < n') : x.lv n = true->Rep w M' ρ' n' (x.ren π) u := by
 induction h with
 | any => intro _; exact .any _ _
 | v => intro _; exact .v _ _
 | agg _ cs us hl _ ih => intro hc; exact .agg _ _ _ (by rw [zBp]; exact hl) fun i y u hy hu => by obtain ⟨x,hx,rfl⟩ := zDh hy; exact ih i x u hx hu (zBY hc hx)
 | tup _ cs us hl _ ih => intro hc; exact .tup _ _ _ (by rw [zBp]; exact hl) fun i y u hy hu => by obtain ⟨x,hx,rfl⟩ := zDh hy; exact ih i x u hx hu (zBY hc hx)
 | nc => intro _; exact .nc _ _
 | bnil => intro _; exact .bnil _ _
 | slE => intro _; exact .slE _ _ _ _
 | slN _ sz xs b o cap c hm hb hcap hsz hcell hc _ => intro _; exact .slN _ _ _ _ _ _ c (fun h => hm (hM _ h)) hb hcap hsz hcell fun i j x y hx hy => (hc i j x y hx hy).zero hM
 | vp _ cs off b o c hm hb hcell hc _ => intro _; exact .vp _ _ _ _ _ c (fun h => hm (hM _ h)) hb hcell fun j y hy => (hc j y hy).zero hM
 | fn _ f first caps fs us h1 h2 _ _ ih1 ih2 =>
  intro hc; simp only [AV.lv,zYA] at hc;exact .fn _ _ _ _ _ _ (by rw [zBp]; exact h1) (by rw [zBp]; exact h2) (fun i y u hy hu => by obtain ⟨x,hx,rfl⟩ := zDh hy; exact ih1 i x u hx hu (zBY hc.1 hx)) (fun i y u hy hu => by obtain ⟨x,hx,rfl⟩ := zDh hy; exact ih2 i x u hx hu (zBY hc.2 hx))
 | mp _ ks vs b es clock hm hb hh hks hvs hc _ => intro _; exact .mp _ _ _ _ es clock (fun h => hm (hM _ h)) hb hh hks hvs fun i x e hx he => (hc i x e hx he).zero hM
 | os _ r ver off len u hr hle h1 hp => intro hc; have hc := zZS hc; exact .os _ _ _ _ _ _ (hn r hc) (by rw [hρ r hc]; exact hle) h1 (by rw [hρ r hc]; exact hp)
 | ptr _ r ver off u hr hle h1 hp => intro hc; have hc := zZS hc; exact .ptr _ _ _ _ _ (hn r hc) (by rw [hρ r hc]; exact hle) h1 (by rw [hρ r hc]; exact hp)
 | pe _ r ver i off u hr hle h1 hp => intro hc; have hc := zZS hc; exact .pe _ _ _ _ _ _ (hn r hc) (by rw [hρ r hc]; exact hle) h1 (by rw [hρ r hc]; exact hp)
 | om _ r ver u hr hle h1 hp => intro hc; have hc := zZS hc; exact .om _ _ _ _ (hn r hc) (by rw [hρ r hc]; exact hle) h1 (by rw [hρ r hc]; exact hp)
theorem Rep.unren {y : AV} {u : Value} (h : Rep w M ρ k y u) (hM : ∀ b,M' b->M b) (hρ : ∀ r,r < n->ρ' r = ρ (π r)) : ∀ x : AV,x.ren π = y->x.lv n = true->Rep w M' ρ' n x u := by
 induction h with
 | any => intro x hx _; cases x <;> cases hx; exact .any _ _
 | v => intro x hx _; cases x <;> cases hx; exact .v _ _
 | agg _ cs us hl _ ih =>
  intro x hx hc;cases x <;> cases hx;exact .agg _ _ _ (by rw [<- hl,zBp]) fun i x u hx hu => ih i _ u (zCM hx) hu x rfl (zBY hc hx)
 | tup _ cs us hl _ ih =>
  intro x hx hc;cases x <;> cases hx;exact .tup _ _ _ (by rw [<- hl,zBp]) fun i x u hx hu => ih i _ u (zCM hx) hu x rfl (zBY hc hx)
 | nc => intro x hx _; cases x <;> cases hx; exact .nc _ _
 | bnil => intro x hx _; cases x <;> cases hx; exact .bnil _ _
 | slE => intro x hx _; cases x <;> cases hx; exact .slE _ _ _ _
 | slN _ sz xs b o cap c hm hb hcap hsz hcell hc _ => intro x hx _; cases x <;> cases hx; exact .slN _ _ _ _ _ _ c (fun h => hm (hM _ h)) hb hcap hsz hcell fun i j x y hx hy => (hc i j x y hx hy).zero hM
 | vp _ cs off b o c hm hb hcell hc _ => intro x hx _; cases x <;> cases hx; exact .vp _ _ _ _ _ c (fun h => hm (hM _ h)) hb hcell fun j y hy => (hc j y hy).zero hM
 | fn _ f first caps fs us h1 h2 _ _ ih1 ih2 =>
  intro x hx hc;cases x <;> cases hx;simp only [AV.lv,zYA] at hc;exact .fn _ _ _ _ _ _ (by rw [<- h1,zBp]) (by rw [<- h2,zBp]) (fun i x u hx hu => ih1 i _ u (zCM hx) hu x rfl (zBY hc.1 hx)) (fun i x u hx hu => ih2 i _ u (zCM hx) hu x rfl (zBY hc.2 hx))
 | mp _ ks vs b es clock hm hb hh hks hvs hc _ => intro x hx _; cases x <;> cases hx; exact .mp _ _ _ _ es clock (fun h => hm (hM _ h)) hb hh hks hvs fun i x e hx he => (hc i x e hx he).zero hM
 | os _ r ver off len u hr hle h1 hp => intro x hx hc; cases x <;> cases hx; have hc := zZS hc; exact .os _ _ _ _ _ _ hc (by rw [hρ _ hc]; exact hle) h1 (by rw [hρ _ hc]; exact hp)
 | ptr _ r ver off u hr hle h1 hp => intro x hx hc; cases x <;> cases hx; have hc := zZS hc; exact .ptr _ _ _ _ _ hc (by rw [hρ _ hc]; exact hle) h1 (by rw [hρ _ hc]; exact hp)
 | pe _ r ver i off u hr hle h1 hp => intro x hx hc; cases x <;> cases hx; have hc := zZS hc; exact .pe _ _ _ _ _ _ hc (by rw [hρ _ hc]; exact hle) h1 (by rw [hρ _ hc]; exact hp)
 | om _ r ver u hr hle h1 hp => intro x hx hc; cases x <;> cases hx; have hc := zZS hc; exact .om _ _ _ _ hc (by rw [hρ _ hc]; exact hle) h1 (by rw [hρ _ hc]; exact hp)
theorem ObjOk.ren {l : Loc} {o : HO} (h : ObjOk w M ρ k l o) (hM : ∀ b,M' b->M b) (hρ : ∀ r,r < n->ρ' (π r) = ρ r) (hn : ∀ r,r < n->π r < n') (ho : o.lv n = true) : ObjOk w M' ρ' n' l (o.ren π) := by
 cases o with
 | dead => trivial
 | box cs =>
  obtain ⟨h1,b,c,e,fr,h2,h3,h4,h5,h6⟩ := h;refine ⟨h1,b,c,e,fr,h2,h3,by rw [zBp]; exact h4,⟨h5.1,fun t ht => h5.2 t ?_⟩,fun j y u hy hu => ?_⟩
  ·obtain ⟨x,hx,he⟩ := zDh ht;cases x <;> cases he;exact hx
  ·obtain ⟨x,hx,rfl⟩ := zDh hy;exact ⟨(h6 j x u hx hu).1.ren hM hρ hn (zBY ho hx),(h6 j x u hx hu).2⟩
 | arr ver sz xs =>
  obtain ⟨h1,h2,h3,h4,h5,h6⟩ := h;refine ⟨h1,h2,h3,fun x hx => ?_,by rw [zYo]; exact h5,?_⟩
  ·obtain ⟨x0,hx0,rfl⟩ := zZl.1 hx;rw [zBp]; exact h4 x0 hx0
  split
  ·rename_i hl; rw [hl] at h6; simp only at h6; rw [h6]; rfl
  ·rename_i b o hl;rw [hl] at h6;obtain ⟨c,e,fr,g1,g2,g3,g4⟩ := h6;refine ⟨c,e,fr,g1,g2,g3,fun i j x y u hx hy hu => ?_⟩;rw [zY6] at hx;cases hx0 : xs[i]? with
   | none => rw [hx0] at hx; cases hx
   | some x0 =>
    rw [hx0] at hx; cases hx;obtain ⟨y0,hy0,rfl⟩ := zDh hy;exact ⟨(g4 i j x0 y0 u hx0 hy0 hu).1.ren hM hρ hn (zBY (zYR.1 ho x0 (zYW hx0)) hy0),(g4 i j x0 y0 u hx0 hy0 hu).2⟩
 | map ver ks vs =>
  obtain ⟨h1,b,es,clock,h2,h3,h4,h5,h6⟩ := h;exact ⟨h1,b,es,clock,h2,h3,h4,h5,fun i x e hx he => (h6 i x e hx he).zero hM⟩
 | iter s pos => exact h
 | lp => cases ho
 | mit ks vs left cur =>
  obtain ⟨h1,b,m,es,clock,since,seen,c0,h2,h3,h4,h5,h6⟩ := h;exact ⟨h1,b,m,es,clock,since,seen,c0,h2,h3,h4,h5.zero hM,h6⟩
 | barr t ver bl => exact h
theorem ObjOk.unren {l : Loc} {o : HO} (h : ObjOk w M ρ k l (o.ren π)) (hM : ∀ b,M' b->M b) (hρ : ∀ r,r < n->ρ' r = ρ (π r)) (ho : o.lv n = true) : ObjOk w M' ρ' n l o := by
 cases o with
 | dead => trivial
 | box cs =>
  obtain ⟨h1,b,c,e,fr,h2,h3,h4,h5,h6⟩ := h;refine ⟨h1,b,c,e,fr,h2,h3,by rw [<- h4,zBp],⟨h5.1,fun t ht => h5.2 t (zCM ht)⟩,fun j y u hy hu => ⟨(h6 j _ u (zCM hy) hu).1.unren hM hρ y rfl (zBY ho hy),(h6 j _ u (zCM hy) hu).2⟩⟩
 | arr ver sz xs =>
  obtain ⟨h1,h2,h3,h4,h5,h6⟩ := h;rw [zYo] at h5;refine ⟨h1,h2,h3,fun x hx => by rw [<- h4 _ (List.mem_map_of_mem hx),zBp],h5,?_⟩;split
  ·rename_i hl; rw [hl] at h6; simpa using h6
  ·rename_i b o hl;rw [hl] at h6;obtain ⟨c,e,fr,g1,g2,g3,g4⟩ := h6;refine ⟨c,e,fr,g1,g2,g3,fun i j x y u hx hy hu => ?_⟩;have hx' : (xs.map (zGB π))[i]? = some (zGB π x) := by rw [zY6,hx]; rfl
   exact ⟨(g4 i j _ _ u hx' (zCM hy) hu).1.unren hM hρ y rfl (zBY (zYR.1 ho x (zYW hx)) hy),(g4 i j _ _ u hx' (zCM hy) hu).2⟩
 | map ver ks vs =>
  obtain ⟨h1,b,es,clock,h2,h3,h4,h5,h6⟩ := h;exact ⟨h1,b,es,clock,h2,h3,h4,h5,fun i x e hx he => (h6 i x e hx he).zero hM⟩
 | iter s pos => exact h
 | lp => cases ho
 | mit ks vs left cur =>
  obtain ⟨h1,b,m,es,clock,since,seen,c0,h2,h3,h4,h5,h6⟩ := h;exact ⟨h1,b,m,es,clock,since,seen,c0,h2,h3,h4,h5.zero hM,h6⟩
 | barr t ver bl => exact h
def zGt (π : Nat->Nat) : Nat->List HO->zB->zB
 | _,[],G => G
 | i,o :: l,G => zGt π (i + 1) l (G.set (π i) (o.ren π))
theorem zKb (π : Nat->Nat) : ∀ (l : List HO) (i : Nat) (G : zB),(zGt π i l G).length = G.length
 | [],_,_ => rfl
 | o :: l,i,G => by rw [zGt,zKb π l,zYP]
theorem zJm (π : Nat->Nat) : ∀ (l : List HO) (i : Nat) (G : zB) (s : Nat),(∀ j,j < l.length->π (i + j) ≠ s)->(zGt π i l G)[s]? = G[s]?
 | [],_,_,_,_ => rfl
 | o :: l,i,G,s,h => by
  rw [zGt,zJm π l (i + 1) _ s fun j hj => by have := h (j + 1) (by simp; omega); rwa [show i + (j + 1) = i + 1 + j by omega] at this,zYL];exact h 0 (by simp)
theorem zMQ (π : Nat->Nat) : ∀ (l : List HO) (i : Nat) (G : zB) (j : Nat) (o : HO),l[j]? = some o->(∀ a b,a < l.length->b < l.length->π (i + a) = π (i + b)->a = b)->(∀ a,a < l.length->π (i + a) < G.length)->(zGt π i l G)[π (i + j)]? = some (o.ren π)
 | [],_,_,_,_,h,_,_ => by simp at h
 | o :: l,i,G,0,o',h,hi,hl => by
  simp at h; subst h;simp only [zGt,zZg];rw [zJm,zYU (by simpa using hl 0 (by simp))];intro j hj e;have := hi (j + 1) 0 (by simp; omega) (by simp) (by rw [show i + (j + 1) = i + 1 + j by omega]; exact e);omega
 | o :: l,i,G,j + 1,o',h,hi,hl => by
  simp at h;rw [zGt,show i + (j + 1) = i + 1 + j by omega];refine zMQ π l (i + 1) _ j o' h (fun a b ha hb e => ?_) fun a ha => ?_
  ·have := hi (a + 1) (b + 1) (by simp; omega) (by simp; omega) (by rw [show i + (a + 1) = i + 1 + a by omega,show i + (b + 1) = i + 1 + b by omega]; exact e);omega
  ·rw [zYP]; have := hl (a + 1) (by simp; omega); rwa [show i + (a + 1) = i + 1 + a by omega] at this
open Classical in
theorem ACallX.ren {f : FuncId} {args : List AV} {R : AV->zB->Prop} {Z : Value->zB->Prop} (h : ACallX P f args H (fun x H' => ∃ H1 junk,H' = H1 ++ junk/\R x H1/\H1.length = H.length/\H1.all (HO.lv H.length) = true/\x.lv H.length = true) fun z H' => ∃ H1 junk,H' = H1 ++ junk/\Z z H1/\H1.length = H.length/\H1.all (HO.lv H.length) = true)
  (hH : H.all (HO.lv H.length) = true) (ha : lvL H.length args = true) {G : zB} (π : Nat->Nat) (hi : ∀ a b,a < H.length->b < H.length->π a = π b->a = b) (hG : ∀ (r : Nat) (o : HO),H[r]? = some o->G[π r]? = some (o.ren π)) :
  ACallX P f (zGB π args) G (fun y G' => ∃ x H1,R x H1/\y = x.ren π/\G' = zGt π 0 H1 G) fun z G' => ∃ H1,Z z H1/\G' = zGt π 0 H1 G := by
 refine ⟨h.1,fun X ρ w vs hr hargs => ?_⟩;have hlt : ∀ r,r < H.length->π r < G.length := fun r hr => (zYr.1 (hG r _ (zYK hr))).1
 let Im : Nat->Prop := fun s => ∃ r,r < H.length/\π r = s
 let X' : Nat->Prop := fun b => X b\/∃ s o,s < G.length/\¬ Im s/\(ρ s).blk = some (b,o)
 let ρ0 : Nat->Loc := fun r => ρ (π r)
 have hm : ∀ b,Mut X' ρ0 H.length b->Mut X ρ G.length b := fun b hb => by
  rcases hb with (hb | ⟨s,o,h1,h2,h3⟩) | ⟨r,o,h1,h2⟩
  ·exact .inl hb
  ·exact .inr ⟨s,o,h1,h3⟩
  ·exact .inr ⟨π r,o,hlt r h1,h2⟩
 have hrel : HRel w X' ρ0 H := by
  refine ⟨fun r o ho => ?_,fun r r' b o b' o' h1 h2 hne => hr.inj _ _ b o b' o' (hlt r h1) (hlt r' h2) fun e => hne (hi _ _ h1 h2 e),fun r b o h1 h2 => ⟨(hr.lt _ b o (hlt r h1) h2).1,?_⟩,fun b hb => ?_,fun g hg => ⟨fun ⟨r,o,h1,h2⟩ => (hr.gl g hg).1 ⟨π r,o,hlt r h1,h2⟩,(hr.gl g hg).2⟩⟩
  ·exact (hr.objs _ _ (hG r o ho)).unren hm (fun _ _ => rfl) (zYR.1 hH o (zYW ho))
  ·rintro (hb | ⟨s,o',h3,h4,h5⟩)
   ·exact (hr.lt _ b o (hlt r h1) h2).2 hb
   ·exact hr.inj (π r) s b o b o' (hlt r h1) h3 (fun e => h4 ⟨r,h1,e⟩) h2 h5 rfl
  ·rcases hb with hb | ⟨s,o',h3,h4,h5⟩
   ·exact hr.xlt b hb
   ·exact (hr.lt s b o' h3 h5).1
 have back : ∀ (w' : World) (H1 junk : zB) (ρ' : Nat->Loc),H1.length = H.length->H1.all (HO.lv H.length) = true->HRel w' X' ρ' (H1 ++ junk)->Fut w ρ0 H.length w' ρ' (H1 ++ junk).length ->
   ∃ ρ2,HRel w' X ρ2 (zGt π 0 H1 G)/\Fut w ρ G.length w' ρ2 (zGt π 0 H1 G).length/\∀ (x : AV) (v : Value),x.lv H.length = true->Rep w' (Mut X' ρ' (H1 ++ junk).length) ρ' (H1 ++ junk).length x v->Rep w' (Mut X ρ2 (zGt π 0 H1 G).length) ρ2 (zGt π 0 H1 G).length (x.ren π) v := by
  intro w' H1 junk ρ' hl hlv g1 g3;have hlj : (H1 ++ junk).length = H.length + junk.length := by rw [zYF,hl]
  rw [hlj] at g3;rw [hlj]
  let ρ2 : Nat->Loc := fun s => if hs : Im s then ρ' hs.choose else ρ s
  have e1 : ∀ r,r < H.length->ρ2 (π r) = ρ' r := fun r hr => by
   have hs : Im (π r) := ⟨r,hr,rfl⟩;show (if hs : Im (π r) then ρ' hs.choose else ρ (π r)) = ρ' r;rw [dif_pos hs,hi _ _ hs.choose_spec.1 hr hs.choose_spec.2]
  have e2 : ∀ s,¬ Im s->ρ2 s = ρ s := fun s hs => dif_neg hs;have hm2 : ∀ b,Mut X ρ2 G.length b->Mut X' ρ' (H.length + junk.length) b := fun b hb => by
   rcases hb with hb | ⟨s,o,h1,h2⟩
   ·exact .inl (.inl hb)
   ·by_cases hc : Im s
    ·obtain ⟨r,h3,rfl⟩ := hc;rw [e1 r h3] at h2; exact .inr ⟨r,o,by omega,h2⟩
    ·rw [e2 s hc] at h2; exact .inl (.inr ⟨s,o,h1,hc,h2⟩)
  have hno : ∀ s b o,s < G.length->¬ Im s->(ρ s).blk = some (b,o)->b < w.heap.size/\¬ Own ρ0 H.length b := fun s b o h1 h2 h3 =>
   ⟨(hr.lt s b o h1 h3).1,fun ⟨r',o',h4,h5⟩ => hr.inj s (π r') b o b o' h1 (hlt r' h4) (fun e => h2 ⟨r',h4,e.symm⟩) h3 h5 rfl⟩
  have hf : Fut w ρ G.length w' ρ2 G.length := by
   refine ⟨g3.os,g3.tape,g3.output,g3.size,fun b hb hbo => g3.keep b hb fun ⟨r,o,h1,h2⟩ => hbo ⟨π r,o,hlt r h1,h2⟩,fun b ⟨s,o,h1,h2⟩ => ?_,zYH _,fun s h1 => ?_⟩
   ·by_cases hc : Im s
    ·obtain ⟨r,h3,rfl⟩ := hc;rw [e1 r h3] at h2;exact (g3.own b ⟨r,o,by omega,h2⟩).imp (fun ⟨r',o',h4,h5⟩ => ⟨π r',o',hlt r' h4,h5⟩) id
    ·rw [e2 s hc] at h2; exact .inl ⟨s,o,h1,h2⟩
   ·by_cases hc : Im s
    ·obtain ⟨r,h3,rfl⟩ := hc;rw [e1 r h3]; exact g3.loc r h3
    ·rw [e2 s hc]; exact .inl rfl
  have hlG : (zGt π 0 H1 G).length = G.length := zKb _ _ _ _;have pAt : ∀ r o,H1[r]? = some o->(zGt π 0 H1 G)[π r]? = some (o.ren π) := fun r o ho => by
   have := zMQ π H1 0 G r o ho (fun a b ha hb e => hi a b (by omega) (by omega) (by simpa using e)) (fun a ha => by simpa using hlt a (by omega))
   simpa using this
  have pNe : ∀ s,¬ Im s->(zGt π 0 H1 G)[s]? = G[s]? := fun s hs => zJm π H1 0 G s fun j hj e => hs ⟨j,by omega,by simpa using e⟩;refine ⟨ρ2,⟨fun s o ho => ?_,fun s s' b o b' o' h1 h2 hne h3 h4 => ?_,fun s b o h1 h2 => ?_,fun b hb => zYT (hr.xlt b hb) g3.size,?_⟩,?_,?_⟩
  ·rw [hlG];by_cases hc : Im s
   ·obtain ⟨r,h3,rfl⟩ := hc;have hr1 : r < H1.length := by omega
    rw [pAt r _ (zYK hr1)] at ho;cases ho;have := g1.objs r H1[r] (by rw [zYD hr1,zYK hr1]);rw [hlj] at this;rw [e1 r h3];exact this.ren hm2 e1 hlt (zYR.1 hlv _ (zzaq hr1))
   ·rw [pNe s hc] at ho;rw [e2 s hc];have hlt' := (zYr.1 ho).1;refine (hr.objs s o ho).next hf fun b o' hb => ?_;obtain ⟨h4,h5⟩ := hno s b o' hlt' hc hb;exact g3.keep b h4 h5
  ·rw [hlG] at h1 h2;by_cases hc : Im s <;> by_cases hc' : Im s'
   ·obtain ⟨r,h5,rfl⟩ := hc;obtain ⟨r',h6,rfl⟩ := hc';rw [e1 r h5] at h3; rw [e1 r' h6] at h4;exact g1.inj r r' b o b' o' (by omega) (by omega) (fun e => hne (by rw [e])) h3 h4
   ·obtain ⟨r,h5,rfl⟩ := hc;rw [e1 r h5] at h3; rw [e2 s' hc'] at h4;obtain ⟨h7,h8⟩ := hno s' b' o' h2 hc' h4;rintro rfl;rcases g3.own b ⟨r,o,by omega,h3⟩ with h9 | h9
    ·exact h8 h9
    ·omega
   ·obtain ⟨r',h6,rfl⟩ := hc';rw [e2 s hc] at h3; rw [e1 r' h6] at h4;obtain ⟨h7,h8⟩ := hno s b o h1 hc h3;rintro rfl;rcases g3.own b ⟨r',o',by omega,h4⟩ with h9 | h9
    ·exact h8 h9
    ·omega
   ·rw [e2 s hc] at h3; rw [e2 s' hc'] at h4;exact hr.inj s s' b o b' o' h1 h2 hne h3 h4
  ·rw [hlG] at h1;by_cases hc : Im s
   ·obtain ⟨r,h5,rfl⟩ := hc;rw [e1 r h5] at h2;obtain ⟨h3,h4⟩ := g1.lt r b o (by omega) h2;exact ⟨h3,fun h => h4 (.inl h)⟩
   ·rw [e2 s hc] at h2;obtain ⟨h3,h4⟩ := hr.lt s b o h1 h2;exact ⟨zYT h3 g3.size,h4⟩
  ·rw [hlG]; exact hr.gl.fut hf
  ·rw [hlG]; exact hf
  ·intro x v hxv g2; rw [hlG]; exact g2.ren hm2 e1 hlt hxv
 refine (h.2 X' ρ0 w vs hrel ⟨by rw [<- hargs.1,zBp],fun i x u hx hu => (hargs.2 i _ u (zCM hx) hu).unren hm (fun _ _ => rfl) x rfl (zBY ha hx)⟩).mono ?_;rintro en w' (⟨v,x,H',ρ',rfl,⟨H1,junk,rfl,hR,hl,hlv,hxv⟩,g1,g2,g3⟩ | ⟨z,H',ρ',rfl,⟨H1,junk,rfl,hZ,hl,hlv⟩,g1,g3⟩)
 ·obtain ⟨ρ2,f1,f2,f3⟩ := back w' H1 junk ρ' hl hlv g1 g3;exact .inl ⟨v,x.ren π,_,ρ2,rfl,⟨x,H1,hR,rfl,rfl⟩,f1,f3 x v hxv g2,f2⟩
 ·obtain ⟨ρ2,f1,f2,f3⟩ := back w' H1 junk ρ' hl hlv g1 g3;exact .inr ⟨z,_,ρ2,rfl,⟨H1,hZ,rfl⟩,f1,f2⟩
theorem ACall.ren {f : FuncId} {args : List AV} {R : AV->zB->Prop} (h : ACall P f args H fun x H' => ∃ H1 junk,H' = H1 ++ junk/\R x H1/\H1.length = H.length/\H1.all (HO.lv H.length) = true/\x.lv H.length = true)
  (hH : H.all (HO.lv H.length) = true) (ha : lvL H.length args = true) {G : zB} (π : Nat->Nat) (hi : ∀ a b,a < H.length->b < H.length->π a = π b->a = b) (hG : ∀ (r : Nat) (o : HO),H[r]? = some o->G[π r]? = some (o.ren π)) :
  ACall P f (zGB π args) G fun y G' => ∃ x H1,R x H1/\y = x.ren π/\G' = zGt π 0 H1 G :=
 ((ACallX.ren (Z := fun _ _ => False) (h.x _) hH ha π hi hG).mono (fun _ _ h => h) fun _ _ ⟨_,h,_⟩ => h).calm
theorem ACall.one {f : FuncId} {v off : Nat} {bs : List AV} {o : HO} {R : AV->HO->Prop} (h : ACall P f (.ptr 0 v off :: bs) [o] fun x H' => ∃ o1 junk,H' = o1 :: junk/\R x o1/\o1.lv 0 = true/\x.lv 0 = true)
  (h1 : o.lv 0 = true) (h2 : lvL 0 bs = true) {G : zB} {r : Nat} (hG : G[r]? = some o) : ACall P f (.ptr r v off :: bs) G fun x G' => ∃ o1,R x o1/\G' = G.set r o1 := by
 have := ACall.ren (H := [o]) (R := fun x H1 => ∃ o1,H1 = [o1]/\R x o1/\o1.lv 0 = true/\x.lv 0 = true)
  (h.mono fun x H' ⟨o1,junk,e,hR,h3,h4⟩ => ⟨[o1],junk,e,⟨o1,rfl,hR,h3,h4⟩,rfl,by simp [HO.lv0 _ h3],AV.lv0 _ _ h4⟩)
  (by simp [HO.lv0 _ h1]) (by simp [lvL,AV.lv,zQD _ _ h2]) (G := G) (fun _ => r) (fun a b ha hb _ => by simp at ha hb; omega)
  (fun r' o' ho => by cases r' with | zero => simp at ho; subst ho; rw [HO.ren0 _ h1]; exact hG | succ r' => simp at ho)
 rw [show zGB (fun _ => r) (.ptr 0 v off :: bs) = .ptr r v off :: bs by rw [zGB,zIg _ _ h2]; rfl] at this;refine this.mono fun y G' ⟨x,H1,⟨o1,e,hR,h3,h4⟩,e1,e2⟩ => ⟨o1,?_,?_⟩
 ·rw [e1,AV.ren0 _ _ h4]; exact hR
 ·rw [e2,e]; simp only [zGt]; rw [HO.ren0 _ h3]
theorem zAZ {e : Env} {d : Option Nat} {l : List LO} {K : List zEu} {Q : Out->Env->zB->Prop} {f : FuncId} {args : List AV} {x : AV} {H' : zB} (h : ACall P f args H fun y G => y = x/\G = H') (hk : zAa P (.ops l :: K) Q .normal (ups e d x) H') : zP3 P f args H e d l K Q :=
 ACall.mono h fun y G ⟨hy,hG⟩ => by subst hy; subst hG; exact hk
end
end Go.Ax
namespace Go.Proofs.YtbibhcmcjldhdaaGreatDoor
open Go Go.Ax
set_option maxRecDepth 100000
set_option linter.unusedSimpArgs false
set_option maxHeartbeats 4000000
def L26n : LFn := ⟨35,[(.tmp 2)],(sO [oX 2 (.mv (.c zAl))] (sO [oX 3 (.mv (.c zAl)),oX 3 (.own 1 (.t 3))] (.seq (sO [oM 9 0,oX 10 (.len .slc (.t 9)),oC 11 0] (.block 0 (.loop (sO [oB 12 .lss 11 10] (.seq (cD 12 .skip (.exit 0)) (.seq (.block 1 (sO [oI 13 1 9 11,oL 14 13,oM 5 14] (sO [oM 15 5,oX 16 (cF 56 [(.t 15),(.c (.v (.string (mkS [45]))))]),oM 6 16] (sO [oM 18 6,oX 19 (y1 57 18),oM 17 19,oE 20 17 0,oE 21 17 1,oM 7 20,oM 8 21] (.seq (sO [oM 22 8] (sO [] (.seq (.callp (some 23) (.c (.fn (.func 25) [] [])) [(.t 22)]) (.ops [])))) (.seq (sO [oM 24 6,oM 25 5,oX 26 (.bin .str .neq (.t 24) (.t 25))] (cD 26 (.ops [oM 27 7,oX 28 (.neg (.t 27)),oM 7 28]) .skip)) (.ops [oM 29 3,oM 30 7,oX 31 (.bsl true 1 1 [(int 0)] [(0,(.t 30))]),oX 32 (.append 1 8 (.t 29) (.t 31)),oM 3 32]))))))) (.ops [oV 33 .add 11 1,oM 11 33]))))))) (sO [oM 34 3,oM 2 34] .ret))))⟩
theorem L26n_ok : zAi Tryz.prog Tryz.f26 [⟨10,2,.imm⟩,⟨1,1,(.pre 3 (.own 1 (.t 3)))⟩,⟨7,1,.cut⟩] = some L26n := by kernel_rfl
def L29n : LFn := ⟨30,[(.tmp 2),(.tmp 3)],(sO [oX 2 (.mv (.c zAl)),oX 3 (.mv (kB false))] (sO [oX 8 (.bsl false 1 0 [(int 0)] []),oM 4 8] (.seq (sO [oC 5 0] (.block 0 (.loop (.seq (sO [oM 9 5,oM 10 0,oX 11 (.len .slc (.t 10)),oB 12 .lss 9 11] (cD 12 .skip (.exit 0))) (.seq (.block 1 (sO [oM 16 0,oM 17 5,oI 18 1 16 17,oL 19 18,oX 20 (y1 59 19),oM 15 20,oE 21 15 0,oE 22 15 1,oM 6 21,oM 7 22] (.seq (sO [oM 23 7,oX 24 (.not (.t 23))] (cD 24 (sO [oX 2 (.mv (.c zAl)),oX 3 (.mv (kB false))] .ret) .skip)) (.ops [oM 25 4,oM 26 6,oX 27 (.bsl true 1 1 [(int 0)] [(0,(.t 26))]),oX 28 (.append 1 8 (.t 25) (.t 27)),oM 4 28])))) (.ops [oM 13 5,oV 14 .add 13 1,oM 5 14])))))) (sO [oM 29 4,oM 2 29,oX 3 (.mv (kB true))] .ret))))⟩
theorem L29n_ok : zAi Tryz.prog Tryz.f29 [⟨8,2,.imm⟩] = some L29n := by kernel_rfl
def L30n : LFn := ⟨146,[(.tmp 4),(.tmp 5)],(sO [oX 4 (.mv (.c zAl)),oX 5 (.mv (kB false))] (sO [oX 15 (.bsl false 5 0 [(int 0),(int 0),(int 0),zAl,zAl] []),oM 6 15] (.seq (.block 0 (.loop (.seq (.seq (.draw [oM 16 0,oK 17 16,oD 18 1 17,oL 19 18,oM 20 0,oK 21 20,oD 22 0 21,oL 23 22,oX 24 (.len .slc (.t 23)),oB 25 .lss 19 24] []) (cD 25 .skip (.exit 0))) (.block 1 (.seq (.draw [oM 26 0,oK 27 26,oD 28 0 27,oL 29 28,oM 30 0,oK 31 30,oD 32 1 31,oL 33 32,oI 34 1 29 33,oL 35 34,oM 7 35] []) (sO [oM 36 0,oM 37 0,oK 38 37,oD 39 1 38,oL 40 39,oV 41 .add 40 1,oK 42 36,oD 43 1 42,oS 1 43 41] (.seq (sO [oM 44 7,oX 45 (.len .slc (.t 44)),oV 46 .eql 45 1,oM 47 46,oU 48 47 7,oT 49 47 (.iaddr 1 (.t 48) (kI 0)),oT 50 47 (.load false 1 (.t 49)),oU 51 47 1,oT 52 47 (.bin .str .eql (.t 50) (.t 51)),oP 53 47 (.t 52) (kB false)] (cD 53 (sO [oM 54 6,oM 4 54,oX 5 (.mv (kB true)),oX 4 (.frz (.t 4))] .ret) .skip)) (sO [oC 8 (-1)] (.seq (sO [oC 9 0] (.block 2 (.loop (.seq (sO [oM 55 9,oX 56 (y0 60),oX 57 (.len .slc (.t 56)),oB 58 .lss 55 57] (cD 58 .skip (.exit 2))) (.seq (.block 3 (.seq (.draw [oX 61 (y0 60),oM 62 9,oI 63 1 61 62,oL 64 63,oM 65 7,oX 66 (.iaddr 1 (.t 65) (kI 0)),oL 67 66,oX 68 (.bin .str .eql (.t 64) (.t 67))] []) (cD 68 (.ops [oM 69 9,oM 8 69]) .skip))) (.ops [oM 59 9,oV 60 .add 59 1,oM 9 60])))))) (sO [oM 71 7,oX 72 (.slice .slc 1 (.t 71) (some (kI 1)) none),oX 73 (y1 29 72),oM 70 73,oE 74 70 0,oE 75 70 1,oM 10 74,oM 11 75] (sO [oC 12 0] (.seq (sO [oM 76 8] (.block 4 (.seq (sO [oV 78 .eql 76 0,oM 77 78] (cD 77 .skip (sO [oV 79 .eql 76 1,oM 77 79] (cD 77 .skip (sO [oV 80 .eql 76 2,oM 77 80] (cD 77 .skip (.ops [oV 81 .eql 76 20,oM 77 81]))))))) (cD 77 (.ops [oC 12 1]) (.seq (sO [oV 83 .eql 76 3,oM 82 83] (cD 82 .skip (.ops [oV 84 .eql 76 4,oM 82 84]))) (cD 82 (.ops [oC 12 2]) .skip)))))) (.seq (sO [oM 85 8,oV 86 .lss 85 0,oM 87 86,oW 88 87 11,oF 89 87 (.not (.t 88)),oP 90 87 (kB true) (.t 89),oM 91 90,oW 92 91 10,oF 93 91 (.len .slc (.t 92)),oW 94 91 12,oF 95 91 (bI .neq (.t 93) (.t 94)),oP 96 91 (kB true) (.t 95)] (cD 96 (sO [oX 4 (.mv (.c zAl)),oX 5 (.mv (kB false))] .ret) .skip)) (sO [oM 97 10,oX 98 (.bsl true 1 2 [(int 0)] [(0,(kI 0)),(1,(kI 0))]),oX 99 (.append 1 8 (.t 97) (.t 98)),oM 10 99] (.seq (.draw [oM 100 8,oM 101 10,oX 102 (.iaddr 1 (.t 101) (kI 0)),oL 103 102,oM 104 10,oX 105 (.iaddr 1 (.t 104) (kI 1)),oL 106 105,oX 107 (.build [(int 0),(int 0),(int 0),zAl,zAl] [(0,(1,(.t 100))),(1,(1,(.t 103))),(2,(1,(.t 106)))])] [oX 13 (.alloc [(int 0),(int 0),(int 0),zAl,zAl]),oS 5 13 107]) (sO [oX 14 (.mv (kB true))] (.seq (sO [oM 108 8,oV 109 .eql 108 18] (cD 109 (sO [oM 111 0,oX 112 (cF 30 [(.t 111),(.c (.v (.string (mkS [101,108,115,101]))))]),oM 110 112,oE 113 110 0,oE 114 110 1,oD 115 3 13,oS 1 115 113,oM 11 114] (.ops [oM 117 0,oX 118 (cF 30 [(.t 117),(.c (.v (.string (mkS [101,110,100]))))]),oM 116 118,oE 119 116 0,oE 120 116 1,oD 121 4 13,oS 1 121 119,oM 14 120])) .skip)) (.seq (sO [oM 122 8,oV 123 .eql 122 19] (cD 123 (sO [oM 125 0,oX 126 (cF 30 [(.t 125),(.c (.v (.string (mkS [100,111]))))]),oM 124 126,oE 127 124 0,oE 128 124 1,oD 129 4 13,oS 1 129 127,oM 11 128] (.ops [oM 131 0,oX 132 (cF 30 [(.t 131),(.c (.v (.string (mkS [101,110,100]))))]),oM 130 132,oE 133 130 0,oE 134 130 1,oD 135 3 13,oS 1 135 133,oM 14 134])) .skip)) (.seq (sO [oM 136 11,oX 137 (.not (.t 136)),oM 138 137,oW 139 138 14,oF 140 138 (.not (.t 139)),oP 141 138 (kB true) (.t 140)] (cD 141 (sO [oX 4 (.mv (.c zAl)),oX 5 (.mv (kB false))] .ret) .skip)) (.ops [oM 142 6,oA 143 5 13,oX 143 (.frzf 5 3 (.t 143)),oX 143 (.frzf 5 4 (.t 143)),oX 144 (.bsl true 5 1 [(int 0),(int 0),(int 0),zAl,zAl] [(0,(.t 143))]),oX 145 (.append 5 72 (.t 142) (.t 144)),oM 6 145])))))))))))))))))))) (sO [oX 4 (.mv (.c zAl)),oX 5 (.mv (kB false))] .ret))))⟩
theorem L30n_ok : zAi Tryz.prog Tryz.f30 [⟨37,2,(.pre 143 (.frzf 5 3 (.t 143)))⟩,⟨37,2,(.pre 143 (.frzf 5 4 (.t 143)))⟩,⟨6,3,(.pre 4 (.frz (.t 4)))⟩,⟨26,1,.imm⟩,⟨37,2,.imm⟩,⟨27,8,.tail⟩] = some L30n := by kernel_rfl
def L27n : LFn := ⟨76,[(.tmp 4)],(sO [oX 4 (.mv (.c zAl))] (sO [oX 5 (.mv (.c zAl)),oX 5 (.own 5 (.t 5))] (.block 0 (.loop (.block 1 (sO [oM 10 0,oX 11 (y1 24 10),oM 6 11] (.seq (sO [oM 12 6] (sO [oX 13 (.len .slc (.t 12))] (sO [oV 14 .gtr 13 0] (sO [] (.seq (.callp (some 15) (.c (.fn (.func 25) [] [])) [(.t 14)]) (.ops [])))))) (.seq (sO [oM 16 6,oX 17 (.iaddr 1 (.t 16) (kI 0)),oL 18 17,oM 19 1,oX 20 (.bin .str .eql (.t 18) (.t 19))] (cD 20 (.seq (sO [oM 21 6] (sO [oX 22 (.len .slc (.t 21))] (sO [oV 23 .eql 22 1] (sO [] (.seq (.callp (some 24) (.c (.fn (.func 25) [] [])) [(.t 23)]) (.ops [])))))) (sO [oM 25 5,oM 4 25,oX 4 (.frz (.t 4))] .ret)) .skip)) (.seq (.draw [oX 26 (y0 38),oM 27 6,oX 28 (.iaddr 1 (.t 27) (kI 0)),oL 29 28,oX 30 (y2 58 26 29),oM 7 30] []) (.seq (sO [oM 31 7] (sO [oV 32 .geq 31 0] (sO [oM 33 32] (sO [oU 34 33 6] (sO [oT 35 33 (.len .slc (.t 34))] (sO [oU 36 33 7] (sO [oT 37 33 (y1 39 36)] (sO [oT 38 33 (bI .add (kI 1) (.t 37))] (sO [oT 39 33 (bI .eql (.t 35) (.t 38))] (sO [oP 40 33 (.t 39) (kB false)] (sO [] (.seq (.callp (some 41) (.c (.fn (.func 25) [] [])) [(.t 40)]) (.ops []))))))))))))) (.seq (sO [oM 42 6] (sO [oX 43 (.slice .slc 1 (.t 42) (some (kI 1)) none)] (sO [] (.seq (.callp (some 44) (.c (.fn (.func 26) [] [])) [(.t 43)]) (sO [oX 45 (.bsl true 1 2 [(int 0)] [(0,(kI 0)),(1,(kI 0))])] (sO [oX 46 (.append 1 8 (.t 44) (.t 45))] (sO [oM 8 46] (.ops [])))))))) (.seq (.draw [oM 47 7,oM 48 8,oX 49 (.iaddr 1 (.t 48) (kI 0)),oL 50 49,oM 51 8,oX 52 (.iaddr 1 (.t 51) (kI 1)),oL 53 52,oX 54 (.build [(int 0),(int 0),(int 0),zAl,zAl] [(0,(1,(.t 47))),(1,(1,(.t 50))),(2,(1,(.t 53)))])] [oX 9 (.alloc [(int 0),(int 0),(int 0),zAl,zAl]),oS 5 9 54]) (.seq (sO [oM 55 7] (.block 2 (sO [oV 57 .eql 55 18,oM 56 57] (cD 56 (.seq (sO [oM 58 0] (sO [] (.seq (.callp (some 59) (.c (.fn (.func 27) [] [])) [(.t 58),(.c (.v (.string (mkS [101,108,115,101]))))]) (sO [oD 60 3 9] (sO [oS 1 60 59] (.ops [])))))) (sO [oM 61 0] (sO [] (.seq (.callp (some 62) (.c (.fn (.func 27) [] [])) [(.t 61),(.c (.v (.string (mkS [101,110,100]))))]) (sO [oD 63 4 9] (sO [oS 1 63 62] (.ops []))))))) (sO [oV 65 .eql 55 19,oM 64 65] (cD 64 (.seq (sO [oM 66 0] (sO [] (.seq (.callp (some 67) (.c (.fn (.func 27) [] [])) [(.t 66),(.c (.v (.string (mkS [100,111]))))]) (sO [oD 68 4 9] (sO [oS 1 68 67] (.ops [])))))) (sO [oM 69 0] (sO [] (.seq (.callp (some 70) (.c (.fn (.func 27) [] [])) [(.t 69),(.c (.v (.string (mkS [101,110,100]))))]) (sO [oD 71 3 9] (sO [oS 1 71 70] (.ops []))))))) .skip)))))) (.ops [oM 72 5,oA 73 5 9,oX 73 (.frzf 5 3 (.t 73)),oX 73 (.frzf 5 4 (.t 73)),oX 74 (.bsl true 5 1 [(int 0),(int 0),(int 0),zAl,zAl] [(0,(.t 73))]),oX 75 (.append 5 72 (.t 72) (.t 74)),oM 5 75]))))))))))))))⟩
theorem L27n_ok : zAi Tryz.prog Tryz.f27 [⟨18,2,(.pre 73 (.frzf 5 3 (.t 73)))⟩,⟨18,2,(.pre 73 (.frzf 5 4 (.t 73)))⟩,⟨6,2,(.pre 4 (.frz (.t 4)))⟩,⟨9,3,.imm⟩,⟨18,2,.imm⟩,⟨1,1,(.pre 5 (.own 5 (.t 5)))⟩,⟨3,3,.cut⟩,⟨5,3,.cut⟩,⟨8,10,.cut⟩,⟨9,2,.cut⟩,⟨13,1,.cut⟩,⟨14,1,.cut⟩,⟨16,1,.cut⟩,⟨17,1,.cut⟩,⟨10,8,.tail⟩] = some L27n := by kernel_rfl
end Go.Proofs.YtbibhcmcjldhdaaGreatDoor
namespace Go.Proofs.YtbibhcmcjldhdaaGreatDoor
open Go Go.Ax Go.RowKit
set_option maxRecDepth 100000
set_option linter.unusedSimpArgs false
set_option linter.unusedVariables false
set_option maxHeartbeats 4000000
theorem zBL (H : zB) : ACall Tryz.prog 60 [] H fun x H' => x = .sl 1 (opsW.map sR)/\H' = H := by
 refine ACall.drop (R := fun x => x = .sl 1 (opsW.map sR)) ?_
 refine enter Tryz.func60 L60_ok (zYu rfl) ?_
 simp -implicitDefEqProofs (disch := omega) only [L60,zC,zO,zH,zJ,zBQ,zY,zBt,zBu,zBs,zA8,opsW,zI,zT,zAg,zAG,zZ,zU,push_cast,simprocAttr,↓reduceIte,zYp]
 all_goals first | exact ⟨_,rfl⟩ | exact ⟨rfl,_,rfl⟩
theorem zIo (l : Ln) (hl : l.length <= 1048576) (hw : ∀ w ∈ l,w.length <= 1048576) (ns : List Int) (hn : zBj l = some ns) (H : zB) : ACall Tryz.prog 29 [.sl 1 (l.map sR)] H fun x H' => x = .tup [.os H.length l.length 0 l.length,bool true]/\H' = H ++ [.arr l.length 1 (ns.map iR)] := by
 refine enter Tryz.func29 L29n_ok (zYu rfl) ?_
 repeat' (simp -implicitDefEqProofs (disch := omega) only [L29n,push_cast,↓reduceIte,Nat.reduceAdd])
 refine zW (fun (st : Nat × List Int) e' G => e' 0 = .sl 1 (l.map sR)/\e' 4 = .os H.length st.1 0 st.1/\e' 5 = int st.1/\st.1 <= l.length/\zBj (l.take st.1) = some st.2/\st.2.length = st.1/\G = H ++ [.arr st.1 1 (st.2.map iR)]) (fun st => l.length - st.1) (0,[]) ?_ ?_
 ·exact ⟨rfl,rfl,rfl,zYO _,rfl,rfl,rfl⟩
 rintro ⟨j,ns'⟩ e' G ⟨g0,g4,g5,hj,hns,hnl,rfl⟩
 simp only at g4 g5 hj hns hnl
 by_cases hlt : j < l.length
 ·have hmem := hw _ (zAf hlt)
  have cN := fun H => zKg (l.getD j default) hmem H
  have hts := zA0 (l := l) (j := j) hlt
  have happ := zEF (l.take j) (l.getD j default)
  rw [<- hts,hns] at happ
  cases hn2 : zIr (l.getD j default) with
  | none =>
   have : zBj l = none := by
    rw [<- zZv (j + 1) l]
    exact zCQ _ _ (by rw [happ,hn2])
   rw [this] at hn; cases hn
  | some n =>
   have hr := zKh hn2
   have e2 : zEa (l.getD j default) = .tup [int n,bool true] := by unfold zEa; rw [hn2]
   rw [e2] at cN
   have hfin : List.take j (ns'.map iR) ++ [iR n] = (ns' ++ [n]).map iR := by
    rw [zYN (by simp; omega)]; simp
   have hrl : (ns'.map iR).length = j := by simp; omega
   generalize hRk : ns'.map iR = Rk at *
   repeat' (first | refine zYt (by omega) ?_ | refine zA (cN _) ?_ | simp -implicitDefEqProofs (disch := omega) only [g0,g4,g5,zL,sR,hrl,zI,push_cast,simprocAttr,↓reduceIte,zYp])
   exact .mk (j + 1,ns' ++ [n]) ⟨g0,rfl,rfl,hlt,by rw [happ,hn2],by simp; omega,congrArg (fun z => H ++ [HO.arr (j + 1) 1 z]) hfin⟩ (by simp only; omega)
 ·have hjl : j = l.length := by omega
  have hnn : zBj l = some ns' := by rw [<- hns,zYN (by omega)]
  rw [hn] at hnn
  cases hnn
  subst hjl
  repeat' (simp -implicitDefEqProofs (disch := omega) only [g0,g4,g5,zT,push_cast,simprocAttr,↓reduceIte])
def zFa (o : Option (List Ins × List Ln)) : AV := match o with
 | some p => .tup [.sl 5 (p.1.map zAq),bool true]
 | none => .tup [zAl,bool false]
theorem zIv : zFa none = .tup [zAl,bool false] := rfl
theorem zHy (p : List Ins × List Ln) : zFa (some p) = .tup [.sl 5 (p.1.map zAq),bool true] := rfl
abbrev rdO (L : List Ln) (a : Nat) : HO := .box [.sl 1 (L.map lnR),int a]
structure zWQ (L : List Ln) : Prop where
 len : L.length <= 1048577
 ne : ∀ l ∈ L,l ≠ []
 wd : ∀ l ∈ L,l.length <= 1048577/\∀ w ∈ l,w.length <= 1048576
theorem LQ.all {L : List Ln} {o : Option (List Ins × List Ln)} {a : Nat} {u : Wd} (h : ACall Tryz.prog 30 [.ptr 0 0 0,str u] [rdO L a] fun x H' => ∃ b junk,H' = rdO L b :: junk/\x = zFa o/\a <= b/\b <= L.length/\∀ p,o = some p->p.2 = L.drop b) (G : zB) (r : Nat) (hG : G[r]? = some (rdO L a)) :
  ACall Tryz.prog 30 [.ptr r 0 0,str u] G fun x H' => ∃ b,x = zFa o/\H' = G.set r (rdO L b)/\a <= b/\b <= L.length/\∀ p,o = some p->p.2 = L.drop b :=
 (ACall.one (R := fun x o1 => ∃ b,o1 = rdO L b/\x = zFa o/\a <= b/\b <= L.length/\∀ p,o = some p->p.2 = L.drop b) (h.mono fun x H' ⟨b,junk,h1,h2,h3,h4,h5⟩ => ⟨rdO L b,junk,h1,⟨b,rfl,h2,h3,h4,h5⟩,rfl,by rw [h2]; cases o <;> rfl⟩) rfl rfl hG).mono fun x H' ⟨o1,⟨b,h0,h2,h3,h4,h5⟩,h6⟩ => ⟨b,h2,by rw [h6,h0],h3,h4,h5⟩
theorem zND (x : Ins) : clL (zAq x) = true := by rw [zHD]; simp [clL,AV.cl]
theorem zOk {op : Nat} (h : op < 23) : ((op = 0\/op = 1\/op = 2\/op = 20)/\zCl op = 1)\/((op = 3\/op = 4)/\zCl op = 2)\/((¬ op = 0/\¬ op = 1/\¬ op = 2/\¬ op = 20/\¬ op = 3/\¬ op = 4)/\zCl op = 0) := by
 unfold zCl
 by_cases h1 : op = 0\/op = 1\/op = 2\/op = 20
 ·exact .inl ⟨h1,if_pos h1⟩
 by_cases h2 : op = 3\/op = 4
 ·exact .inr (.inl ⟨h2,by rw [if_neg h1,if_pos h2]⟩)
 ·exact .inr (.inr ⟨by omega,by rw [if_neg h1,if_neg h2]⟩)
theorem zBP : ∀ (n : Nat) (u : Wd) (L : List Ln) (p : List Ins × List Ln),zAj n u L = some p->p.2.length < L.length
 | 0,_,_,_,h => by simp [zAj] at h
 | _ + 1,_,[],_,h => by simp [zAj] at h
 | n + 1,u,l :: L,p,h => by
  rw [zAj] at h
  split at h
  ·split at h
   ·cases h; simp
   ·cases h
  split at h
  ·cases h
  have key : ∀ (M : List Ln) (y : Ins),M.length <= L.length->(zAj n u M).map (fun r => (y :: r.1,r.2)) = some p->p.2.length < (l :: L).length := by
   intro M y hM h
   cases hx : zAj n u M with
   | none => rw [hx] at h; cases h
   | some r =>
    rw [hx] at h
    have := zBP n u M r hx
    simp only [zYZ,zYq] at h
    subst h
    simp only [zYs] at *; omega
  split at h
  ·split at h
   ·cases h
   rename_i h1
   split at h
   ·cases h
   rename_i h2
   have := zBP _ _ _ _ h1
   have := zBP _ _ _ _ h2
   exact key _ _ (by simp only at *; omega) h
  split at h
  ·split at h
   ·cases h
   rename_i h1
   split at h
   ·cases h
   rename_i h2
   have := zBP _ _ _ _ h1
   have := zBP _ _ _ _ h2
   exact key _ _ (by simp only at *; omega) h
  ·exact key _ _ (zYH _) h
def LstI (L : List Ln) (m : Nat) (u : Wd) (a0 : Nat) (st : Nat × Nat × List Ins) (e' : Env) (G : zB) : Prop := e' 0 = .ptr 0 0 0/\e' 1 = str u/\e' 6 = .os 1 st.2.2.length 0 st.2.2.length/\a0 <= st.1/\st.1 <= L.length/\st.2.1 < m/\L.length - st.1 < m - st.2.1/\zAj m u (L.drop a0) = (zAj (m - st.2.1) u (L.drop st.1)).map (fun p => (st.2.2 ++ p.1,p.2))/\(∃ J,G = rdO L st.1 :: .arr st.2.2.length 5 (st.2.2.map zAq) :: J)/\st.2.2.length <= st.1
theorem LstI.nx {L : List Ln} {m a0 a k a' : Nat} {u : Wd} {out : List Ins} {X : Ins} {row : List AV} {e' : Env} {J : zB} (h0 : a0 <= a) (h1 : out.length <= a) (h2 : a < a') (h3 : a' <= L.length) (h4 : L.length - a' < m - (k + 1))
  (g0 : e' 0 = .ptr 0 0 0) (g1 : e' 1 = str u) (g6 : e' 6 = .os 1 (out.length + 1) 0 (out.length + 1)) (hl : zAj m u (L.drop a0) = (zAj (m - (k + 1)) u (L.drop a')).map fun p => (out ++ [X] ++ p.1,p.2)) (hr : row = zAq X) :
  Nx (LstI L m u a0) (fun st => L.length - st.1) (a,k,out) e' (rdO L a' :: .arr (out.length + 1) 5 (out.map zAq ++ [row]) :: J) := by
 have e : (out ++ [X]).length = out.length + 1 := by simp
 refine .mk (a',k + 1,out ++ [X]) ⟨g0,g1,by rw [e]; exact g6,by simp only; omega,h3,by simp only; omega,h4,hl,⟨J,by rw [e,hr]; simp⟩,?_⟩ (by simp only; omega)
 show (out ++ [X]).length <= a'
 omega
set_option maxHeartbeats 8000000 in
theorem zU0 (L : List Ln) (hL : zWQ L) : ∀ (m : Nat) (u : Wd) (a : Nat),opF u = none->L.length - a < m->a <= L.length->∀ (G : zB) (r : Nat),G[r]? = some (rdO L a) ->
  ACall Tryz.prog 30 [.ptr r 0 0,str u] G fun x H' => ∃ b,x = zFa (zAj m u (L.drop a))/\H' = G.set r (rdO L b)/\a <= b/\b <= L.length/\∀ p,zAj m u (L.drop a) = some p->p.2 = L.drop b := by
 intro m
 induction m using Nat.strongRecOn with
 | ind m ih =>
 intro u a0 hu hm ha
 refine LQ.all ?_
 refine enter Tryz.func30 L30n_ok (zYu rfl) ?_
 repeat' (simp -implicitDefEqProofs (disch := omega) only [L30n,zYB,zYG,zYs,zYw,push_cast,simprocAttr,↓reduceIte])
 refine zW (LstI L m u a0) (fun st => L.length - st.1) (a0,0,[]) ?_ ?_
 ·exact ⟨rfl,rfl,rfl,zYH _,ha,zzaJ (zYO _) hm,hm,by simp,⟨[],rfl⟩,zYO _⟩
 rintro ⟨a,k,out⟩ e' G ⟨g0,g1,g6,q0,q1,q2,q3,law,⟨J,rfl⟩,q7⟩
 simp only at g6 q0 q1 q2 q3 law q7
 by_cases hlt : a < L.length
 rotate_left
 ·have e : a = L.length := by omega
  subst e
  obtain ⟨n,hn⟩ : ∃ n,m - k = n + 1 := ⟨m - k - 1,by omega⟩
  have hno : zAj m u (L.drop a0) = none := by rw [law,hn,zZ6]; rfl
  rw [hno]
  repeat' (simp -implicitDefEqProofs (disch := omega) only [g0,zYv,zYs,zYw,zYo,zT,push_cast,simprocAttr,↓reduceIte])
  all_goals exact ⟨_,_,rfl,rfl,q0,zYH _,fun p h => by cases h⟩
 have hlen := hL.len
 have hmem := zAf hlt
 obtain ⟨w1,w2⟩ := hL.wd _ hmem
 have wne := hL.ne _ hmem
 have hdr : L.drop a = L.getD a default :: L.drop (a + 1) := by
  rw [zY4 hlt]; simp [List.getD,zYK hlt]
 rw [hdr] at law
 have hrow : (L.map lnR).getD a [] = lnR (L.getD a default) := zL hlt
 generalize L.getD a default = l at *
 have hl0 := List.length_pos_iff.2 wne
 have hw0 : (l.map sR).getD 0 [] = sR (l.getD 0 default) := zL hl0
 obtain ⟨n,hn⟩ : ∃ n,m - k = n + 1 := ⟨m - k - 1,by omega⟩
 rw [hn,zAj] at law
 have hh0 : l.headD [] = l.getD 0 default := by cases l <;> rfl
 rw [hh0] at law
 by_cases h2 : l.getD 0 default = u/\l.length = 1
 ·obtain ⟨h2,h1⟩ := h2
  rw [if_pos h2,if_pos h1] at law
  rw [law]
  repeat' (first | refine zYt (by omega) ?_ | simp -implicitDefEqProofs (disch := omega) only [g0,g1,g6,zYB,zYG,zYv,zYx,zYE,zYC,zYs,zYw,hrow,lnR,zYo,hw0,sR,h2,h1,zI,push_cast,simprocAttr,↓reduceIte,zYp])
  all_goals exact ⟨⟨by omega,zAM zND _⟩,a + 1,_,rfl,by simp [zFa],by omega,by omega,fun p hp => by cases hp; rfl⟩
 have h2' : l.length = 1->¬ l.getD 0 default = u := fun h h' => h2 ⟨h',h⟩
 repeat' (first | refine zYt (by omega) ?_ | simp -implicitDefEqProofs (disch := omega) only [g0,g1,g6,zYB,zYG,zYv,zYx,zYE,zYC,zYs,zYw,hrow,lnR,zYo,hw0,sR,zI,zZ,zU,push_cast,simprocAttr,↓reduceIte,zYp] | split)
 all_goals try (rename_i hx1 hx2; exact absurd hx2 (h2' (by omega)))
 all_goals
  refine zW (fun (i : Nat) e2 G2 => e2 0 = .ptr 0 0 0/\e2 1 = str u/\e2 6 = .os 1 out.length 0 out.length/\e2 7 = .sl 1 (l.map sR)/\e2 8 = int (opS (l.getD 0 default) i)/\e2 9 = int i/\i <= 23/\G2 = rdO L (a + 1) :: .arr out.length 5 (out.map zAq) :: J) (fun i => 23 - i) 0 ?_ ?_
  ·exact ⟨g0,g1,g6,rfl,rfl,rfl,by omega,rfl⟩
  rintro i e2 G2 ⟨p0,p1,p6,p7,p8,p9,hi,rfl⟩
  by_cases hi2 : i < 23
  ·have hoi : (opsW.map sR).getD i [] = sR (opsW.getD i []) := zL hi2
   have hol : opsW.length = 23 := rfl
   by_cases he : opsW.getD i [] = l.getD 0 default
   ·repeat' (first | refine zYt (by omega) ?_ | refine zA (zBL _) ?_ | refine zF (zBL _) rfl ?_ | simp -implicitDefEqProofs (disch := omega) only [p7,p9,zYG,zYs,zYw,hoi,hol,zYo,hw0,sR,he,zI,push_cast,simprocAttr,↓reduceIte])
    exact .mk (i + 1) ⟨p0,p1,p6,p7,by simp only [opS]; rw [if_pos he]; rfl,rfl,hi2,rfl⟩ (by omega)
   ·repeat' (first | refine zYt (by omega) ?_ | refine zA (zBL _) ?_ | refine zF (zBL _) rfl ?_ | simp -implicitDefEqProofs (disch := omega) only [p7,p9,zYG,zYs,zYw,hoi,hol,zYo,hw0,sR,he,zI,push_cast,simprocAttr,↓reduceIte])
    exact .mk (i + 1) ⟨p0,p1,p6,p7,by simp only [opS]; rw [if_neg he]; exact p8,rfl,hi2,rfl⟩ (by omega)
  have hie : i = 23 := by omega
  subst hie
  rw [zRW] at p8
  have hol : opsW.length = 23 := rfl
  have hdp : List.drop 1 (l.map sR) = (l.drop 1).map sR := zzau.symm
  have htl : l.tail = l.drop 1 := List.drop_one.symm
  have hdl : (l.drop 1).length <= 1048576 := by simp; omega
  have hdw : ∀ w ∈ l.drop 1,w.length <= 1048576 := fun w hw => w2 w (zZx hw)
  have hts : List.take (l.length - 1) ((l.drop 1).map sR) = (l.drop 1).map sR := zYN (by simp)
  have cN := fun H => zIp (l.drop 1) hdl hdw H
  have fin : ∀ (x : AV) (J' : zB) (b : Nat),a + 1 <= b->b <= L.length->zAj m u (L.drop a0) = none->x = .tup [zAl,bool false]->∃ b' junk,rdO L b :: J' = rdO L b' :: junk/\x = zFa (zAj m u (L.drop a0))/\a0 <= b'/\b' <= L.length/\∀ p,zAj m u (L.drop a0) = some p->p.2 = L.drop b' :=
   fun x J' b h1 h2 h3 h4 => ⟨b,J',rfl,by rw [h3,h4]; rfl,by omega,h2,fun p hp => by rw [h3] at hp; cases hp⟩
  cases hop : opF (l.getD 0 default) with
  | none =>
   have hno : zAj m u (L.drop a0) = none := by
    rw [law]
    by_cases h5 : l.getD 0 default = u
    ·rw [if_pos h5,if_neg fun h6 => h2 ⟨h5,h6⟩]; rfl
    ·rw [if_neg h5]; unfold zF7; rw [hh0,hop]; rfl
   rw [hop] at p8
   simp only at p8
   cases hnum : zBj (l.drop 1) with
   | none =>
    unfold zEE at cN
    rw [hnum] at cN
    repeat' (first | refine zYt (by omega) ?_ | refine zA (zBL _) ?_ | refine zA (cN _) ?_ | simp -implicitDefEqProofs (disch := omega) only [p7,p8,p9,zYB,zYG,zYs,zYw,hol,zYo,hdp,hts,push_cast,simprocAttr,↓reduceIte])
    all_goals exact fin _ _ (a + 1) (zYH _) hlt hno rfl
   | some ns =>
    have cM := fun H => zIo (l.drop 1) hdl hdw ns hnum H
    repeat' (first | refine zYt (by omega) ?_ | refine zA (zBL _) ?_ | refine zAZ (cM _) ?_ | simp -implicitDefEqProofs (disch := omega) only [p7,p8,p9,zYB,zYG,zYs,zYw,hol,zYo,hdp,hts,push_cast,simprocAttr,↓reduceIte])
    all_goals exact fin _ _ (a + 1) (zYH _) hlt hno rfl
  | some op =>
   rw [hop] at p8
   simp only at p8
   obtain ⟨hop1,hop2⟩ := zHu hop
   have h5 : ¬ l.getD 0 default = u := fun h => by rw [h,hu] at hop; cases hop
   rw [if_neg h5] at law
   have hcl := zOk hop1
   cases hnum : zBj (l.drop 1) with
   | none =>
    have hno : zAj m u (L.drop a0) = none := by
     rw [law]; unfold zF7; rw [hh0,hop,htl,hnum]; rfl
    unfold zEE at cN
    rw [hnum] at cN
    rcases hcl with ⟨rfl | rfl | rfl | rfl,hA⟩ | ⟨rfl | rfl,hA⟩ | ⟨hcl,hA⟩
    all_goals
     repeat' (first | refine zYt (by omega) ?_ | refine zA (zBL _) ?_ | refine zA (cN _) ?_ | simp -implicitDefEqProofs (disch := omega) only [p7,p8,p9,zYB,zYG,zYs,zYw,hol,zYo,hdp,hts,zT,zU,push_cast,simprocAttr,↓reduceIte])
     all_goals exact fin _ _ (a + 1) (zYH _) hlt hno rfl
   | some ns =>
    have cM := fun H => zIo (l.drop 1) hdl hdw ns hnum H
    have hnl := zCu hnum
    by_cases hargs : ns.length = zCl op
    rotate_left
    ·have hno : zAj m u (L.drop a0) = none := by
      rw [law]; unfold zF7; rw [hh0,hop,htl,hnum]; simp only; rw [if_neg hargs]; rfl
     rw [hnl] at hargs
     rcases hcl with ⟨rfl | rfl | rfl | rfl,hA⟩ | ⟨rfl | rfl,hA⟩ | ⟨hcl,hA⟩
     all_goals
      rw [hA] at hargs
      repeat' (first | refine zYt (by omega) ?_ | refine zA (zBL _) ?_ | refine zAZ (cM _) ?_ | simp -implicitDefEqProofs (disch := omega) only [p7,p8,p9,zYB,zYG,zYx,zYs,zYw,hol,zYo,hdp,hts,zT,zU,push_cast,simprocAttr,↓reduceIte])
      all_goals exact fin _ _ (a + 1) (zYH _) hlt hno rfl
    have hhead : zF7 l = some (op,ns.getD 0 0,ns.getD 1 0) := by unfold zF7; rw [hh0,hop]; simp only; rw [htl,hnum]; simp only; rw [if_pos hargs]
    rw [hhead] at law
    simp only at law
    rw [hnl] at hargs
    by_cases h18 : op = 18
    ·subst h18
     have hA : zCl 18 = 0 := rfl
     rw [hA] at hargs
     rw [hargs] at cM hnl
     have hns : ns = [] := zYQ.1 hnl
     subst hns
     rw [if_pos rfl] at law
     have i1 := ih n (by omega) zHg (a + 1) (by decide) (by omega) (by omega)
     simp only [zZQ] at cM
     repeat' (first | refine zYt (by omega) ?_ | refine zA (zBL _) ?_ | refine zAZ (cM _) ?_ | simp -implicitDefEqProofs (disch := omega) only [p0,p7,p8,p9,zYB,zYG,zYv,zYx,zYE,zYC,zYs,zYw,zYF,hol,zYo,hdp,hts,zzat,zZF,zZw,push_cast,simprocAttr,↓reduceIte,zYp])
     refine zAb (i1 _ 0 rfl) ?_
     rintro x H1 ⟨b,rfl,rfl,hb1,hb2,hb3⟩
     have i2 := ih n (by omega) zER b (by decide) (by omega) hb2
     cases o1 : zAj n zHg (L.drop (a + 1)) with
     | none =>
      have hno : zAj m u (L.drop a0) = none := by rw [law,o1]; rfl
      repeat' (simp -implicitDefEqProofs (disch := omega) only [p0,zYB,zYG,zYv,zYx,zYE,zYC,zYs,zYw,zIv,push_cast,simprocAttr,↓reduceIte,zYp])
      refine zAb (i2 _ 0 rfl) ?_
      rintro x H1 ⟨c,rfl,rfl,hc1,hc2,hc3⟩
      cases o2 : zAj n zER (L.drop b) with
      | none =>
       repeat' (simp -implicitDefEqProofs (disch := omega) only [p8,zYB,zYG,zYv,zYx,zYE,zYC,zYs,zYw,zIv,push_cast,simprocAttr,↓reduceIte,zYp])
       exact fin _ _ c (by omega) hc2 hno rfl
      | some r2 =>
       repeat' (simp -implicitDefEqProofs (disch := omega) only [p8,zYB,zYG,zYv,zYx,zYE,zYC,zYs,zYw,zHy,push_cast,simprocAttr,↓reduceIte,zYp])
       exact fin _ _ c (by omega) hc2 hno rfl
     | some r1 =>
      have hr1 := hb3 r1 o1
      repeat' (simp -implicitDefEqProofs (disch := omega) only [p0,zYB,zYG,zYv,zYx,zYE,zYC,zYs,zYw,zHy,push_cast,simprocAttr,↓reduceIte,zYp])
      refine zAb (i2 _ 0 rfl) ?_
      rintro x H1 ⟨c,rfl,rfl,hc1,hc2,hc3⟩
      cases o2 : zAj n zER (L.drop b) with
      | none =>
       have hno : zAj m u (L.drop a0) = none := by rw [law,o1]; simp only; rw [hr1,o2]; rfl
       repeat' (simp -implicitDefEqProofs (disch := omega) only [p8,zYB,zYG,zYv,zYx,zYE,zYC,zYs,zYw,zIv,push_cast,simprocAttr,↓reduceIte,zYp])
       exact fin _ _ c (by omega) hc2 hno rfl
      | some r2 =>
       have hr2 := hc3 r2 o2
       have law2 : zAj m u (L.drop a0) = (zAj (m - (k + 1)) u (L.drop c)).map fun p => (out ++ [Ins.mk 18 0 0 r1.1 r2.1] ++ p.1,p.2) := by
        rw [law,o1]; simp only; rw [hr1,o2]; simp only
        rw [hr2,Option.map_map,show m - (k + 1) = n by omega]; congr 1; funext p; simp
       have hcb : L.length - c < n := by
        have h1 := zBP _ _ _ _ o1
        have h2 := zBP _ _ _ _ o2
        rw [hr2] at h2
        simp only [zZB] at h1 h2
        omega
       repeat' (first | refine zYt (by omega) ?_ | simp -implicitDefEqProofs (disch := omega) only [p6,p8,zYB,zYG,zYv,zYx,zYE,zYC,zYs,zYw,zHy,zYo,push_cast,simprocAttr,↓reduceIte,zYp])
       refine LstI.nx q0 q7 (by omega) hc2 (by omega) ?_ ?_ ?_ law2 (by simp [zAq,zAh])
       ·exact p0
       ·exact p1
       ·rfl
    by_cases h19 : op = 19
    ·subst h19
     have hA : zCl 19 = 0 := rfl
     rw [hA] at hargs
     rw [hargs] at cM hnl
     have hns : ns = [] := zYQ.1 hnl
     subst hns
     rw [if_neg (by decide)] at law
     rw [if_pos rfl] at law
     have i1 := ih n (by omega) wDo (a + 1) (by decide) (by omega) (by omega)
     simp only [zZQ] at cM
     repeat' (first | refine zYt (by omega) ?_ | refine zA (zBL _) ?_ | refine zAZ (cM _) ?_ | simp -implicitDefEqProofs (disch := omega) only [p0,p7,p8,p9,zYB,zYG,zYv,zYx,zYE,zYC,zYs,zYw,zYF,hol,zYo,hdp,hts,zzat,zZF,zZw,push_cast,simprocAttr,↓reduceIte,zYp])
     refine zAb (i1 _ 0 rfl) ?_
     rintro x H1 ⟨b,rfl,rfl,hb1,hb2,hb3⟩
     have i2 := ih n (by omega) zER b (by decide) (by omega) hb2
     cases o1 : zAj n wDo (L.drop (a + 1)) with
     | none =>
      have hno : zAj m u (L.drop a0) = none := by rw [law,o1]; rfl
      repeat' (simp -implicitDefEqProofs (disch := omega) only [p0,zYB,zYG,zYv,zYx,zYE,zYC,zYs,zYw,zIv,push_cast,simprocAttr,↓reduceIte,zYp])
      refine zAb (i2 _ 0 rfl) ?_
      rintro x H1 ⟨c,rfl,rfl,hc1,hc2,hc3⟩
      cases o2 : zAj n zER (L.drop b) with
      | none =>
       repeat' (simp -implicitDefEqProofs (disch := omega) only [zYB,zYG,zYv,zYx,zYE,zYC,zYs,zYw,zIv,push_cast,simprocAttr,↓reduceIte,zYp])
       exact fin _ _ c (by omega) hc2 hno rfl
      | some r2 =>
       repeat' (simp -implicitDefEqProofs (disch := omega) only [zYB,zYG,zYv,zYx,zYE,zYC,zYs,zYw,zHy,push_cast,simprocAttr,↓reduceIte,zYp])
       exact fin _ _ c (by omega) hc2 hno rfl
     | some r1 =>
      have hr1 := hb3 r1 o1
      repeat' (simp -implicitDefEqProofs (disch := omega) only [p0,zYB,zYG,zYv,zYx,zYE,zYC,zYs,zYw,zHy,push_cast,simprocAttr,↓reduceIte,zYp])
      refine zAb (i2 _ 0 rfl) ?_
      rintro x H1 ⟨c,rfl,rfl,hc1,hc2,hc3⟩
      cases o2 : zAj n zER (L.drop b) with
      | none =>
       have hno : zAj m u (L.drop a0) = none := by rw [law,o1]; simp only; rw [hr1,o2]; rfl
       repeat' (simp -implicitDefEqProofs (disch := omega) only [zYB,zYG,zYv,zYx,zYE,zYC,zYs,zYw,zIv,push_cast,simprocAttr,↓reduceIte,zYp])
       exact fin _ _ c (by omega) hc2 hno rfl
      | some r2 =>
       have hr2 := hc3 r2 o2
       have law2 : zAj m u (L.drop a0) = (zAj (m - (k + 1)) u (L.drop c)).map fun p => (out ++ [Ins.mk 19 0 0 r2.1 r1.1] ++ p.1,p.2) := by
        rw [law,o1]; simp only; rw [hr1,o2]; simp only
        rw [hr2,Option.map_map,show m - (k + 1) = n by omega]; congr 1; funext p; simp
       have hcb : L.length - c < n := by
        have h1 := zBP _ _ _ _ o1
        have h2 := zBP _ _ _ _ o2
        rw [hr2] at h2
        simp only [zZB] at h1 h2
        omega
       repeat' (first | refine zYt (by omega) ?_ | simp -implicitDefEqProofs (disch := omega) only [p6,zYB,zYG,zYv,zYx,zYE,zYC,zYs,zYw,zHy,zYo,push_cast,simprocAttr,↓reduceIte,zYp])
       refine LstI.nx q0 q7 (by omega) hc2 (by omega) ?_ ?_ ?_ law2 (by simp [zAq,zAh])
       ·exact p0
       ·exact p1
       ·rfl
    rw [if_neg h18,if_neg h19,Option.map_map] at law
    have law2 : zAj m u (L.drop a0) = (zAj (m - (k + 1)) u (L.drop (a + 1))).map fun p => (out ++ [Ins.mk op (ns.getD 0 0) (ns.getD 1 0) [] []] ++ p.1,p.2) := by
     rw [law,show m - (k + 1) = n by omega]; congr 1; funext p; simp
    rcases hcl with ⟨rfl | rfl | rfl | rfl,hA⟩ | ⟨rfl | rfl,hA⟩ | ⟨hcl,hA⟩
    all_goals
     rw [hA] at hargs
     rw [hargs] at cM hnl
     rcases ns with _ | ⟨x,_ | ⟨y,_ | ⟨z,t⟩⟩⟩ <;> try (simp at hnl; done)
    all_goals
     simp only [zZF,zZw,List.getD_nil,zZA,zZQ,iR] at law2 cM
     repeat' (first | refine zYt (by omega) ?_ | refine zA (zBL _) ?_ | refine zAZ (cM _) ?_ | simp -implicitDefEqProofs (disch := omega) only [p6,p7,p8,p9,zYB,zYG,zYv,zYx,zYE,zYC,zYs,zYw,zYF,hol,zYo,hdp,hts,zzaf,zZ8,zZF,zZw,zT,zU,push_cast,simprocAttr,↓reduceIte,zYp])
     refine LstI.nx q0 q7 (zzao _) hlt (by omega) ?_ ?_ ?_ law2 (by simp [zAq,zAh])
     ·exact p0
     ·exact p1
     ·rfl
end Go.Proofs.YtbibhcmcjldhdaaGreatDoor
namespace Go.Proofs.YtbibhcmcjldhdaaGreatDoor
open Go Go.Ax Go.RowKit Go.Shelf
set_option maxRecDepth 100000
set_option linter.unusedSimpArgs false
set_option linter.unusedVariables false
set_option maxHeartbeats 4000000
def bldRen : Go.Shelf.Ren := ⟨fun | 240 => 61 | 276 => 115 | 169 => 41 | n => n,fun | 70 => 79 | 72 => 82 | 164 => 191 | 37 => 80 | 127 => 124 | n => n,fun | n => n⟩
theorem zVp : Go.Proofs.Lays.n240 Tryz.prog bldRen := {
 mixed := by kernel_rfl
 f240 := Tryz.func61.trans (congrArg some (by kernel_rfl))
 f276 := Tryz.func115.trans (congrArg some (by kernel_rfl))
 t0 := Tryz.underlying0
 a0 := Tryz.isAgg0
 z0 := Tryz.sizeOf0
 v0 := Tryz.zeroValue0
 t4 := Tryz.underlying4
 a4 := Tryz.isAgg4
 z4 := Tryz.sizeOf4
 v4 := Tryz.zeroValue4
 t9 := Tryz.underlying9
 a9 := Tryz.isAgg9
 z9 := Tryz.sizeOf9
 v9 := Tryz.zeroValue9
 t20 := Tryz.underlying20
 a20 := Tryz.isAgg20
 z20 := Tryz.sizeOf20
 v20 := Tryz.zeroValue20
 t70 := Tryz.underlying79
 a70 := Tryz.isAgg79
 z70 := Tryz.sizeOf79
 v70 := Tryz.zeroValue79
 t72 := Tryz.underlying82
 a72 := Tryz.isAgg82
 z72 := Tryz.sizeOf82
 v72 := Tryz.zeroValue82
 t164 := Tryz.underlying191
 a164 := Tryz.isAgg191
 z164 := Tryz.sizeOf191
 v164 := Tryz.zeroValue191 }
theorem cpX : Go.Proofs.Builder.X72 Tryz.prog bldRen := { sizeBuilder := by kernel_rfl,liesBuilder := by kernel_rfl }
theorem zRL {w : World} {M : Nat->Prop} {ρ : Nat->Ax.Loc} {n : Nat} {x : AV} {vs : Array Value} (h : RepL w M ρ n [x] vs) : ∃ a,vs = #[a]/\Rep w M ρ n x a := by
 obtain ⟨h1,h2⟩ := h
 match vs,h1 with
 | ⟨[a]⟩,_ => exact ⟨a,rfl,h2 0 x a rfl rfl⟩
theorem zIe (w : World) (a : Addr) (v : Value) : Same w (w.setCell a v) := ⟨rfl,rfl,rfl,by simp [World.setCell]⟩
abbrev bT : TypeId := 82
theorem zN6 (r : Nat) (y : AV) (H : zB) (hr : H[r]? = some (.box [.bnil bT,y])) : ACall Tryz.prog 61 [.ptr r 0 0] H fun x H' => x = .tup []/\H' = H.set r (.box [.ptr r 0 0,y]) := by
 refine ⟨⟨_,Tryz.func61,by kernel_rfl,by kernel_rfl⟩,fun X ρ w vs hrel hargs => ?_⟩
 obtain ⟨a,rfl,ha⟩ := zRL hargs
 obtain ⟨hrl,b,c,e,fr,hblk,rfl,hh,hl,hfr,hver,hrep⟩ := zCN hrel ha hr rfl
 obtain ⟨rfl,rfl⟩ := zQW hrel hr hblk hh bT rfl
 obtain ⟨c0,c1,rfl⟩ : ∃ c0 c1,c = #[c0,c1] := by
  match c,hl with
  | ⟨[a,b]⟩,_ => exact ⟨a,b,rfl⟩
 obtain ⟨h0,h0'⟩ := hrep 0 (.bnil bT) c0 rfl rfl
 obtain ⟨h1,h1'⟩ := hrep 1 y c1 rfl rfl
 cases h0
 refine (Go.Proofs.Any.Builder_copyCheck_fresh zVp cpX b w (zAJ hh 0) (by simp [World.shape?,hh]; rfl) (by simp [World.frozen?,hh])).mono ?_
 rintro en w' ⟨rfl,rfl⟩
 obtain ⟨ρ',hρ,g1,g2⟩ := hrel.setAt (w' := w.setCell ⟨b,0,none⟩ (.pointer (some ⟨b,0,none⟩))) hrl (ρ r) (.box [.ptr r 0 0,y]) (zIe _ _ _) (.inl rfl) (fun b o hb => .inl ⟨o,hb⟩)
  (fun b' _ hne => Below.heap_setCell _ _ _ _ (fun e => hne 0 (by rw [e]; exact hblk)))
  (fun ρ' hρ' hf => by
   refine ⟨hver,b,#[.pointer (some ⟨b,0,none⟩),c1],bT,(0,0),hblk,by simp [World.setCell,zzan,hh],rfl,⟨.inl rfl,fun t ht => by cases ht⟩,fun j z u hz hu => ?_⟩
   match j with
   | 0 =>
    cases hz; cases hu
    refine ⟨.ptr _ _ _ _ _ hrl (zYO _) rfl fun _ => ⟨b,0,?_,rfl⟩,rfl⟩
    rw [hρ']
    simpa using hblk
   | 1 => cases hz; cases hu; exact ⟨h1.nextN hf,h1'⟩
   | j + 2 => cases hz)
 exact ⟨_,_,_,ρ',rfl,⟨rfl,rfl⟩,g1,.tup _ _ _ rfl fun i x u hx => by simp at hx,g2⟩
theorem zKK (r : Nat) (y : AV) (H : zB) (hr : H[r]? = some (.box [.ptr r 0 0,y])) : ACall Tryz.prog 61 [.ptr r 0 0] H fun x H' => x = .tup []/\H' = H := by
 refine ⟨⟨_,Tryz.func61,by kernel_rfl,by kernel_rfl⟩,fun X ρ w vs hrel hargs => ?_⟩
 obtain ⟨a,rfl,ha⟩ := zRL hargs
 obtain ⟨hrl,b,c,e,fr,hblk,rfl,hh,hl,hfr,hver,hrep⟩ := zCN hrel ha hr rfl
 obtain ⟨c0,c1,rfl⟩ : ∃ c0 c1,c = #[c0,c1] := by
  match c,hl with
  | ⟨[a,b]⟩,_ => exact ⟨a,b,rfl⟩
 obtain ⟨h0,h0'⟩ := hrep 0 (.ptr r 0 0) c0 rfl rfl
 have hc0 : c0 = .pointer (some ⟨b,0,none⟩) := by
  cases h0 with
  | ptr _ _ _ _ _ _ _ _ hp =>
   obtain ⟨b',o',e1,rfl⟩ := hp (by rw [hver])
   rw [hblk] at e1
   cases e1
   rfl
 subst hc0
 refine (Go.Proofs.Any.Builder_copyCheck_used zVp cpX b w (zAJ hh 0)).mono ?_
 rintro en w' ⟨rfl,rfl⟩
 exact ⟨_,_,_,ρ,rfl,⟨rfl,rfl⟩,hrel,.tup _ _ _ rfl fun i x u hx => by simp at hx,Fut.refl _ _ _⟩
end Go.Proofs.YtbibhcmcjldhdaaGreatDoor
namespace Go.Proofs.YtbibhcmcjldhdaaGreatDoor
open Go Go.Ax Go.RowKit
set_option maxRecDepth 100000
set_option linter.unusedSimpArgs false
set_option linter.unusedVariables false
set_option maxHeartbeats 4000000
abbrev u8T : TypeId := 5
def BSt (n0 r : Nat) (l : List UInt8) (H : zB) : Prop := n0 <= r/\((H[r]? = some (.box [.bnil bT,zAl])/\l = [])\/(H[r]? = some (.box [.ptr r 0 0,zAl])/\l = [])\/∃ k v,n0 <= k/\l ≠ []/\H[r]? = some (.box [.ptr r 0 0,.os k v 0 l.length])/\H[k]? = some (.barr u8T v l))
def Kp (n0 r : Nat) (H H' : zB) : Prop := H.length <= H'.length/\(∀ i,i < n0->H'[i]? = H[i]?)/\∀ i cs,i ≠ r->H[i]? = some (.box cs)->H'[i]? = some (.box cs)
theorem Kp.refl (n0 r : Nat) (H : zB) : Kp n0 r H H := ⟨zYH _,fun _ _ => rfl,fun _ _ _ h => h⟩
theorem Kp.trans {n0 r : Nat} {A B C : zB} (h : Kp n0 r A B) (k : Kp n0 r B C) : Kp n0 r A C := ⟨zZL h.1 k.1,fun i hi => (k.2.1 i hi).trans (h.2.1 i hi),fun i cs hi hc => k.2.2 i cs hi (h.2.2 i cs hi hc)⟩
theorem zTC (n0 r : Nat) (l s : List UInt8) (H : zB) (hb : BSt n0 r l H) (hn : n0 <= H.length) (hl : l.length + s.length <= 140737488355328) :
  ACall Tryz.prog 34 [.ptr r 0 0,str s] H fun x H' => x = .tup [int s.length,.v .nilIface]/\BSt n0 r (l ++ s) H'/\Kp n0 r H H' := by
 obtain ⟨hr0,⟨hr,rfl⟩ | ⟨hr,rfl⟩ | ⟨k,v,hk0,hl0,hr,hk⟩⟩ := hb
 ·have hlt : r < H.length := (zYr.1 hr).1
  refine enter Tryz.func34 L34_ok (zYu rfl) ?_
  simp -implicitDefEqProofs (disch := omega) only [L34,zI,zT,zAg,zAG,zZ,zU,push_cast,simprocAttr,↓reduceIte,zYp]
  refine zAb (zN6 r zAl H hr) ?_
  rintro x H' ⟨rfl,rfl⟩
  have h1 : (H.set r (.box [.ptr r 0 0,zAl]))[r]? = some (.box [.ptr r 0 0,zAl]) := by rw [zYU hlt]
  have h2 : ∀ (A B : HO) l,(H.set r A ++ l).set r B = H.set r B ++ l := fun A B l => by rw [zZ0 _ _ (by simpa using hlt),List.set_set]
  have h3 : ∀ (A : HO) l,(H.set r A ++ l)[r]? = some A := fun A l => by rw [zYD (by simpa using hlt),zYU hlt]
  have h4 : ∀ (A : HO),(H.set r A).length = H.length := fun A => zYP ..
  have h5 : ∀ (A B : HO),(H.set r A).set r B = H.set r B := fun A B => List.set_set ..
  simp only [zYw,zY0] at hl
  by_cases hs : s = []
  ·subst hs
   repeat' (simp -implicitDefEqProofs (disch := omega) only [h1,h5,splice,zYw,push_cast,simprocAttr,↓reduceIte,zYp])
   refine ⟨⟨hr0,.inr (.inl ⟨h1,rfl⟩)⟩,by simp,fun i hi => ?_,fun i cs hi hc => ?_⟩
   ·rw [zYL (by omega)]
   ·rw [zYL (fun e => hi e.symm)]; exact hc
  ·repeat' (first | refine zYt (by omega) ?_ | simp -implicitDefEqProofs (disch := omega) only [h1,h2,h3,h4,splice,zE8 u8T hs,push_cast,simprocAttr,↓reduceIte,zYp])
   refine ⟨⟨hr0,.inr (.inr ⟨H.length,0,hn,by simpa using hs,?_,?_⟩)⟩,?_,?_,?_⟩
   ·rw [zYD (by simpa using hlt),zYU hlt]
   ·rw [zYz (by simp)]; simp
   ·simp
   ·intro i hi
    rw [zYD (by simp; omega),zYL (by omega)]
   ·intro i cs hi hc
    have := (zYr.1 hc).1
    rw [zYD (by simpa using this),zYL (fun e => hi e.symm)]
    exact hc
 ·have hlt : r < H.length := (zYr.1 hr).1
  refine enter Tryz.func34 L34_ok (zYu rfl) ?_
  simp -implicitDefEqProofs (disch := omega) only [L34,zI,zT,zAg,zAG,zZ,zU,push_cast,simprocAttr,↓reduceIte,zYp]
  refine zAb (zKK r zAl H hr) ?_
  rintro x H' ⟨rfl,hH⟩
  rw [hH]
  clear hH H'
  have h3 : ∀ l,(H ++ l)[r]? = some (HO.box [.ptr r 0 0,zAl]) := fun l => by rw [zYD hlt]; exact hr
  have h2 : ∀ (B : HO) l,(H ++ l).set r B = H.set r B ++ l := fun B l => by rw [zZ0 _ _ hlt]
  simp only [zYw,zY0] at hl
  by_cases hs : s = []
  ·subst hs
   repeat' (simp -implicitDefEqProofs (disch := omega) only [hr,splice,zYw,push_cast,simprocAttr,↓reduceIte,zYp])
   refine ⟨⟨hr0,.inr (.inl ⟨by rw [zYU hlt],rfl⟩)⟩,by simp,fun i hi => ?_,fun i cs hi hc => ?_⟩
   ·rw [zYL (by omega)]
   ·rw [zYL (fun e => hi e.symm)]; exact hc
  ·repeat' (first | refine zYt (by omega) ?_ | simp -implicitDefEqProofs (disch := omega) only [hr,h2,h3,splice,zE8 u8T hs,push_cast,simprocAttr,↓reduceIte,zYp])
   refine ⟨⟨hr0,.inr (.inr ⟨H.length,0,hn,by simpa using hs,?_,?_⟩)⟩,?_,?_,?_⟩
   ·rw [zYD (by simpa using hlt),zYU hlt]
   ·rw [zYz (by simp)]; simp
   ·simp
   ·intro i hi
    rw [zYD (by simp; omega),zYL (by omega)]
   ·intro i cs hi hc
    have := (zYr.1 hc).1
    rw [zYD (by simpa using this),zYL (fun e => hi e.symm)]
    exact hc
 ·have hlt : r < H.length := (zYr.1 hr).1
  have hkl : k < H.length := (zYr.1 hk).1
  have hne : r ≠ k := fun e => by subst e; rw [hr] at hk; cases hk
  refine enter Tryz.func34 L34_ok (zYu rfl) ?_
  simp -implicitDefEqProofs (disch := omega) only [L34,zI,zT,zAg,zAG,zZ,zU,push_cast,simprocAttr,↓reduceIte,zYp]
  refine zAb (zKK r _ H hr) ?_
  rintro x H' ⟨rfl,hH⟩
  rw [hH]
  clear hH H'
  have h2 : ∀ A : HO,(H.set k A)[r]? = some (.box [.ptr r 0 0,.os k v 0 l.length]) := fun A => by rw [zYL (fun e => hne e.symm)]; exact hr
  repeat' (first | refine zYt (by omega) ?_ | simp -implicitDefEqProofs (disch := omega) only [hr,hk,h2,splice,push_cast,simprocAttr,↓reduceIte,zYp])
  refine ⟨⟨hr0,.inr (.inr ⟨k,v + 1,hk0,by simp [hl0],?_,?_⟩)⟩,?_,?_,?_⟩
  ·rw [zYU (by simpa using hlt),zYF]
  ·rw [zYL hne,zYU hkl]
  ·simp
  ·intro i hi
   rw [zYL (by omega),zYL (by omega)]
  ·intro i cs hi hc
   have hik : k ≠ i := fun e => by subst e; rw [hk] at hc; cases hc
   rw [zYL (fun e => hi e.symm),zYL hik]
   exact hc
theorem zTR : Go.Proofs.Lays.n169 Tryz.prog bldRen := {
 mixed := by kernel_rfl
 f169 := Tryz.func41.trans (congrArg some (by kernel_rfl))
 t0 := Tryz.underlying0
 a0 := Tryz.isAgg0
 z0 := Tryz.sizeOf0
 v0 := Tryz.zeroValue0
 t3 := Tryz.underlying3
 a3 := Tryz.isAgg3
 z3 := Tryz.sizeOf3
 v3 := Tryz.zeroValue3
 t9 := Tryz.underlying9
 a9 := Tryz.isAgg9
 z9 := Tryz.sizeOf9
 v9 := Tryz.zeroValue9
 t37 := Tryz.underlying80
 a37 := Tryz.isAgg80
 z37 := Tryz.sizeOf80
 v37 := Tryz.zeroValue80
 t70 := Tryz.underlying79
 a70 := Tryz.isAgg79
 z70 := Tryz.sizeOf79
 v70 := Tryz.zeroValue79
 t72 := Tryz.underlying82
 a72 := Tryz.isAgg82
 z72 := Tryz.sizeOf82
 v72 := Tryz.zeroValue82
 t127 := Tryz.underlying124
 a127 := Tryz.isAgg124
 z127 := Tryz.sizeOf124
 v127 := Tryz.zeroValue124 }
theorem zEn {P : Program} (w : World) (pt it ty e : TypeId) (hp : P.underlying pt = some (.pointer e)) (g o cells : Nat) (hsh : w.shape? g = some (e,cells)) (hc : P.cellsOf e = 1) (l : List UInt8) (h0 : l ≠ []) (hn : o + l.length <= cells) (h63 : l.length <= 9223372036854775807)
  (hlies : liesAt P P.depth e (cells / P.cellsOf e) o e l.length = true)
  (hcell : ∀ j x,l[j]? = some x->w.cell? ((⟨g,o,none⟩ : Addr).add j) = some (.int .u8 x.toNat)) :
  (Builtin.unsafeString_ #[pt,it] ty #[.pointer (some ⟨g,o,none⟩),.int .i64 l.length]).run P w = .ok (.string ⟨l.toArray⟩) (w.freeze ⟨g,o,none⟩ l.length) := by
 have hl : l.length ≠ 0 := by simpa using h0
 have hlb := Go.Lib.run_loadBytes (P := P) w l ⟨g,o,none⟩ .empty hcell
 have h63' : ¬ (9223372036854775807 : Int) < (l.length : Int) := by omega
 have hdef : Builtin.unsafeString_ #[pt,it] ty #[.pointer (some ⟨g,o,none⟩),.int .i64 l.length] =
   (do
    let n <- asInt (.int .i64 l.length)
    if n < 0 then runtimePanic (.error "unsafe.String: len out of range")
    if n > IntKind.i64.max then unsupported (.unsafePointer "String: a length above the largest int")
    if n = 0 then pure (.string .empty)
    else if <- variablesAt ⟨g,o,none⟩ (<- elemOf pt) n.toNat then do
     let s <- loadBytes ⟨g,o,none⟩ .empty n.toNat
     freeze ⟨g,o,none⟩ n.toNat
     pure (.string s)
    else unsupported (.unsafePointer "String: not so many bytes at ptr")) := rfl
 rw [hdef]
 have hmax : IntKind.i64.max = 9223372036854775807 := rfl
 have hneg : ¬ (l.length : Int) < 0 := by omega
 simp [asInt,asIntOf,hmax,h63',hneg,hl,variablesAt,hsh,elemOf,run_underlying hp,hlies,hlb]
theorem zLs {P : Program} {e : TypeId} (hc : P.cellsOf e = 1) (count o n : Nat) (hn : o + n <= count) : liesAt P P.depth e count o e n = true := by
 have hd : P.depth = (2 * (P.types.size + Made.depth) + 1) + 1 := rfl
 rw [hd]
 simp only [liesAt,zZq]
 left
 rw [hd]
 simp [rowAt,hc,sameLayout]
 try omega
theorem zFK (b : Nat) (p v : Value) (l : List UInt8) (w : World) {T : TypeId} {fr0 : Nat × Nat} (hbk : w.heap[b]? = some (.cells #[p,v] T fr0))
    (hv : (v = .slice none 0 0/\l = [])\/(l ≠ []/\∃ g o cap cur fr,v = .slice (some ⟨g,o,none⟩) l.length cap/\l.length <= cap/\w.heap[g]? = some (.cells cur u8T fr)/\o + l.length <= cur.size/\l.length <= 140737488355328/\∀ (i : Nat) (x : UInt8),l[i]? = some x->cur[o + i]? = some (.int .u8 x.toNat))) :
    Calls Tryz.prog 41 #[.pointer (some ⟨b,0,none⟩)] w fun e w' => e = .returned (.string (mkS l))/\Same w w'/\∀ k,k < w.heap.size->(∀ a n c,v = .slice (some a) n c->k ≠ a.block)->w'.heap[k]? = w.heap[k]? := by
  have L := zTR
  have mixed := L.mixed
  have t72 := L.t72; have a72 := L.a72; have z72 := L.z72; have v72 := L.v72; have u72 := run_underlying L.t72
  have t70 := L.t70; have a70 := L.a70; have z70 := L.z70; have v70 := L.v70; have u70 := run_underlying L.t70
  have t37 := L.t37; have a37 := L.a37; have z37 := L.z37; have v37 := L.v37; have u37 := run_underlying L.t37
  have t127 := L.t127; have a127 := L.a127; have z127 := L.z127; have v127 := L.v127; have u127 := run_underlying L.t127
  have t3 := L.t3; have a3 := L.a3; have z3 := L.z3; have v3 := L.v3; have u3 := run_underlying L.t3
  have t9 := L.t9; have a9 := L.a9; have z9 := L.z9; have v9 := L.v9; have u9 := run_underlying L.t9
  rcases hv with ⟨rfl,rfl⟩ | ⟨h0,g,o,cap,cur,fr,rfl,hlc,hg,hfit,hle,hcells⟩
  · have hUS : ∀ (W : World) (q : Option Addr),(Builtin.unsafeString_ #[(bldRen.t 127),(bldRen.t 3)] (bldRen.t 9) #[.pointer q,.int .i64 0]).run Tryz.prog W = .ok (.string .empty) W := fun W q => Go.Lib.run_unsafeString_none W _ _ _ q
    have c1 : w.drew.cell? ⟨b,1,none⟩ = some (.slice none 0 0) := by
      have : w.drew.heap[b]? = some (.cells #[p,.slice none 0 0] T fr0) := hbk
      rw [Go.Lib.cell_of_heap this]; rfl
    have hSD : (Builtin.unsafeSliceData_ #[(bldRen.t 37)] (bldRen.t 127) #[.slice none 0 0]).run Tryz.prog w.drew = .ok (.pointer none) w.drew := rfl
    go_enter L.f169,Go.Proofs.Body.n169_ntmps bldRen
    go_wp2
    go_region_o
    all_goals (go_wp2; go_ret; exact ⟨rfl,Same.drew _,fun _ _ _ => rfl⟩)
  · have hcl : Tryz.prog.cellsOf u8T = 1 := by kernel_rfl
    have hl0 : l.length ≠ 0 := by simpa using h0
    have c1 : w.drew.cell? ⟨b,1,none⟩ = some (.slice (some ⟨g,o,none⟩) l.length cap) := by
      have : w.drew.heap[b]? = some (.cells #[p,.slice (some ⟨g,o,none⟩) l.length cap] T fr0) := hbk
      rw [Go.Lib.cell_of_heap this]; rfl
    have hSD : (Builtin.unsafeSliceData_ #[(bldRen.t 37)] (bldRen.t 127) #[.slice (some ⟨g,o,none⟩) l.length cap]).run Tryz.prog w.drew = .ok (.pointer (some ⟨g,o,none⟩)) w.drew :=
      Go.Lib.run_unsafeSliceData_row _ _ _ _ _ _ (by omega)
    have hUS : (Builtin.unsafeString_ #[(bldRen.t 127),(bldRen.t 3)] (bldRen.t 9) #[.pointer (some ⟨g,o,none⟩),.int .i64 l.length]).run Tryz.prog w.drew = .ok (.string ⟨l.toArray⟩) (w.drew.freeze ⟨g,o,none⟩ l.length) := by
      have hg' : w.drew.heap[g]? = some (.cells cur u8T fr) := hg
      refine zEn w.drew _ _ _ u8T L.t127 g o cur.size (by simp [World.shape?,hg']) hcl l h0 hfit (by omega) (zLs hcl _ _ _ (by rw [hcl]; simpa using hfit)) ?_
      intro j x hx
      rw [Addr.add_lit,zAJ hg']
      exact hcells j x hx
    go_enter L.f169,Go.Proofs.Body.n169_ntmps bldRen
    go_wp2
    go_region_o
    all_goals (go_wp2; go_ret; refine ⟨rfl,?_,fun k _ hk => ?_⟩)
    all_goals first
      | (unfold World.freeze; rw [if_neg hl0]; exact ⟨rfl,rfl,rfl,by simp⟩)
      | (unfold World.freeze
         rw [if_neg hl0]
         simp only [zzan]
         rw [if_neg (fun e => hk _ _ _ rfl e.symm)]
         rfl)
theorem zRi (n0 r : Nat) (l : List UInt8) (H : zB) (hb : BSt n0 r l H) (hl : l.length <= 140737488355328) : ACall Tryz.prog 41 [.ptr r 0 0] H fun x H' => x = str l/\Kp n0 r H H' := by
 refine ⟨⟨_,Tryz.func41,by kernel_rfl,by kernel_rfl⟩,fun X ρ w vs hrel hargs => ?_⟩
 obtain ⟨a,rfl,ha⟩ := zRL hargs
 have nilcase : ∀ x0,H[r]? = some (.box [x0,zAl])->l = []->Calls Tryz.prog 41 #[a] w fun e w' => ∃ v x H' ρ',e = .returned v/\(x = str l/\Kp n0 r H H')/\HRel w' X ρ' H'/\Rep w' (Mut X ρ' H'.length) ρ' H'.length x v/\Fut w ρ H.length w' ρ' H'.length := by
  intro x0 hr hl0
  obtain ⟨hrl,b,c,e,fr,hblk,rfl,hh,hcl,hfr,hver,hrep⟩ := zCN hrel ha hr rfl
  obtain ⟨c0,c1,rfl⟩ : ∃ c0 c1,c = #[c0,c1] := by
   match c,hcl with
   | ⟨[a,b]⟩,_ => exact ⟨a,b,rfl⟩
  have h1 := zMv (hrep 1 zAl c1 rfl rfl).1
  subst h1
  refine (zFK b c0 _ l w hh (.inl ⟨rfl,hl0⟩)).mono ?_
  rintro en w' ⟨rfl,hs,hk⟩
  obtain ⟨g1,g2⟩ := hrel.more hs fun k hk' => hk k hk' fun a n c hc => by cases hc
  exact ⟨_,_,H,ρ,rfl,⟨rfl,Kp.refl _ _ _⟩,g1,.v _ _,g2⟩
 obtain ⟨hr0,⟨hr,hl0⟩ | ⟨hr,hl0⟩ | ⟨k,v,hk0,hl0,hr,hk⟩⟩ := hb
 ·exact nilcase _ hr hl0
 ·exact nilcase _ hr hl0
 ·obtain ⟨hrl,b,c,e,fr,hblk,rfl,hh,hcl,hfr,hver,hrep⟩ := zCN hrel ha hr rfl
  obtain ⟨c0,c1,rfl⟩ : ∃ c0 c1,c = #[c0,c1] := by
   match c,hcl with
   | ⟨[a,b]⟩,_ => exact ⟨a,b,rfl⟩
  have h1 := (hrep 1 (.os k v 0 l.length) c1 rfl rfl).1
  obtain ⟨hkl,hver',hsz',hext,⟨a,cap,rfl,hlc,hcap⟩,hbk⟩ := zMZ hrel h1 hk rfl
  have hll : l.length ≠ 0 := by simpa using hl0
  rcases hcap with hc0 | ⟨g,o,hg,rfl,he⟩
  ·omega
  rw [hg] at hbk
  obtain ⟨cur,fr2,hh2,hsize,hfr2,hcells⟩ := hbk
  rw [hsz'] at he
  simp only [zzaT,zZg,zY0,zzaX] at he hh
  refine (zFK b c0 _ l w hh (.inr ⟨hl0,g,o,cap,cur,fr2,rfl,hlc,hh2,by omega,hl,hcells⟩)).mono ?_
  rintro en w' ⟨rfl,hs,hkp⟩
  obtain ⟨ρ',hρ,g1,g2⟩ := hrel.setAt (w' := w') hkl (ρ k) .dead hs (.inl rfl) (fun b o hb => .inl ⟨o,hb⟩)
   (fun b' hb' hne => hkp b' hb' fun a n c hc => by
    cases hc
    exact fun e => hne o (by rw [e]; exact hg))
   (fun ρ' hρ' hf => trivial)
  refine ⟨_,_,H.set k .dead,ρ',rfl,⟨rfl,by simp,fun i hi => ?_,fun i cs hi hc => ?_⟩,g1,.v _ _,g2⟩
  ·rw [zYL (by omega)]
  ·rw [zYL (fun e => by subst e; rw [hk] at hc; cases hc)]
   exact hc
end Go.Proofs.YtbibhcmcjldhdaaGreatDoor
namespace Go.Proofs.YtbibhcmcjldhdaaGreatDoor
open Go Go.Ax
set_option maxRecDepth 100000
set_option linter.unusedSimpArgs false
set_option maxHeartbeats 4000000
def L13f : LFn := ⟨59,[(.tmp 2)],(sO [oX 1 (.box false (.t 0)),oX 2 (.mv (.c (.v (.string (mkS [])))))] (.seq (sO [oA 11 1 1,oX 12 (y1 14 11),oX 13 (.not (.t 12))] (cD 13 (sO [oX 2 (.mv (.c (.v (.string (mkS [])))))] .ret) .skip)) (sO [oX 3 (.allocb 82 [(.v (.pointer none)),zAl])] (sO [oX 14 (.mkfn (.func 33) [] [(.t 3)]),oX 4 (.alloc [(.v .nilFunc)]),oS 1 4 14] (sO [oX 5 (.alloc [(.v .nilFunc)])] (sO [oX 15 (.mkfn (.func 37) [] [(.t 4),(.t 5)]),oS 1 5 15] (.seq (sO [oD 16 0 1,oL 17 16,oX 18 (.len .slc (.t 17)),oC 19 0] (.block 0 (.loop (sO [oB 20 .lss 19 18] (.seq (cD 20 .skip (.exit 0)) (.seq (.block 1 (sO [oI 21 6 17 19,oA 22 6 21,oX 7 (.alloc [(.v (.string (mkS []))),(int 0),(int 0),(int 0),zAl,zAl]),oS 6 7 22] (sO [oD 23 0 7,oL 24 23,oX 25 (.bsl false 1 2 [(.v (.string (mkS [])))] [(0,(.c (.v (.string (mkS [112,114,111,99]))))),(1,(.t 24))]),oM 8 25] (.seq (sO [oD 26 1 7,oL 27 26,oD 28 2 7,oL 29 28,oD 30 3 7,oL 31 30,oX 32 (.bsl false 1 3 [(int 0)] [(0,(.t 27)),(1,(.t 29)),(2,(.t 31))]),oD 33 4 7,oL 34 33,oX 35 (.append 1 8 (.t 32) (.t 34)),oX 36 (.len .slc (.t 35)),oC 37 0] (.block 2 (.loop (sO [oB 38 .lss 37 36] (.seq (cD 38 .skip (.exit 2)) (.seq (.block 3 (sO [oI 39 1 35 37,oL 40 39,oM 10 40] (.ops [oM 41 8,oM 42 10,oX 43 (y1 40 42),oX 44 (.bsl true 1 1 [(.v (.string (mkS [])))] [(0,(.t 43))]),oX 45 (.append 1 16 (.t 41) (.t 44)),oM 8 45]))) (.ops [oV 46 .add 37 1,oM 37 46]))))))) (sO [oL 47 4,oM 48 8,oX 48 (.frz (.t 48)),oX 49 (.call (.t 47) [(kI 0),(.t 48)])] (sO [oL 50 5,oD 51 5 7,oL 52 51,oX 53 (.call (.t 50) [(kI 1),(.t 52)])] (.ops [oL 54 4,oX 55 (.bsl true 1 1 [(.v (.string (mkS [])))] [(0,(.c (.v (.string (mkS [101,110,100])))))]),oX 56 (.call (.t 54) [(kI 0),(.t 55)])]))))))) (.ops [oV 57 .add 19 1,oM 19 57]))))))) (sO [oX 58 (y1 41 3),oM 2 58] .ret))))))))⟩
theorem L13f_ok : zAi Tryz.prog Tryz.f13 [⟨16,2,(.pre 48 (.frz (.t 48)))⟩,⟨3,0,.imm⟩,⟨14,3,.imm⟩,⟨18,1,.imm⟩] = some L13f := by kernel_rfl
def L33f : LFn := ⟨12,[],(.ops [oM 5 0,oX 6 (cF 35 [(.c (.v (.string (mkS [32,32])))),(.t 5)]),oM 7 1,oX 8 (cF 36 [(.t 7),(.c (.v (.string (mkS [32]))))]),oX 9 (.bin .str .add (.t 6) (.t 8)),oX 10 (.bin .str .add (.t 9) (.c (.v (.string (mkS [10]))))),oX 11 (y2 34 2 10)])⟩
theorem L33f_ok : zAi Tryz.prog Tryz.f33 [] = some L33f := by kernel_rfl
def L37f : LFn := ⟨89,[],(sO [oM 14 1,oX 15 (.len .slc (.t 14)),oC 16 0] (.block 0 (.loop (sO [oB 17 .lss 16 15] (.seq (cD 17 .skip (.exit 0)) (.seq (.block 1 (sO [oI 18 5 14 16,oA 19 5 18,oX 7 (.alloc [(int 0),(int 0),(int 0),zAl,zAl]),oS 5 7 19] (.seq (.draw [oD 20 3 7,oL 21 20,oD 22 4 7,oL 23 22,oM 8 21,oM 9 23,oX 10 (.mv (.c (.v (.string (mkS [101,108,115,101])))))] []) (.seq (sO [oD 24 0 7,oL 25 24,oV 26 .eql 25 19] (cD 26 (.draw [oD 27 4 7,oL 28 27,oD 29 3 7,oL 30 29,oM 8 28,oM 9 30,oX 10 (.mv (.c (.v (.string (mkS [100,111])))))] []) .skip)) (.seq (.draw [oX 31 (y0 38),oD 32 0 7,oL 33 32,oI 34 1 31 33,oL 35 34] [oX 36 (.bsl false 1 1 [(.v (.string (mkS [])))] [(0,(.t 35))]),oM 11 36]) (.seq (.seq (.drawA [oD 37 1 7,oL 38 37,oD 39 2 7,oL 40 39,oX 41 (.bsl true 1 2 [(int 0)] [(0,(.t 38)),(1,(.t 40))]),oD 42 0 7,oL 43 42,oX 44 (y1 39 43),oX 45 (.slicev .slc 1 (.t 41) none (some (.t 44))),oX 46 (.len .slc (.t 45)),oC 47 0] [] []) (.block 2 (.loop (sO [oB 48 .lss 47 46] (.seq (cD 48 .skip (.exit 2)) (.seq (.block 3 (sO [oI 49 1 45 47,oL 50 49,oM 13 50] (.ops [oM 51 11,oM 52 13,oX 53 (y1 40 52),oX 54 (.bsl true 1 1 [(.v (.string (mkS [])))] [(0,(.t 53))]),oX 55 (.append 1 16 (.t 51) (.t 54)),oM 11 55]))) (.ops [oV 56 .add 47 1,oM 47 56]))))))) (sO [oL 57 2,oM 58 0,oM 59 11,oX 59 (.frz (.t 59)),oX 60 (.call (.t 57) [(.t 58),(.t 59)])] (sO [oD 61 0 7,oL 62 61,oV 63 .eql 62 18,oM 64 63,oF 65 64 (.faddr 0 (.t 7)),oF 66 64 (.load false 1 (.t 65)),oF 67 64 (bI .eql (.t 66) (kI 19)),oP 68 64 (kB true) (.t 67)] (cD 68 (sO [oL 69 3,oM 70 0,oV 71 .add 70 1,oM 72 8,oX 73 (.call (.t 69) [(.t 71),(.t 72)])] (sO [oL 74 2,oM 75 0,oM 76 10,oX 77 (.bsl true 1 1 [(.v (.string (mkS [])))] [(0,(.t 76))]),oX 78 (.call (.t 74) [(.t 75),(.t 77)])] (sO [oL 79 3,oM 80 0,oV 81 .add 80 1,oM 82 9,oX 83 (.call (.t 79) [(.t 81),(.t 82)])] (.ops [oL 84 2,oM 85 0,oX 86 (.bsl true 1 1 [(.v (.string (mkS [])))] [(0,(.c (.v (.string (mkS [101,110,100])))))]),oX 87 (.call (.t 84) [(.t 85),(.t 86)])])))) .skip))))))))) (.ops [oV 88 .add 16 1,oM 16 88])))))))⟩
theorem L37f_ok : zAi Tryz.prog Tryz.f37 [⟨12,3,(.pre 59 (.frz (.t 59)))⟩,⟨7,4,.imm⟩,⟨7,8,.imm⟩,⟨10,3,.imm⟩,⟨15,3,.imm⟩,⟨17,2,.imm⟩,⟨6,5,.tail⟩,⟨7,0,(.drw [])⟩] = some L37f := by kernel_rfl
end Go.Proofs.YtbibhcmcjldhdaaGreatDoor
namespace Go.Proofs.YtbibhcmcjldhdaaGreatDoor
open Go Go.Ax Go.RowKit
set_option maxRecDepth 100000
set_option linter.unusedSimpArgs false
set_option linter.unusedVariables false
set_option maxHeartbeats 4000000
def zDm (d : Nat) (ws : Ln) : Wd := Lib.repeatL [32,32] d ++ (Lib.join ws [32] ++ [10])
theorem zRj (s : List UInt8) (c : Nat) (hc : c <= 9223372036854775807) (hl : s.length * c <= 140737488355328) (H : zB) :
  ACall Tryz.prog 35 [str s,int c] H fun x H' => x = str (Lib.repeatL s c)/\H' = H := by
 refine ⟨⟨_,Tryz.func35,by kernel_rfl,by kernel_rfl⟩,fun X ρ w vs hrel hargs => ?_⟩
 obtain ⟨a,b,rfl,ha,hb⟩ := zFr hargs
 have ha := zEg ha
 have hb := zEg hb
 subst ha
 subst hb
 refine (Tryz.strings_Repeat (mkS s) c w hc (by rw [zO8]; exact hl)).mono ?_
 rintro e w' ⟨rfl,hbel⟩
 obtain ⟨f1,f2⟩ := hrel.more ⟨hbel.os,hbel.tape,hbel.output,hbel.size⟩ hbel.block
 exact ⟨_,_,H,ρ,rfl,⟨rfl,rfl⟩,f1,.v _ _,f2⟩
def zDI : Ln->Nat
 | [] => 0
 | w :: l => w.length + 1 + zDI l
theorem zF8 : ∀ l : Ln,(Lib.join l [32]).length <= zDI l
 | [] => by simp [Lib.join,zDI]
 | [w] => by rw [Lib.join_one]; simp [zDI]
 | w :: x :: l => by
  have := zF8 (x :: l)
  have e : Lib.join (w :: x :: l) [32] = w ++ 32 :: Lib.join (x :: l) [32] := by simp [Lib.join,List.intercalate,List.intersperse]
  rw [e]
  simp only [zYF,zYs,zDI] at this ⊢
  omega
theorem zNt (d : Nat) (ws : Ln) : (zDm d ws).length <= 2 * d + zDI ws + 1 := by
 have := zF8 ws
 unfold zDm
 simp only [zYF,Lib.repeatL_length,zYs,zYw]
 omega
theorem zIA (n0 r : Nat) (l : List UInt8) (d : Nat) (ws : Ln) (H : zB) (hb : BSt n0 r l H) (hn : n0 <= H.length) (hd : d <= 1000000) (hw : ws.length <= 1000000) (hl : l.length + (zDI ws + 2 * d + 1) <= 140737488355328) :
  ACall Tryz.prog 33 [int d,.sl 1 (ws.map fun x => [str x]),.ptr r 0 0] H fun x H' => x = .tup []/\BSt n0 r (l ++ zDm d ws) H'/\Kp n0 r H H' := by
 have hj := zF8 ws
 have hlt := zNt d ws
 refine enter Tryz.func33 L33f_ok (zYu rfl) ?_
 have cR := fun H => zRj [32,32] d (by omega) (by simp only [zYs,zYw]; omega) H
 have cJ := fun H => zX2 ws [32] (by omega) (by omega) H
 repeat' (first | refine zA (cR _) ?_ | refine zA (cJ _) ?_ | simp -implicitDefEqProofs (disch := omega) only [L33f,push_cast,simprocAttr,↓reduceIte])
 have hr := Lib.repeatL_length [32,32] d
 simp only [zYs,zYw] at hr
 refine ⟨by omega,by omega,?_⟩
 refine zAb (zTC n0 r l (zDm d ws) H hb hn (by omega)) ?_
 rintro x G ⟨rfl,h1,h2⟩
 repeat' (simp -implicitDefEqProofs (disch := omega) only [push_cast])
 exact ⟨by simp [zAH],rfl,h1,h2⟩
theorem zL1 (H : zB) : ACall Tryz.prog 38 [] H fun x H' => x = .sl 1 (opsW.map fun w => [str w])/\H' = H := by
 refine ACall.drop (R := fun x => x = .sl 1 (opsW.map fun w => [str w])) ?_
 refine enter Tryz.func38 L38_ok (zYu rfl) ?_
 simp -implicitDefEqProofs (disch := omega) only [L38,zC,zO,zH,zJ,zBQ,zY,zBt,zBu,zBs,zA8,opsW,zI,zT,zAg,zAG,zZ,zU,push_cast,simprocAttr,↓reduceIte,zYp]
 all_goals exact ⟨_,rfl⟩
theorem zGJ (o : Nat) (H : zB) : ACall Tryz.prog 39 [int o] H fun x H' => x = int (zCl o)/\H' = H := by
 refine ACall.drop (R := fun x => x = int (zCl o)) ?_
 refine enter Tryz.func39 L39_ok (zYu rfl) ?_
 unfold zCl
 by_cases h0 : o = 0
 ·repeat' (first | refine zYt (by omega) ?_ | simp -implicitDefEqProofs (disch := omega) only [L39,zZ,push_cast,simprocAttr,↓reduceIte] | split)
  all_goals exact ⟨[],(zY1 _).symm⟩
 by_cases h1 : o = 1
 ·repeat' (first | refine zYt (by omega) ?_ | simp -implicitDefEqProofs (disch := omega) only [L39,zZ,zU,push_cast,simprocAttr,↓reduceIte] | split)
  all_goals exact ⟨[],(zY1 _).symm⟩
 by_cases h2 : o = 2
 ·repeat' (first | refine zYt (by omega) ?_ | simp -implicitDefEqProofs (disch := omega) only [L39,zZ,zU,push_cast,simprocAttr,↓reduceIte] | split)
  all_goals exact ⟨[],(zY1 _).symm⟩
 by_cases h3 : o = 20
 ·repeat' (first | refine zYt (by omega) ?_ | simp -implicitDefEqProofs (disch := omega) only [L39,zZ,zU,push_cast,simprocAttr,↓reduceIte] | split)
  all_goals exact ⟨[],(zY1 _).symm⟩
 by_cases h4 : o = 3
 ·repeat' (first | refine zYt (by omega) ?_ | simp -implicitDefEqProofs (disch := omega) only [L39,zZ,zU,push_cast,simprocAttr,↓reduceIte] | split)
  all_goals exact ⟨[],(zY1 _).symm⟩
 by_cases h5 : o = 4
 ·repeat' (first | refine zYt (by omega) ?_ | simp -implicitDefEqProofs (disch := omega) only [L39,zZ,zU,push_cast,simprocAttr,↓reduceIte] | split)
  all_goals exact ⟨[],(zY1 _).symm⟩
 repeat' (first | refine zYt (by omega) ?_ | simp -implicitDefEqProofs (disch := omega) only [L39,zU,push_cast,simprocAttr,↓reduceIte] | split)
 all_goals exact ⟨[],(zY1 _).symm⟩
end Go.Proofs.YtbibhcmcjldhdaaGreatDoor
namespace Go.Proofs.YtbibhcmcjldhdaaGreatDoor
open Go Go.Ax
set_option maxRecDepth 100000
set_option linter.unusedSimpArgs false
set_option linter.unusedVariables false
set_option maxHeartbeats 4000000
structure St where
 slots : List Int
 stk : List Int
 cnt : Int
def St.top (s : St) : Int := s.stk.headD 0
def St.push (s : St) (v : Int) : St := ⟨s.slots,v :: s.stk,s.cnt⟩
def St.put (s : St) (i v : Int) : St := ⟨s.slots.set i.toNat v,s.stk,s.cnt⟩
inductive Flow where
 | go
 | ret
 | flt (kind proc num : Int)
inductive CR where
 | ok (l : List Int)
 | flt (kind proc num : Int)
structure Cx where
 ps : List Pr
 w : Int
 L : Int
 k : Nat
 cl : Nat->List Int->Int->CR × Int
abbrev Cx.q (C : Cx) : Pr := C.ps.getD C.k default
def fin (q : Pr) (k : Int) : Flow × St->CR × Int
 | (.flt x y z,s) => (.flt x y z,s.cnt)
 | (.ret,s) => if 0 <= q.res then (.ok s.stk.reverse,s.cnt) else (.ok (q.outs.map fun i => s.slots.getD i.toNat default),s.cnt)
 | (.go,s) => if 0 <= q.res then (.flt 4 k (zQ q.body),s.cnt) else (.ok (q.outs.map fun i => s.slots.getD i.toNat default),s.cnt)
structure TyS (C : Cx) (s : St) (n : Int) : Prop where
 sl : (s.slots.length : Int) = C.q.slots
 sr : ∀ v ∈ s.slots,inI C.w v
 st : ∀ v ∈ s.stk,inI C.w v
 ln : (s.stk.length : Int) = n
section
variable {C : Cx} {s : St} {n : Int}
end
theorem zR (q : Pr) : (prR q).length = 6 := rfl
theorem zCO (q : Pr) : (prR q).take 6 = prR q := rfl
theorem zFT (q : Pr) : c1s (prR q) = true := rfl
theorem zAz (cs : List AV) : cellsOf (.agg cs) = cs := rfl
theorem cntR (l : List Ins) : zQ l <= 1048576->∀ H,zBd 15 [.sl 5 (l.map zAq)] H (int (zQ l : Nat)) := by
 induction l using Ins.indL with
 | h l ih =>
 intro hs H
 refine enter Tryz.func15 L15_ok (zYu rfl) ?_
 have hln := zN l
 repeat' (simp -implicitDefEqProofs (disch := omega) only [L15,push_cast,Nat.reduceAdd])
 refine zW (fun (j : Nat) e' H' => e' 0 = .sl 5 (l.map zAq)/\e' 3 = int (zQ (l.take j) : Nat)/\e' 4 = int j/\H' = H/\j <= l.length) (fun j => l.length - j) 0 ?_ ?_
 ·exact ⟨rfl,rfl,rfl,rfl,zYO _⟩
 rintro j e' H' ⟨h0,h3,h4,rfl,hj⟩
 by_cases hlt : j < l.length
 ·have hk := zAf hlt
  have hb := zAs l (j + 1)
  rw [zAm hlt,zDM] at hb
  have hx := ih _ hk
  repeat' (first | refine zYt (by omega) ?_ | refine zF (hx.1 (by omega) _) rfl ?_ | refine zF (hx.2 (by omega) _) rfl ?_ | simp -implicitDefEqProofs (disch := omega) only [h0,h3,h4,zL,zHD,zYo,zI,push_cast,simprocAttr,↓reduceIte])
  exact .mk (j + 1) ⟨h0,zGU rfl (by rw [zAm hlt,zDM]; omega),rfl,rfl,hlt⟩ (by omega)
 ·have e : j = l.length := by omega
  subst e
  rw [zzai] at h3
  repeat' (simp -implicitDefEqProofs (disch := omega) only [h0,h3,h4,zYo,zT,push_cast,simprocAttr,↓reduceIte])
theorem levR (l : List Ins) : zQ l <= 1048576->∀ H,zBd 17 [.sl 5 (l.map zAq)] H (int (zAK l : Nat)) := by
 induction l using Ins.indL with
 | h l ih =>
 intro hs H
 refine enter Tryz.func17 L17_ok (zYu rfl) ?_
 have hln := zN l
 repeat' (simp -implicitDefEqProofs (disch := omega) only [L17,push_cast,Nat.reduceAdd])
 refine zW (fun (j : Nat) e' H' => e' 0 = .sl 5 (l.map zAq)/\e' 3 = int (zAK (l.take j) : Nat)/\e' 4 = int j/\H' = H/\j <= l.length) (fun j => l.length - j) 0 ?_ ?_
 ·exact ⟨rfl,rfl,rfl,rfl,zYO _⟩
 rintro j e' H' ⟨h0,h3,h4,rfl,hj⟩
 by_cases hlt : j < l.length
 ·have hk := zAf hlt
  have hb := zAs l (j + 1)
  have hb2 := zAe (l.take j)
  have hb3 := zAe (l.getD j default).body
  have hb4 := zAe (l.getD j default).els
  rw [zAm hlt,zDM] at hb
  have hx := ih _ hk
  repeat' (first | refine zYt (by omega) ?_ | refine zF (hx.1 (by omega) _) rfl ?_ | refine zF (hx.2 (by omega) _) rfl ?_ | simp -implicitDefEqProofs (disch := omega) only [h0,h3,h4,zL,zHD,zYo,zI,push_cast,simprocAttr,↓reduceIte] | split)
  all_goals exact .mk (j + 1) ⟨h0,zGU rfl (by rw [zAF hlt,zNG]; omega),rfl,rfl,hlt⟩ (by omega)
 ·have e : j = l.length := by omega
  subst e
  rw [zzai] at h3
  repeat' (simp -implicitDefEqProofs (disch := omega) only [h0,h3,h4,zYo,zT,push_cast,simprocAttr,↓reduceIte])
theorem zPp (q : Pr) (hs : q.outs.length <= 1048576) (H : zB) : zBd 51 [.agg (prR q)] H (int (zCX q)) := by
 refine ACall.drop (R := fun x => x = int (zCX q)) ?_
 refine enter Tryz.func51 L51_ok (zYu rfl) ?_
 unfold zCX
 by_cases h : 0 <= q.res
 ·rw [if_pos h]
  repeat' (simp -implicitDefEqProofs (disch := omega) only [L51,zAz,prR,h,push_cast,simprocAttr,↓reduceIte,zYp])
  exact ⟨_,rfl⟩
 ·rw [if_neg h]
  repeat' (simp -implicitDefEqProofs (disch := omega) only [L51,zAz,prR,h,zYo,push_cast,simprocAttr,↓reduceIte,zYp])
  exact ⟨_,rfl⟩
theorem zAw (l m : List Ins) : (l.isEmpty && m.isEmpty) = decide (l.length = 0/\m.length = 0) := by
 rw [zZJ]
 simp [zzap,zYQ]
theorem zPM (o a b : Int) (l m : List Ins) (slots : Int) (h1 : l.length <= 1048576) (h2 : m.length <= 1048576) (hs : -1048576 <= slots/\slots <= 1048576) (H : zB) : zBd 50 [.agg [int o,int a,int b,.sl 5 (l.map zAq),.sl 5 (m.map zAq)],int slots] H (bool (decide (zS slots o a b (l.isEmpty && m.isEmpty)))) := by
 refine ACall.drop (R := fun y => y = bool (decide (zS slots o a b (l.isEmpty && m.isEmpty)))) ?_
 refine enter Tryz.func50 L50_ok (zYu rfl) ?_
 rw [zAw]
 have hcase : (o < 0)\/(22 < o)\/(o = 0)\/(o = 1)\/(o = 2)\/(o = 3)\/(o = 4)\/o = 20\/o = 18\/o = 19\/(5 <= o/\o <= 22/\¬ o = 18/\¬ o = 19/\¬ o = 20) := by omega
 by_cases he : o = 18\/o = 19\/(l.length = 0/\m.length = 0)
 ·rcases hcase with hc | hc | hc | hc | hc | hc | hc | hc | hc | hc | hc
  ·repeat' (simp -implicitDefEqProofs (disch := omega) only [L50,zAz,zI,push_cast,simprocAttr,↓reduceIte,zYp])
   all_goals (refine ⟨zAN ?_,_,rfl⟩; simp only [zYy,zYM,zZT,true_iff,zZm,zYY,zZ3,iff_true] at *; simp only [zS,zYy]; omega)
  ·repeat' (simp -implicitDefEqProofs (disch := omega) only [L50,zAz,zI,zT,push_cast,simprocAttr,↓reduceIte,zYp])
   all_goals (refine ⟨zAN ?_,_,rfl⟩; simp only [zYy,zYM,zZT,true_iff,zZm,zYY,zZ3,iff_true] at *; simp only [zS,zYy]; omega)
  ·repeat' (first | simp -implicitDefEqProofs (disch := omega) only [L50,zAz,zYo,zT,zAg,zAG,zZ,zU,push_cast,simprocAttr,↓reduceIte,zYp] | split)
   all_goals (refine ⟨zAN ?_,_,rfl⟩; simp only [zYy,zYM,zZT,true_iff,zZm,zYY,zZ3,iff_true] at *; simp only [zS,zYy]; omega)
  ·repeat' (first | simp -implicitDefEqProofs (disch := omega) only [L50,zAz,zYo,zI,zT,zAg,zAG,zZ,zU,push_cast,simprocAttr,↓reduceIte,zYp] | split)
   all_goals (refine ⟨zAN ?_,_,rfl⟩; simp only [zYy,zYM,zZT,true_iff,zZm,zYY,zZ3,iff_true] at *; simp only [zS,zYy]; omega)
  ·repeat' (first | simp -implicitDefEqProofs (disch := omega) only [L50,zAz,zYo,zI,zT,zAg,zAG,zZ,zU,push_cast,simprocAttr,↓reduceIte,zYp] | split)
   all_goals (refine ⟨zAN ?_,_,rfl⟩; simp only [zYy,zYM,zZT,true_iff,zZm,zYY,zZ3,iff_true] at *; simp only [zS,zYy]; omega)
  ·repeat' (first | simp -implicitDefEqProofs (disch := omega) only [L50,zAz,zYo,zI,zT,zAg,zAG,zZ,zU,push_cast,simprocAttr,↓reduceIte,zYp] | split)
   all_goals (refine ⟨zAN ?_,_,rfl⟩; simp only [zYy,zYM,zZT,true_iff,zZm,zYY,zZ3,iff_true] at *; simp only [zS,zYy]; omega)
  ·repeat' (first | simp -implicitDefEqProofs (disch := omega) only [L50,zAz,zYo,zI,zT,zAg,zAG,zZ,zU,push_cast,simprocAttr,↓reduceIte,zYp] | split)
   all_goals (refine ⟨zAN ?_,_,rfl⟩; simp only [zYy,zYM,zZT,true_iff,zZm,zYY,zZ3,iff_true] at *; simp only [zS,zYy]; omega)
  ·repeat' (simp -implicitDefEqProofs (disch := omega) only [L50,zAz,zYo,zT,zZ,zU,push_cast,simprocAttr,↓reduceIte,zYp])
   all_goals (refine ⟨zAN ?_,_,rfl⟩; simp only [zYy,zYM,zZT,true_iff,zZm,zYY,zZ3,iff_true] at *; simp only [zS,zYy]; omega)
  ·repeat' (first | simp -implicitDefEqProofs (disch := omega) only [L50,zAz,zT,zZ,zU,push_cast,simprocAttr,↓reduceIte,zYp] | split)
   all_goals (refine ⟨zAN ?_,_,rfl⟩; simp only [zYy,zYM,zZT,true_iff,zZm,zYY,zZ3,iff_true] at *; simp only [zS,zYy]; omega)
  ·repeat' (first | simp -implicitDefEqProofs (disch := omega) only [L50,zAz,zT,zZ,zU,push_cast,simprocAttr,↓reduceIte,zYp] | split)
   all_goals (refine ⟨zAN ?_,_,rfl⟩; simp only [zYy,zYM,zZT,true_iff,zZm,zYY,zZ3,iff_true] at *; simp only [zS,zYy]; omega)
  ·repeat' (first | simp -implicitDefEqProofs (disch := omega) only [L50,zAz,zYo,zT,zZ,zU,push_cast,simprocAttr,↓reduceIte,zYp] | split)
   all_goals (refine ⟨zAN ?_,_,rfl⟩; simp only [zYy,zYM,zZT,true_iff,zZm,zYY,zZ3,iff_true] at *; simp only [zS,zYy]; omega)
 ·have h2' : (o < 0)\/(22 < o)\/(0 <= o/\o <= 22/\¬ o = 18/\¬ o = 19) := by omega
  clear hcase
  rcases h2' with hc | hc | hc
  ·repeat' (simp -implicitDefEqProofs (disch := omega) only [L50,zAz,zI,push_cast,simprocAttr,↓reduceIte,zYp])
   all_goals (refine ⟨zAN ?_,_,rfl⟩; simp only [zYy,zYM,zZT,true_iff,zZm,zYY,zZ3,iff_true] at *; simp only [zS,zYy]; omega)
  ·repeat' (simp -implicitDefEqProofs (disch := omega) only [L50,zAz,zI,zT,push_cast,simprocAttr,↓reduceIte,zYp])
   all_goals (refine ⟨zAN ?_,_,rfl⟩; simp only [zYy,zYM,zZT,true_iff,zZm,zYY,zZ3,iff_true] at *; simp only [zS,zYy]; omega)
  ·by_cases hl : 0 < l.length
   ·repeat' (simp -implicitDefEqProofs (disch := omega) only [L50,zAz,zYo,zI,zT,zU,push_cast,simprocAttr,↓reduceIte,zYp])
    all_goals (refine ⟨zAN ?_,_,rfl⟩; simp only [zYy,zYM,zZT,true_iff,zZm,zYY,zZ3,iff_true] at *; simp only [zS,zYy]; omega)
   ·repeat' (simp -implicitDefEqProofs (disch := omega) only [L50,zAz,zYo,zI,zT,zU,push_cast,simprocAttr,↓reduceIte,zYp])
    all_goals (refine ⟨zAN ?_,_,rfl⟩; simp only [zYy,zYM,zZT,true_iff,zZm,zYY,zZ3,iff_true] at *; simp only [zS,zYy]; omega)
theorem zM {α : Type} (H l : List α) : (H ++ l)[H.length]? = l[0]? := by rw [zYz (zYH _),zzaF]
def zFi : Option Int->Int
 | some h => h
 | none => -1
theorem zBe {ps : List Pr} {j : Nat} (h : j < ps.length) : (ps.map prR).getD j [] = prR (ps.getD j default) := zL h
theorem zDy {h n c : Int} (h1 : n <= h) (h2 : h + c <= 1024) : chg h n c = some (h + c) := if_pos ⟨h1,h2⟩
theorem zE5 {h n c : Int} (h1 : ¬ (n <= h/\h + c <= 1024)) : chg h n c = none := if_neg h1
set_option maxHeartbeats 8000000 in
theorem effR (ps : List Pr) (k : Nat) (hk : k < ps.length) (hps : ps.length <= 1048576) (hp : zCU ps k) (hh : zCA (ps.getD k default)) (l : List Ins) : zQ l <= 1048576->∀ (out : Bool) (H : zB),zBd 18 [.agg [zAU ps],int k,.sl 5 (l.map zAq),bool out] H (int (zFi (zCf ps k l out 0))) := by
 induction l using Ins.indL with
 | h l ih =>
 intro hs out H
 refine ACall.drop (R := fun x => x = int (zFi (zCf ps k l out 0))) ?_
 refine enter Tryz.func18 L18_ok (zYu rfl) ?_
 have hln := zN l
 repeat' (first | refine zYt (by omega) ?_ | simp -implicitDefEqProofs (disch := omega) only [L18,zAz,zBe,zR,zCO,zFT,zYo,push_cast,simprocAttr,↓reduceIte,zYp])
 refine zW (fun (st : Nat × Int × zB) e' H' => e' 1 = int k/\e' 2 = .sl 5 (l.map zAq)/\e' 3 = bool out/\e' 4 = .ptr H.length 0 0/\e' 9 = .ptr (H.length + 1) 0 0/\e' 10 = int st.2.1/\e' 11 = int st.1/\H' = H ++ st.2.2/\2 <= st.2.2.length /\
  st.2.2[0]? = some (.box [zAU ps])/\st.2.2[1]? = some (.box (prR (ps.getD k default)))/\st.1 <= l.length/\0 <= st.2.1/\st.2.1 <= 1024/\zCf ps k l out 0 = zCf ps k (l.drop st.1) out st.2.1) (fun st => l.length - st.1) (0,0,[HO.box [zAU ps],HO.box (prR (ps.getD k default))]) ?_ ?_
 ·exact ⟨rfl,rfl,rfl,rfl,rfl,rfl,rfl,rfl,by simp,rfl,rfl,zYO _,by simp,by simp,by simp⟩
 rintro ⟨j,h,ext⟩ e' H' ⟨h1,h2,h3,h4,h9,h10,h11,rfl,hel,g4,g9,hj,hh0,hh1,heff⟩
 simp only at h10 h11 hel g4 g9 hj hh0 hh1 heff
 by_cases hlt : j < l.length
 ·have hk0 := zAf hlt
  have hb := zAs l (j + 1)
  rw [zAm hlt,zDM] at hb
  have hx := ih _ hk0
  rw [zAQ ps k hlt] at heff
  have hrow : (l.map zAq).getD j [] = zAq (l.getD j default) := zL hlt
  generalize l.getD j default = x at *
  obtain ⟨o,a,b,bd,el⟩ := x
  have hr2 : zAq (.mk o a b bd el) = [int o,int a,int b,.sl 5 (bd.map zAq),.sl 5 (el.map zAq)] := by simp [zAq,zAh]
  rw [hr2] at hrow
  simp only [zCC] at heff
  have hbd : zQ bd <= 1048576 := by simp only [Ins.body,Ins.els] at hb; omega
  have hed : zQ el <= 1048576 := by simp only [Ins.body,Ins.els] at hb; omega
  have hx1 := fun out H => hx.1 hbd out H
  have hx2 := fun out H => hx.2 hed out H
  simp only [Ins.body,Ins.els] at hx1 hx2
  have hbl := zN bd
  have hell := zN el
  clear hx ih hb
  obtain ⟨q1,q2,q3,q4,q5,q6,q7,q8⟩ := hh
  have hfR := fun H => zPM o a b bd el (ps.getD k default).slots (by omega) (by omega) (by omega) H
  have hsl : (prR (ps.getD k default)).drop 2 = [int (ps.getD k default).slots,int (ps.getD k default).res,.sl 1 ((ps.getD k default).outs.map iR),.sl 5 ((ps.getD k default).body.map zAq)] := rfl
  have hsl3 : (prR (ps.getD k default)).drop 3 = [int (ps.getD k default).res,.sl 1 ((ps.getD k default).outs.map iR),.sl 5 ((ps.getD k default).body.map zAq)] := rfl
  by_cases hf : zS (ps.getD k default).slots o a b (bd.isEmpty && el.isEmpty)
  ·rw [if_pos hf] at heff
   have hd : decide (zS (ps.getD k default).slots o a b (bd.isEmpty && el.isEmpty)) = true := zY3 hf
   obtain ⟨f1,f2,_⟩ := hf
   have hcase : (o = 0)\/(o = 1)\/(o = 2)\/(o = 22)\/(o = 3)\/(o = 16)\/(o = 17)\/(o = 4)\/(5 <= o/\o <= 15)\/o = 18\/o = 19\/o = 20\/o = 21 := by omega
   rcases hcase with hc | hc | hc | hc | hc | hc | hc | hc | hc | hc | hc | hc | hc
   ·have he : zCB ps k o a out h = chg h 0 1 := by
     unfold zCB
     repeat (first | rw [if_pos (by omega)] | rw [if_neg (by omega)])
    rw [if_neg (by omega),if_neg (by omega),he] at heff
    by_cases hcc : 0 <= h/\h + 1 <= 1024
    ·rw [zDy hcc.1 hcc.2] at heff
     repeat' (first | refine zYt (by omega) ?_ | refine zA (hfR _) ?_ | simp -implicitDefEqProofs (disch := omega) only [h2,h9,h10,h11,g9,zC,zM,hrow,hsl,zAz,zYo,zR,hd,zI,zT,zZ,push_cast,simprocAttr,↓reduceIte,zYp])
     exact .mk (j + 1,h + 1,_) ⟨h1,h2,h3,h4,h9,zGU rfl (by dsimp only <;> omega),rfl,rfl,by simp; omega,by rw [zC (by omega)]; exact g4,by rw [zC (by omega)]; exact g9,hlt,by simp only; omega,by simp only; omega,heff⟩ (by simp only; omega)
    ·rw [zE5 hcc] at heff
     repeat' (first | refine zYt (by omega) ?_ | refine zA (hfR _) ?_ | simp -implicitDefEqProofs (disch := omega) only [h2,h9,h10,h11,g9,zC,zM,hrow,hsl,zAz,zYo,zR,hd,zI,zT,zZ,push_cast,simprocAttr,↓reduceIte,zYp])
     all_goals first | exact ⟨by rw [heff]; rfl,_,rfl⟩ | (exfalso; omega)
   ·have he : zCB ps k o a out h = chg h 0 1 := by
     unfold zCB
     repeat (first | rw [if_pos (by omega)] | rw [if_neg (by omega)])
    rw [if_neg (by omega),if_neg (by omega),he] at heff
    by_cases hcc : 0 <= h/\h + 1 <= 1024
    ·rw [zDy hcc.1 hcc.2] at heff
     repeat' (first | refine zYt (by omega) ?_ | refine zA (hfR _) ?_ | simp -implicitDefEqProofs (disch := omega) only [h2,h9,h10,h11,g9,zC,zM,hrow,hsl,zAz,zYo,zR,hd,zI,zT,zZ,zU,push_cast,simprocAttr,↓reduceIte,zYp])
     exact .mk (j + 1,h + 1,_) ⟨h1,h2,h3,h4,h9,zGU rfl (by dsimp only <;> omega),rfl,rfl,by simp; omega,by rw [zC (by omega)]; exact g4,by rw [zC (by omega)]; exact g9,hlt,by simp only; omega,by simp only; omega,heff⟩ (by simp only; omega)
    ·rw [zE5 hcc] at heff
     repeat' (first | refine zYt (by omega) ?_ | refine zA (hfR _) ?_ | simp -implicitDefEqProofs (disch := omega) only [h2,h9,h10,h11,g9,zC,zM,hrow,hsl,zAz,zYo,zR,hd,zI,zT,zZ,zU,push_cast,simprocAttr,↓reduceIte,zYp])
     all_goals first | exact ⟨by rw [heff]; rfl,_,rfl⟩ | (exfalso; omega)
   ·have he : zCB ps k o a out h = chg h 1 (-1) := by
     unfold zCB
     repeat (first | rw [if_pos (by omega)] | rw [if_neg (by omega)])
    rw [if_neg (by omega),if_neg (by omega),he] at heff
    by_cases hcc : 1 <= h/\h + (-1) <= 1024
    ·rw [zDy hcc.1 hcc.2] at heff
     repeat' (first | refine zYt (by omega) ?_ | refine zA (hfR _) ?_ | simp -implicitDefEqProofs (disch := omega) only [h2,h9,h10,h11,g9,zC,zM,hrow,hsl,zAz,zYo,zR,hd,zI,zT,zZ,zU,push_cast,simprocAttr,↓reduceIte,zYp])
     exact .mk (j + 1,h + (-1),_) ⟨h1,h2,h3,h4,h9,zGU rfl (by dsimp only <;> omega),rfl,rfl,by simp; omega,by rw [zC (by omega)]; exact g4,by rw [zC (by omega)]; exact g9,hlt,by simp only; omega,by simp only; omega,heff⟩ (by simp only; omega)
    ·rw [zE5 hcc] at heff
     repeat' (first | refine zYt (by omega) ?_ | refine zA (hfR _) ?_ | simp -implicitDefEqProofs (disch := omega) only [h2,h9,h10,h11,g9,zC,zM,hrow,hsl,zAz,zYo,zR,hd,zI,zZ,zU,push_cast,simprocAttr,↓reduceIte,zYp])
     all_goals first | exact ⟨by rw [heff]; rfl,_,rfl⟩ | (exfalso; omega)
   ·have he : zCB ps k o a out h = chg h 1 (-1) := by
     unfold zCB
     repeat (first | rw [if_pos (by omega)] | rw [if_neg (by omega)])
    rw [if_neg (by omega),if_neg (by omega),he] at heff
    by_cases hcc : 1 <= h/\h + (-1) <= 1024
    ·rw [zDy hcc.1 hcc.2] at heff
     repeat' (first | refine zYt (by omega) ?_ | refine zA (hfR _) ?_ | simp -implicitDefEqProofs (disch := omega) only [h2,h9,h10,h11,g9,zC,zM,hrow,hsl,zAz,zYo,zR,hd,zI,zT,zZ,zU,push_cast,simprocAttr,↓reduceIte,zYp])
     exact .mk (j + 1,h + (-1),_) ⟨h1,h2,h3,h4,h9,zGU rfl (by dsimp only <;> omega),rfl,rfl,by simp; omega,by rw [zC (by omega)]; exact g4,by rw [zC (by omega)]; exact g9,hlt,by simp only; omega,by simp only; omega,heff⟩ (by simp only; omega)
    ·rw [zE5 hcc] at heff
     repeat' (first | refine zYt (by omega) ?_ | refine zA (hfR _) ?_ | simp -implicitDefEqProofs (disch := omega) only [h2,h9,h10,h11,g9,zC,zM,hrow,hsl,zAz,zYo,zR,hd,zI,zZ,zU,push_cast,simprocAttr,↓reduceIte,zYp])
     all_goals first | exact ⟨by rw [heff]; rfl,_,rfl⟩ | (exfalso; omega)
   ·have he : zCB ps k o a out h = chg h 1 0 := by
     unfold zCB
     repeat (first | rw [if_pos (by omega)] | rw [if_neg (by omega)])
    rw [if_neg (by omega),if_neg (by omega),he] at heff
    by_cases hcc : 1 <= h/\h + 0 <= 1024
    ·rw [zDy hcc.1 hcc.2] at heff
     repeat' (first | refine zYt (by omega) ?_ | refine zA (hfR _) ?_ | simp -implicitDefEqProofs (disch := omega) only [h2,h9,h10,h11,g9,zC,zM,hrow,hsl,zAz,zYo,zR,hd,zI,zT,zZ,zU,push_cast,simprocAttr,↓reduceIte,zYp])
     exact .mk (j + 1,h + 0,_) ⟨h1,h2,h3,h4,h9,zGU rfl (by dsimp only <;> omega),rfl,rfl,by simp; omega,by rw [zC (by omega)]; exact g4,by rw [zC (by omega)]; exact g9,hlt,by simp only; omega,by simp only; omega,heff⟩ (by simp only; omega)
    ·rw [zE5 hcc] at heff
     repeat' (first | refine zYt (by omega) ?_ | refine zA (hfR _) ?_ | simp -implicitDefEqProofs (disch := omega) only [h2,h9,h10,h11,g9,zC,zM,hrow,hsl,zAz,zYo,zR,hd,zI,zZ,zU,push_cast,simprocAttr,↓reduceIte,zYp])
     all_goals first | exact ⟨by rw [heff]; rfl,_,rfl⟩ | (exfalso; omega)
   ·have he : zCB ps k o a out h = chg h 1 0 := by
     unfold zCB
     repeat (first | rw [if_pos (by omega)] | rw [if_neg (by omega)])
    rw [if_neg (by omega),if_neg (by omega),he] at heff
    by_cases hcc : 1 <= h/\h + 0 <= 1024
    ·rw [zDy hcc.1 hcc.2] at heff
     repeat' (first | refine zYt (by omega) ?_ | refine zA (hfR _) ?_ | simp -implicitDefEqProofs (disch := omega) only [h2,h9,h10,h11,g9,zC,zM,hrow,hsl,zAz,zYo,zR,hd,zI,zT,zZ,zU,push_cast,simprocAttr,↓reduceIte,zYp])
     exact .mk (j + 1,h + 0,_) ⟨h1,h2,h3,h4,h9,zGU rfl (by dsimp only <;> omega),rfl,rfl,by simp; omega,by rw [zC (by omega)]; exact g4,by rw [zC (by omega)]; exact g9,hlt,by simp only; omega,by simp only; omega,heff⟩ (by simp only; omega)
    ·rw [zE5 hcc] at heff
     repeat' (first | refine zYt (by omega) ?_ | refine zA (hfR _) ?_ | simp -implicitDefEqProofs (disch := omega) only [h2,h9,h10,h11,g9,zC,zM,hrow,hsl,zAz,zYo,zR,hd,zI,zZ,zU,push_cast,simprocAttr,↓reduceIte,zYp])
     all_goals first | exact ⟨by rw [heff]; rfl,_,rfl⟩ | (exfalso; omega)
   ·have he : zCB ps k o a out h = chg h 1 0 := by
     unfold zCB
     repeat (first | rw [if_pos (by omega)] | rw [if_neg (by omega)])
    rw [if_neg (by omega),if_neg (by omega),he] at heff
    by_cases hcc : 1 <= h/\h + 0 <= 1024
    ·rw [zDy hcc.1 hcc.2] at heff
     repeat' (first | refine zYt (by omega) ?_ | refine zA (hfR _) ?_ | simp -implicitDefEqProofs (disch := omega) only [h2,h9,h10,h11,g9,zC,zM,hrow,hsl,zAz,zYo,zR,hd,zI,zT,zZ,zU,push_cast,simprocAttr,↓reduceIte,zYp])
     exact .mk (j + 1,h + 0,_) ⟨h1,h2,h3,h4,h9,zGU rfl (by dsimp only <;> omega),rfl,rfl,by simp; omega,by rw [zC (by omega)]; exact g4,by rw [zC (by omega)]; exact g9,hlt,by simp only; omega,by simp only; omega,heff⟩ (by simp only; omega)
    ·rw [zE5 hcc] at heff
     repeat' (first | refine zYt (by omega) ?_ | refine zA (hfR _) ?_ | simp -implicitDefEqProofs (disch := omega) only [h2,h9,h10,h11,g9,zC,zM,hrow,hsl,zAz,zYo,zR,hd,zI,zZ,zU,push_cast,simprocAttr,↓reduceIte,zYp])
     all_goals first | exact ⟨by rw [heff]; rfl,_,rfl⟩ | (exfalso; omega)
   ·have he : zCB ps k o a out h = chg h 2 (-2) := by
     unfold zCB
     repeat (first | rw [if_pos (by omega)] | rw [if_neg (by omega)])
    rw [if_neg (by omega),if_neg (by omega),he] at heff
    by_cases hcc : 2 <= h/\h + (-2) <= 1024
    ·rw [zDy hcc.1 hcc.2] at heff
     repeat' (first | refine zYt (by omega) ?_ | refine zA (hfR _) ?_ | simp -implicitDefEqProofs (disch := omega) only [h2,h9,h10,h11,g9,zC,zM,hrow,hsl,zAz,zYo,zR,hd,zI,zT,zZ,zU,push_cast,simprocAttr,↓reduceIte,zYp])
     exact .mk (j + 1,h + (-2),_) ⟨h1,h2,h3,h4,h9,zGU rfl (by dsimp only <;> omega),rfl,rfl,by simp; omega,by rw [zC (by omega)]; exact g4,by rw [zC (by omega)]; exact g9,hlt,by simp only; omega,by simp only; omega,heff⟩ (by simp only; omega)
    ·rw [zE5 hcc] at heff
     repeat' (first | refine zYt (by omega) ?_ | refine zA (hfR _) ?_ | simp -implicitDefEqProofs (disch := omega) only [h2,h9,h10,h11,g9,zC,zM,hrow,hsl,zAz,zYo,zR,hd,zI,zZ,zU,push_cast,simprocAttr,↓reduceIte,zYp])
     all_goals first | exact ⟨by rw [heff]; rfl,_,rfl⟩ | (exfalso; omega)
   ·have he : zCB ps k o a out h = chg h 2 (-1) := by
     unfold zCB
     repeat (first | rw [if_pos (by omega)] | rw [if_neg (by omega)])
    rw [if_neg (by omega),if_neg (by omega),he] at heff
    by_cases hcc : 2 <= h/\h + (-1) <= 1024
    ·rw [zDy hcc.1 hcc.2] at heff
     repeat' (first | refine zYt (by omega) ?_ | refine zA (hfR _) ?_ | simp -implicitDefEqProofs (disch := omega) only [h2,h9,h10,h11,g9,zC,zM,hrow,hsl,zAz,zYo,zR,hd,zI,zT,zAg,zU,push_cast,simprocAttr,↓reduceIte,zYp])
     exact .mk (j + 1,h + (-1),_) ⟨h1,h2,h3,h4,h9,zGU rfl (by dsimp only <;> omega),rfl,rfl,by simp; omega,by rw [zC (by omega)]; exact g4,by rw [zC (by omega)]; exact g9,hlt,by simp only; omega,by simp only; omega,heff⟩ (by simp only; omega)
    ·rw [zE5 hcc] at heff
     repeat' (first | refine zYt (by omega) ?_ | refine zA (hfR _) ?_ | simp -implicitDefEqProofs (disch := omega) only [h2,h9,h10,h11,g9,zC,zM,hrow,hsl,zAz,zYo,zR,hd,zI,zAg,zU,push_cast,simprocAttr,↓reduceIte,zYp])
     all_goals first | exact ⟨by rw [heff]; rfl,_,rfl⟩ | (exfalso; omega)
   ·cases out with
    | false =>
     subst hc
     rw [if_pos rfl] at heff
     by_cases hh : 1 <= h
     ·rw [if_pos hh] at heff
      simp only [Bool.false_and] at heff
      have c1 := hx1 false
      have c2 := hx2 false
      cases e1 : zCf ps k bd false 0 with
      | none =>
       rw [e1] at heff c1
       simp only [zFi] at c1
       generalize zFi (zCf ps k el false 0) = y at c2
       repeat' (first | refine zYt (by omega) ?_ | refine zA (hfR _) ?_ | refine zF (c1 _) rfl ?_ | refine zF (c2 _) rfl ?_ | simp -implicitDefEqProofs (disch := omega) only [h1,h2,h3,h4,h9,h10,h11,g4,g9,zC,zM,hrow,hsl,zAz,zYo,zR,hd,zI,zT,push_cast,simprocAttr,↓reduceIte,zYp])
       all_goals first | exact ⟨by rw [heff]; rfl,_,rfl⟩ | (exfalso; omega)
      | some y1 =>
       have r1 := zAL hp bd _ 0 y1 (by omega) (by omega) e1
       rw [e1] at heff c1
       simp only [zFi] at c1
       cases e2 : zCf ps k el false 0 with
       | none =>
        rw [e2] at heff c2
        simp only [zFi] at c2
        repeat' (first | refine zYt (by omega) ?_ | refine zA (hfR _) ?_ | refine zF (c1 _) rfl ?_ | refine zF (c2 _) rfl ?_ | simp -implicitDefEqProofs (disch := omega) only [h1,h2,h3,h4,h9,h10,h11,g4,g9,zC,zM,hrow,hsl,zAz,zYo,zR,hd,zI,zT,zU,push_cast,simprocAttr,↓reduceIte,zYp])
        all_goals first | exact ⟨by rw [heff]; rfl,_,rfl⟩ | (exfalso; omega)
       | some y2 =>
        have r2 := zAL hp el _ 0 y2 (by omega) (by omega) e2
        rw [e2] at heff c2
        simp only [zFi] at c2
        by_cases hy : y1 = y2
        ·subst hy
         simp only [if_true] at heff
         by_cases hcc : 0 <= h/\h + (y1 - 1) <= 1024
         ·rw [zDy hcc.1 hcc.2] at heff
          repeat' (first | refine zYt (by omega) ?_ | refine zA (hfR _) ?_ | refine zF (c1 _) rfl ?_ | refine zF (c2 _) rfl ?_ | simp -implicitDefEqProofs (disch := omega) only [h1,h2,h3,h4,h9,h10,h11,g4,g9,zC,zM,hrow,hsl,zAz,zYo,zR,hd,zI,zT,push_cast,simprocAttr,↓reduceIte,zYp])
          exact .mk (j + 1,h + (y1 - 1),_) ⟨h1,h2,h3,h4,h9,zGU rfl (by dsimp only <;> omega),rfl,rfl,by simp; omega,by rw [zC (by omega)]; exact g4,by rw [zC (by omega)]; exact g9,hlt,by simp only; omega,by simp only; omega,heff⟩ (by simp only; omega)
         ·rw [zE5 hcc] at heff
          repeat' (first | refine zYt (by omega) ?_ | refine zA (hfR _) ?_ | refine zF (c1 _) rfl ?_ | refine zF (c2 _) rfl ?_ | simp -implicitDefEqProofs (disch := omega) only [h1,h2,h3,h4,h9,h10,h11,g4,g9,zC,zM,hrow,hsl,zAz,zYo,zR,hd,zI,zT,push_cast,simprocAttr,↓reduceIte,zYp])
          all_goals first | exact ⟨by rw [heff]; rfl,_,rfl⟩ | (exfalso; omega)
        ·simp only [if_neg hy] at heff
         repeat' (first | refine zYt (by omega) ?_ | refine zA (hfR _) ?_ | refine zF (c1 _) rfl ?_ | refine zF (c2 _) rfl ?_ | simp -implicitDefEqProofs (disch := omega) only [h1,h2,h3,h4,h9,h10,h11,g4,g9,zC,zM,hrow,hsl,zAz,zYo,zR,hd,zI,zT,zU,push_cast,simprocAttr,↓reduceIte,zYp])
         all_goals first | exact ⟨by rw [heff]; rfl,_,rfl⟩ | (exfalso; omega)
     ·rw [if_neg hh] at heff
      repeat' (first | refine zYt (by omega) ?_ | refine zA (hfR _) ?_ | simp -implicitDefEqProofs (disch := omega) only [h2,h9,h10,h11,g9,zC,zM,hrow,hsl,zAz,zYo,zR,hd,zI,push_cast,simprocAttr,↓reduceIte,zYp])
      all_goals first | exact ⟨by rw [heff]; rfl,_,rfl⟩ | (exfalso; omega)
    | true =>
     by_cases h1e : h = 1
     ·subst hc
      rw [if_pos rfl] at heff
      by_cases hh : 1 <= h
      ·rw [if_pos hh] at heff
       have hde : decide (h = 1) = true := zY3 h1e
       simp only [zzaB,hde] at heff
       have c1 := hx1 true
       have c2 := hx2 true
       cases e1 : zCf ps k bd true 0 with
       | none =>
        rw [e1] at heff c1
        simp only [zFi] at c1
        generalize zFi (zCf ps k el true 0) = y at c2
        repeat' (first | refine zYt (by omega) ?_ | refine zA (hfR _) ?_ | refine zF (c1 _) rfl ?_ | refine zF (c2 _) rfl ?_ | simp -implicitDefEqProofs (disch := omega) only [h1,h2,h3,h4,h9,h10,h11,g4,g9,zC,zM,hrow,hsl,zAz,zYo,zR,hd,zI,zT,zZ,push_cast,simprocAttr,↓reduceIte,zYp])
        all_goals first | exact ⟨by rw [heff]; rfl,_,rfl⟩ | (exfalso; omega)
       | some y1 =>
        have r1 := zAL hp bd _ 0 y1 (by omega) (by omega) e1
        rw [e1] at heff c1
        simp only [zFi] at c1
        cases e2 : zCf ps k el true 0 with
        | none =>
         rw [e2] at heff c2
         simp only [zFi] at c2
         repeat' (first | refine zYt (by omega) ?_ | refine zA (hfR _) ?_ | refine zF (c1 _) rfl ?_ | refine zF (c2 _) rfl ?_ | simp -implicitDefEqProofs (disch := omega) only [h1,h2,h3,h4,h9,h10,h11,g4,g9,zC,zM,hrow,hsl,zAz,zYo,zR,hd,zI,zT,zZ,zU,push_cast,simprocAttr,↓reduceIte,zYp])
         all_goals first | exact ⟨by rw [heff]; rfl,_,rfl⟩ | (exfalso; omega)
        | some y2 =>
         have r2 := zAL hp el _ 0 y2 (by omega) (by omega) e2
         rw [e2] at heff c2
         simp only [zFi] at c2
         by_cases hy : y1 = y2
         ·subst hy
          simp only [if_true] at heff
          by_cases hcc : 0 <= h/\h + (y1 - 1) <= 1024
          ·rw [zDy hcc.1 hcc.2] at heff
           repeat' (first | refine zYt (by omega) ?_ | refine zA (hfR _) ?_ | refine zF (c1 _) rfl ?_ | refine zF (c2 _) rfl ?_ | simp -implicitDefEqProofs (disch := omega) only [h1,h2,h3,h4,h9,h10,h11,g4,g9,zC,zM,hrow,hsl,zAz,zYo,zR,hd,zI,zT,zZ,push_cast,simprocAttr,↓reduceIte,zYp])
           exact .mk (j + 1,h + (y1 - 1),_) ⟨h1,h2,h3,h4,h9,zGU rfl (by dsimp only <;> omega),rfl,rfl,by simp; omega,by rw [zC (by omega)]; exact g4,by rw [zC (by omega)]; exact g9,hlt,by simp only; omega,by simp only; omega,heff⟩ (by simp only; omega)
          ·rw [zE5 hcc] at heff
           repeat' (first | refine zYt (by omega) ?_ | simp -implicitDefEqProofs (disch := omega) only [push_cast])
           all_goals first | exact ⟨by rw [heff]; rfl,_,rfl⟩ | (exfalso; omega)
         ·simp only [if_neg hy] at heff
          repeat' (first | refine zYt (by omega) ?_ | refine zA (hfR _) ?_ | refine zF (c1 _) rfl ?_ | refine zF (c2 _) rfl ?_ | simp -implicitDefEqProofs (disch := omega) only [h1,h2,h3,h4,h9,h10,h11,g4,g9,zC,zM,hrow,hsl,zAz,zYo,zR,hd,zI,zT,zZ,zU,push_cast,simprocAttr,↓reduceIte,zYp])
          all_goals first | exact ⟨by rw [heff]; rfl,_,rfl⟩ | (exfalso; omega)
      ·rw [if_neg hh] at heff
       repeat' (first | refine zYt (by omega) ?_ | simp -implicitDefEqProofs (disch := omega) only [push_cast])
       all_goals first | exact ⟨by rw [heff]; rfl,_,rfl⟩ | (exfalso; omega)
     ·subst hc
      rw [if_pos rfl] at heff
      by_cases hh : 1 <= h
      ·rw [if_pos hh] at heff
       have hde : decide (h = 1) = false := zZK h1e
       simp only [zzaB,hde] at heff
       have c1 := hx1 false
       have c2 := hx2 false
       cases e1 : zCf ps k bd false 0 with
       | none =>
        rw [e1] at heff c1
        simp only [zFi] at c1
        generalize zFi (zCf ps k el false 0) = y at c2
        repeat' (first | refine zYt (by omega) ?_ | refine zA (hfR _) ?_ | refine zF (c1 _) rfl ?_ | refine zF (c2 _) rfl ?_ | simp -implicitDefEqProofs (disch := omega) only [h1,h2,h3,h4,h9,h10,h11,g4,g9,zC,zM,hrow,hsl,zAz,zYo,zR,hd,zI,zT,zU,push_cast,simprocAttr,↓reduceIte,zYp])
        all_goals first | exact ⟨by rw [heff]; rfl,_,rfl⟩ | (exfalso; omega)
       | some y1 =>
        have r1 := zAL hp bd _ 0 y1 (by omega) (by omega) e1
        rw [e1] at heff c1
        simp only [zFi] at c1
        cases e2 : zCf ps k el false 0 with
        | none =>
         rw [e2] at heff c2
         simp only [zFi] at c2
         repeat' (first | refine zYt (by omega) ?_ | refine zA (hfR _) ?_ | refine zF (c1 _) rfl ?_ | refine zF (c2 _) rfl ?_ | simp -implicitDefEqProofs (disch := omega) only [h1,h2,h3,h4,h9,h10,h11,g4,g9,zC,zM,hrow,hsl,zAz,zYo,zR,hd,zI,zT,zU,push_cast,simprocAttr,↓reduceIte,zYp])
         all_goals first | exact ⟨by rw [heff]; rfl,_,rfl⟩ | (exfalso; omega)
        | some y2 =>
         have r2 := zAL hp el _ 0 y2 (by omega) (by omega) e2
         rw [e2] at heff c2
         simp only [zFi] at c2
         by_cases hy : y1 = y2
         ·subst hy
          simp only [if_true] at heff
          by_cases hcc : 0 <= h/\h + (y1 - 1) <= 1024
          ·rw [zDy hcc.1 hcc.2] at heff
           repeat' (first | refine zYt (by omega) ?_ | refine zA (hfR _) ?_ | refine zF (c1 _) rfl ?_ | refine zF (c2 _) rfl ?_ | simp -implicitDefEqProofs (disch := omega) only [h1,h2,h3,h4,h9,h10,h11,g4,g9,zC,zM,hrow,hsl,zAz,zYo,zR,hd,zI,zT,zU,push_cast,simprocAttr,↓reduceIte,zYp])
           exact .mk (j + 1,h + (y1 - 1),_) ⟨h1,h2,h3,h4,h9,zGU rfl (by dsimp only <;> omega),rfl,rfl,by simp; omega,by rw [zC (by omega)]; exact g4,by rw [zC (by omega)]; exact g9,hlt,by simp only; omega,by simp only; omega,heff⟩ (by simp only; omega)
          ·rw [zE5 hcc] at heff
           repeat' (first | refine zYt (by omega) ?_ | refine zA (hfR _) ?_ | refine zF (c1 _) rfl ?_ | refine zF (c2 _) rfl ?_ | simp -implicitDefEqProofs (disch := omega) only [h1,h2,h3,h4,h9,h10,h11,g4,g9,zC,zM,hrow,hsl,zAz,zYo,zR,hd,zI,zT,zU,push_cast,simprocAttr,↓reduceIte,zYp])
           all_goals first | exact ⟨by rw [heff]; rfl,_,rfl⟩ | (exfalso; omega)
         ·simp only [if_neg hy] at heff
          repeat' (first | refine zYt (by omega) ?_ | refine zA (hfR _) ?_ | refine zF (c1 _) rfl ?_ | refine zF (c2 _) rfl ?_ | simp -implicitDefEqProofs (disch := omega) only [h1,h2,h3,h4,h9,h10,h11,g4,g9,zC,zM,hrow,hsl,zAz,zYo,zR,hd,zI,zT,zU,push_cast,simprocAttr,↓reduceIte,zYp])
          all_goals first | exact ⟨by rw [heff]; rfl,_,rfl⟩ | (exfalso; omega)
      ·rw [if_neg hh] at heff
       repeat' (first | refine zYt (by omega) ?_ | refine zA (hfR _) ?_ | simp -implicitDefEqProofs (disch := omega) only [h2,h9,h10,h11,g9,zC,zM,hrow,hsl,zAz,zYo,zR,hd,zI,push_cast,simprocAttr,↓reduceIte,zYp])
       all_goals first | exact ⟨by rw [heff]; rfl,_,rfl⟩ | (exfalso; omega)
   ·subst hc
    rw [if_neg (by omega),if_pos rfl] at heff
    have c1 := hx1 true
    have c2 := hx2 false
    cases out with
    | false =>
     rw [if_neg (by simp)] at heff
     repeat' (first | refine zYt (by omega) ?_ | refine zA (hfR _) ?_ | simp -implicitDefEqProofs (disch := omega) only [h2,h3,h9,h11,g9,zC,zM,hrow,hsl,zAz,zYo,zR,hd,zI,push_cast,simprocAttr,↓reduceIte,zYp])
     all_goals first | exact ⟨by rw [heff]; rfl,_,rfl⟩ | (exfalso; omega)
    | true =>
     by_cases hh : h = 0
     ·subst hh
      cases e2 : zCf ps k el false 0 with
      | none =>
       rw [e2] at heff c2
       rw [if_neg (by simp)] at heff
       simp only [zFi] at c2
       repeat' (first | refine zYt (by omega) ?_ | refine zA (hfR _) ?_ | refine zA (c2 _) ?_ | simp -implicitDefEqProofs (disch := omega) only [h1,h2,h3,h4,h9,h10,h11,g4,g9,zC,zM,hrow,hsl,zAz,zYo,zR,hd,zI,push_cast,simprocAttr,↓reduceIte,zYp])
       all_goals first | exact ⟨by rw [heff]; rfl,_,rfl⟩ | (exfalso; omega)
      | some y2 =>
       rw [e2] at heff c2
       simp only [zFi] at c2
       by_cases hy2 : y2 = 1
       ·subst hy2
        cases e1 : zCf ps k bd true 0 with
        | none =>
         rw [e1] at heff c1
         rw [if_neg (by simp)] at heff
         simp only [zFi] at c1
         repeat' (first | refine zYt (by omega) ?_ | refine zA (hfR _) ?_ | refine zA (c2 _) ?_ | refine zA (c1 _) ?_ | simp -implicitDefEqProofs (disch := omega) only [h1,h2,h3,h4,h9,h10,h11,g4,g9,zC,zM,hrow,hsl,zAz,zYo,zR,hd,zI,push_cast,simprocAttr,↓reduceIte,zYp])
         all_goals first | exact ⟨by rw [heff]; rfl,_,rfl⟩ | (exfalso; omega)
        | some y1 =>
         rw [e1] at heff c1
         simp only [zFi] at c1
         by_cases hy1 : y1 = 0
         ·subst hy1
          rw [if_pos (by simp)] at heff
          repeat' (first | refine zYt (by omega) ?_ | refine zA (hfR _) ?_ | refine zA (c2 _) ?_ | refine zA (c1 _) ?_ | simp -implicitDefEqProofs (disch := omega) only [h1,h2,h3,h4,h9,h10,h11,g4,g9,zC,zM,hrow,hsl,zAz,zYo,zR,hd,zI,push_cast,simprocAttr,↓reduceIte,zYp])
          exact .mk (j + 1,0,_) ⟨h1,h2,h3,h4,h9,zGU rfl (by dsimp only <;> omega),rfl,rfl,by simp; omega,by rw [zC (by omega)]; exact g4,by rw [zC (by omega)]; exact g9,hlt,by simp only; omega,by simp only; omega,heff⟩ (by simp only; omega)
         ·rw [if_neg (by simp [hy1])] at heff
          repeat' (first | refine zYt (by omega) ?_ | refine zA (hfR _) ?_ | refine zA (c2 _) ?_ | refine zA (c1 _) ?_ | simp -implicitDefEqProofs (disch := omega) only [h1,h2,h3,h4,h9,h10,h11,g4,g9,zC,zM,hrow,hsl,zAz,zYo,zR,hd,zI,zU,push_cast,simprocAttr,↓reduceIte,zYp])
          all_goals first | exact ⟨by rw [heff]; rfl,_,rfl⟩ | (exfalso; omega)
       ·rw [if_neg (by simp [hy2])] at heff
        repeat' (first | refine zYt (by omega) ?_ | refine zA (hfR _) ?_ | refine zA (c2 _) ?_ | simp -implicitDefEqProofs (disch := omega) only [h1,h2,h3,h4,h9,h10,h11,g4,g9,zC,zM,hrow,hsl,zAz,zYo,zR,hd,zI,zU,push_cast,simprocAttr,↓reduceIte,zYp])
        all_goals first | exact ⟨by rw [heff]; rfl,_,rfl⟩ | (exfalso; omega)
     ·rw [if_neg (by simp [hh])] at heff
      repeat' (first | refine zYt (by omega) ?_ | refine zA (hfR _) ?_ | simp -implicitDefEqProofs (disch := omega) only [h2,h3,h9,h10,h11,g9,zC,zM,hrow,hsl,zAz,zYo,zR,hd,zI,zU,push_cast,simprocAttr,↓reduceIte,zYp])
      all_goals first | exact ⟨by rw [heff]; rfl,_,rfl⟩ | (exfalso; omega)
   ·subst hc
    rw [if_neg (by omega),if_neg (by omega)] at heff
    have he : zCB ps k 20 a out h = if 0 <= a/\a < k then chg h (ps.getD a.toNat default).par (zCX (ps.getD a.toNat default) - (ps.getD a.toNat default).par) else none := by
     unfold zCB
     rw [if_neg (by omega),if_neg (by omega),if_neg (by omega),if_neg (by omega),if_pos rfl]
    rw [he] at heff
    by_cases ha : 0 <= a/\a < k
    ·rw [if_pos ha] at heff
     obtain ⟨p1,p2,p3,p4⟩ := hp a.toNat (by omega)
     have po := zHt p3 p4
     have cO := fun H => zPp (ps.getD a.toNat default) (by omega) H
     have hpr : (prR (ps.getD a.toNat default)).drop 1 = [int (ps.getD a.toNat default).par,int (ps.getD a.toNat default).slots,int (ps.getD a.toNat default).res,.sl 1 ((ps.getD a.toNat default).outs.map iR),.sl 5 ((ps.getD a.toNat default).body.map zAq)] := rfl
     by_cases hcc : (ps.getD a.toNat default).par <= h/\h + (zCX (ps.getD a.toNat default) - (ps.getD a.toNat default).par) <= 1024
     ·rw [zDy hcc.1 hcc.2] at heff
      repeat' (first | refine zYt (by omega) ?_ | refine zA (hfR _) ?_ | refine zA (cO _) ?_ | simp -implicitDefEqProofs (disch := omega) only [h1,h2,h4,h9,h10,h11,g4,g9,zC,zM,hrow,hsl,zAz,zYo,zR,hd,zBe,zCO,hpr,zI,zT,zAG,push_cast,simprocAttr,↓reduceIte,zYp])
      exact .mk (j + 1,h + (zCX (ps.getD a.toNat default) - (ps.getD a.toNat default).par),_) ⟨h1,h2,h3,h4,h9,zGU rfl (by dsimp only <;> omega),rfl,rfl,by simp; omega,by rw [zC (by omega)]; exact g4,by rw [zC (by omega)]; exact g9,hlt,by simp only; omega,by simp only; omega,heff⟩ (by simp only; omega)
     ·rw [zE5 hcc] at heff
      repeat' (first | refine zYt (by omega) ?_ | refine zA (hfR _) ?_ | refine zA (cO _) ?_ | simp -implicitDefEqProofs (disch := omega) only [h1,h2,h4,h9,h10,h11,g4,g9,zC,zM,hrow,hsl,zAz,zYo,zR,hd,zBe,zCO,hpr,zI,zT,zAG,push_cast,simprocAttr,↓reduceIte,zYp] | split)
      all_goals first | exact ⟨by rw [heff]; rfl,_,rfl⟩ | (exfalso; omega)
    ·rw [if_neg ha] at heff
     repeat' (first | refine zYt (by omega) ?_ | refine zA (hfR _) ?_ | simp -implicitDefEqProofs (disch := omega) only [h1,h2,h9,h11,g9,zC,zM,hrow,hsl,zAz,zYo,zR,hd,zI,zT,zAg,push_cast,simprocAttr,↓reduceIte,zYp] | split)
     all_goals first | exact ⟨by rw [heff]; rfl,_,rfl⟩ | (exfalso; omega)
   ·subst hc
    rw [if_neg (by omega),if_neg (by omega)] at heff
    have he : zCB ps k 21 a out h = if out = true/\h = max (ps.getD k default).res 0 then chg h 0 (-h) else none := by
     unfold zCB
     rw [if_neg (by omega),if_neg (by omega),if_neg (by omega),if_neg (by omega),if_neg (by omega),if_pos rfl]
    rw [he] at heff
    cases out with
    | false =>
     rw [if_neg (by simp)] at heff
     repeat' (first | refine zYt (by omega) ?_ | refine zA (hfR _) ?_ | simp -implicitDefEqProofs (disch := omega) only [h2,h3,h9,h11,g9,zC,zM,hrow,hsl,zAz,zYo,zR,hd,zI,push_cast,simprocAttr,↓reduceIte,zYp])
     all_goals first | exact ⟨by rw [heff]; rfl,_,rfl⟩ | (exfalso; omega)
    | true =>
     by_cases hm : h = max (ps.getD k default).res 0
     ·rw [if_pos ⟨rfl,hm⟩,zDy hh0 (by omega)] at heff
      by_cases hr : (ps.getD k default).res < 0
      ·have hmx : (if (ps.getD k default).res < 0 then (0 : Int) else (ps.getD k default).res) = 0 := if_pos hr
       repeat' (first | refine zYt (by omega) ?_ | refine zA (hfR _) ?_ | simp -implicitDefEqProofs (disch := omega) only [h2,h3,h9,h10,h11,g9,zC,zM,hrow,hsl,hsl3,zAz,zYo,zR,hd,hmx,zI,zT,zZ,push_cast,simprocAttr,↓reduceIte,zYp])
       exact .mk (j + 1,h + -h,_) ⟨h1,h2,h3,h4,h9,zGU rfl (by dsimp only <;> omega),rfl,rfl,by simp; omega,by rw [zC (by omega)]; exact g4,by rw [zC (by omega)]; exact g9,hlt,by simp only; omega,by simp only; omega,heff⟩ (by simp only; omega)
      ·have hmx : (if (ps.getD k default).res < 0 then (0 : Int) else (ps.getD k default).res) = (ps.getD k default).res := if_neg hr
       repeat' (first | refine zYt (by omega) ?_ | refine zA (hfR _) ?_ | simp -implicitDefEqProofs (disch := omega) only [h2,h3,h9,h10,h11,g9,zC,zM,hrow,hsl,hsl3,zAz,zYo,zR,hd,hmx,zI,zT,zZ,push_cast,simprocAttr,↓reduceIte,zYp])
       exact .mk (j + 1,h + -h,_) ⟨h1,h2,h3,h4,h9,zGU rfl (by dsimp only <;> omega),rfl,rfl,by simp; omega,by rw [zC (by omega)]; exact g4,by rw [zC (by omega)]; exact g9,hlt,by simp only; omega,by simp only; omega,heff⟩ (by simp only; omega)
     ·rw [if_neg (fun hh => hm hh.2)] at heff
      by_cases hr : (ps.getD k default).res < 0
      ·have hmx : (if (ps.getD k default).res < 0 then (0 : Int) else (ps.getD k default).res) = 0 := if_pos hr
       repeat' (first | refine zYt (by omega) ?_ | refine zA (hfR _) ?_ | simp -implicitDefEqProofs (disch := omega) only [h2,h3,h9,h10,h11,g9,zC,zM,hrow,hsl,hsl3,zAz,zYo,zR,hd,hmx,zI,zU,push_cast,simprocAttr,↓reduceIte,zYp])
       all_goals first | exact ⟨by rw [heff]; rfl,_,rfl⟩ | (exfalso; omega)
      ·have hmx : (if (ps.getD k default).res < 0 then (0 : Int) else (ps.getD k default).res) = (ps.getD k default).res := if_neg hr
       repeat' (first | refine zYt (by omega) ?_ | refine zA (hfR _) ?_ | simp -implicitDefEqProofs (disch := omega) only [h2,h3,h9,h10,h11,g9,zC,zM,hrow,hsl,hsl3,zAz,zYo,zR,hd,hmx,zI,zU,push_cast,simprocAttr,↓reduceIte,zYp])
       all_goals first | exact ⟨by rw [heff]; rfl,_,rfl⟩ | (exfalso; omega)
  ·rw [if_neg hf] at heff
   have hd : decide (zS (ps.getD k default).slots o a b (bd.isEmpty && el.isEmpty)) = false := zZK hf
   repeat' (first | refine zYt (by omega) ?_ | refine zA (hfR _) ?_ | simp -implicitDefEqProofs (disch := omega) only [h2,h9,h11,g9,zC,zM,hrow,hsl,zAz,zYo,zR,hd,zI,push_cast,simprocAttr,↓reduceIte,zYp])
   exact ⟨by rw [heff]; rfl,_,rfl⟩
 ·have e : j = l.length := by omega
  subst e
  rw [zZ6] at heff
  repeat' (simp -implicitDefEqProofs (disch := omega) only [h2,h10,h11,zYo,zT,push_cast,simprocAttr,↓reduceIte])
  exact ⟨by rw [heff]; rfl,_,rfl⟩
noncomputable def zBM (ps : List Pr) : Bool := @decide (zDA ps) (Classical.propDecidable _)
theorem zFl {ps : List Pr} : zBM ps = true ↔ zDA ps := by unfold zBM; exact @decide_eq_true_iff _ (Classical.propDecidable _)
theorem zHi {ps : List Pr} (h : ¬ zDA ps) : zBM ps = false := by
 cases hb : zBM ps with
 | false => rfl
 | true => exact absurd (zFl.1 hb) h
theorem zHs (q : Pr) : (prR q).drop 1 = [int q.par,int q.slots,int q.res,.sl 1 (q.outs.map iR),.sl 5 (q.body.map zAq)] := rfl
theorem zBO (q : Pr) : (prR q).drop 2 = [int q.slots,int q.res,.sl 1 (q.outs.map iR),.sl 5 (q.body.map zAq)] := rfl
theorem zDk (q : Pr) : (prR q).drop 3 = [int q.res,.sl 1 (q.outs.map iR),.sl 5 (q.body.map zAq)] := rfl
theorem zBq (q : Pr) : (prR q).drop 4 = [.sl 1 (q.outs.map iR),.sl 5 (q.body.map zAq)] := rfl
theorem zCH (q : Pr) : (prR q).drop 5 = [.sl 5 (q.body.map zAq)] := rfl
theorem zCI (q : Pr) : (prR q).drop 0 = [str q.name,int q.par,int q.slots,int q.res,.sl 1 (q.outs.map iR),.sl 5 (q.body.map zAq)] := rfl
set_option maxHeartbeats 8000000 in
theorem zLQ (ps : List Pr) (hs : zDY ps) (H : zB) : zBd 7 [.agg [zAU ps]] H (bool (zBM ps)) := by
 obtain ⟨hs1,hs2,hs3⟩ := hs
 refine ACall.drop (R := fun x => x = bool (zBM ps)) ?_
 refine enter Tryz.func7 L7_ok (zYu rfl) ?_
 by_cases h8 : ps.length <= 8
 ·repeat' (simp -implicitDefEqProofs (disch := omega) only [L7,zAz,zYo,zT,push_cast,simprocAttr,↓reduceIte,zYp])
  refine zW (fun (st : Nat × zB) e' H' => e' 1 = .ptr H.length 0 0/\e' 3 = int (zA7 (ps.take st.1) : Nat)/\e' 4 = int st.1/\H' = H ++ st.2/\1 <= st.2.length/\st.2[0]? = some (.box [zAU ps])/\st.1 <= ps.length/\∀ i,i < st.1->prP ps i) (fun st => ps.length - st.1) (0,[HO.box [zAU ps]]) ?_ ?_
  ·exact ⟨rfl,rfl,rfl,rfl,by simp,rfl,zYO _,fun i hi => by simp only at hi; omega⟩
  rintro ⟨j,ext⟩ e' H' ⟨h1,h3,h4,rfl,hel,g1,hj,hall⟩
  simp only at h3 h4 hel g1 hj hall
  by_cases hlt : j < ps.length
  ·obtain ⟨m1,m2,m3⟩ := hs3 _ (zAf hlt)
   have hfail : ¬ prP ps j->zBM ps = false := fun hn => zHi fun hv => hn (hv.2 j hlt)
   repeat' (first | refine zYt (by omega) ?_ | simp -implicitDefEqProofs (disch := omega) only [h1,h4,g1,zM,zAz,zBe,zR,zCO,zFT,zYo,zI,push_cast,simprocAttr,↓reduceIte,zYp])
   have gA : (ext ++ [HO.box (prR (ps.getD j default))])[0]? = some (.box [zAU ps]) := by rw [zC (by omega)]; exact g1
   have gB : (ext ++ [HO.box (prR (ps.getD j default))])[ext.length]? = some (.box (prR (ps.getD j default))) := by simp
   have hle : 2 <= (ext ++ [HO.box (prR (ps.getD j default))]).length := by simp; omega
   have hpre : ∃ z,ext ++ [HO.box (prR (ps.getD j default))] = z := ⟨_,rfl⟩
   generalize ext ++ [HO.box (prR (ps.getD j default))] = ext2 at *
   refine zW (fun (i : Nat) e' H' => e' 1 = .ptr H.length 0 0/\e' 3 = int (zA7 (ps.take j) : Nat)/\e' 4 = int j/\e' 5 = .ptr (H.length + ext.length) 0 0/\e' 6 = int i/\H' = H ++ ext2/\i <= j/\∀ i',i' < i->¬ (ps.getD i' default).name = (ps.getD j default).name) (fun i => j - i) 0 ?_ ?_
   ·exact ⟨h1,h3,h4,rfl,rfl,rfl,zYO _,fun i hi => by omega⟩
   clear h1 h3 h4
   rintro i e' H' ⟨h1,h3,h4,h5,h6,rfl,hi,hne⟩
   by_cases hlt2 : i < j
   ·by_cases hnm : (ps.getD i default).name = (ps.getD j default).name
    ·rw [hfail fun hp => hp.1.2 i hlt2 hnm]
     repeat' (first | refine zYt (by omega) ?_ | simp -implicitDefEqProofs (disch := omega) only [h1,h4,h5,h6,gA,gB,zM,zBe,zR,zCI,zYo,hnm,zI,push_cast,simprocAttr,↓reduceIte])
     exact ⟨_,rfl⟩
    ·repeat' (first | refine zYt (by omega) ?_ | simp -implicitDefEqProofs (disch := omega) only [h1,h4,h5,h6,gA,gB,zM,zBe,zR,zCI,zYo,hnm,zI,push_cast,simprocAttr,↓reduceIte])
     exact .mk (i + 1) ⟨h1,h3,h4,h5,rfl,rfl,hlt2,zBB hne hnm⟩ (by omega)
   ·have e : i = j := by omega
    subst e
    cases hN : zEI (ps.getD i default).name with
    | false =>
     rw [hfail fun hp => by rw [hp.1.1] at hN; cases hN]
     repeat' (first | refine zA (zPu (ps.getD i default).name _ (by omega)) ?_ | simp -implicitDefEqProofs (disch := omega) only [h4,h5,h6,gB,zR,zCI,hN,zT,push_cast,simprocAttr,↓reduceIte])
     exact ⟨_,rfl⟩
    | true =>
     by_cases hP : 0 <= (ps.getD i default).par/\(ps.getD i default).par <= (ps.getD i default).slots/\(ps.getD i default).slots <= 1024/\-1 <= (ps.getD i default).res/\(ps.getD i default).res <= 128/\(ps.getD i default).outs.length <= 128/\((ps.getD i default).res = -1\/(ps.getD i default).outs.length = 0)
     ·obtain ⟨q1,q2,q3,q4,q5,q6,q7⟩ := hP
      by_cases hrs : (ps.getD i default).res = -1
      ·repeat' (first | refine zA (zPu (ps.getD i default).name _ (by omega)) ?_ | simp -implicitDefEqProofs (disch := omega) only [h4,h5,h6,gB,zR,zCI,zHs,zBO,zDk,zBq,zYo,hN,zT,zZ,push_cast,simprocAttr,↓reduceIte])
       refine zW (fun (m : Nat) e' H' => e' 1 = .ptr H.length 0 0/\e' 3 = int (zA7 (ps.take i) : Nat)/\e' 4 = int i/\e' 5 = .ptr (H.length + ext.length) 0 0/\e' 7 = int m/\H' = H ++ ext2/\m <= (ps.getD i default).outs.length/\∀ m',m' < m->0 <= (ps.getD i default).outs.getD m' default/\(ps.getD i default).outs.getD m' default < (ps.getD i default).slots) (fun m => (ps.getD i default).outs.length - m) 0 ?_ ?_
       ·exact ⟨h1,h3,h4,h5,rfl,rfl,zYO _,fun m hm => by omega⟩
       clear h1 h3 h4 h5 h6
       rintro m e' H' ⟨h1,h3,h4,h5,h7,rfl,hm,hout⟩
       by_cases hlt3 : m < (ps.getD i default).outs.length
       ·have hor : ((ps.getD i default).outs.map iR).getD m [] = [int ((ps.getD i default).outs.getD m default)] := zL hlt3
        by_cases hO : 0 <= (ps.getD i default).outs.getD m default/\(ps.getD i default).outs.getD m default < (ps.getD i default).slots
        ·repeat' (first | refine zYt (by omega) ?_ | simp -implicitDefEqProofs (disch := omega) only [h5,h7,gB,zR,zBO,zBq,hor,zYo,zI,zT,zAG,push_cast,simprocAttr,↓reduceIte])
         exact .mk (m + 1) ⟨h1,h3,h4,h5,rfl,rfl,hlt3,zBB hout hO⟩ (by omega)
        ·rw [hfail fun hp => hO (hp.2.1.2.2.2.2.2.2.2 _ (zAf hlt3))]
         repeat' (first | refine zYt (by omega) ?_ | simp -implicitDefEqProofs (disch := omega) only [h5,h7,gB,zR,zBO,zBq,hor,zYo,zI,zT,zAg,push_cast,simprocAttr,↓reduceIte] | split)
         all_goals first | exact ⟨_,rfl⟩ | (exfalso; omega)
       ·have e : m = (ps.getD i default).outs.length := by omega
        subst e
        have hout' : ∀ s ∈ (ps.getD i default).outs,0 <= s/\s < (ps.getD i default).slots := by
         intro s hs
         obtain ⟨m,hm,rfl⟩ := zZd.1 hs
         have := hout m hm
         have e : (ps.getD i default).outs.getD m default = (ps.getD i default).outs[m] := by rw [zYI,zYK hm]; rfl
         rw [e] at this
         exact this
        have hH : zCA (ps.getD i default) := ⟨q1,q2,q3,q4,q5,q6,q7.imp id zYQ.1,hout'⟩
        have hsn := zD3 hlt
        have hpt := zGI ps (i + 1)
        have cE := fun H => effR ps i hlt hs1 (zFt hall) hH (ps.getD i default).body m3 true H
        have cC := fun H => cntR (ps.getD i default).body m3 H
        have cL := fun H => levR (ps.getD i default).body m3 H
        by_cases hA : zA7 (ps.take (i + 1)) <= 32768/\zAK (ps.getD i default).body <= 256
        ·cases hE : zCf ps i (ps.getD i default).body true 0 with
         | none =>
          rw [hfail fun hp => by have := hp.2.2.2.2; rw [hE] at this; cases this]
          rw [hE] at cE
          simp only [zFi] at cE
          repeat' (first | refine zA (cC _) ?_ | refine zA (cL _) ?_ | refine zA (cE _) ?_ | simp -implicitDefEqProofs (disch := omega) only [h1,h3,h4,h5,h7,gA,gB,zM,zR,zBq,zCH,zYo,zT,push_cast,simprocAttr,↓reduceIte])
          exact ⟨_,rfl⟩
         | some y =>
          rw [hE] at cE
          simp only [zFi] at cE
          by_cases hy : y = 0
          ·subst hy
           have hok : prP ps i := ⟨⟨hN,hne⟩,hH,hA.1,hA.2,hE⟩
           repeat' (first | refine zA (cC _) ?_ | refine zA (cL _) ?_ | refine zA (cE _) ?_ | simp -implicitDefEqProofs (disch := omega) only [h1,h3,h4,h5,h7,gA,gB,zM,zR,zBq,zCH,zYo,zT,push_cast,simprocAttr,↓reduceIte])
           exact .mk (i + 1,ext2) ⟨h1,zGU rfl (by dsimp only <;> omega),rfl,rfl,by dsimp only; omega,gA,hlt,zBB hall hok⟩ (by dsimp only; omega)
          ·rw [hfail fun hp => by have := hp.2.2.2.2; rw [hE] at this; exact hy (by simpa using this)]
           repeat' (first | refine zA (cC _) ?_ | refine zA (cL _) ?_ | refine zA (cE _) ?_ | simp -implicitDefEqProofs (disch := omega) only [h1,h3,h4,h5,h7,gA,gB,zM,zR,zBq,zCH,zYo,zT,zU,push_cast,simprocAttr,↓reduceIte])
           exact ⟨_,rfl⟩
        ·rw [hfail fun hp => hA ⟨hp.2.2.1,hp.2.2.2.1⟩]
         repeat' (first | refine zA (cC _) ?_ | refine zA (cL _) ?_ | simp -implicitDefEqProofs (disch := omega) only [h3,h5,h7,gB,zR,zBq,zCH,zYo,zI,zT,push_cast,simprocAttr,↓reduceIte] | split)
         all_goals first | exact ⟨_,rfl⟩ | (exfalso; omega)
      ·repeat' (first | refine zA (zPu (ps.getD i default).name _ (by omega)) ?_ | simp -implicitDefEqProofs (disch := omega) only [h4,h5,h6,gB,zR,zCI,zHs,zBO,zDk,zBq,zYo,hN,zT,zU,push_cast,simprocAttr,↓reduceIte])
       refine zW (fun (m : Nat) e' H' => e' 1 = .ptr H.length 0 0/\e' 3 = int (zA7 (ps.take i) : Nat)/\e' 4 = int i/\e' 5 = .ptr (H.length + ext.length) 0 0/\e' 7 = int m/\H' = H ++ ext2/\m <= (ps.getD i default).outs.length/\∀ m',m' < m->0 <= (ps.getD i default).outs.getD m' default/\(ps.getD i default).outs.getD m' default < (ps.getD i default).slots) (fun m => (ps.getD i default).outs.length - m) 0 ?_ ?_
       ·exact ⟨h1,h3,h4,h5,rfl,rfl,zYO _,fun m hm => by omega⟩
       clear h1 h3 h4 h5 h6
       rintro m e' H' ⟨h1,h3,h4,h5,h7,rfl,hm,hout⟩
       by_cases hlt3 : m < (ps.getD i default).outs.length
       ·exfalso; omega
       ·have e : m = (ps.getD i default).outs.length := by omega
        subst e
        have hout' : ∀ s ∈ (ps.getD i default).outs,0 <= s/\s < (ps.getD i default).slots := by
         intro s hs
         obtain ⟨m,hm,rfl⟩ := zZd.1 hs
         have := hout m hm
         have e : (ps.getD i default).outs.getD m default = (ps.getD i default).outs[m] := by rw [zYI,zYK hm]; rfl
         rw [e] at this
         exact this
        have hH : zCA (ps.getD i default) := ⟨q1,q2,q3,q4,q5,q6,q7.imp id zYQ.1,hout'⟩
        have hsn := zD3 hlt
        have hpt := zGI ps (i + 1)
        have cE := fun H => effR ps i hlt hs1 (zFt hall) hH (ps.getD i default).body m3 true H
        have cC := fun H => cntR (ps.getD i default).body m3 H
        have cL := fun H => levR (ps.getD i default).body m3 H
        by_cases hA : zA7 (ps.take (i + 1)) <= 32768/\zAK (ps.getD i default).body <= 256
        ·cases hE : zCf ps i (ps.getD i default).body true 0 with
         | none =>
          rw [hfail fun hp => by have := hp.2.2.2.2; rw [hE] at this; cases this]
          rw [hE] at cE
          simp only [zFi] at cE
          repeat' (first | refine zA (cC _) ?_ | refine zA (cL _) ?_ | refine zA (cE _) ?_ | simp -implicitDefEqProofs (disch := omega) only [h1,h3,h4,h5,h7,gA,gB,zM,zR,zBq,zCH,zYo,zT,push_cast,simprocAttr,↓reduceIte])
          exact ⟨_,rfl⟩
         | some y =>
          rw [hE] at cE
          simp only [zFi] at cE
          by_cases hy : y = 0
          ·subst hy
           have hok : prP ps i := ⟨⟨hN,hne⟩,hH,hA.1,hA.2,hE⟩
           repeat' (first | refine zA (cC _) ?_ | refine zA (cL _) ?_ | refine zA (cE _) ?_ | simp -implicitDefEqProofs (disch := omega) only [h1,h3,h4,h5,h7,gA,gB,zM,zR,zBq,zCH,zYo,zT,push_cast,simprocAttr,↓reduceIte])
           exact .mk (i + 1,ext2) ⟨h1,zGU rfl (by dsimp only <;> omega),rfl,rfl,by dsimp only; omega,gA,hlt,zBB hall hok⟩ (by dsimp only; omega)
          ·rw [hfail fun hp => by have := hp.2.2.2.2; rw [hE] at this; exact hy (by simpa using this)]
           repeat' (first | refine zA (cC _) ?_ | refine zA (cL _) ?_ | refine zA (cE _) ?_ | simp -implicitDefEqProofs (disch := omega) only [h1,h3,h4,h5,h7,gA,gB,zM,zR,zBq,zCH,zYo,zT,zU,push_cast,simprocAttr,↓reduceIte])
           exact ⟨_,rfl⟩
        ·rw [hfail fun hp => hA ⟨hp.2.2.1,hp.2.2.2.1⟩]
         repeat' (first | refine zA (cC _) ?_ | refine zA (cL _) ?_ | simp -implicitDefEqProofs (disch := omega) only [h3,h5,h7,gB,zR,zBq,zCH,zYo,zI,zT,push_cast,simprocAttr,↓reduceIte] | split)
         all_goals first | exact ⟨_,rfl⟩ | (exfalso; omega)
     ·rw [hfail fun hp => hP (by
       obtain ⟨_,⟨q1,q2,q3,q4,q5,q6,q7,_⟩,_⟩ := hp
       exact ⟨q1,q2,q3,q4,q5,q6,q7.imp id fun h => by rw [h]; rfl⟩)]
      repeat' (first | refine zA (zPu (ps.getD i default).name _ (by omega)) ?_ | simp -implicitDefEqProofs (disch := omega) only [h4,h5,h6,gB,zR,zCI,zHs,zBO,zDk,zBq,zYo,hN,zI,zT,zU,push_cast,simprocAttr,↓reduceIte] | split)
      all_goals first | exact ⟨_,rfl⟩ | (exfalso; omega)
  ·have e : j = ps.length := by omega
   subst e
   rw [zFl.2 ⟨h8,hall⟩]
   repeat' (simp -implicitDefEqProofs (disch := omega) only [h1,h4,g1,zM,zYo,zT,push_cast,simprocAttr,↓reduceIte])
   exact ⟨_,rfl⟩
 ·rw [zHi fun hv => h8 hv.1]
  repeat' (simp -implicitDefEqProofs (disch := omega) only [L7,zAz,zYo,zI,push_cast,simprocAttr,↓reduceIte,zYp])
  exact ⟨_,rfl⟩
abbrev zCD : Value := .iface 56 (.agg #[])
theorem zNd (b : Bool) (H : zB) : ACallX Tryz.prog 25 [bool b] H (fun x H' => b = true/\H' = H) fun z H' => b = false/\z = zCD/\H' = H := by
 refine zGZ Tryz.func25 L25_ok (zYu rfl) ?_
 cases b with
 | true =>
  repeat' (simp -implicitDefEqProofs (disch := omega) only [L25,push_cast,simprocAttr,↓reduceIte])
  simp [zAH]
 | false =>
  repeat' (simp -implicitDefEqProofs (disch := omega) only [L25,rBuild,fillA,zOI,zL2,zYZ,push_cast,↓reduceIte,Nat.reduceAdd])
theorem zPe (q : Pr) (hs : q.outs.length <= 1048576) (H : zB) : zBd 75 [.agg (prR q)] H (int (zCX q)) := by
 refine ACall.drop (R := fun x => x = int (zCX q)) ?_
 refine enter Tryz.func75 L75_ok (zYu rfl) ?_
 unfold zCX
 by_cases h : 0 <= q.res
 ·rw [if_pos h]
  repeat' (simp -implicitDefEqProofs (disch := omega) only [L75,zAz,prR,h,push_cast,simprocAttr,↓reduceIte,zYp])
  exact ⟨_,rfl⟩
 ·rw [if_neg h]
  repeat' (simp -implicitDefEqProofs (disch := omega) only [L75,zAz,prR,h,zYo,push_cast,simprocAttr,↓reduceIte,zYp])
  exact ⟨_,rfl⟩
theorem zGu (h n c : Int) (hh : 0 <= h/\h <= 1024) (hc : -2048 <= c/\c <= 2048) (a : Nat) (G : zB) (hg : G[a]? = some (.box [int h])) :
  ACallX Tryz.prog 73 [int n,int c,.ptr a 0 0] G (fun _ G' => (n <= h/\h + c <= 1024)/\G' = G.set a (.box [int (h + c)])) fun z G' => z = zCD/\¬ (n <= h/\h + c <= 1024)/\(G' = G\/G' = G.set a (.box [int (h + c)])) := by
 have ha := (zYr.1 hg).1
 refine zGZ Tryz.func73 L73_ok (zYu rfl) ?_
 by_cases h1 : n <= h
 ·repeat' (simp -implicitDefEqProofs (disch := omega) only [L73,hg,zAg,push_cast,simprocAttr,↓reduceIte])
  refine zG (zNd _ _) ?_ ?_
  ·rintro x H' ⟨_,rfl⟩
   repeat' (simp -implicitDefEqProofs (disch := omega) only [hg,zJ,splice,push_cast,simprocAttr,↓reduceIte,zYp])
   refine zG (zNd _ _) ?_ ?_
   ·rintro x H' ⟨hb,rfl⟩
    rw [zYy] at hb
    repeat' (simp -implicitDefEqProofs (disch := omega) only [zAg,push_cast])
    simp [zAH,L73,h1,hb]
   ·rintro x H' ⟨hb,rfl,rfl⟩
    rw [zYY] at hb
    repeat' (simp -implicitDefEqProofs (disch := omega) only [zAG,push_cast])
    first | omega | exact fun hh => absurd hh.2 hb
  ·rintro x H' ⟨hb,_,_⟩
   cases hb
 ·repeat' (simp -implicitDefEqProofs (disch := omega) only [L73,hg,zAG,push_cast,simprocAttr,↓reduceIte])
  refine zG (zNd _ _) ?_ ?_
  ·rintro x H' ⟨hb,_⟩
   cases hb
  ·rintro x H' ⟨hb,rfl,rfl⟩
   repeat' (simp -implicitDefEqProofs (disch := omega) only [push_cast])
   first | omega | exact fun hh => absurd hh.1 h1
theorem zCk (s : Int) (q : Pr) (a : Nat) (G : zB) (hg : G[a]? = some (.box (prR q))) : ACall Tryz.prog 74 [int s,.ptr a 0 0] G fun x G' => x = bool (decide (0 <= s/\s < q.slots))/\G' = G := by
 refine enter Tryz.func74 L74_ok (zYu rfl) ?_
 by_cases h1 : 0 <= s
 ·by_cases h2 : s < q.slots
  ·rw [zY3 ⟨h1,h2⟩]
   repeat' (simp -implicitDefEqProofs (disch := omega) only [L74,hg,zBO,zR,zI,zAg,push_cast,simprocAttr,↓reduceIte])
  ·rw [zZK fun hh => h2 hh.2]
   repeat' (simp -implicitDefEqProofs (disch := omega) only [L74,hg,zBO,zR,zT,zAg,push_cast,simprocAttr,↓reduceIte])
 ·rw [zZK fun hh => h1 hh.1]
  repeat' (simp -implicitDefEqProofs (disch := omega) only [L74,zAG,push_cast,simprocAttr,↓reduceIte])
structure Fr1 (r : Nat) (G G' : zB) : Prop where
 le : G.length <= G'.length
 keep : ∀ i,i < G.length->i ≠ r->G'[i]? = G[i]?
theorem Fr1.refl {r : Nat} {G : zB} : Fr1 r G G := ⟨zYH _,fun _ _ _ => rfl⟩
theorem Fr1.trans {r : Nat} {G G' G'' : zB} (h : Fr1 r G G') (h' : Fr1 r G' G'') : Fr1 r G G'' :=
 ⟨zZL h.1 h'.1,fun i hi hne => (h'.2 i (zYT hi h.1) hne).trans (h.2 i hi hne)⟩
theorem Fr1.app {r : Nat} {G : zB} (ext : zB) : Fr1 r G (G ++ ext) := ⟨by simp,fun i hi _ => zC hi⟩
theorem Fr1.set {r : Nat} {G : zB} (x : HO) : Fr1 r G (G.set r x) := ⟨by simp,fun i hi hne => zH fun e => hne e.symm⟩
theorem Fr1.set' {r i : Nat} {G G' : zB} (h : Fr1 r G G') (hi : G.length <= i) (x : HO) : Fr1 r G (G'.set i x) :=
 ⟨by simpa using h.1,fun j hj hne => by rw [zH (by omega)]; exact h.2 j hj hne⟩
theorem zAI (l : List Ins) (j : Nat) : zAK (l.take j) <= zAK l := by
 have h := zDK (l.take j) (l.drop j)
 rw [zZv] at h
 omega
def zDN (ps : List Pr) (k : Nat) (l : List Ins) (out : Bool) (level c : Int) : Prop := (∃ e,zCf ps k l out 0 = some e)/\c + zQ l <= 32768/\level + zAK l <= 257
def zX6 (ps : List Pr) (k : Nat) (l : List Ins) : Prop := ∀ (out : Bool) (level c : Int) (G : zB) (r : Nat),G[r]? = some (.box [zAU ps,int k,int c])->0 <= c->c <= 32768->1 <= level->level <= 257 ->
 ACallX Tryz.prog 46 [.ptr r 0 0,.sl 5 (l.map zAq),bool out,int level] G (fun x G' => ∃ e,x = int e/\zCf ps k l out 0 = some e/\c + zQ l <= 32768/\level + zAK l <= 257/\Fr1 r G G'/\G'[r]? = some (.box [zAU ps,int k,int (c + zQ l)]))
  fun z G' => z = zCD/\¬ zDN ps k l out level c/\Fr1 r G G'
section
variable {ps : List Pr} {k : Nat} {o a b : Int} {bd el : List Ins} {out : Bool} {h n c h' : Int}
theorem zBw (h18 : ¬ o = 18) (h19 : ¬ o = 19) (he : zCB ps k o a out h = chg h n c) : zCC ps k (.mk o a b bd el) out h = some h' ↔ zS (ps.getD k default).slots o a b (bd.isEmpty && el.isEmpty)/\n <= h/\h + c <= 1024/\h' = h + c := by
 simp only [zCC]
 by_cases hf : zS (ps.getD k default).slots o a b (bd.isEmpty && el.isEmpty)
 ·rw [if_pos hf,if_neg h18,if_neg h19,he]
  constructor
  ·intro hh
   have := zDx hh
   exact ⟨hf,by omega,by omega,by omega⟩
  ·rintro ⟨_,h1,h2,rfl⟩
   exact zDy h1 h2
 ·rw [if_neg hf]
  constructor
  ·intro hh; cases hh
  ·intro hh; exact absurd hh.1 hf
theorem zCS : zCC ps k (.mk 18 a b bd el) out h = some h' ↔ a = 0/\b = 0/\1 <= h/\∃ e,zCf ps k bd (out && decide (h = 1)) 0 = some e/\zCf ps k el (out && decide (h = 1)) 0 = some e/\h + (e - 1) <= 1024/\h' = h + (e - 1) := by
 simp only [zCC,if_true]
 have hff : zS (ps.getD k default).slots 18 a b (bd.isEmpty && el.isEmpty) ↔ a = 0/\b = 0 := by
  unfold zS
  constructor
  ·intro hh; omega
  ·intro hh
   refine ⟨?_,?_,?_,?_,?_,?_,?_,?_⟩ <;> first | omega | (intro h1; omega)
 by_cases hf : a = 0/\b = 0
 ·rw [if_pos (hff.2 hf)]
  by_cases h1 : 1 <= h
  ·rw [if_pos h1]
   cases e1 : zCf ps k bd (out && decide (h = 1)) 0 with
   | none => exact ⟨fun hh => (by cases hh),fun ⟨_,_,_,e,hh,_⟩ => (by cases hh)⟩
   | some y1 =>
    cases e2 : zCf ps k el (out && decide (h = 1)) 0 with
    | none => exact ⟨fun hh => (by cases hh),fun ⟨_,_,_,e,_,hh,_⟩ => (by cases hh)⟩
    | some y2 =>
     simp only
     by_cases hy : y1 = y2
     ·subst hy
      rw [if_pos rfl]
      constructor
      ·intro hh
       have := zDx hh
       exact ⟨hf.1,hf.2,h1,y1,rfl,rfl,by omega,by omega⟩
      ·rintro ⟨_,_,_,e,g1,_,g2,rfl⟩
       simp only [zYq] at g1
       subst g1
       exact zDy (by omega) g2
     ·rw [if_neg hy]
      exact ⟨fun hh => (by cases hh),fun ⟨_,_,_,e,g1,g2,_⟩ => by simp only [zYq] at g1 g2; omega⟩
  ·rw [if_neg h1]
   exact ⟨fun hh => (by cases hh),fun hh => absurd hh.2.2.1 h1⟩
 ·rw [if_neg fun hh => hf (hff.1 hh)]
  exact ⟨fun hh => (by cases hh),fun hh => absurd ⟨hh.1,hh.2.1⟩ hf⟩
theorem zIO : zCC ps k (.mk 19 a b bd el) out h = some h' ↔ a = 0/\b = 0/\out = true/\h = 0/\zCf ps k el false 0 = some 1/\zCf ps k bd true 0 = some 0/\h' = h := by
 simp only [zCC,show ¬ (19 : Int) = 18 by omega,if_true,if_false]
 have hff : zS (ps.getD k default).slots 19 a b (bd.isEmpty && el.isEmpty) ↔ a = 0/\b = 0 := by
  unfold zS
  constructor
  ·intro hh; omega
  ·intro hh
   refine ⟨?_,?_,?_,?_,?_,?_,?_,?_⟩ <;> first | omega | (intro h1; omega)
 by_cases hf : a = 0/\b = 0
 ·rw [if_pos (hff.2 hf)]
  split
  ·rename_i hc
   simp only [zYq]
   exact ⟨fun hh => ⟨hf.1,hf.2,hc.1,hc.2.1,hc.2.2.1,hc.2.2.2,hh.symm⟩,fun hh => hh.2.2.2.2.2.2.symm⟩
  ·rename_i hc
   exact ⟨fun hh => (by cases hh),fun hh => absurd ⟨hh.2.2.1,hh.2.2.2.1,hh.2.2.2.2.1,hh.2.2.2.2.2.1⟩ hc⟩
 ·rw [if_neg fun hh => hf (hff.1 hh)]
  exact ⟨fun hh => (by cases hh),fun hh => absurd ⟨hh.1,hh.2.1⟩ hf⟩
theorem zSv : zCC ps k (.mk 20 a b bd el) out h = some h' ↔ b = 0/\(bd.length = 0/\el.length = 0)/\(0 <= a/\a < k)/\(ps.getD a.toNat default).par <= h/\h + (zCX (ps.getD a.toNat default) - (ps.getD a.toNat default).par) <= 1024/\h' = h + (zCX (ps.getD a.toNat default) - (ps.getD a.toNat default).par) := by
 simp only [zCC,show ¬ (20 : Int) = 18 by omega,show ¬ (20 : Int) = 19 by omega,if_true,if_false]
 have hff : zS (ps.getD k default).slots 20 a b (bd.isEmpty && el.isEmpty) ↔ b = 0/\(bd.length = 0/\el.length = 0) := by
  unfold zS
  rw [zAw,zYy]
  constructor
  ·intro hh; omega
  ·intro hh
   refine ⟨?_,?_,?_,?_,?_,?_,?_,?_⟩ <;> first | omega | (intro h1; omega)
 have hes : zCB ps k 20 a out h = if 0 <= a/\a < k then chg h (ps.getD a.toNat default).par (zCX (ps.getD a.toNat default) - (ps.getD a.toNat default).par) else none := by
  unfold zCB
  rw [if_neg (by omega),if_neg (by omega),if_neg (by omega),if_neg (by omega),if_pos rfl]
 rw [hes]
 by_cases hf : b = 0/\(bd.length = 0/\el.length = 0)
 ·rw [if_pos (hff.2 hf)]
  split
  ·rename_i ha
   constructor
   ·intro hh
    have := zDx hh
    exact ⟨hf.1,hf.2,ha,by omega,by omega,by omega⟩
   ·rintro ⟨_,_,_,g1,g2,rfl⟩
    exact zDy g1 g2
  ·rename_i ha
   exact ⟨fun hh => (by cases hh),fun hh => absurd hh.2.2.1 ha⟩
 ·rw [if_neg fun hh => hf (hff.1 hh)]
  exact ⟨fun hh => (by cases hh),fun hh => absurd ⟨hh.1,hh.2.1⟩ hf⟩
theorem zVk : zCC ps k (.mk 21 a b bd el) out h = some h' ↔ (a = 0/\b = 0)/\(bd.length = 0/\el.length = 0)/\out = true/\h = max (ps.getD k default).res 0/\h' = 0 := by
 simp only [zCC,show ¬ (21 : Int) = 18 by omega,show ¬ (21 : Int) = 19 by omega,if_true,if_false]
 have hff : zS (ps.getD k default).slots 21 a b (bd.isEmpty && el.isEmpty) ↔ (a = 0/\b = 0)/\(bd.length = 0/\el.length = 0) := by
  unfold zS
  rw [zAw,zYy]
  constructor
  ·intro hh; omega
  ·intro hh
   refine ⟨?_,?_,?_,?_,?_,?_,?_,?_⟩ <;> first | omega | (intro h1; omega)
 have hes : zCB ps k 21 a out h = if out = true/\h = max (ps.getD k default).res 0 then chg h 0 (-h) else none := by
  unfold zCB
  rw [if_neg (by omega),if_neg (by omega),if_neg (by omega),if_neg (by omega),if_neg (by omega),if_pos rfl]
 rw [hes]
 by_cases hf : (a = 0/\b = 0)/\(bd.length = 0/\el.length = 0)
 ·rw [if_pos (hff.2 hf)]
  split
  ·rename_i ha
   constructor
   ·intro hh
    have := zDx hh
    exact ⟨hf.1,hf.2,ha.1,ha.2,by omega⟩
   ·rintro ⟨_,_,_,g1,rfl⟩
    rw [zDy (by omega) (by omega)]
    congr 1; omega
  ·rename_i ha
   exact ⟨fun hh => (by cases hh),fun hh => absurd ⟨hh.2.2.1,hh.2.2.2.1⟩ ha⟩
 ·rw [if_neg fun hh => hf (hff.1 hh)]
  exact ⟨fun hh => (by cases hh),fun hh => absurd ⟨hh.1,hh.2.1⟩ hf⟩
end
section
variable {ps : List Pr} {k : Nat} {l : List Ins} {out : Bool} {level c : Int} {r : Nat} {G : zB}
structure EfI (ps : List Pr) (k : Nat) (l : List Ins) (out : Bool) (level c : Int) (r : Nat) (G : zB) (j : Nat) (h : Int) (e' : Env) (G' : zB) : Prop where
 e0 : e' 0 = .ptr r 0 0
 e2 : e' 2 = bool out
 e3 : e' 3 = int level
 e9 : e' 9 = .ptr G.length 0 0
 e10 : e' 10 = .ptr (G.length + 1) 0 0
 e11 : e' 11 = .fn (.func 73) [] [.ptr (G.length + 1) 0 0]
 e12 : e' 12 = .fn (.func 74) [] [.ptr G.length 0 0]
 e42 : e' 42 = .sl 5 (l.map zAq)
 e43 : e' 43 = int l.length
 e44 : e' 44 = int j
 gr : G'[r]? = some (.box [zAU ps,int k,int (c + zQ (l.take j))])
 g9 : G'[G.length]? = some (.box (prR (ps.getD k default)))
 g10 : G'[G.length + 1]? = some (.box [int h])
 fr : Fr1 r G G'
 gl : G.length + 2 <= G'.length
 hj : j <= l.length
 hh : 0 <= h/\h <= 1024
 cc : c + zQ (l.take j) <= 32768
 lv : level + zAK (l.take j) <= 257
 ef : zCf ps k l out 0 = zCf ps k (l.drop j) out h
theorem zBf {x : Ins} {j : Nat} (hlt : j < l.length) (hx : l.getD j default = x) {h : Int} (ef : zCf ps k l out 0 = zCf ps k (l.drop j) out h) (hn : (∀ h',¬ zCC ps k x out h = some h')\/32768 < c + zQ (l.take j) + zBo x\/257 < level + zCV x) : ¬ zDN ps k l out level c := by
 rintro ⟨⟨e,he⟩,h2,h3⟩
 rw [ef,zAQ ps k hlt,hx] at he
 have hb := zAs l (j + 1)
 rw [zAm hlt,hx] at hb
 have hb2 := zAI l (j + 1)
 rw [zAF hlt,hx] at hb2
 rcases hn with hn | hn | hn
 ·cases hI : zCC ps k x out h with
  | none => rw [hI] at he; cases he
  | some h' => exact hn h' hI
 ·omega
 ·omega
end
theorem zAy (H : zB) : ACall Tryz.prog 25 [bool true] H fun x H' => x = .tup []/\H' = H := by
 refine enter Tryz.func25 L25_ok (zYu rfl) ?_
 repeat' (simp -implicitDefEqProofs (disch := omega) only [L25,push_cast,↓reduceIte,Nat.reduceAdd])
 simp [zAH]
theorem zAO (H : zB) : ACallX Tryz.prog 25 [bool false] H (fun _ _ => False) fun z H' => z = zCD/\H' = H :=
 (zNd false H).mono (fun _ _ h => by cases h.1) fun _ _ h => h.2
end Go.Proofs.YtbibhcmcjldhdaaGreatDoor
namespace Go.Proofs.YtbibhcmcjldhdaaGreatDoor
open Go Go.Ax Go.RowKit
set_option maxRecDepth 100000
set_option linter.unusedSimpArgs false
set_option linter.unusedVariables false
set_option maxHeartbeats 4000000
theorem zKz {α : Type} [Inhabited α] {l : List α} {i : Nat} (h : i < l.length) : l.drop i = l.getD i default :: l.drop (i + 1) := by
 rw [zY4 h]; simp [List.getD,zYK h]
def zES (w : Wd) : Wd := if w.head? = some 45 then w.tail else w
theorem zW7 (s : Wd) (H : zB) : ACall Tryz.prog 56 [str s,str [45]] H fun x H' => x = str (zES s)/\H' = H := by
 refine ⟨⟨_,Tryz.func56,by kernel_rfl,by kernel_rfl⟩,fun X ρ w vs hrel hargs => ?_⟩
 obtain ⟨a,b,rfl,ha,hb⟩ := zFr hargs
 have ha := zEg ha
 have hb := zEg hb
 subst ha
 subst hb
 refine (Tryz.strings_TrimPrefix (mkS s) (mkS [45]) w).mono ?_
 rintro e w' ⟨rfl,rfl⟩
 refine ⟨_,_,H,ρ,rfl,⟨rfl,rfl⟩,hrel,?_,Fut.refl _ _ _⟩
 have : Lib.trimPrefix s [45] = zES s := by
  cases s with
  | nil => rfl
  | cons c s =>
   have h1 : Lib.hasPrefix (c :: s) [45] = decide (c = 45) := by
    unfold Lib.hasPrefix
    simp only [List.isPrefixOf,zzaP]
    by_cases h : c = 45
    ·subst h; rfl
    ·rw [zZK h]; exact beq_false_of_ne fun e => h e.symm
   unfold Lib.trimPrefix zES
   rw [h1]
   by_cases h : c = 45
   ·subst h; rfl
   ·rw [zZK h,if_neg (by decide),if_neg (fun e => h (by simpa using e))]
 rw [<- this]
 exact .v _ _
def zSl (xs : Ln) (w : Wd) : Int := match xs.findIdx? fun x => decide (x = w) with | some k => (k : Int) | none => -1
theorem zX5 (xs : Ln) (w : Wd) (hx : xs.length <= 1048576) (H : zB) : ACall Tryz.prog 58 [.sl 1 (xs.map sR),str w] H fun x H' => x = int (zSl xs w)/\H' = H := by
 refine ACall.drop (R := fun x => x = int (zSl xs w)) ?_
 refine enter Tryz.func58 L58_ok (zYu rfl) ?_
 repeat' (simp -implicitDefEqProofs (disch := omega) only [L58,zYo,push_cast,simprocAttr,↓reduceIte])
 refine zW (fun (i : Nat) e' G => e' 0 = .sl 1 (xs.map sR)/\e' 1 = str w/\e' 7 = int xs.length/\e' 8 = int i/\i <= xs.length/\(∀ k,k < i->¬ xs.getD k [] = w)/\G = H) (fun i => xs.length - i) 0 ?_ ?_
 ·exact ⟨rfl,rfl,rfl,rfl,zYO _,fun k hk => by omega,rfl⟩
 rintro i e' G ⟨g0,g1,g7,g8,hi,hne,rfl⟩
 by_cases hlt : i < xs.length
 ·have hrow : (xs.map sR).getD i [] = sR (xs.getD i []) := zL hlt
  by_cases he : w = xs.getD i []
  ·have hf : xs.findIdx? (fun x => decide (x = w)) = some i := by
    rw [zZE]
    refine ⟨hlt,by rw [he]; simp [List.getD,zYK hlt],fun k hk => ?_⟩
    have := hne k hk
    simpa [List.getD,zYK (Nat.lt_trans hk hlt)] using this
   have hfx : zSl xs w = i := by unfold zSl; rw [hf]
   rw [hfx]
   repeat' (first | refine zYt (by omega) ?_ | simp -implicitDefEqProofs (disch := omega) only [g0,g1,g7,g8,hrow,sR,zYo,<- he,zI,push_cast,simprocAttr,↓reduceIte])
   all_goals exact ⟨_,(zY1 _).symm⟩
  ·repeat' (first | refine zYt (by omega) ?_ | simp -implicitDefEqProofs (disch := omega) only [g0,g1,g7,g8,hrow,sR,zYo,he,zI,push_cast,simprocAttr,↓reduceIte])
   exact .mk (i + 1) ⟨g0,g1,g7,rfl,hlt,fun k hk => by
    by_cases h : k = i
    ·subst h; exact fun e => he e.symm
    ·exact hne k (by omega),rfl⟩ (by omega)
 ·have hf : xs.findIdx? (fun x => decide (x = w)) = none := by
   rw [zzab]
   intro x hx
   obtain ⟨k,hk,rfl⟩ := zZd.1 hx
   have := hne k (by omega)
   simpa [List.getD,zYK hk] using this
  have hfx : zSl xs w = -1 := by unfold zSl; rw [hf]
  rw [hfx]
  repeat' (simp -implicitDefEqProofs (disch := omega) only [g7,g8,zT,push_cast,↓reduceIte,Int.reduceNeg])
  all_goals exact ⟨_,(zY1 _).symm⟩
theorem zIq (l : Ln) (hl : l.length <= 1048576) (hw : ∀ w ∈ l,w.length <= 1048576) (H : zB) : ACallX Tryz.prog 26 [.sl 1 (l.map sR)] H
    (fun x H' => ∃ ns,zBj l = some ns/\x = .os H.length l.length 0 l.length/\H' = H ++ [.arr l.length 1 (ns.map iR)]) fun z H' => zBj l = none/\z = zCD/\∃ junk,H' = H ++ junk := by
  refine zGZ Tryz.func26 L26n_ok (zYu rfl) ?_
  repeat' (simp -implicitDefEqProofs (disch := omega) only [L26n,zYo,push_cast,simprocAttr,↓reduceIte])
  refine zW (fun (st : Nat × List Int) e' G => e' 9 = .sl 1 (l.map sR)/\e' 10 = int l.length/\e' 3 = .os H.length st.1 0 st.1/\e' 11 = int st.1/\st.1 <= l.length/\zBj (l.take st.1) = some st.2/\st.2.length = st.1/\G = H ++ [.arr st.1 1 (st.2.map iR)]) (fun st => l.length - st.1) (0,[]) ?_ ?_
  · exact ⟨rfl,rfl,rfl,rfl,zYO _,rfl,rfl,rfl⟩
  rintro ⟨j,ns⟩ e' G ⟨g9,g10,g3,g11,hj,hns,hnl,rfl⟩
  simp only at g3 g11 hj hns hnl
  by_cases hlt : j < l.length
  · have hmem := hw _ (zAf hlt)
    have hts := zA0 (l := l) (j := j) hlt
    have happ := zEF (l.take j) (l.getD j default)
    rw [<- hts,hns] at happ
    have hrow : (l.map sR).getD j [] = sR (l.getD j default) := zL hlt
    generalize l.getD j default = w at *
    have cT := fun H => zW7 w H
    have cN := fun H => zUV (zES w) H (by have : (zES w).length <= w.length := (by unfold zES; split <;> simp); omega)
    have hn0 : zIr w = if zEH (zES w) = true then some (if zES w = w then (zGL 0 (zES w) : Int) else -(zGL 0 (zES w) : Int)) else none := by
      unfold zIr zES
      cases w with
      | nil => simp
      | cons c w => by_cases hc : c = 45 <;> simp [hc]
    cases hi : zEH (zES w) with
    | false =>
      rw [hi] at hn0
      rw [zCR (by simp [hi])] at cN
      have hno : zBj l = none := by
        rw [<- zZv (j + 1) l]
        exact zCQ _ _ (by rw [happ,hn0]; rfl)
      repeat' (first | refine zYt (by omega) ?_ | refine zA (cT _) ?_ | refine zA (cN _) ?_ | refine zK (zAO _) ?_ | simp -implicitDefEqProofs (disch := omega) only [g9,g10,g11,hrow,sR,zYo,zI,push_cast,simprocAttr,↓reduceIte])
      exact ⟨_,rfl⟩
    | true =>
      rw [hi,if_pos rfl] at hn0
      have hlt2 := zFW hi
      rw [zEG hi] at cN
      have hfin : ∀ n,List.take j (ns.map iR) ++ [iR n] = (ns ++ [n]).map iR := fun n => by
        rw [zYN (by simp; omega)]; simp
      have hrl : (ns.map iR).length = j := by simp; omega
      by_cases ht : zES w = w
      · rw [if_pos ht] at hn0
        rw [ht] at cT cN hn0
        repeat' (first | refine zYt (by omega) ?_ | refine zA (cT _) ?_ | refine zA (cN _) ?_ | refine zD (zAy _) ?_ | simp -implicitDefEqProofs (disch := omega) only [g3,g9,g10,g11,hrow,sR,zYo,hrl,zI,push_cast,simprocAttr,↓reduceIte,zYp])
        exact .mk (j + 1,ns ++ [_]) ⟨g9,g10,rfl,rfl,hlt,by rw [happ,hn0],by simp; omega,congrArg (fun z => H ++ [HO.arr (j + 1) 1 z]) (hfin _)⟩ (by simp only; omega)
      · rw [if_neg ht] at hn0
        repeat' (first | refine zYt (by omega) ?_ | refine zA (cT _) ?_ | refine zA (cN _) ?_ | refine zD (zAy _) ?_ | simp -implicitDefEqProofs (disch := omega) only [g3,g9,g10,g11,hrow,sR,zYo,ht,hrl,zI,push_cast,simprocAttr,↓reduceIte,zYp])
        exact .mk (j + 1,ns ++ [_]) ⟨g9,g10,rfl,rfl,hlt,by rw [happ,hn0]; simp only [Int.zero_sub],by simp; omega,congrArg (fun z => H ++ [HO.arr (j + 1) 1 z]) (hfin _)⟩ (by simp only; omega)
  · have hjl : j = l.length := by omega
    subst hjl
    have hnn : zBj l = some ns := by rw [<- hns,zYN (by omega)]
    repeat' (simp -implicitDefEqProofs (disch := omega) only [g3,g10,g11,zT,push_cast,↓reduceIte,Nat.reduceEqDiff])
    exact ⟨ns,hnn,rfl⟩
end Go.Proofs.YtbibhcmcjldhdaaGreatDoor
