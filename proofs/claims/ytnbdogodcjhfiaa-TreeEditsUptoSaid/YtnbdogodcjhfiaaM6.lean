/- Parts, merged by a program (wip/tools/merge.py): Tr21 Tr22 Tr23 Tr24 Tr25. -/
import Derived.Test.YtnbdogodcjhfiaaM5
import Derived.Shelf.Spec.SlicesGrow
import Derived.KernelRfl
/- Trees: the laws TreeBare, TreeNumbers, TreePaths, TreeFinds. -/
namespace Go.Proofs.Ytnbdogodcjhfiaa
open Go Go.Ax
set_option maxRecDepth 100000
set_option linter.unusedSimpArgs false
set_option linter.unusedVariables false

theorem treeBare (n : Nd) (hs : Sml n) (H : AHeap) : Comp' 4 [.agg (ndR n)] H (bool true) := by
  refine ACall.drop (R := fun x => x = bool true) ?_
  refine enter Try.func4 L4_ok (Nat.le_of_ble_eq_true rfl) ?_
  by_cases hf : smallF n 100 = true
  · have hb := bare_sml hs
    have c1 := fun H => sameT n (bareF n) hs hb H
    rw [bare_same] at c1
    have c2 := fun H => sameT (bareF n) n hb hs H
    rw [bare_same'] at c2
    have c3 := fun H => countT (bareF n) hb H
    rw [bare_cnt] at c3
    have c4 := fun H => ValidT (bareF n) hb H
    have c5 := fun H => ExprT (bareF n) hb H
    have c6 := fun H => StatT (bareF n) hb H
    rw [bareF_kind, bare_shaped] at c4 c5 c6
    have hl : (nds (bareF n)).length = cnt n := by rw [nds_len, bare_cnt]
    have hcn := sml_cnt hs
    repeat' (first | (refine And.intro (by omega) ?_) | (refine callF_pure (smallR n 100 hs _) ?_) | (refine callF_pure (bareT n hs _) ?_) | (refine callF_pure (c1 _) ?_) | (refine callF_pure (c2 _) ?_) | (refine callF_pure (c3 _) ?_) | (refine callF_pure (c4 _) ?_) | (refine callF_pure (c5 _) ?_) | (refine callF_pure (c6 _) ?_) | (refine callF_pure (countT n hs _) ?_) | (refine callF_pure (ValidT n hs _) ?_) | (refine callF_pure (ExprT n hs _) ?_) | (refine callF_pure (StatT n hs _) ?_) | (refine callF_pure (nodesR (bareF n) hb _) ?_) | (refine callQF_pure (smallR n 100 hs _) (by first | rfl | simp -implicitDefEqProofs (disch := omega) only [L4, cells_agg, nd_c1s, nd_len, nd_take, nd_cellsV, nd_clL, nd_drop5, List.append_nil, splice, hf, eq_self, hl, List.length_map, dT_lt, dF_lt, dT_le, dF_le, dT_eq, dF_eq, push_cast, ↓reduceIte, Nat.reduceEqDiff, reduceCtorEq, Nat.reduceAdd, Nat.reduceSub, Nat.reduceMul, Nat.reduceLeDiff, Nat.reduceLT, Nat.reduceMod, Nat.reduceDiv, Int.reduceToNat, Int.reduceLT, Int.reduceLE, Int.reduceEq, Int.reduceAdd, Int.reduceSub, Int.reduceNeg, Int.reduceMul, Bool.and_self]) ?_) | (refine callQF_pure (bareT n hs _) (by first | rfl | simp -implicitDefEqProofs (disch := omega) only [L4, cells_agg, nd_c1s, nd_len, nd_take, nd_cellsV, nd_clL, nd_drop5, List.append_nil, splice, hf, eq_self, hl, List.length_map, dT_lt, dF_lt, dT_le, dF_le, dT_eq, dF_eq, push_cast, ↓reduceIte, Nat.reduceEqDiff, reduceCtorEq, Nat.reduceAdd, Nat.reduceSub, Nat.reduceMul, Nat.reduceLeDiff, Nat.reduceLT, Nat.reduceMod, Nat.reduceDiv, Int.reduceToNat, Int.reduceLT, Int.reduceLE, Int.reduceEq, Int.reduceAdd, Int.reduceSub, Int.reduceNeg, Int.reduceMul, Bool.and_self]) ?_) | (refine callQF_pure (c1 _) (by first | rfl | simp -implicitDefEqProofs (disch := omega) only [L4, cells_agg, nd_c1s, nd_len, nd_take, nd_cellsV, nd_clL, nd_drop5, List.append_nil, splice, hf, eq_self, hl, List.length_map, dT_lt, dF_lt, dT_le, dF_le, dT_eq, dF_eq, push_cast, ↓reduceIte, Nat.reduceEqDiff, reduceCtorEq, Nat.reduceAdd, Nat.reduceSub, Nat.reduceMul, Nat.reduceLeDiff, Nat.reduceLT, Nat.reduceMod, Nat.reduceDiv, Int.reduceToNat, Int.reduceLT, Int.reduceLE, Int.reduceEq, Int.reduceAdd, Int.reduceSub, Int.reduceNeg, Int.reduceMul, Bool.and_self]) ?_) | (refine callQF_pure (c2 _) (by first | rfl | simp -implicitDefEqProofs (disch := omega) only [L4, cells_agg, nd_c1s, nd_len, nd_take, nd_cellsV, nd_clL, nd_drop5, List.append_nil, splice, hf, eq_self, hl, List.length_map, dT_lt, dF_lt, dT_le, dF_le, dT_eq, dF_eq, push_cast, ↓reduceIte, Nat.reduceEqDiff, reduceCtorEq, Nat.reduceAdd, Nat.reduceSub, Nat.reduceMul, Nat.reduceLeDiff, Nat.reduceLT, Nat.reduceMod, Nat.reduceDiv, Int.reduceToNat, Int.reduceLT, Int.reduceLE, Int.reduceEq, Int.reduceAdd, Int.reduceSub, Int.reduceNeg, Int.reduceMul, Bool.and_self]) ?_) | (refine callQF_pure (c3 _) (by first | rfl | simp -implicitDefEqProofs (disch := omega) only [L4, cells_agg, nd_c1s, nd_len, nd_take, nd_cellsV, nd_clL, nd_drop5, List.append_nil, splice, hf, eq_self, hl, List.length_map, dT_lt, dF_lt, dT_le, dF_le, dT_eq, dF_eq, push_cast, ↓reduceIte, Nat.reduceEqDiff, reduceCtorEq, Nat.reduceAdd, Nat.reduceSub, Nat.reduceMul, Nat.reduceLeDiff, Nat.reduceLT, Nat.reduceMod, Nat.reduceDiv, Int.reduceToNat, Int.reduceLT, Int.reduceLE, Int.reduceEq, Int.reduceAdd, Int.reduceSub, Int.reduceNeg, Int.reduceMul, Bool.and_self]) ?_) | (refine callQF_pure (c4 _) (by first | rfl | simp -implicitDefEqProofs (disch := omega) only [L4, cells_agg, nd_c1s, nd_len, nd_take, nd_cellsV, nd_clL, nd_drop5, List.append_nil, splice, hf, eq_self, hl, List.length_map, dT_lt, dF_lt, dT_le, dF_le, dT_eq, dF_eq, push_cast, ↓reduceIte, Nat.reduceEqDiff, reduceCtorEq, Nat.reduceAdd, Nat.reduceSub, Nat.reduceMul, Nat.reduceLeDiff, Nat.reduceLT, Nat.reduceMod, Nat.reduceDiv, Int.reduceToNat, Int.reduceLT, Int.reduceLE, Int.reduceEq, Int.reduceAdd, Int.reduceSub, Int.reduceNeg, Int.reduceMul, Bool.and_self]) ?_) | (refine callQF_pure (c5 _) (by first | rfl | simp -implicitDefEqProofs (disch := omega) only [L4, cells_agg, nd_c1s, nd_len, nd_take, nd_cellsV, nd_clL, nd_drop5, List.append_nil, splice, hf, eq_self, hl, List.length_map, dT_lt, dF_lt, dT_le, dF_le, dT_eq, dF_eq, push_cast, ↓reduceIte, Nat.reduceEqDiff, reduceCtorEq, Nat.reduceAdd, Nat.reduceSub, Nat.reduceMul, Nat.reduceLeDiff, Nat.reduceLT, Nat.reduceMod, Nat.reduceDiv, Int.reduceToNat, Int.reduceLT, Int.reduceLE, Int.reduceEq, Int.reduceAdd, Int.reduceSub, Int.reduceNeg, Int.reduceMul, Bool.and_self]) ?_) | (refine callQF_pure (c6 _) (by first | rfl | simp -implicitDefEqProofs (disch := omega) only [L4, cells_agg, nd_c1s, nd_len, nd_take, nd_cellsV, nd_clL, nd_drop5, List.append_nil, splice, hf, eq_self, hl, List.length_map, dT_lt, dF_lt, dT_le, dF_le, dT_eq, dF_eq, push_cast, ↓reduceIte, Nat.reduceEqDiff, reduceCtorEq, Nat.reduceAdd, Nat.reduceSub, Nat.reduceMul, Nat.reduceLeDiff, Nat.reduceLT, Nat.reduceMod, Nat.reduceDiv, Int.reduceToNat, Int.reduceLT, Int.reduceLE, Int.reduceEq, Int.reduceAdd, Int.reduceSub, Int.reduceNeg, Int.reduceMul, Bool.and_self]) ?_) | (refine callQF_pure (countT n hs _) (by first | rfl | simp -implicitDefEqProofs (disch := omega) only [L4, cells_agg, nd_c1s, nd_len, nd_take, nd_cellsV, nd_clL, nd_drop5, List.append_nil, splice, hf, eq_self, hl, List.length_map, dT_lt, dF_lt, dT_le, dF_le, dT_eq, dF_eq, push_cast, ↓reduceIte, Nat.reduceEqDiff, reduceCtorEq, Nat.reduceAdd, Nat.reduceSub, Nat.reduceMul, Nat.reduceLeDiff, Nat.reduceLT, Nat.reduceMod, Nat.reduceDiv, Int.reduceToNat, Int.reduceLT, Int.reduceLE, Int.reduceEq, Int.reduceAdd, Int.reduceSub, Int.reduceNeg, Int.reduceMul, Bool.and_self]) ?_) | (refine callQF_pure (ValidT n hs _) (by first | rfl | simp -implicitDefEqProofs (disch := omega) only [L4, cells_agg, nd_c1s, nd_len, nd_take, nd_cellsV, nd_clL, nd_drop5, List.append_nil, splice, hf, eq_self, hl, List.length_map, dT_lt, dF_lt, dT_le, dF_le, dT_eq, dF_eq, push_cast, ↓reduceIte, Nat.reduceEqDiff, reduceCtorEq, Nat.reduceAdd, Nat.reduceSub, Nat.reduceMul, Nat.reduceLeDiff, Nat.reduceLT, Nat.reduceMod, Nat.reduceDiv, Int.reduceToNat, Int.reduceLT, Int.reduceLE, Int.reduceEq, Int.reduceAdd, Int.reduceSub, Int.reduceNeg, Int.reduceMul, Bool.and_self]) ?_) | (refine callQF_pure (ExprT n hs _) (by first | rfl | simp -implicitDefEqProofs (disch := omega) only [L4, cells_agg, nd_c1s, nd_len, nd_take, nd_cellsV, nd_clL, nd_drop5, List.append_nil, splice, hf, eq_self, hl, List.length_map, dT_lt, dF_lt, dT_le, dF_le, dT_eq, dF_eq, push_cast, ↓reduceIte, Nat.reduceEqDiff, reduceCtorEq, Nat.reduceAdd, Nat.reduceSub, Nat.reduceMul, Nat.reduceLeDiff, Nat.reduceLT, Nat.reduceMod, Nat.reduceDiv, Int.reduceToNat, Int.reduceLT, Int.reduceLE, Int.reduceEq, Int.reduceAdd, Int.reduceSub, Int.reduceNeg, Int.reduceMul, Bool.and_self]) ?_) | (refine callQF_pure (StatT n hs _) (by first | rfl | simp -implicitDefEqProofs (disch := omega) only [L4, cells_agg, nd_c1s, nd_len, nd_take, nd_cellsV, nd_clL, nd_drop5, List.append_nil, splice, hf, eq_self, hl, List.length_map, dT_lt, dF_lt, dT_le, dF_le, dT_eq, dF_eq, push_cast, ↓reduceIte, Nat.reduceEqDiff, reduceCtorEq, Nat.reduceAdd, Nat.reduceSub, Nat.reduceMul, Nat.reduceLeDiff, Nat.reduceLT, Nat.reduceMod, Nat.reduceDiv, Int.reduceToNat, Int.reduceLT, Int.reduceLE, Int.reduceEq, Int.reduceAdd, Int.reduceSub, Int.reduceNeg, Int.reduceMul, Bool.and_self]) ?_) | (refine callQF_pure (nodesR (bareF n) hb _) (by first | rfl | simp -implicitDefEqProofs (disch := omega) only [L4, cells_agg, nd_c1s, nd_len, nd_take, nd_cellsV, nd_clL, nd_drop5, List.append_nil, splice, hf, eq_self, hl, List.length_map, dT_lt, dF_lt, dT_le, dF_le, dT_eq, dF_eq, push_cast, ↓reduceIte, Nat.reduceEqDiff, reduceCtorEq, Nat.reduceAdd, Nat.reduceSub, Nat.reduceMul, Nat.reduceLeDiff, Nat.reduceLT, Nat.reduceMod, Nat.reduceDiv, Int.reduceToNat, Int.reduceLT, Int.reduceLE, Int.reduceEq, Int.reduceAdd, Int.reduceSub, Int.reduceNeg, Int.reduceMul, Bool.and_self]) ?_) | simp -implicitDefEqProofs (disch := omega) only [L4, cells_agg, nd_c1s, nd_len, nd_take, nd_cellsV, nd_clL, nd_drop5, List.append_nil, splice, hf, eq_self, hl, List.length_map, dT_lt, dF_lt, dT_le, dF_le, dT_eq, dF_eq, push_cast, ↓reduceIte, Nat.reduceEqDiff, reduceCtorEq, Nat.reduceAdd, Nat.reduceSub, Nat.reduceMul, Nat.reduceLeDiff, Nat.reduceLT, Nat.reduceMod, Nat.reduceDiv, Int.reduceToNat, Int.reduceLT, Int.reduceLE, Int.reduceEq, Int.reduceAdd, Int.reduceSub, Int.reduceNeg, Int.reduceMul, Bool.and_self] | split)
    refine rk_loopS (fun (st : Nat × AHeap) e' H' => e' 51 = .sl 5 ((nds (bareF n)).map ndR) ∧ e' 52 = int (cnt n) ∧ e' 53 = int st.1 ∧ H' = H ++ st.2 ∧ st.1 ≤ cnt n) (fun st => cnt n - st.1) (0, [.box (ndR n), .box (ndR (bareF n))]) ?_ ?_
    · exact ⟨rfl, rfl, rfl, rfl, Nat.zero_le _⟩
    rintro ⟨j, ext⟩ e' H' ⟨h51, h52, h53, rfl, hj⟩
    simp only at h53 hj
    by_cases hlt : j < cnt n
    · have hm := getD_mem' (show j < (nds (bareF n)).length by omega)
      rw [bare_nds] at hm
      obtain ⟨m, hm1, hm2⟩ := List.mem_map.1 hm
      have ha : ((nds (bareF n)).getD j default).a = 0 := by rw [bare_nds, ← hm2]; exact bareF_a m
      have he : ((nds (bareF n)).getD j default).e = 0 := by rw [bare_nds, ← hm2]; exact bareF_e m
      have hgg : ∀ x : HO, (H ++ (ext ++ [x]))[H.length + ext.length]? = some x := fun x => by rw [get_add]; simp
      have hss : ∀ x y : HO, (H ++ (ext ++ [x])).set (H.length + ext.length) y = H ++ (ext ++ [y]) := fun x y => by rw [set_add]; simp
      repeat' (first | (refine And.intro (by omega) ?_) | simp -implicitDefEqProofs (disch := omega) only [h51, h52, h53, rows_getD, cells_agg, nd_c1s, nd_len, nd_take, nd_cellsV, nd_clL, nd_drop5, nd_drop2, nd_drop3, List.append_nil, splice, hgg, hss, hl, ha, he, dT_lt, dF_lt, dT_le, dF_le, dT_eq, dF_eq, push_cast, ↓reduceIte, Nat.reduceEqDiff, reduceCtorEq, Nat.reduceAdd, Nat.reduceSub, Nat.reduceMul, Nat.reduceLeDiff, Nat.reduceLT, Nat.reduceMod, Nat.reduceDiv, Int.reduceToNat, Int.reduceLT, Int.reduceLE, Int.reduceEq, Int.reduceAdd, Int.reduceSub, Int.reduceNeg, Int.reduceMul, Bool.and_self] | split)
      exact .mk (j + 1, _) ⟨h51, h52, rfl, rfl, hlt⟩ (by simp only; omega)
    · repeat' (first | (refine And.intro (by omega) ?_) | (refine callF_pure (awakeC _) ?_) | (refine callQF_pure (awakeC _) (by first | rfl | simp -implicitDefEqProofs (disch := omega) only [h51, h52, h53, dT_lt, dF_lt, dT_le, dF_le, dT_eq, dF_eq, push_cast, ↓reduceIte, Nat.reduceEqDiff, reduceCtorEq, Nat.reduceAdd, Nat.reduceSub, Nat.reduceMul, Nat.reduceLeDiff, Nat.reduceLT, Nat.reduceMod, Nat.reduceDiv, Int.reduceToNat, Int.reduceLT, Int.reduceLE, Int.reduceEq, Int.reduceAdd, Int.reduceSub, Int.reduceNeg, Int.reduceMul, Bool.and_self]) ?_) | simp -implicitDefEqProofs (disch := omega) only [h51, h52, h53, dT_lt, dF_lt, dT_le, dF_le, dT_eq, dF_eq, push_cast, ↓reduceIte, Nat.reduceEqDiff, reduceCtorEq, Nat.reduceAdd, Nat.reduceSub, Nat.reduceMul, Nat.reduceLeDiff, Nat.reduceLT, Nat.reduceMod, Nat.reduceDiv, Int.reduceToNat, Int.reduceLT, Int.reduceLE, Int.reduceEq, Int.reduceAdd, Int.reduceSub, Int.reduceNeg, Int.reduceMul, Bool.and_self] | split)
      exact ⟨_, rfl⟩
  · have hf' := Bool.eq_false_iff.2 hf
    repeat' (first | (refine And.intro (by omega) ?_) | (refine callF_pure (smallR n 100 hs _) ?_) | (refine callF_pure (awakeC _) ?_) | (refine callQF_pure (smallR n 100 hs _) (by first | rfl | simp -implicitDefEqProofs (disch := omega) only [L4, cells_agg, nd_c1s, nd_len, nd_take, nd_cellsV, nd_clL, hf', dT_lt, dF_lt, dT_le, dF_le, dT_eq, dF_eq, push_cast, ↓reduceIte, Nat.reduceEqDiff, reduceCtorEq, Nat.reduceAdd, Nat.reduceSub, Nat.reduceMul, Nat.reduceLeDiff, Nat.reduceLT, Nat.reduceMod, Nat.reduceDiv, Int.reduceToNat, Int.reduceLT, Int.reduceLE, Int.reduceEq, Int.reduceAdd, Int.reduceSub, Int.reduceNeg, Int.reduceMul, Bool.and_self]) ?_) | (refine callQF_pure (awakeC _) (by first | rfl | simp -implicitDefEqProofs (disch := omega) only [L4, cells_agg, nd_c1s, nd_len, nd_take, nd_cellsV, nd_clL, hf', dT_lt, dF_lt, dT_le, dF_le, dT_eq, dF_eq, push_cast, ↓reduceIte, Nat.reduceEqDiff, reduceCtorEq, Nat.reduceAdd, Nat.reduceSub, Nat.reduceMul, Nat.reduceLeDiff, Nat.reduceLT, Nat.reduceMod, Nat.reduceDiv, Int.reduceToNat, Int.reduceLT, Int.reduceLE, Int.reduceEq, Int.reduceAdd, Int.reduceSub, Int.reduceNeg, Int.reduceMul, Bool.and_self]) ?_) | simp -implicitDefEqProofs (disch := omega) only [L4, cells_agg, nd_c1s, nd_len, nd_take, nd_cellsV, nd_clL, hf', dT_lt, dF_lt, dT_le, dF_le, dT_eq, dF_eq, push_cast, ↓reduceIte, Nat.reduceEqDiff, reduceCtorEq, Nat.reduceAdd, Nat.reduceSub, Nat.reduceMul, Nat.reduceLeDiff, Nat.reduceLT, Nat.reduceMod, Nat.reduceDiv, Int.reduceToNat, Int.reduceLT, Int.reduceLE, Int.reduceEq, Int.reduceAdd, Int.reduceSub, Int.reduceNeg, Int.reduceMul, Bool.and_self] | split)
    exact ⟨_, rfl⟩
#print axioms treeBare

theorem treeNumbers (n : Nd) (p : List Int) (k t : Int) (hs : Sml n) (hp : p.length ≤ 1048576) (H : AHeap) : Comp' 5 [.agg (ndR n), .sl 1 (p.map iR), int k, int t] H (bool true) := by
  refine ACall.drop (R := fun x => x = bool true) ?_
  refine enter Try.func5 L5_ok (Nat.le_of_ble_eq_true rfl) ?_
  by_cases hf : smallF n 150 = true
  · by_cases hp20 : p.length ≤ 20
    · have c1 := fun H => getT n p hs (by omega) H
      have c2 := fun H => getR n p hs (by omega) H
      have c3 := fun H => pathT n k hs H
      have c4 := fun H => pathR n k hs H
      have c5 := fun H => numT n p hs (by omega) H
      have c6 := fun H => numR n p hs (by omega) H
      have c7 := fun H => findT n t hs H
      have c8 := fun H => findR n t hs H
      have hx := getL_zsml (p := p) hs
      have c9 := fun H => EqualR ((getL n p).getD zNd) _ hx hx H
      rw [eqF_true rfl] at c9
      have hlen : ((pathO n k).getD []).length ≤ 9223372036854775807 := by
        unfold pathO
        split
        · rename_i h
          have := path_len n k.toNat (by omega)
          have := lev_le n
          have := sml_cnt hs
          simp only [Option.getD_some]
          omega
        · simp
      have c10 := fun H => intsC ((pathO n k).getD []) ((pathO n k).getD []) hlen H
      rw [getA_eq] at c1 c2
      rw [pathA_eq] at c3 c4
      rw [numA_eq] at c5 c6 c7 c8
      repeat' (first | (refine And.intro (by omega) ?_) | (refine callF_pure (smallR n 150 hs _) ?_) | (refine callF_pure (c1 _) ?_) | (refine callF_pure (c2 _) ?_) | (refine callF_pure (c3 _) ?_) | (refine callF_pure (c4 _) ?_) | (refine callF_pure (c5 _) ?_) | (refine callF_pure (c6 _) ?_) | (refine callF_pure (c7 _) ?_) | (refine callF_pure (c8 _) ?_) | (refine callF_pure (c9 _) ?_) | (refine callF_pure (c10 _) ?_) | (refine callF_pure (countT n hs _) ?_) | (refine callF_pure (countR n hs _) ?_) | (refine callF_pure (levelsT n hs _) ?_) | (refine callF_pure (levelsR n hs _) ?_) | (refine callF_pure (awakeC _) ?_) | (refine callQF_pure (smallR n 150 hs _) (by first | rfl | simp -implicitDefEqProofs (disch := omega) only [L5, cells_agg, nd_c1s, nd_len, nd_take, nd_cellsV, nd_clL, nd_drop5, List.append_nil, splice, hf, eq_self, dT_lt, dF_lt, dT_le, dF_le, dT_eq, dF_eq, push_cast, ↓reduceIte, Nat.reduceEqDiff, reduceCtorEq, Nat.reduceAdd, Nat.reduceSub, Nat.reduceMul, Nat.reduceLeDiff, Nat.reduceLT, Nat.reduceMod, Nat.reduceDiv, Int.reduceToNat, Int.reduceLT, Int.reduceLE, Int.reduceEq, Int.reduceAdd, Int.reduceSub, Int.reduceNeg, Int.reduceMul, Bool.and_self]) ?_) | (refine callQF_pure (c1 _) (by first | rfl | simp -implicitDefEqProofs (disch := omega) only [L5, cells_agg, nd_c1s, nd_len, nd_take, nd_cellsV, nd_clL, nd_drop5, List.append_nil, splice, hf, eq_self, dT_lt, dF_lt, dT_le, dF_le, dT_eq, dF_eq, push_cast, ↓reduceIte, Nat.reduceEqDiff, reduceCtorEq, Nat.reduceAdd, Nat.reduceSub, Nat.reduceMul, Nat.reduceLeDiff, Nat.reduceLT, Nat.reduceMod, Nat.reduceDiv, Int.reduceToNat, Int.reduceLT, Int.reduceLE, Int.reduceEq, Int.reduceAdd, Int.reduceSub, Int.reduceNeg, Int.reduceMul, Bool.and_self]) ?_) | (refine callQF_pure (c2 _) (by first | rfl | simp -implicitDefEqProofs (disch := omega) only [L5, cells_agg, nd_c1s, nd_len, nd_take, nd_cellsV, nd_clL, nd_drop5, List.append_nil, splice, hf, eq_self, dT_lt, dF_lt, dT_le, dF_le, dT_eq, dF_eq, push_cast, ↓reduceIte, Nat.reduceEqDiff, reduceCtorEq, Nat.reduceAdd, Nat.reduceSub, Nat.reduceMul, Nat.reduceLeDiff, Nat.reduceLT, Nat.reduceMod, Nat.reduceDiv, Int.reduceToNat, Int.reduceLT, Int.reduceLE, Int.reduceEq, Int.reduceAdd, Int.reduceSub, Int.reduceNeg, Int.reduceMul, Bool.and_self]) ?_) | (refine callQF_pure (c3 _) (by first | rfl | simp -implicitDefEqProofs (disch := omega) only [L5, cells_agg, nd_c1s, nd_len, nd_take, nd_cellsV, nd_clL, nd_drop5, List.append_nil, splice, hf, eq_self, dT_lt, dF_lt, dT_le, dF_le, dT_eq, dF_eq, push_cast, ↓reduceIte, Nat.reduceEqDiff, reduceCtorEq, Nat.reduceAdd, Nat.reduceSub, Nat.reduceMul, Nat.reduceLeDiff, Nat.reduceLT, Nat.reduceMod, Nat.reduceDiv, Int.reduceToNat, Int.reduceLT, Int.reduceLE, Int.reduceEq, Int.reduceAdd, Int.reduceSub, Int.reduceNeg, Int.reduceMul, Bool.and_self]) ?_) | (refine callQF_pure (c4 _) (by first | rfl | simp -implicitDefEqProofs (disch := omega) only [L5, cells_agg, nd_c1s, nd_len, nd_take, nd_cellsV, nd_clL, nd_drop5, List.append_nil, splice, hf, eq_self, dT_lt, dF_lt, dT_le, dF_le, dT_eq, dF_eq, push_cast, ↓reduceIte, Nat.reduceEqDiff, reduceCtorEq, Nat.reduceAdd, Nat.reduceSub, Nat.reduceMul, Nat.reduceLeDiff, Nat.reduceLT, Nat.reduceMod, Nat.reduceDiv, Int.reduceToNat, Int.reduceLT, Int.reduceLE, Int.reduceEq, Int.reduceAdd, Int.reduceSub, Int.reduceNeg, Int.reduceMul, Bool.and_self]) ?_) | (refine callQF_pure (c5 _) (by first | rfl | simp -implicitDefEqProofs (disch := omega) only [L5, cells_agg, nd_c1s, nd_len, nd_take, nd_cellsV, nd_clL, nd_drop5, List.append_nil, splice, hf, eq_self, dT_lt, dF_lt, dT_le, dF_le, dT_eq, dF_eq, push_cast, ↓reduceIte, Nat.reduceEqDiff, reduceCtorEq, Nat.reduceAdd, Nat.reduceSub, Nat.reduceMul, Nat.reduceLeDiff, Nat.reduceLT, Nat.reduceMod, Nat.reduceDiv, Int.reduceToNat, Int.reduceLT, Int.reduceLE, Int.reduceEq, Int.reduceAdd, Int.reduceSub, Int.reduceNeg, Int.reduceMul, Bool.and_self]) ?_) | (refine callQF_pure (c6 _) (by first | rfl | simp -implicitDefEqProofs (disch := omega) only [L5, cells_agg, nd_c1s, nd_len, nd_take, nd_cellsV, nd_clL, nd_drop5, List.append_nil, splice, hf, eq_self, dT_lt, dF_lt, dT_le, dF_le, dT_eq, dF_eq, push_cast, ↓reduceIte, Nat.reduceEqDiff, reduceCtorEq, Nat.reduceAdd, Nat.reduceSub, Nat.reduceMul, Nat.reduceLeDiff, Nat.reduceLT, Nat.reduceMod, Nat.reduceDiv, Int.reduceToNat, Int.reduceLT, Int.reduceLE, Int.reduceEq, Int.reduceAdd, Int.reduceSub, Int.reduceNeg, Int.reduceMul, Bool.and_self]) ?_) | (refine callQF_pure (c7 _) (by first | rfl | simp -implicitDefEqProofs (disch := omega) only [L5, cells_agg, nd_c1s, nd_len, nd_take, nd_cellsV, nd_clL, nd_drop5, List.append_nil, splice, hf, eq_self, dT_lt, dF_lt, dT_le, dF_le, dT_eq, dF_eq, push_cast, ↓reduceIte, Nat.reduceEqDiff, reduceCtorEq, Nat.reduceAdd, Nat.reduceSub, Nat.reduceMul, Nat.reduceLeDiff, Nat.reduceLT, Nat.reduceMod, Nat.reduceDiv, Int.reduceToNat, Int.reduceLT, Int.reduceLE, Int.reduceEq, Int.reduceAdd, Int.reduceSub, Int.reduceNeg, Int.reduceMul, Bool.and_self]) ?_) | (refine callQF_pure (c8 _) (by first | rfl | simp -implicitDefEqProofs (disch := omega) only [L5, cells_agg, nd_c1s, nd_len, nd_take, nd_cellsV, nd_clL, nd_drop5, List.append_nil, splice, hf, eq_self, dT_lt, dF_lt, dT_le, dF_le, dT_eq, dF_eq, push_cast, ↓reduceIte, Nat.reduceEqDiff, reduceCtorEq, Nat.reduceAdd, Nat.reduceSub, Nat.reduceMul, Nat.reduceLeDiff, Nat.reduceLT, Nat.reduceMod, Nat.reduceDiv, Int.reduceToNat, Int.reduceLT, Int.reduceLE, Int.reduceEq, Int.reduceAdd, Int.reduceSub, Int.reduceNeg, Int.reduceMul, Bool.and_self]) ?_) | (refine callQF_pure (c9 _) (by first | rfl | simp -implicitDefEqProofs (disch := omega) only [L5, cells_agg, nd_c1s, nd_len, nd_take, nd_cellsV, nd_clL, nd_drop5, List.append_nil, splice, hf, eq_self, dT_lt, dF_lt, dT_le, dF_le, dT_eq, dF_eq, push_cast, ↓reduceIte, Nat.reduceEqDiff, reduceCtorEq, Nat.reduceAdd, Nat.reduceSub, Nat.reduceMul, Nat.reduceLeDiff, Nat.reduceLT, Nat.reduceMod, Nat.reduceDiv, Int.reduceToNat, Int.reduceLT, Int.reduceLE, Int.reduceEq, Int.reduceAdd, Int.reduceSub, Int.reduceNeg, Int.reduceMul, Bool.and_self]) ?_) | (refine callQF_pure (c10 _) (by first | rfl | simp -implicitDefEqProofs (disch := omega) only [L5, cells_agg, nd_c1s, nd_len, nd_take, nd_cellsV, nd_clL, nd_drop5, List.append_nil, splice, hf, eq_self, dT_lt, dF_lt, dT_le, dF_le, dT_eq, dF_eq, push_cast, ↓reduceIte, Nat.reduceEqDiff, reduceCtorEq, Nat.reduceAdd, Nat.reduceSub, Nat.reduceMul, Nat.reduceLeDiff, Nat.reduceLT, Nat.reduceMod, Nat.reduceDiv, Int.reduceToNat, Int.reduceLT, Int.reduceLE, Int.reduceEq, Int.reduceAdd, Int.reduceSub, Int.reduceNeg, Int.reduceMul, Bool.and_self]) ?_) | (refine callQF_pure (countT n hs _) (by first | rfl | simp -implicitDefEqProofs (disch := omega) only [L5, cells_agg, nd_c1s, nd_len, nd_take, nd_cellsV, nd_clL, nd_drop5, List.append_nil, splice, hf, eq_self, dT_lt, dF_lt, dT_le, dF_le, dT_eq, dF_eq, push_cast, ↓reduceIte, Nat.reduceEqDiff, reduceCtorEq, Nat.reduceAdd, Nat.reduceSub, Nat.reduceMul, Nat.reduceLeDiff, Nat.reduceLT, Nat.reduceMod, Nat.reduceDiv, Int.reduceToNat, Int.reduceLT, Int.reduceLE, Int.reduceEq, Int.reduceAdd, Int.reduceSub, Int.reduceNeg, Int.reduceMul, Bool.and_self]) ?_) | (refine callQF_pure (countR n hs _) (by first | rfl | simp -implicitDefEqProofs (disch := omega) only [L5, cells_agg, nd_c1s, nd_len, nd_take, nd_cellsV, nd_clL, nd_drop5, List.append_nil, splice, hf, eq_self, dT_lt, dF_lt, dT_le, dF_le, dT_eq, dF_eq, push_cast, ↓reduceIte, Nat.reduceEqDiff, reduceCtorEq, Nat.reduceAdd, Nat.reduceSub, Nat.reduceMul, Nat.reduceLeDiff, Nat.reduceLT, Nat.reduceMod, Nat.reduceDiv, Int.reduceToNat, Int.reduceLT, Int.reduceLE, Int.reduceEq, Int.reduceAdd, Int.reduceSub, Int.reduceNeg, Int.reduceMul, Bool.and_self]) ?_) | (refine callQF_pure (levelsT n hs _) (by first | rfl | simp -implicitDefEqProofs (disch := omega) only [L5, cells_agg, nd_c1s, nd_len, nd_take, nd_cellsV, nd_clL, nd_drop5, List.append_nil, splice, hf, eq_self, dT_lt, dF_lt, dT_le, dF_le, dT_eq, dF_eq, push_cast, ↓reduceIte, Nat.reduceEqDiff, reduceCtorEq, Nat.reduceAdd, Nat.reduceSub, Nat.reduceMul, Nat.reduceLeDiff, Nat.reduceLT, Nat.reduceMod, Nat.reduceDiv, Int.reduceToNat, Int.reduceLT, Int.reduceLE, Int.reduceEq, Int.reduceAdd, Int.reduceSub, Int.reduceNeg, Int.reduceMul, Bool.and_self]) ?_) | (refine callQF_pure (levelsR n hs _) (by first | rfl | simp -implicitDefEqProofs (disch := omega) only [L5, cells_agg, nd_c1s, nd_len, nd_take, nd_cellsV, nd_clL, nd_drop5, List.append_nil, splice, hf, eq_self, dT_lt, dF_lt, dT_le, dF_le, dT_eq, dF_eq, push_cast, ↓reduceIte, Nat.reduceEqDiff, reduceCtorEq, Nat.reduceAdd, Nat.reduceSub, Nat.reduceMul, Nat.reduceLeDiff, Nat.reduceLT, Nat.reduceMod, Nat.reduceDiv, Int.reduceToNat, Int.reduceLT, Int.reduceLE, Int.reduceEq, Int.reduceAdd, Int.reduceSub, Int.reduceNeg, Int.reduceMul, Bool.and_self]) ?_) | (refine callQF_pure (awakeC _) (by first | rfl | simp -implicitDefEqProofs (disch := omega) only [L5, cells_agg, nd_c1s, nd_len, nd_take, nd_cellsV, nd_clL, nd_drop5, List.append_nil, splice, hf, eq_self, dT_lt, dF_lt, dT_le, dF_le, dT_eq, dF_eq, push_cast, ↓reduceIte, Nat.reduceEqDiff, reduceCtorEq, Nat.reduceAdd, Nat.reduceSub, Nat.reduceMul, Nat.reduceLeDiff, Nat.reduceLT, Nat.reduceMod, Nat.reduceDiv, Int.reduceToNat, Int.reduceLT, Int.reduceLE, Int.reduceEq, Int.reduceAdd, Int.reduceSub, Int.reduceNeg, Int.reduceMul, Bool.and_self]) ?_) | simp -implicitDefEqProofs (disch := omega) only [L5, cells_agg, nd_c1s, nd_len, nd_take, nd_cellsV, nd_clL, nd_drop5, List.append_nil, splice, hf, eq_self, dT_lt, dF_lt, dT_le, dF_le, dT_eq, dF_eq, push_cast, ↓reduceIte, Nat.reduceEqDiff, reduceCtorEq, Nat.reduceAdd, Nat.reduceSub, Nat.reduceMul, Nat.reduceLeDiff, Nat.reduceLT, Nat.reduceMod, Nat.reduceDiv, Int.reduceToNat, Int.reduceLT, Int.reduceLE, Int.reduceEq, Int.reduceAdd, Int.reduceSub, Int.reduceNeg, Int.reduceMul, Bool.and_self] | split)
      exact ⟨_, rfl⟩
    · repeat' (first | (refine And.intro (by omega) ?_) | (refine callF_pure (smallR n 150 hs _) ?_) | (refine callF_pure (awakeC _) ?_) | (refine callQF_pure (smallR n 150 hs _) (by first | rfl | simp -implicitDefEqProofs (disch := omega) only [L5, cells_agg, nd_c1s, nd_len, nd_take, nd_cellsV, nd_clL, hf, dT_lt, dF_lt, dT_le, dF_le, dT_eq, dF_eq, push_cast, ↓reduceIte, Nat.reduceEqDiff, reduceCtorEq, Nat.reduceAdd, Nat.reduceSub, Nat.reduceMul, Nat.reduceLeDiff, Nat.reduceLT, Nat.reduceMod, Nat.reduceDiv, Int.reduceToNat, Int.reduceLT, Int.reduceLE, Int.reduceEq, Int.reduceAdd, Int.reduceSub, Int.reduceNeg, Int.reduceMul, Bool.and_self]) ?_) | (refine callQF_pure (awakeC _) (by first | rfl | simp -implicitDefEqProofs (disch := omega) only [L5, cells_agg, nd_c1s, nd_len, nd_take, nd_cellsV, nd_clL, hf, dT_lt, dF_lt, dT_le, dF_le, dT_eq, dF_eq, push_cast, ↓reduceIte, Nat.reduceEqDiff, reduceCtorEq, Nat.reduceAdd, Nat.reduceSub, Nat.reduceMul, Nat.reduceLeDiff, Nat.reduceLT, Nat.reduceMod, Nat.reduceDiv, Int.reduceToNat, Int.reduceLT, Int.reduceLE, Int.reduceEq, Int.reduceAdd, Int.reduceSub, Int.reduceNeg, Int.reduceMul, Bool.and_self]) ?_) | simp -implicitDefEqProofs (disch := omega) only [L5, cells_agg, nd_c1s, nd_len, nd_take, nd_cellsV, nd_clL, hf, dT_lt, dF_lt, dT_le, dF_le, dT_eq, dF_eq, push_cast, ↓reduceIte, Nat.reduceEqDiff, reduceCtorEq, Nat.reduceAdd, Nat.reduceSub, Nat.reduceMul, Nat.reduceLeDiff, Nat.reduceLT, Nat.reduceMod, Nat.reduceDiv, Int.reduceToNat, Int.reduceLT, Int.reduceLE, Int.reduceEq, Int.reduceAdd, Int.reduceSub, Int.reduceNeg, Int.reduceMul, Bool.and_self] | split)
      exact ⟨_, rfl⟩
  · have hf' := Bool.eq_false_iff.2 hf
    repeat' (first | (refine And.intro (by omega) ?_) | (refine callF_pure (smallR n 150 hs _) ?_) | (refine callF_pure (awakeC _) ?_) | (refine callQF_pure (smallR n 150 hs _) (by first | rfl | simp -implicitDefEqProofs (disch := omega) only [L5, cells_agg, nd_c1s, nd_len, nd_take, nd_cellsV, nd_clL, hf', dT_lt, dF_lt, dT_le, dF_le, dT_eq, dF_eq, push_cast, ↓reduceIte, Nat.reduceEqDiff, reduceCtorEq, Nat.reduceAdd, Nat.reduceSub, Nat.reduceMul, Nat.reduceLeDiff, Nat.reduceLT, Nat.reduceMod, Nat.reduceDiv, Int.reduceToNat, Int.reduceLT, Int.reduceLE, Int.reduceEq, Int.reduceAdd, Int.reduceSub, Int.reduceNeg, Int.reduceMul, Bool.and_self]) ?_) | (refine callQF_pure (awakeC _) (by first | rfl | simp -implicitDefEqProofs (disch := omega) only [L5, cells_agg, nd_c1s, nd_len, nd_take, nd_cellsV, nd_clL, hf', dT_lt, dF_lt, dT_le, dF_le, dT_eq, dF_eq, push_cast, ↓reduceIte, Nat.reduceEqDiff, reduceCtorEq, Nat.reduceAdd, Nat.reduceSub, Nat.reduceMul, Nat.reduceLeDiff, Nat.reduceLT, Nat.reduceMod, Nat.reduceDiv, Int.reduceToNat, Int.reduceLT, Int.reduceLE, Int.reduceEq, Int.reduceAdd, Int.reduceSub, Int.reduceNeg, Int.reduceMul, Bool.and_self]) ?_) | simp -implicitDefEqProofs (disch := omega) only [L5, cells_agg, nd_c1s, nd_len, nd_take, nd_cellsV, nd_clL, hf', dT_lt, dF_lt, dT_le, dF_le, dT_eq, dF_eq, push_cast, ↓reduceIte, Nat.reduceEqDiff, reduceCtorEq, Nat.reduceAdd, Nat.reduceSub, Nat.reduceMul, Nat.reduceLeDiff, Nat.reduceLT, Nat.reduceMod, Nat.reduceDiv, Int.reduceToNat, Int.reduceLT, Int.reduceLE, Int.reduceEq, Int.reduceAdd, Int.reduceSub, Int.reduceNeg, Int.reduceMul, Bool.and_self] | split)
    exact ⟨_, rfl⟩
#print axioms treeNumbers

theorem treePaths (n : Nd) (hs : Sml n) (H : AHeap) : Comp' 6 [.agg (ndR n)] H (bool true) := by
  refine ACall.drop (R := fun x => x = bool true) ?_
  refine enter Try.func6 L6_ok (Nat.le_of_ble_eq_true rfl) ?_
  by_cases hf : smallF n 100 = true
  · have hcn := sml_cnt hs
    repeat' (first | (refine And.intro (by omega) ?_) | (refine callF_pure (smallR n 100 hs _) ?_) | (refine callF_pure (countT n hs _) ?_) | (refine callQF_pure (smallR n 100 hs _) (by first | rfl | simp -implicitDefEqProofs (disch := omega) only [L6, cells_agg, nd_c1s, nd_len, nd_take, nd_cellsV, nd_clL, nd_drop5, List.append_nil, splice, hf, dT_lt, dF_lt, dT_le, dF_le, dT_eq, dF_eq, push_cast, ↓reduceIte, Nat.reduceEqDiff, reduceCtorEq, Nat.reduceAdd, Nat.reduceSub, Nat.reduceMul, Nat.reduceLeDiff, Nat.reduceLT, Nat.reduceMod, Nat.reduceDiv, Int.reduceToNat, Int.reduceLT, Int.reduceLE, Int.reduceEq, Int.reduceAdd, Int.reduceSub, Int.reduceNeg, Int.reduceMul, Bool.and_self]) ?_) | (refine callQF_pure (countT n hs _) (by first | rfl | simp -implicitDefEqProofs (disch := omega) only [L6, cells_agg, nd_c1s, nd_len, nd_take, nd_cellsV, nd_clL, nd_drop5, List.append_nil, splice, hf, dT_lt, dF_lt, dT_le, dF_le, dT_eq, dF_eq, push_cast, ↓reduceIte, Nat.reduceEqDiff, reduceCtorEq, Nat.reduceAdd, Nat.reduceSub, Nat.reduceMul, Nat.reduceLeDiff, Nat.reduceLT, Nat.reduceMod, Nat.reduceDiv, Int.reduceToNat, Int.reduceLT, Int.reduceLE, Int.reduceEq, Int.reduceAdd, Int.reduceSub, Int.reduceNeg, Int.reduceMul, Bool.and_self]) ?_) | simp -implicitDefEqProofs (disch := omega) only [L6, cells_agg, nd_c1s, nd_len, nd_take, nd_cellsV, nd_clL, nd_drop5, List.append_nil, splice, hf, dT_lt, dF_lt, dT_le, dF_le, dT_eq, dF_eq, push_cast, ↓reduceIte, Nat.reduceEqDiff, reduceCtorEq, Nat.reduceAdd, Nat.reduceSub, Nat.reduceMul, Nat.reduceLeDiff, Nat.reduceLT, Nat.reduceMod, Nat.reduceDiv, Int.reduceToNat, Int.reduceLT, Int.reduceLE, Int.reduceEq, Int.reduceAdd, Int.reduceSub, Int.reduceNeg, Int.reduceMul, Bool.and_self] | split)
    refine rk_loopS (fun (st : Nat × AHeap) e' H' => e' 1 = .ptr H.length 0 0 ∧ e' 3 = int (deepF n st.1) ∧ e' 20 = int (cnt n) ∧ e' 21 = int st.1 ∧ H' = H ++ .box (ndR n) :: st.2 ∧ st.1 ≤ cnt n) (fun st => cnt n - st.1) (0, []) ?_ ?_
    · exact ⟨rfl, rfl, rfl, rfl, rfl, Nat.zero_le _⟩
    rintro ⟨j, ext⟩ e' H' ⟨h1, h3, h20, h21, rfl, hj⟩
    simp only at h3 h21 hj
    by_cases hlt : j < cnt n
    · have c1 := fun H => pathT n j hs H
      have ho : pathO n j = some (pathF n j) := by unfold pathO; rw [if_pos (by omega)]; rfl
      rw [ho] at c1
      have hpl := path_len n j hlt
      have hll := lev_le n
      have hdl := deep_le n j (by omega)
      have c2 := fun H => numT n (pathF n j) hs (by omega) H
      rw [num_path n j hlt] at c2
      obtain ⟨x, hx⟩ := get_path n j hlt
      have c3 := fun H => getT n (pathF n j) hs (by omega) H
      rw [hx] at c3
      simp only [pathA, numA, getA] at c1 c2 c3
      have hgg : ∀ x : HO, (H ++ HO.box (ndR n) :: (ext ++ [x]))[H.length + (ext.length + 1)]? = some x := fun x => by rw [get_add]; simp
      have hss : ∀ x y : HO, (H ++ HO.box (ndR n) :: (ext ++ [x])).set (H.length + (ext.length + 1)) y = H ++ HO.box (ndR n) :: (ext ++ [y]) := fun x y => by rw [set_add]; simp
      have hm : ∀ a b : Nat, (if (a : Int) < (b : Int) + 1 then ((b : Int) + 1) else (a : Int)) = ((max a (b + 1) : Nat) : Int) := fun a b => by split <;> omega
      repeat' (first | (refine And.intro (by omega) ?_) | (refine callF_pure (c1 _) ?_) | (refine callF_pure (c2 _) ?_) | (refine callF_pure (c3 _) ?_) | (refine callQF_pure (c1 _) (by first | rfl | simp -implicitDefEqProofs (disch := omega) only [h1, h3, h20, h21, cells_agg, nd_c1s, nd_len, nd_take, nd_cellsV, nd_clL, nd_drop5, List.append_nil, splice, hgg, hss, List.length_map, dT_lt, dF_lt, dT_le, dF_le, dT_eq, dF_eq, push_cast, ↓reduceIte, Nat.reduceEqDiff, reduceCtorEq, Nat.reduceAdd, Nat.reduceSub, Nat.reduceMul, Nat.reduceLeDiff, Nat.reduceLT, Nat.reduceMod, Nat.reduceDiv, Int.reduceToNat, Int.reduceLT, Int.reduceLE, Int.reduceEq, Int.reduceAdd, Int.reduceSub, Int.reduceNeg, Int.reduceMul, Bool.and_self]) ?_) | (refine callQF_pure (c2 _) (by first | rfl | simp -implicitDefEqProofs (disch := omega) only [h1, h3, h20, h21, cells_agg, nd_c1s, nd_len, nd_take, nd_cellsV, nd_clL, nd_drop5, List.append_nil, splice, hgg, hss, List.length_map, dT_lt, dF_lt, dT_le, dF_le, dT_eq, dF_eq, push_cast, ↓reduceIte, Nat.reduceEqDiff, reduceCtorEq, Nat.reduceAdd, Nat.reduceSub, Nat.reduceMul, Nat.reduceLeDiff, Nat.reduceLT, Nat.reduceMod, Nat.reduceDiv, Int.reduceToNat, Int.reduceLT, Int.reduceLE, Int.reduceEq, Int.reduceAdd, Int.reduceSub, Int.reduceNeg, Int.reduceMul, Bool.and_self]) ?_) | (refine callQF_pure (c3 _) (by first | rfl | simp -implicitDefEqProofs (disch := omega) only [h1, h3, h20, h21, cells_agg, nd_c1s, nd_len, nd_take, nd_cellsV, nd_clL, nd_drop5, List.append_nil, splice, hgg, hss, List.length_map, dT_lt, dF_lt, dT_le, dF_le, dT_eq, dF_eq, push_cast, ↓reduceIte, Nat.reduceEqDiff, reduceCtorEq, Nat.reduceAdd, Nat.reduceSub, Nat.reduceMul, Nat.reduceLeDiff, Nat.reduceLT, Nat.reduceMod, Nat.reduceDiv, Int.reduceToNat, Int.reduceLT, Int.reduceLE, Int.reduceEq, Int.reduceAdd, Int.reduceSub, Int.reduceNeg, Int.reduceMul, Bool.and_self]) ?_) | simp -implicitDefEqProofs (disch := omega) only [h1, h3, h20, h21, cells_agg, nd_c1s, nd_len, nd_take, nd_cellsV, nd_clL, nd_drop5, List.append_nil, splice, hgg, hss, List.length_map, dT_lt, dF_lt, dT_le, dF_le, dT_eq, dF_eq, push_cast, ↓reduceIte, Nat.reduceEqDiff, reduceCtorEq, Nat.reduceAdd, Nat.reduceSub, Nat.reduceMul, Nat.reduceLeDiff, Nat.reduceLT, Nat.reduceMod, Nat.reduceDiv, Int.reduceToNat, Int.reduceLT, Int.reduceLE, Int.reduceEq, Int.reduceAdd, Int.reduceSub, Int.reduceNeg, Int.reduceMul, Bool.and_self] | split)
      all_goals exact .mk (j + 1, _) ⟨h1, intc rfl (by simp only [deepF]; omega), h20, rfl, rfl, hlt⟩ (by simp only; omega)
    · have e : j = cnt n := by omega
      subst e
      have c1 := fun H => pathT n (-1) hs H
      have ho : pathO n (-1) = none := by unfold pathO; rw [if_neg (by omega)]
      rw [ho] at c1
      have c2 := fun H => pathT n (cnt n) hs H
      have ho2 : pathO n (cnt n) = none := by unfold pathO; rw [if_neg (by omega)]
      rw [ho2] at c2
      simp only [pathA] at c1 c2
      rw [deep_eq] at h3
      repeat' (first | (refine And.intro (by omega) ?_) | (refine callF_pure (c1 _) ?_) | (refine callF_pure (c2 _) ?_) | (refine callF_pure (countT n hs _) ?_) | (refine callF_pure (levelsT n hs _) ?_) | (refine callF_pure (awakeC _) ?_) | (refine callQF_pure (c1 _) (by first | rfl | simp -implicitDefEqProofs (disch := omega) only [h1, h3, h20, h21, cells_agg, nd_c1s, nd_len, nd_take, nd_cellsV, nd_clL, nd_drop5, List.append_nil, splice, eq_self, dT_lt, dF_lt, dT_le, dF_le, dT_eq, dF_eq, push_cast, ↓reduceIte, Nat.reduceEqDiff, reduceCtorEq, Nat.reduceAdd, Nat.reduceSub, Nat.reduceMul, Nat.reduceLeDiff, Nat.reduceLT, Nat.reduceMod, Nat.reduceDiv, Int.reduceToNat, Int.reduceLT, Int.reduceLE, Int.reduceEq, Int.reduceAdd, Int.reduceSub, Int.reduceNeg, Int.reduceMul, Bool.and_self]) ?_) | (refine callQF_pure (c2 _) (by first | rfl | simp -implicitDefEqProofs (disch := omega) only [h1, h3, h20, h21, cells_agg, nd_c1s, nd_len, nd_take, nd_cellsV, nd_clL, nd_drop5, List.append_nil, splice, eq_self, dT_lt, dF_lt, dT_le, dF_le, dT_eq, dF_eq, push_cast, ↓reduceIte, Nat.reduceEqDiff, reduceCtorEq, Nat.reduceAdd, Nat.reduceSub, Nat.reduceMul, Nat.reduceLeDiff, Nat.reduceLT, Nat.reduceMod, Nat.reduceDiv, Int.reduceToNat, Int.reduceLT, Int.reduceLE, Int.reduceEq, Int.reduceAdd, Int.reduceSub, Int.reduceNeg, Int.reduceMul, Bool.and_self]) ?_) | (refine callQF_pure (countT n hs _) (by first | rfl | simp -implicitDefEqProofs (disch := omega) only [h1, h3, h20, h21, cells_agg, nd_c1s, nd_len, nd_take, nd_cellsV, nd_clL, nd_drop5, List.append_nil, splice, eq_self, dT_lt, dF_lt, dT_le, dF_le, dT_eq, dF_eq, push_cast, ↓reduceIte, Nat.reduceEqDiff, reduceCtorEq, Nat.reduceAdd, Nat.reduceSub, Nat.reduceMul, Nat.reduceLeDiff, Nat.reduceLT, Nat.reduceMod, Nat.reduceDiv, Int.reduceToNat, Int.reduceLT, Int.reduceLE, Int.reduceEq, Int.reduceAdd, Int.reduceSub, Int.reduceNeg, Int.reduceMul, Bool.and_self]) ?_) | (refine callQF_pure (levelsT n hs _) (by first | rfl | simp -implicitDefEqProofs (disch := omega) only [h1, h3, h20, h21, cells_agg, nd_c1s, nd_len, nd_take, nd_cellsV, nd_clL, nd_drop5, List.append_nil, splice, eq_self, dT_lt, dF_lt, dT_le, dF_le, dT_eq, dF_eq, push_cast, ↓reduceIte, Nat.reduceEqDiff, reduceCtorEq, Nat.reduceAdd, Nat.reduceSub, Nat.reduceMul, Nat.reduceLeDiff, Nat.reduceLT, Nat.reduceMod, Nat.reduceDiv, Int.reduceToNat, Int.reduceLT, Int.reduceLE, Int.reduceEq, Int.reduceAdd, Int.reduceSub, Int.reduceNeg, Int.reduceMul, Bool.and_self]) ?_) | (refine callQF_pure (awakeC _) (by first | rfl | simp -implicitDefEqProofs (disch := omega) only [h1, h3, h20, h21, cells_agg, nd_c1s, nd_len, nd_take, nd_cellsV, nd_clL, nd_drop5, List.append_nil, splice, eq_self, dT_lt, dF_lt, dT_le, dF_le, dT_eq, dF_eq, push_cast, ↓reduceIte, Nat.reduceEqDiff, reduceCtorEq, Nat.reduceAdd, Nat.reduceSub, Nat.reduceMul, Nat.reduceLeDiff, Nat.reduceLT, Nat.reduceMod, Nat.reduceDiv, Int.reduceToNat, Int.reduceLT, Int.reduceLE, Int.reduceEq, Int.reduceAdd, Int.reduceSub, Int.reduceNeg, Int.reduceMul, Bool.and_self]) ?_) | simp -implicitDefEqProofs (disch := omega) only [h1, h3, h20, h21, cells_agg, nd_c1s, nd_len, nd_take, nd_cellsV, nd_clL, nd_drop5, List.append_nil, splice, eq_self, dT_lt, dF_lt, dT_le, dF_le, dT_eq, dF_eq, push_cast, ↓reduceIte, Nat.reduceEqDiff, reduceCtorEq, Nat.reduceAdd, Nat.reduceSub, Nat.reduceMul, Nat.reduceLeDiff, Nat.reduceLT, Nat.reduceMod, Nat.reduceDiv, Int.reduceToNat, Int.reduceLT, Int.reduceLE, Int.reduceEq, Int.reduceAdd, Int.reduceSub, Int.reduceNeg, Int.reduceMul, Bool.and_self] | split)
      exact ⟨_, rfl⟩
  · have hf' := Bool.eq_false_iff.2 hf
    repeat' (first | (refine And.intro (by omega) ?_) | (refine callF_pure (smallR n 100 hs _) ?_) | (refine callF_pure (awakeC _) ?_) | (refine callQF_pure (smallR n 100 hs _) (by first | rfl | simp -implicitDefEqProofs (disch := omega) only [L6, cells_agg, nd_c1s, nd_len, nd_take, nd_cellsV, nd_clL, hf', dT_lt, dF_lt, dT_le, dF_le, dT_eq, dF_eq, push_cast, ↓reduceIte, Nat.reduceEqDiff, reduceCtorEq, Nat.reduceAdd, Nat.reduceSub, Nat.reduceMul, Nat.reduceLeDiff, Nat.reduceLT, Nat.reduceMod, Nat.reduceDiv, Int.reduceToNat, Int.reduceLT, Int.reduceLE, Int.reduceEq, Int.reduceAdd, Int.reduceSub, Int.reduceNeg, Int.reduceMul, Bool.and_self]) ?_) | (refine callQF_pure (awakeC _) (by first | rfl | simp -implicitDefEqProofs (disch := omega) only [L6, cells_agg, nd_c1s, nd_len, nd_take, nd_cellsV, nd_clL, hf', dT_lt, dF_lt, dT_le, dF_le, dT_eq, dF_eq, push_cast, ↓reduceIte, Nat.reduceEqDiff, reduceCtorEq, Nat.reduceAdd, Nat.reduceSub, Nat.reduceMul, Nat.reduceLeDiff, Nat.reduceLT, Nat.reduceMod, Nat.reduceDiv, Int.reduceToNat, Int.reduceLT, Int.reduceLE, Int.reduceEq, Int.reduceAdd, Int.reduceSub, Int.reduceNeg, Int.reduceMul, Bool.and_self]) ?_) | simp -implicitDefEqProofs (disch := omega) only [L6, cells_agg, nd_c1s, nd_len, nd_take, nd_cellsV, nd_clL, hf', dT_lt, dF_lt, dT_le, dF_le, dT_eq, dF_eq, push_cast, ↓reduceIte, Nat.reduceEqDiff, reduceCtorEq, Nat.reduceAdd, Nat.reduceSub, Nat.reduceMul, Nat.reduceLeDiff, Nat.reduceLT, Nat.reduceMod, Nat.reduceDiv, Int.reduceToNat, Int.reduceLT, Int.reduceLE, Int.reduceEq, Int.reduceAdd, Int.reduceSub, Int.reduceNeg, Int.reduceMul, Bool.and_self] | split)
    exact ⟨_, rfl⟩
#print axioms treePaths

theorem treeFinds (n : Nd) (t : Int) (hs : Sml n) (H : AHeap) : Comp' 7 [.agg (ndR n), int t] H (bool true) := by
  refine ACall.drop (R := fun x => x = bool true) ?_
  refine enter Try.func7 L7_ok (Nat.le_of_ble_eq_true rfl) ?_
  by_cases hf : smallF n 100 = true
  · have c1 := fun H => findT n t hs H
    by_cases hin : inF n t = true
    · have ho : findO n t = some (findI n t) := by unfold findO; rw [if_pos hin]
      rw [ho] at c1
      have hlt := findI_lt t n
      have hi2 := hin
      unfold inF at hi2
      simp only [Bool.and_eq_true, decide_eq_true_eq] at hi2
      obtain ⟨x, hx, hxi, hxf⟩ := find_get n t hin
      have hsx := getL_sml hs hx
      unfold inF at hxi
      simp only [Bool.and_eq_true, decide_eq_true_eq] at hxi
      have c2 := fun H => pathT n (findI n t) hs H
      have ho2 : pathO n (findI n t) = some (pathF n (findI n t)) := by unfold pathO; rw [if_pos (by omega)]; rfl
      rw [ho2] at c2
      have hpl := path_len n (findI n t) hlt
      have hll := lev_le n
      have hcn := sml_cnt hs
      have hlx := sml_len hsx
      have c3 := fun H => getT n (pathF n (findI n t)) hs (by omega) H
      rw [hx] at c3
      simp only [pathA, numA, getA] at c1 c2 c3
      repeat' (first | (refine And.intro (by omega) ?_) | (refine callF_pure (smallR n 100 hs _) ?_) | (refine callF_pure (c1 _) ?_) | (refine callF_pure (c2 _) ?_) | (refine callF_pure (c3 _) ?_) | (refine callQF_pure (smallR n 100 hs _) (by first | rfl | simp -implicitDefEqProofs (disch := omega) only [L7, cells_agg, nd_c1s, nd_len, nd_take, nd_cellsV, nd_clL, nd_drop2, nd_drop3, nd_drop4, nd_drop5, List.append_nil, splice, hf, dT_lt, dF_lt, dT_le, dF_le, dT_eq, dF_eq, push_cast, ↓reduceIte, Nat.reduceEqDiff, reduceCtorEq, Nat.reduceAdd, Nat.reduceSub, Nat.reduceMul, Nat.reduceLeDiff, Nat.reduceLT, Nat.reduceMod, Nat.reduceDiv, Int.reduceToNat, Int.reduceLT, Int.reduceLE, Int.reduceEq, Int.reduceAdd, Int.reduceSub, Int.reduceNeg, Int.reduceMul, Bool.and_self]) ?_) | (refine callQF_pure (c1 _) (by first | rfl | simp -implicitDefEqProofs (disch := omega) only [L7, cells_agg, nd_c1s, nd_len, nd_take, nd_cellsV, nd_clL, nd_drop2, nd_drop3, nd_drop4, nd_drop5, List.append_nil, splice, hf, dT_lt, dF_lt, dT_le, dF_le, dT_eq, dF_eq, push_cast, ↓reduceIte, Nat.reduceEqDiff, reduceCtorEq, Nat.reduceAdd, Nat.reduceSub, Nat.reduceMul, Nat.reduceLeDiff, Nat.reduceLT, Nat.reduceMod, Nat.reduceDiv, Int.reduceToNat, Int.reduceLT, Int.reduceLE, Int.reduceEq, Int.reduceAdd, Int.reduceSub, Int.reduceNeg, Int.reduceMul, Bool.and_self]) ?_) | (refine callQF_pure (c2 _) (by first | rfl | simp -implicitDefEqProofs (disch := omega) only [L7, cells_agg, nd_c1s, nd_len, nd_take, nd_cellsV, nd_clL, nd_drop2, nd_drop3, nd_drop4, nd_drop5, List.append_nil, splice, hf, dT_lt, dF_lt, dT_le, dF_le, dT_eq, dF_eq, push_cast, ↓reduceIte, Nat.reduceEqDiff, reduceCtorEq, Nat.reduceAdd, Nat.reduceSub, Nat.reduceMul, Nat.reduceLeDiff, Nat.reduceLT, Nat.reduceMod, Nat.reduceDiv, Int.reduceToNat, Int.reduceLT, Int.reduceLE, Int.reduceEq, Int.reduceAdd, Int.reduceSub, Int.reduceNeg, Int.reduceMul, Bool.and_self]) ?_) | (refine callQF_pure (c3 _) (by first | rfl | simp -implicitDefEqProofs (disch := omega) only [L7, cells_agg, nd_c1s, nd_len, nd_take, nd_cellsV, nd_clL, nd_drop2, nd_drop3, nd_drop4, nd_drop5, List.append_nil, splice, hf, dT_lt, dF_lt, dT_le, dF_le, dT_eq, dF_eq, push_cast, ↓reduceIte, Nat.reduceEqDiff, reduceCtorEq, Nat.reduceAdd, Nat.reduceSub, Nat.reduceMul, Nat.reduceLeDiff, Nat.reduceLT, Nat.reduceMod, Nat.reduceDiv, Int.reduceToNat, Int.reduceLT, Int.reduceLE, Int.reduceEq, Int.reduceAdd, Int.reduceSub, Int.reduceNeg, Int.reduceMul, Bool.and_self]) ?_) | simp -implicitDefEqProofs (disch := omega) only [L7, cells_agg, nd_c1s, nd_len, nd_take, nd_cellsV, nd_clL, nd_drop2, nd_drop3, nd_drop4, nd_drop5, List.append_nil, splice, hf, dT_lt, dF_lt, dT_le, dF_le, dT_eq, dF_eq, push_cast, ↓reduceIte, Nat.reduceEqDiff, reduceCtorEq, Nat.reduceAdd, Nat.reduceSub, Nat.reduceMul, Nat.reduceLeDiff, Nat.reduceLT, Nat.reduceMod, Nat.reduceDiv, Int.reduceToNat, Int.reduceLT, Int.reduceLE, Int.reduceEq, Int.reduceAdd, Int.reduceSub, Int.reduceNeg, Int.reduceMul, Bool.and_self] | split)
      refine rk_loopS (fun (st : Nat × AHeap) e' H' => e' 1 = int t ∧ e' 73 = .sl 5 (x.kids.map ndR) ∧ e' 74 = int x.kids.length ∧ e' 75 = int st.1 ∧ H' = H ++ st.2 ∧ st.1 ≤ x.kids.length) (fun st => x.kids.length - st.1) (0, [.box (ndR n), .box (ndR x)]) ?_ ?_
      · exact ⟨rfl, rfl, rfl, rfl, rfl, Nat.zero_le _⟩
      rintro ⟨j, ext⟩ e' H' ⟨h1, h73, h74, h75, rfl, hj⟩
      simp only at h75 hj
      by_cases hlt : j < x.kids.length
      · have hk := findFs_all hxf _ (getD_mem' hlt)
        unfold inF at hk
        have hgg : ∀ x : HO, (H ++ (ext ++ [x]))[H.length + ext.length]? = some x := fun x => by rw [get_add]; simp
        have hss : ∀ x y : HO, (H ++ (ext ++ [x])).set (H.length + ext.length) y = H ++ (ext ++ [y]) := fun x y => by rw [set_add]; simp
        by_cases ha : (x.kids.getD j default).a ≤ t
        · rw [decide_eq_true ha, Bool.true_and, decide_eq_false_iff_not] at hk
          repeat' (first | (refine And.intro (by omega) ?_) | simp -implicitDefEqProofs (disch := omega) only [h1, h73, h74, h75, rows_getD, cells_agg, nd_c1s, nd_len, nd_take, nd_cellsV, nd_clL, nd_drop5, nd_drop2, nd_drop3, List.append_nil, splice, hgg, hss, dT_lt, dF_lt, dT_le, dF_le, dT_eq, dF_eq, push_cast, ↓reduceIte, Nat.reduceEqDiff, reduceCtorEq, Nat.reduceAdd, Nat.reduceSub, Nat.reduceMul, Nat.reduceLeDiff, Nat.reduceLT, Nat.reduceMod, Nat.reduceDiv, Int.reduceToNat, Int.reduceLT, Int.reduceLE, Int.reduceEq, Int.reduceAdd, Int.reduceSub, Int.reduceNeg, Int.reduceMul, Bool.and_self] | split)
          exact .mk (j + 1, _) ⟨h1, h73, h74, rfl, rfl, hlt⟩ (by simp only; omega)
        · repeat' (first | (refine And.intro (by omega) ?_) | simp -implicitDefEqProofs (disch := omega) only [h1, h73, h74, h75, rows_getD, cells_agg, nd_c1s, nd_len, nd_take, nd_cellsV, nd_clL, nd_drop5, nd_drop2, nd_drop3, List.append_nil, splice, hgg, hss, dT_lt, dF_lt, dT_le, dF_le, dT_eq, dF_eq, push_cast, ↓reduceIte, Nat.reduceEqDiff, reduceCtorEq, Nat.reduceAdd, Nat.reduceSub, Nat.reduceMul, Nat.reduceLeDiff, Nat.reduceLT, Nat.reduceMod, Nat.reduceDiv, Int.reduceToNat, Int.reduceLT, Int.reduceLE, Int.reduceEq, Int.reduceAdd, Int.reduceSub, Int.reduceNeg, Int.reduceMul, Bool.and_self] | split)
          exact .mk (j + 1, _) ⟨h1, h73, h74, rfl, rfl, hlt⟩ (by simp only; omega)
      · repeat' (first | (refine And.intro (by omega) ?_) | (refine callF_pure (awakeC _) ?_) | (refine callQF_pure (awakeC _) (by first | rfl | simp -implicitDefEqProofs (disch := omega) only [h1, h73, h74, h75, dT_lt, dF_lt, dT_le, dF_le, dT_eq, dF_eq, push_cast, ↓reduceIte, Nat.reduceEqDiff, reduceCtorEq, Nat.reduceAdd, Nat.reduceSub, Nat.reduceMul, Nat.reduceLeDiff, Nat.reduceLT, Nat.reduceMod, Nat.reduceDiv, Int.reduceToNat, Int.reduceLT, Int.reduceLE, Int.reduceEq, Int.reduceAdd, Int.reduceSub, Int.reduceNeg, Int.reduceMul, Bool.and_self]) ?_) | simp -implicitDefEqProofs (disch := omega) only [h1, h73, h74, h75, dT_lt, dF_lt, dT_le, dF_le, dT_eq, dF_eq, push_cast, ↓reduceIte, Nat.reduceEqDiff, reduceCtorEq, Nat.reduceAdd, Nat.reduceSub, Nat.reduceMul, Nat.reduceLeDiff, Nat.reduceLT, Nat.reduceMod, Nat.reduceDiv, Int.reduceToNat, Int.reduceLT, Int.reduceLE, Int.reduceEq, Int.reduceAdd, Int.reduceSub, Int.reduceNeg, Int.reduceMul, Bool.and_self] | split)
        exact ⟨_, rfl⟩
    · have ho : findO n t = none := by unfold findO; rw [if_neg hin]
      rw [ho] at c1
      simp only [numA] at c1
      unfold inF at hin
      by_cases ha : n.a ≤ t
      · have he : ¬ t < n.e := by
          intro he
          exact hin (by simp [ha, he])
        repeat' (first | (refine And.intro (by omega) ?_) | (refine callF_pure (smallR n 100 hs _) ?_) | (refine callF_pure (c1 _) ?_) | (refine callF_pure (awakeC _) ?_) | (refine callQF_pure (smallR n 100 hs _) (by first | rfl | simp -implicitDefEqProofs (disch := omega) only [L7, cells_agg, nd_c1s, nd_len, nd_take, nd_cellsV, nd_clL, nd_drop2, nd_drop3, nd_drop4, nd_drop5, List.append_nil, splice, hf, dT_lt, dF_lt, dT_le, dF_le, dT_eq, dF_eq, push_cast, ↓reduceIte, Nat.reduceEqDiff, reduceCtorEq, Nat.reduceAdd, Nat.reduceSub, Nat.reduceMul, Nat.reduceLeDiff, Nat.reduceLT, Nat.reduceMod, Nat.reduceDiv, Int.reduceToNat, Int.reduceLT, Int.reduceLE, Int.reduceEq, Int.reduceAdd, Int.reduceSub, Int.reduceNeg, Int.reduceMul, Bool.and_self]) ?_) | (refine callQF_pure (c1 _) (by first | rfl | simp -implicitDefEqProofs (disch := omega) only [L7, cells_agg, nd_c1s, nd_len, nd_take, nd_cellsV, nd_clL, nd_drop2, nd_drop3, nd_drop4, nd_drop5, List.append_nil, splice, hf, dT_lt, dF_lt, dT_le, dF_le, dT_eq, dF_eq, push_cast, ↓reduceIte, Nat.reduceEqDiff, reduceCtorEq, Nat.reduceAdd, Nat.reduceSub, Nat.reduceMul, Nat.reduceLeDiff, Nat.reduceLT, Nat.reduceMod, Nat.reduceDiv, Int.reduceToNat, Int.reduceLT, Int.reduceLE, Int.reduceEq, Int.reduceAdd, Int.reduceSub, Int.reduceNeg, Int.reduceMul, Bool.and_self]) ?_) | (refine callQF_pure (awakeC _) (by first | rfl | simp -implicitDefEqProofs (disch := omega) only [L7, cells_agg, nd_c1s, nd_len, nd_take, nd_cellsV, nd_clL, nd_drop2, nd_drop3, nd_drop4, nd_drop5, List.append_nil, splice, hf, dT_lt, dF_lt, dT_le, dF_le, dT_eq, dF_eq, push_cast, ↓reduceIte, Nat.reduceEqDiff, reduceCtorEq, Nat.reduceAdd, Nat.reduceSub, Nat.reduceMul, Nat.reduceLeDiff, Nat.reduceLT, Nat.reduceMod, Nat.reduceDiv, Int.reduceToNat, Int.reduceLT, Int.reduceLE, Int.reduceEq, Int.reduceAdd, Int.reduceSub, Int.reduceNeg, Int.reduceMul, Bool.and_self]) ?_) | simp -implicitDefEqProofs (disch := omega) only [L7, cells_agg, nd_c1s, nd_len, nd_take, nd_cellsV, nd_clL, nd_drop2, nd_drop3, nd_drop4, nd_drop5, List.append_nil, splice, hf, dT_lt, dF_lt, dT_le, dF_le, dT_eq, dF_eq, push_cast, ↓reduceIte, Nat.reduceEqDiff, reduceCtorEq, Nat.reduceAdd, Nat.reduceSub, Nat.reduceMul, Nat.reduceLeDiff, Nat.reduceLT, Nat.reduceMod, Nat.reduceDiv, Int.reduceToNat, Int.reduceLT, Int.reduceLE, Int.reduceEq, Int.reduceAdd, Int.reduceSub, Int.reduceNeg, Int.reduceMul, Bool.and_self] | split)
        exact ⟨_, rfl⟩
      · repeat' (first | (refine And.intro (by omega) ?_) | (refine callF_pure (smallR n 100 hs _) ?_) | (refine callF_pure (c1 _) ?_) | (refine callF_pure (awakeC _) ?_) | (refine callQF_pure (smallR n 100 hs _) (by first | rfl | simp -implicitDefEqProofs (disch := omega) only [L7, cells_agg, nd_c1s, nd_len, nd_take, nd_cellsV, nd_clL, nd_drop2, nd_drop3, nd_drop4, nd_drop5, List.append_nil, splice, hf, dT_lt, dF_lt, dT_le, dF_le, dT_eq, dF_eq, push_cast, ↓reduceIte, Nat.reduceEqDiff, reduceCtorEq, Nat.reduceAdd, Nat.reduceSub, Nat.reduceMul, Nat.reduceLeDiff, Nat.reduceLT, Nat.reduceMod, Nat.reduceDiv, Int.reduceToNat, Int.reduceLT, Int.reduceLE, Int.reduceEq, Int.reduceAdd, Int.reduceSub, Int.reduceNeg, Int.reduceMul, Bool.and_self]) ?_) | (refine callQF_pure (c1 _) (by first | rfl | simp -implicitDefEqProofs (disch := omega) only [L7, cells_agg, nd_c1s, nd_len, nd_take, nd_cellsV, nd_clL, nd_drop2, nd_drop3, nd_drop4, nd_drop5, List.append_nil, splice, hf, dT_lt, dF_lt, dT_le, dF_le, dT_eq, dF_eq, push_cast, ↓reduceIte, Nat.reduceEqDiff, reduceCtorEq, Nat.reduceAdd, Nat.reduceSub, Nat.reduceMul, Nat.reduceLeDiff, Nat.reduceLT, Nat.reduceMod, Nat.reduceDiv, Int.reduceToNat, Int.reduceLT, Int.reduceLE, Int.reduceEq, Int.reduceAdd, Int.reduceSub, Int.reduceNeg, Int.reduceMul, Bool.and_self]) ?_) | (refine callQF_pure (awakeC _) (by first | rfl | simp -implicitDefEqProofs (disch := omega) only [L7, cells_agg, nd_c1s, nd_len, nd_take, nd_cellsV, nd_clL, nd_drop2, nd_drop3, nd_drop4, nd_drop5, List.append_nil, splice, hf, dT_lt, dF_lt, dT_le, dF_le, dT_eq, dF_eq, push_cast, ↓reduceIte, Nat.reduceEqDiff, reduceCtorEq, Nat.reduceAdd, Nat.reduceSub, Nat.reduceMul, Nat.reduceLeDiff, Nat.reduceLT, Nat.reduceMod, Nat.reduceDiv, Int.reduceToNat, Int.reduceLT, Int.reduceLE, Int.reduceEq, Int.reduceAdd, Int.reduceSub, Int.reduceNeg, Int.reduceMul, Bool.and_self]) ?_) | simp -implicitDefEqProofs (disch := omega) only [L7, cells_agg, nd_c1s, nd_len, nd_take, nd_cellsV, nd_clL, nd_drop2, nd_drop3, nd_drop4, nd_drop5, List.append_nil, splice, hf, dT_lt, dF_lt, dT_le, dF_le, dT_eq, dF_eq, push_cast, ↓reduceIte, Nat.reduceEqDiff, reduceCtorEq, Nat.reduceAdd, Nat.reduceSub, Nat.reduceMul, Nat.reduceLeDiff, Nat.reduceLT, Nat.reduceMod, Nat.reduceDiv, Int.reduceToNat, Int.reduceLT, Int.reduceLE, Int.reduceEq, Int.reduceAdd, Int.reduceSub, Int.reduceNeg, Int.reduceMul, Bool.and_self] | split)
        exact ⟨_, rfl⟩
  · have hf' := Bool.eq_false_iff.2 hf
    repeat' (first | (refine And.intro (by omega) ?_) | (refine callF_pure (smallR n 100 hs _) ?_) | (refine callF_pure (awakeC _) ?_) | (refine callQF_pure (smallR n 100 hs _) (by first | rfl | simp -implicitDefEqProofs (disch := omega) only [L7, cells_agg, nd_c1s, nd_len, nd_take, nd_cellsV, nd_clL, hf', dT_lt, dF_lt, dT_le, dF_le, dT_eq, dF_eq, push_cast, ↓reduceIte, Nat.reduceEqDiff, reduceCtorEq, Nat.reduceAdd, Nat.reduceSub, Nat.reduceMul, Nat.reduceLeDiff, Nat.reduceLT, Nat.reduceMod, Nat.reduceDiv, Int.reduceToNat, Int.reduceLT, Int.reduceLE, Int.reduceEq, Int.reduceAdd, Int.reduceSub, Int.reduceNeg, Int.reduceMul, Bool.and_self]) ?_) | (refine callQF_pure (awakeC _) (by first | rfl | simp -implicitDefEqProofs (disch := omega) only [L7, cells_agg, nd_c1s, nd_len, nd_take, nd_cellsV, nd_clL, hf', dT_lt, dF_lt, dT_le, dF_le, dT_eq, dF_eq, push_cast, ↓reduceIte, Nat.reduceEqDiff, reduceCtorEq, Nat.reduceAdd, Nat.reduceSub, Nat.reduceMul, Nat.reduceLeDiff, Nat.reduceLT, Nat.reduceMod, Nat.reduceDiv, Int.reduceToNat, Int.reduceLT, Int.reduceLE, Int.reduceEq, Int.reduceAdd, Int.reduceSub, Int.reduceNeg, Int.reduceMul, Bool.and_self]) ?_) | simp -implicitDefEqProofs (disch := omega) only [L7, cells_agg, nd_c1s, nd_len, nd_take, nd_cellsV, nd_clL, hf', dT_lt, dF_lt, dT_le, dF_le, dT_eq, dF_eq, push_cast, ↓reduceIte, Nat.reduceEqDiff, reduceCtorEq, Nat.reduceAdd, Nat.reduceSub, Nat.reduceMul, Nat.reduceLeDiff, Nat.reduceLT, Nat.reduceMod, Nat.reduceDiv, Int.reduceToNat, Int.reduceLT, Int.reduceLE, Int.reduceEq, Int.reduceAdd, Int.reduceSub, Int.reduceNeg, Int.reduceMul, Bool.and_self] | split)
    exact ⟨_, rfl⟩
#print axioms treeFinds
end Go.Proofs.Ytnbdogodcjhfiaa

/- Trees: slices.Grow, slices.Concat, copies of lists. -/
namespace Go.Proofs.Ytnbdogodcjhfiaa
open Go Go.Ax Go.RowKit
set_option maxRecDepth 100000
set_option linter.unusedSimpArgs false
set_option linter.unusedVariables false

def growRen : Go.Shelf.Ren := ⟨fun | 4 => 116 | n => n, fun | 22 => 22 | 25 => 24 | n => n, fun | n => n⟩
theorem growLay : Go.Proofs.Lays8.n4 Try.prog growRen := {
  mixed := by kernel_rfl
  f4 := ⟨Try.f116.name, by decide +kernel, Try.func116.trans (congrArg some (by kernel_rfl))⟩
  t0 := Try.underlying0
  a0 := Try.isAgg0
  z0 := Try.sizeOf0
  v0 := Try.zeroValue0
  t3 := Try.underlying3
  a3 := Try.isAgg3
  z3 := Try.sizeOf3
  v3 := Try.zeroValue3
  t4 := Try.underlying4
  a4 := Try.isAgg4
  z4 := Try.sizeOf4
  v4 := Try.zeroValue4
  t9 := Try.underlying9
  a9 := Try.isAgg9
  z9 := Try.sizeOf9
  v9 := Try.zeroValue9
  t20 := Try.underlying20
  a20 := Try.isAgg20
  z20 := Try.sizeOf20
  v20 := Try.zeroValue20
  t22 := Try.underlying22
  a22 := Try.isAgg22
  z22 := Try.sizeOf22
  v22 := Try.zeroValue22 }
theorem infoNd : (Try.prog.info? 24).map (fun i => (i.zero, i.size, i.bytes)) = some (some (.agg #[.int .i64 0, .string .empty, .int .i64 0, .int .i64 0, .slice none 0 0]), 5, 64) := by kernel_rfl
theorem repL2 {w : World} {M : Nat → Prop} {ρ : Nat → Ax.Loc} {n : Nat} {x y : AV} {vs : Array Value} (h : RepL w M ρ n [x, y] vs) : ∃ a b, vs = #[a, b] ∧ Rep w M ρ n x a ∧ Rep w M ρ n y b := by
  obtain ⟨h1, h2⟩ := h
  match vs, h1 with
  | ⟨[a, b]⟩, _ => exact ⟨a, b, rfl, h2 0 x a rfl rfl, h2 1 y b rfl rfl⟩
theorem growC (k : Nat) (hk : k ≤ 1048576) (H : AHeap) : ACall Try.prog 116 [nilS, int k] H fun x H' => x = .os H.length 0 0 0 ∧ H' = H ++ [.arr 0 5 []] := by
  refine ⟨⟨_, Try.func116, by kernel_rfl, by kernel_rfl⟩, fun X ρ w vs hrel hargs => ?_⟩
  obtain ⟨a, b, rfl, ha, hb⟩ := repL2 hargs
  have ha := rep_vx ha
  have hb := rep_vx hb
  subst ha
  subst hb
  by_cases h0 : k = 0
  · subst h0
    refine (Go.Proofs.Any8.slices_Grow_room growLay none 0 0 0 w (by omega) (by omega) (by omega) (by omega)).mono ?_
    rintro e w' ⟨rfl, rfl⟩
    obtain ⟨ρ', g1, g2, g3⟩ := none_own hrel (sz := 5) (by decide) none
    exact ⟨_, _, _, ρ', rfl, ⟨rfl, rfl⟩, g1, g2, g3⟩
  · obtain ⟨i0, hi, hz0, hz1, hz2⟩ := info_parts infoNd
    refine (Go.Proofs.Any8.slices_Grow_grow growLay i0 _ hi hz0 (by omega) none 0 0 k [] w (by omega) (by omega) (by rw [hz2]; omega) (by omega) (by simp) (fun _ => rfl) (fun a ha => by cases ha)).mono ?_
    rintro e w' ⟨rfl, rfl⟩
    obtain ⟨ρ', g1, g2, g3⟩ := new_own (w1 := w.drew.alloc (.cells (([] : List Value).toArray ++ Builtin.zeroCells (Value.cells (.agg #[.int .i64 0, .string .empty, .int .i64 0, .int .i64 0, .slice none 0 0])) (0 + k - 0) ++ Builtin.zeroCells (Value.cells (.agg #[.int .i64 0, .string .empty, .int .i64 0, .int .i64 0, .slice none 0 0])) (grownCap w (0 + k) 0 24 - (0 + k))) 24)) hrel ((Same.drew w).trans (Same.alloc _ _)) (heap_old w.drew _) (Nat.le_refl _) (by simp) (heap_new w.drew _) (.inl rfl) (sz := 5) (by decide) (xs := [])
      ⟨by simp, fun x hx => by simp at hx, fun i j x y u hx => by simp at hx⟩ (len := 0) (cap := grownCap w (0 + k) 0 24) (Nat.zero_le _) (by
        have hge : 0 + k ≤ grownCap w (0 + k) 0 24 := grownCap_ge _ _ _ _
        simp only [Array.size_append, Builtin.zeroCells, Array.size_map, Array.size_range, Value.cells]
        simp
        omega)
    exact ⟨_, _, _, ρ', rfl, ⟨rfl, rfl⟩, g1, g2, g3⟩
#print axioms growC

theorem concat3C (A B C : List Nd) (hl : A.length + B.length + C.length ≤ 1048576) (H : AHeap) : Comp' 91 [.sl 1 [[.sl 5 (A.map ndR)], [.sl 5 (B.map ndR)], [.sl 5 (C.map ndR)]]] H (.sl 5 ((A ++ B ++ C).map ndR)) := by
  obtain ⟨ls, hls⟩ : ∃ ls, ls = [A, B, C] := ⟨_, rfl⟩
  have hrows : [[AV.sl 5 (A.map ndR)], [.sl 5 (B.map ndR)], [.sl 5 (C.map ndR)]] = ls.map fun l => [AV.sl 5 (l.map ndR)] := by rw [hls]; rfl
  have hflat : A ++ B ++ C = ls.flatten := by rw [hls]; simp
  have hlen : ls.length = 3 := by rw [hls]; rfl
  have htot : ls.flatten.length ≤ 1048576 := by rw [← hflat]; simp; omega
  rw [hrows, hflat]
  clear hrows hflat hls hl
  have hmono : ∀ j, j < ls.length → (ls.take (j + 1)).flatten = (ls.take j).flatten ++ ls.getD j default ∧ (ls.take (j + 1)).flatten.length ≤ ls.flatten.length := fun j hj => by
    refine ⟨by rw [take_snoc hj]; simp, ?_⟩
    have := congrArg (fun l => l.flatten.length) (List.take_append_drop (j + 1) ls)
    simp only [List.flatten_append, List.length_append] at this
    omega
  refine ACall.drop (R := fun x => x = .sl 5 (ls.flatten.map ndR)) ?_
  refine enter Try.func91 L91_ok (Nat.le_of_ble_eq_true rfl) ?_
  repeat' (first | (refine And.intro (by omega) ?_) | simp -implicitDefEqProofs (disch := omega) only [L91, hlen, List.length_map, dT_lt, dF_lt, dT_le, dF_le, dT_eq, dF_eq, push_cast, ↓reduceIte, Nat.reduceEqDiff, reduceCtorEq, Nat.reduceAdd, Nat.reduceSub, Nat.reduceMul, Nat.reduceLeDiff, Nat.reduceLT, Nat.reduceMod, Nat.reduceDiv, Int.reduceToNat, Int.reduceLT, Int.reduceLE, Int.reduceEq, Int.reduceAdd, Int.reduceSub, Int.reduceNeg, Int.reduceMul, Bool.and_self] | split)
  refine rk_loopS (fun (j : Nat) e' H' => e' 0 = .sl 1 (ls.map fun l => [AV.sl 5 (l.map ndR)]) ∧ e' 3 = int ((ls.take j).flatten.length : Nat) ∧ e' 9 = .sl 1 (ls.map fun l => [AV.sl 5 (l.map ndR)]) ∧ e' 10 = int 3 ∧ e' 11 = int j ∧ H = H' ∧ j ≤ 3) (fun j => 3 - j) 0 ?_ ?_
  · exact ⟨rfl, rfl, rfl, rfl, rfl, rfl, by omega⟩
  rintro j e' H' ⟨h0, h3, h9, h10, h11, rfl, hj⟩
  by_cases hlt : j < 3
  · obtain ⟨hm1, hm2⟩ := hmono j (by omega)
    have hm3 := congrArg List.length hm1
    rw [List.length_append] at hm3
    repeat' (first | (refine And.intro (by omega) ?_) | simp -implicitDefEqProofs (disch := omega) only [h0, h3, h9, h10, h11, rows_getD, List.length_map, cellsV, dT_lt, dF_lt, dT_le, dF_le, dT_eq, dF_eq, push_cast, ↓reduceIte, Nat.reduceEqDiff, reduceCtorEq, Nat.reduceAdd, Nat.reduceSub, Nat.reduceMul, Nat.reduceLeDiff, Nat.reduceLT, Nat.reduceMod, Nat.reduceDiv, Int.reduceToNat, Int.reduceLT, Int.reduceLE, Int.reduceEq, Int.reduceAdd, Int.reduceSub, Int.reduceNeg, Int.reduceMul, Bool.and_self] | split)
    exact .mk (j + 1) ⟨h0, intc rfl (by rw [hm3]; omega), h9, h10, rfl, rfl, hlt⟩ (by omega)
  · have e : j = 3 := by omega
    subst e
    have htk : ls.take 3 = ls := List.take_of_length_le (by omega)
    rw [htk] at h3
    simp -implicitDefEqProofs (disch := omega) only [h0, h3, h9, h10, h11, List.length_map, dT_lt, dF_lt, dT_le, dF_le, dT_eq, dF_eq, push_cast, ↓reduceIte, Nat.reduceEqDiff, reduceCtorEq, Nat.reduceAdd, Nat.reduceSub, Nat.reduceMul, Nat.reduceLeDiff, Nat.reduceLT, Nat.reduceMod, Nat.reduceDiv, Int.reduceToNat, Int.reduceLT, Int.reduceLE, Int.reduceEq, Int.reduceAdd, Int.reduceSub, Int.reduceNeg, Int.reduceMul, Bool.and_self]
    refine callF_mono (growC _ htot _) ?_
    rintro x H' ⟨rfl, rfl⟩
    repeat' (first | (refine And.intro (by omega) ?_) | simp -implicitDefEqProofs (disch := omega) only [h0, h3, h9, h10, h11, hlen, List.length_map, dT_lt, dF_lt, dT_le, dF_le, dT_eq, dF_eq, push_cast, ↓reduceIte, Nat.reduceEqDiff, reduceCtorEq, Nat.reduceAdd, Nat.reduceSub, Nat.reduceMul, Nat.reduceLeDiff, Nat.reduceLT, Nat.reduceMod, Nat.reduceDiv, Int.reduceToNat, Int.reduceLT, Int.reduceLE, Int.reduceEq, Int.reduceAdd, Int.reduceSub, Int.reduceNeg, Int.reduceMul, Bool.and_self] | split)
    refine rk_loopS (fun (st : Nat × Nat) e' H' => e' 6 = .os H.length st.2 0 (ls.take st.1).flatten.length ∧ e' 25 = .sl 1 (ls.map fun l => [AV.sl 5 (l.map ndR)]) ∧ e' 26 = int 3 ∧ e' 27 = int st.1 ∧ H' = H ++ [.arr st.2 5 ((ls.take st.1).flatten.map ndR)] ∧ st.1 ≤ 3) (fun st => 3 - st.1) (0, 0) ?_ ?_
    · exact ⟨rfl, rfl, rfl, rfl, rfl, by omega⟩
    rintro ⟨j, v⟩ e' H' ⟨h6, h25, h26, h27, rfl, hj⟩
    simp only at h6 h27 hj
    by_cases hlt : j < 3
    · obtain ⟨hm1, hm2⟩ := hmono j (by omega)
      have hm3 := congrArg List.length hm1
      rw [List.length_append] at hm3
      repeat' (first | (refine And.intro (by omega) ?_) | simp -implicitDefEqProofs (disch := omega) only [h6, h25, h26, h27, rows_getD, List.length_map, cellsV, dT_lt, dF_lt, dT_le, dF_le, dT_eq, dF_eq, push_cast, ↓reduceIte, Nat.reduceEqDiff, reduceCtorEq, Nat.reduceAdd, Nat.reduceSub, Nat.reduceMul, Nat.reduceLeDiff, Nat.reduceLT, Nat.reduceMod, Nat.reduceDiv, Int.reduceToNat, Int.reduceLT, Int.reduceLE, Int.reduceEq, Int.reduceAdd, Int.reduceSub, Int.reduceNeg, Int.reduceMul, Bool.and_self] | split)
      refine .mk (j + 1, v + 1) ⟨by rw [hm3]; rfl, h25, h26, rfl, ?_, hlt⟩ (by simp only; omega)
      simp only [hm1, List.map_append]
    · have e : j = 3 := by omega
      subst e
      rw [htk] at h6
      repeat' (first | (refine And.intro (by omega) ?_) | simp -implicitDefEqProofs (disch := omega) only [h6, h25, h26, h27, htk, List.length_map, dT_lt, dF_lt, dT_le, dF_le, dT_eq, dF_eq, push_cast, ↓reduceIte, Nat.reduceEqDiff, reduceCtorEq, Nat.reduceAdd, Nat.reduceSub, Nat.reduceMul, Nat.reduceLeDiff, Nat.reduceLT, Nat.reduceMod, Nat.reduceDiv, Int.reduceToNat, Int.reduceLT, Int.reduceLE, Int.reduceEq, Int.reduceAdd, Int.reduceSub, Int.reduceNeg, Int.reduceMul, Bool.and_self] | split)
      exact ⟨_, rfl⟩
#print axioms concat3C

theorem AVLe_sl0 (sz : Nat) : AV.Le (.sl 0 []) (.sl sz []) := fun w M ρ n v hv => by
  cases hv with
  | slE => exact .slE _ _ _ _
  | slN => exact .slE _ _ _ _
theorem cloneC (l : List Nd) (hl : l.length ≤ 1048576) (H : AHeap) : ACall Try.prog 115 [.sl 5 (l.map ndR)] H fun x H' => (l = [] ∧ x = nilS ∧ H' = H) ∨ ∃ ver, x = .os H.length ver 0 l.length ∧ H' = H ++ [.arr ver 5 (l.map ndR)] := by
  refine enter Try.func115 L115_ok (Nat.le_of_ble_eq_true rfl) ?_
  repeat' (first | (refine And.intro (by omega) ?_) | simp -implicitDefEqProofs (disch := omega) only [L115, dT_lt, dF_lt, dT_le, dF_le, dT_eq, dF_eq, push_cast, ↓reduceIte, Nat.reduceEqDiff, reduceCtorEq, Nat.reduceAdd, Nat.reduceSub, Nat.reduceMul, Nat.reduceLeDiff, Nat.reduceLT, Nat.reduceMod, Nat.reduceDiv, Int.reduceToNat, Int.reduceLT, Int.reduceLE, Int.reduceEq, Int.reduceAdd, Int.reduceSub, Int.reduceNeg, Int.reduceMul, Bool.and_self] | split)
  refine ⟨trivial, fun b hb => ?_⟩
  cases b with
  | true =>
    have he : l = [] := by simpa using hb rfl
    repeat' (first | (refine And.intro (by omega) ?_) | simp -implicitDefEqProofs (disch := omega) only [dT_lt, dF_lt, dT_le, dF_le, dT_eq, dF_eq, push_cast, ↓reduceIte, Nat.reduceEqDiff, reduceCtorEq, Nat.reduceAdd, Nat.reduceSub, Nat.reduceMul, Nat.reduceLeDiff, Nat.reduceLT, Nat.reduceMod, Nat.reduceDiv, Int.reduceToNat, Int.reduceLT, Int.reduceLE, Int.reduceEq, Int.reduceAdd, Int.reduceSub, Int.reduceNeg, Int.reduceMul, Bool.and_self] | split)
    exact .inl he
  | false =>
    repeat' (first | (refine And.intro (by omega) ?_) | simp -implicitDefEqProofs (disch := omega) only [Nat.zero_add, dT_lt, dF_lt, dT_le, dF_le, dT_eq, dF_eq, push_cast, ↓reduceIte, Nat.reduceEqDiff, reduceCtorEq, Nat.reduceAdd, Nat.reduceSub, Nat.reduceMul, Nat.reduceLeDiff, Nat.reduceLT, Nat.reduceMod, Nat.reduceDiv, Int.reduceToNat, Int.reduceLT, Int.reduceLE, Int.reduceEq, Int.reduceAdd, Int.reduceSub, Int.reduceNeg, Int.reduceMul, Bool.and_self] | split)
    exact ⟨_, rfl, rfl⟩
theorem copied0T (l : List Nd) (hl : l.length ≤ 1048576) (ih : ∀ k ∈ l, ∀ H, Comp' 90 [.sl 5 (k.kids.map ndR)] H (.sl 5 (k.kids.map ndR))) (H : AHeap) : ACall Try.prog 90 [.sl 5 (l.map ndR)] H fun x H' => (l = [] ∧ x = nilS ∧ H' = H) ∨ ∃ ver, x = .os H.length ver 0 l.length ∧ H' = H ++ [.arr ver 5 (l.map ndR)] := by
  refine enter Try.func90 L90_ok (Nat.le_of_ble_eq_true rfl) ?_
  simp -implicitDefEqProofs (disch := omega) only [L90, dT_lt, dF_lt, dT_le, dF_le, dT_eq, dF_eq, push_cast, ↓reduceIte, Nat.reduceEqDiff, reduceCtorEq, Nat.reduceAdd, Nat.reduceSub, Nat.reduceMul, Nat.reduceLeDiff, Nat.reduceLT, Nat.reduceMod, Nat.reduceDiv, Int.reduceToNat, Int.reduceLT, Int.reduceLE, Int.reduceEq, Int.reduceAdd, Int.reduceSub, Int.reduceNeg, Int.reduceMul, Bool.and_self]
  refine callF_mono (cloneC l hl H) ?_
  rintro x H2 (⟨rfl, rfl, hh⟩ | ⟨v, rfl, rfl⟩)
  · rw [hh]
    clear hh H2
    repeat' (first | (refine And.intro (by omega) ?_) | simp -implicitDefEqProofs (disch := omega) only [dT_lt, dF_lt, dT_le, dF_le, dT_eq, dF_eq, push_cast, ↓reduceIte, Nat.reduceEqDiff, reduceCtorEq, Nat.reduceAdd, Nat.reduceSub, Nat.reduceMul, Nat.reduceLeDiff, Nat.reduceLT, Nat.reduceMod, Nat.reduceDiv, Int.reduceToNat, Int.reduceLT, Int.reduceLE, Int.reduceEq, Int.reduceAdd, Int.reduceSub, Int.reduceNeg, Int.reduceMul, Bool.and_self] | split)
    refine rk_loopS (fun (j : Nat) e' H' => e' 3 = nilS ∧ e' 8 = int 0 ∧ e' 9 = int 0 ∧ H = H') (fun _ => 0) 0 ?_ ?_
    · exact ⟨rfl, rfl, rfl, rfl⟩
    rintro j e' H' ⟨h3, h8, h9, rfl⟩
    repeat' (first | (refine And.intro (by omega) ?_) | simp -implicitDefEqProofs (disch := omega) only [h3, h8, h9, dT_lt, dF_lt, dT_le, dF_le, dT_eq, dF_eq, push_cast, ↓reduceIte, Nat.reduceEqDiff, reduceCtorEq, Nat.reduceAdd, Nat.reduceSub, Nat.reduceMul, Nat.reduceLeDiff, Nat.reduceLT, Nat.reduceMod, Nat.reduceDiv, Int.reduceToNat, Int.reduceLT, Int.reduceLE, Int.reduceEq, Int.reduceAdd, Int.reduceSub, Int.reduceNeg, Int.reduceMul, Bool.and_self] | split)
  · repeat' (first | (refine And.intro (by omega) ?_) | simp -implicitDefEqProofs (disch := omega) only [dT_lt, dF_lt, dT_le, dF_le, dT_eq, dF_eq, push_cast, ↓reduceIte, Nat.reduceEqDiff, reduceCtorEq, Nat.reduceAdd, Nat.reduceSub, Nat.reduceMul, Nat.reduceLeDiff, Nat.reduceLT, Nat.reduceMod, Nat.reduceDiv, Int.reduceToNat, Int.reduceLT, Int.reduceLE, Int.reduceEq, Int.reduceAdd, Int.reduceSub, Int.reduceNeg, Int.reduceMul, Bool.and_self] | split)
    refine rk_loopS (fun (j : Nat) e' H' => e' 3 = .os H.length v 0 l.length ∧ e' 8 = int l.length ∧ e' 9 = int j ∧ H' = H ++ [.arr v 5 (l.map ndR)] ∧ j ≤ l.length) (fun j => l.length - j) 0 ?_ ?_
    · exact ⟨rfl, rfl, rfl, rfl, Nat.zero_le _⟩
    rintro j e' H' ⟨h3, h8, h9, rfl, hj⟩
    by_cases hlt : j < l.length
    · have hk := getD_mem' hlt
      have hsp : ∀ m : Nd, splice (ndR m) 4 [AV.sl 5 (m.kids.map ndR)] = ndR m := fun m => by rw [ndR_eq]; rfl
      have hset : (l.map ndR).set j (ndR (l.getD j default)) = l.map ndR := by
        apply List.ext_getElem (by simp)
        intro i h1 h2
        rw [List.getElem_set]
        split
        · rename_i e; subst e; simp [List.getD_eq_getElem?_getD, hlt]
        · rfl
      repeat' (first | (refine And.intro (by omega) ?_) | (refine callF_pure (ih _ hk _) ?_) | (refine callQF_pure (ih _ hk _) (by first | rfl | simp -implicitDefEqProofs (disch := omega) only [h3, h8, h9, rows_getD, nd_len, nd_drop4, Nat.zero_add, List.length_map, hsp, hset, dT_lt, dF_lt, dT_le, dF_le, dT_eq, dF_eq, push_cast, ↓reduceIte, Nat.reduceEqDiff, reduceCtorEq, Nat.reduceAdd, Nat.reduceSub, Nat.reduceMul, Nat.reduceLeDiff, Nat.reduceLT, Nat.reduceMod, Nat.reduceDiv, Int.reduceToNat, Int.reduceLT, Int.reduceLE, Int.reduceEq, Int.reduceAdd, Int.reduceSub, Int.reduceNeg, Int.reduceMul, Bool.and_self]) ?_) | simp -implicitDefEqProofs (disch := omega) only [h3, h8, h9, rows_getD, nd_len, nd_drop4, Nat.zero_add, List.length_map, hsp, hset, dT_lt, dF_lt, dT_le, dF_le, dT_eq, dF_eq, push_cast, ↓reduceIte, Nat.reduceEqDiff, reduceCtorEq, Nat.reduceAdd, Nat.reduceSub, Nat.reduceMul, Nat.reduceLeDiff, Nat.reduceLT, Nat.reduceMod, Nat.reduceDiv, Int.reduceToNat, Int.reduceLT, Int.reduceLE, Int.reduceEq, Int.reduceAdd, Int.reduceSub, Int.reduceNeg, Int.reduceMul, Bool.and_self] | split)
      exact .mk (j + 1) ⟨h3, h8, rfl, rfl, hlt⟩ (by omega)
    · repeat' (first | (refine And.intro (by omega) ?_) | simp -implicitDefEqProofs (disch := omega) only [h3, h8, h9, dT_lt, dF_lt, dT_le, dF_le, dT_eq, dF_eq, push_cast, ↓reduceIte, Nat.reduceEqDiff, reduceCtorEq, Nat.reduceAdd, Nat.reduceSub, Nat.reduceMul, Nat.reduceLeDiff, Nat.reduceLT, Nat.reduceMod, Nat.reduceDiv, Int.reduceToNat, Int.reduceLT, Int.reduceLE, Int.reduceEq, Int.reduceAdd, Int.reduceSub, Int.reduceNeg, Int.reduceMul, Bool.and_self] | split)
      exact ⟨v, rfl, rfl⟩
theorem copiedT (l : List Nd) (hl : l.length ≤ 1048576) (ih : ∀ k ∈ l, ∀ H, Comp' 90 [.sl 5 (k.kids.map ndR)] H (.sl 5 (k.kids.map ndR))) (H : AHeap) : Comp' 90 [.sl 5 (l.map ndR)] H (.sl 5 (l.map ndR)) := by
  have h0 := copied0T l hl ih H
  refine ACall.resTo (R := fun x H' => (x = .sl 5 (l.map ndR) ∨ (x = .sl 0 [] ∧ l = [])) ∧ H' = H) ?_ ?_
  · refine ACall.drop (R := fun x => x = .sl 5 (l.map ndR) ∨ (x = .sl 0 [] ∧ l = [])) ((h0.frz ?_).mono ?_)
    · rintro x H' (⟨rfl, rfl, rfl⟩ | ⟨v, rfl, rfl⟩)
      · exact trivial
      · simp -implicitDefEqProofs (disch := omega) only [List.length_map, Nat.zero_add, dT_lt, dF_lt, dT_le, dF_le, dT_eq, dF_eq, push_cast, ↓reduceIte, Nat.reduceEqDiff, reduceCtorEq, Nat.reduceAdd, Nat.reduceSub, Nat.reduceMul, Nat.reduceLeDiff, Nat.reduceLT, Nat.reduceMod, Nat.reduceDiv, Int.reduceToNat, Int.reduceLT, Int.reduceLE, Int.reduceEq, Int.reduceAdd, Int.reduceSub, Int.reduceNeg, Int.reduceMul, Bool.and_self]
        exact Nat.le_refl _
    · rintro x H' ⟨_, _, ⟨rfl, rfl, rfl⟩ | ⟨v, rfl, rfl⟩, rfl, rfl⟩
      · exact ⟨.inr ⟨rfl, rfl⟩, rfl, [], by simp [rFrz]⟩
      · simp -implicitDefEqProofs (disch := omega) only [List.length_map, Nat.zero_add, dT_lt, dF_lt, dT_le, dF_le, dT_eq, dF_eq, push_cast, ↓reduceIte, Nat.reduceEqDiff, reduceCtorEq, Nat.reduceAdd, Nat.reduceSub, Nat.reduceMul, Nat.reduceLeDiff, Nat.reduceLT, Nat.reduceMod, Nat.reduceDiv, Int.reduceToNat, Int.reduceLT, Int.reduceLE, Int.reduceEq, Int.reduceAdd, Int.reduceSub, Int.reduceNeg, Int.reduceMul, Bool.and_self]
        exact ⟨_, rfl⟩
  · rintro x H' ⟨rfl | ⟨rfl, rfl⟩, rfl⟩
    · exact ⟨_, AV.Le.refl _, rfl, rfl⟩
    · exact ⟨_, AVLe_sl0 5, rfl, rfl⟩
theorem copiedN (n : Nd) : Sml n → ∀ H, Comp' 90 [.sl 5 (n.kids.map ndR)] H (.sl 5 (n.kids.map ndR)) := by
  induction n using Nd.ind with
  | h n ih =>
  intro hs H
  exact copiedT n.kids (sml_len hs) (fun k hk H => ih k hk (sml_kid hs hk) H) H
#print axioms copiedN
end Go.Proofs.Ytnbdogodcjhfiaa

/- Trees: kids replaced. -/
namespace Go.Proofs.Ytnbdogodcjhfiaa
open Go Go.Ax
set_option maxRecDepth 100000
set_option linter.unusedSimpArgs false
set_option linter.unusedVariables false

/-- The tree in which kids f to t of the node with a path are replaced by l. -/
def replF : Nd → List Int → Nat → Nat → List Nd → Nd
  | .mk k x a e ks, [], f, t, l => .mk k x a e (ks.take f ++ l ++ ks.drop t)
  | .mk k x a e ks, i :: p, f, t, l => .mk k x a e (ks.set i.toNat (replF (ks.getD i.toNat default) p f t l))
theorem replF_nil (n : Nd) (f t : Nat) (l : List Nd) : ndR (replF n [] f t l) = [int n.kind, str n.text, int n.a, int n.e, .sl 5 ((n.kids.take f ++ l ++ n.kids.drop t).map ndR)] := by
  cases n; rw [replF, ndR_eq]; rfl
theorem replF_cons (n : Nd) (i : Int) (p : List Int) (f t : Nat) (l : List Nd) : ndR (replF n (i :: p) f t l) = [int n.kind, str n.text, int n.a, int n.e, .sl 5 ((n.kids.set i.toNat (replF (n.kids.getD i.toNat default) p f t l)).map ndR)] := by
  cases n; rw [replF, ndR_eq]; rfl
theorem nd_splice4 (n : Nd) (x : AV) : splice (ndR n) 4 [x] = [int n.kind, str n.text, int n.a, int n.e, x] := by rw [ndR_eq]; rfl
theorem z_splice (a b c d e : AV) : splice zCs 0 [a, b, c, d, e] = [a, b, c, d, e] := rfl
theorem map_set_nd (l : List Nd) (i : Nat) (m : Nd) : (l.map ndR).set i (ndR m) = (l.set i m).map ndR := by rw [List.map_set]

theorem replaceT : ∀ (p : List Int) (n x : Nd) (f t : Nat) (l : List Nd), Sml n → p.length ≤ 1048576 → getL n p = some x → f ≤ t → t ≤ x.kids.length → cnt n + l.length ≤ 1048576 → (∀ k ∈ l, Sml k) → ∀ H, Comp' 61 [.agg (ndR n), .sl 1 (p.map iR), int f, int t, .sl 5 (l.map ndR)] H (.agg (ndR (replF n p f t l)))
  | [], n, x, f, t, l, hs, hp, hg, hft, ht, hl, hls, H => by
    cases hg
    refine ACall.drop (R := fun x => x = .agg (ndR (replF n [] f t l))) ?_
    refine enter Try.func61 L61z_ok (Nat.le_of_ble_eq_true rfl) ?_
    have hln := sml_len hs
    have hkc := cnts_len n.kids
    rw [cnt_eq] at hl
    have e1 : (n.kids.map ndR).take f = (n.kids.take f).map ndR := by rw [List.map_take]
    have e2 : ((n.kids.map ndR).drop t).take (n.kids.length - t) = (n.kids.drop t).map ndR := by rw [← List.map_drop, List.take_of_length_le (by simp)]
    have c1 := fun H => concat3C (n.kids.take f) l (n.kids.drop t) (by rw [List.length_take, List.length_drop]; omega) H
    have c2 := fun H => copiedT (n.kids.take f ++ l ++ n.kids.drop t) (by simp only [List.length_append, List.length_take, List.length_drop]; omega) (fun k hk H => copiedN k (by
      rcases List.mem_append.1 hk with hk | hk
      · rcases List.mem_append.1 hk with hk | hk
        · exact sml_kid hs (List.mem_of_mem_take hk)
        · exact hls k hk
      · exact sml_kid hs (List.mem_of_mem_drop hk)) H) H
    repeat' (first | (refine And.intro (by omega) ?_) | (refine callF_pure (c1 _) ?_) | (refine callF_pure (c2 _) ?_) | (refine callQF_pure (c1 _) (by first | rfl | simp -implicitDefEqProofs (disch := omega) only [L61z, cells_agg, nd_c1s, nd_len, nd_take, nd_cellsV, nd_drop4, nd_clL, List.length_map, List.map_nil, List.length_nil, Nat.sub_zero, e1, e2, nd_splice4, z_splice, dT_lt, dF_lt, dT_le, dF_le, dT_eq, dF_eq, push_cast, ↓reduceIte, Nat.reduceEqDiff, reduceCtorEq, Nat.reduceAdd, Nat.reduceSub, Nat.reduceMul, Nat.reduceLeDiff, Nat.reduceLT, Nat.reduceMod, Nat.reduceDiv, Int.reduceToNat, Int.reduceLT, Int.reduceLE, Int.reduceEq, Int.reduceAdd, Int.reduceSub, Int.reduceNeg, Int.reduceMul, Bool.and_self]) ?_) | (refine callQF_pure (c2 _) (by first | rfl | simp -implicitDefEqProofs (disch := omega) only [L61z, cells_agg, nd_c1s, nd_len, nd_take, nd_cellsV, nd_drop4, nd_clL, List.length_map, List.map_nil, List.length_nil, Nat.sub_zero, e1, e2, nd_splice4, z_splice, dT_lt, dF_lt, dT_le, dF_le, dT_eq, dF_eq, push_cast, ↓reduceIte, Nat.reduceEqDiff, reduceCtorEq, Nat.reduceAdd, Nat.reduceSub, Nat.reduceMul, Nat.reduceLeDiff, Nat.reduceLT, Nat.reduceMod, Nat.reduceDiv, Int.reduceToNat, Int.reduceLT, Int.reduceLE, Int.reduceEq, Int.reduceAdd, Int.reduceSub, Int.reduceNeg, Int.reduceMul, Bool.and_self]) ?_) | simp -implicitDefEqProofs (disch := omega) only [L61z, cells_agg, nd_c1s, nd_len, nd_take, nd_cellsV, nd_drop4, nd_clL, List.length_map, List.map_nil, List.length_nil, Nat.sub_zero, e1, e2, nd_splice4, z_splice, dT_lt, dF_lt, dT_le, dF_le, dT_eq, dF_eq, push_cast, ↓reduceIte, Nat.reduceEqDiff, reduceCtorEq, Nat.reduceAdd, Nat.reduceSub, Nat.reduceMul, Nat.reduceLeDiff, Nat.reduceLT, Nat.reduceMod, Nat.reduceDiv, Int.reduceToNat, Int.reduceLT, Int.reduceLE, Int.reduceEq, Int.reduceAdd, Int.reduceSub, Int.reduceNeg, Int.reduceMul, Bool.and_self] | split)
    exact ⟨by rw [replF_nil, List.append_assoc], _, rfl⟩
  | i :: p, n, x, f, t, l, hs, hp, hg, hft, ht, hl, hls, H => by
    simp only [getL] at hg
    split at hg
    · rename_i hok
      obtain ⟨h0, hi⟩ := hok
      obtain ⟨i, rfl⟩ : ∃ i' : Nat, i = i' := ⟨i.toNat, by omega⟩
      have hi : i < n.kids.length := by omega
      rw [Int.toNat_natCast] at hg
      refine ACall.drop (R := fun x => x = .agg (ndR (replF n ((i : Int) :: p) f t l))) ?_
      refine enter Try.func61 L61z_ok (Nat.le_of_ble_eq_true rfl) ?_
      have hln := sml_len hs
      have hk := getD_mem' hi
      have hkc := cnt_kid hk
      simp only [List.length_cons] at hp
      have c1 := fun H => replaceT p (n.kids.getD i default) x f t l (sml_kid hs hk) (by omega) hg hft ht (by omega) hls H
      simp -implicitDefEqProofs (disch := omega) only [L61z, cells_agg, nd_c1s, nd_len, nd_take, nd_cellsV, nd_drop4, nd_clL, List.length_map, List.length_cons, dT_lt, dF_lt, dT_le, dF_le, dT_eq, dF_eq, push_cast, ↓reduceIte, Nat.reduceEqDiff, reduceCtorEq, Nat.reduceAdd, Nat.reduceSub, Nat.reduceMul, Nat.reduceLeDiff, Nat.reduceLT, Nat.reduceMod, Nat.reduceDiv, Int.reduceToNat, Int.reduceLT, Int.reduceLE, Int.reduceEq, Int.reduceAdd, Int.reduceSub, Int.reduceNeg, Int.reduceMul, Bool.and_self]
      refine callF_mono (copied0T n.kids hln (fun k hk H => copiedN k (sml_kid hs hk) H) _) ?_
      rintro y H' (⟨hn, _, _⟩ | ⟨v, rfl, rfl⟩)
      · rw [hn] at hi; simp at hi
      have e3 : (p.map iR).take (p.length + 1 - 1) = p.map iR := List.take_of_length_le (by simp)
      repeat' (first | (refine And.intro (by omega) ?_) | (refine callF_pure (c1 _) ?_) | (refine callQF_pure (c1 _) (by first | rfl | simp -implicitDefEqProofs (disch := omega) only [e3, cells_agg, nd_c1s, nd_len, nd_take, nd_cellsV, nd_drop4, nd_clL, nd_splice4, z_splice, rows_getD, List.length_map, List.map_cons, iR, List.length_cons, List.getD_cons_zero, Nat.zero_add, nd_drop5, List.append_nil, dT_lt, dF_lt, dT_le, dF_le, dT_eq, dF_eq, push_cast, ↓reduceIte, Nat.reduceEqDiff, reduceCtorEq, Nat.reduceAdd, Nat.reduceSub, Nat.reduceMul, Nat.reduceLeDiff, Nat.reduceLT, Nat.reduceMod, Nat.reduceDiv, Int.reduceToNat, Int.reduceLT, Int.reduceLE, Int.reduceEq, Int.reduceAdd, Int.reduceSub, Int.reduceNeg, Int.reduceMul, Bool.and_self]) ?_) | simp -implicitDefEqProofs (disch := omega) only [e3, cells_agg, nd_c1s, nd_len, nd_take, nd_cellsV, nd_drop4, nd_clL, nd_splice4, z_splice, rows_getD, List.length_map, List.map_cons, iR, List.length_cons, List.getD_cons_zero, Nat.zero_add, nd_drop5, List.append_nil, dT_lt, dF_lt, dT_le, dF_le, dT_eq, dF_eq, push_cast, ↓reduceIte, Nat.reduceEqDiff, reduceCtorEq, Nat.reduceAdd, Nat.reduceSub, Nat.reduceMul, Nat.reduceLeDiff, Nat.reduceLT, Nat.reduceMod, Nat.reduceDiv, Int.reduceToNat, Int.reduceLT, Int.reduceLE, Int.reduceEq, Int.reduceAdd, Int.reduceSub, Int.reduceNeg, Int.reduceMul, Bool.and_self] | split)
      refine ⟨?_, _, rfl⟩
      rw [replF_cons, map_set_nd, all_take _ (by simp), Int.toNat_natCast]
    · cases hg
#print axioms replaceT

theorem changeR : ∀ (p : List Int) (n x : Nd) (f t : Nat) (l : List Nd), Sml n → p.length ≤ 1048576 → getL n p = some x → f ≤ t → t ≤ x.kids.length → cnt n + l.length ≤ 1048576 → ∀ H, Comp' 62 [.agg (ndR n), .sl 1 (p.map iR), int f, int t, .sl 5 (l.map ndR)] H (.agg (ndR (replF n p f t l)))
  | [], n, x, f, t, l, hs, hp, hg, hft, ht, hl, H => by
    cases hg
    refine ACall.drop (R := fun x => x = .agg (ndR (replF n [] f t l))) ?_
    refine enter Try.func62 L62z_ok (Nat.le_of_ble_eq_true rfl) ?_
    have hln := sml_len hs
    have hkc := cnts_len n.kids
    rw [cnt_eq] at hl
    simp -implicitDefEqProofs (disch := omega) only [L62z, cells_agg, nd_c1s, nd_len, nd_take, nd_cellsV, nd_drop4, nd_clL, dT_lt, dF_lt, dT_le, dF_le, dT_eq, dF_eq, push_cast, ↓reduceIte, Nat.reduceEqDiff, reduceCtorEq, Nat.reduceAdd, Nat.reduceSub, Nat.reduceMul, Nat.reduceLeDiff, Nat.reduceLT, Nat.reduceMod, Nat.reduceDiv, Int.reduceToNat, Int.reduceLT, Int.reduceLE, Int.reduceEq, Int.reduceAdd, Int.reduceSub, Int.reduceNeg, Int.reduceMul, Bool.and_self]
    refine callF_mono (copied0 n hs (fun k hk H => copiedR k (sml_kid hs hk) H) _) ?_
    rintro y H' ⟨v, a, b, rfl, rfl⟩
    have e22 : H.length + 2 + 2 = H.length + 4 := rfl
    have hf1 : (f ≤ n.kids.length) = True := eq_true (by omega)
    have ht1 : (t + (n.kids.length - t) ≤ n.kids.length) = True := eq_true (by omega)
    obtain ⟨A, hA⟩ : ∃ A, A = n.kids.take f := ⟨_, rfl⟩
    obtain ⟨C, hC⟩ : ∃ C, C = n.kids.drop t := ⟨_, rfl⟩
    have hA1 : (n.kids.map ndR).take f = A.map ndR := by rw [hA, List.map_take]
    have hA2 : A.length = f := by rw [hA, List.length_take]; omega
    have hA3 : (A.map ndR).take f = A.map ndR := List.take_of_length_le (by rw [List.length_map]; omega)
    have hA4 : (A.map ndR ++ l.map ndR).take (f + l.length) = A.map ndR ++ l.map ndR := List.take_of_length_le (by simp; omega)
    have hC1 : ((n.kids.map ndR).drop t).take (n.kids.length - t) = C.map ndR := by rw [hC, ← List.map_drop, List.take_of_length_le (by simp)]
    have hC2 : C.length = n.kids.length - t := by rw [hC, List.length_drop]
    repeat' (first | (refine And.intro (by omega) ?_) | simp -implicitDefEqProofs (disch := omega) only [hf1, ht1, hA1, hA2, hA3, hA4, hC1, hC2, Nat.sub_zero, cells_agg, nd_c1s, nd_len, nd_take, nd_cellsV, splice, nd_drop5, List.append_nil, e22, List.map_nil, List.length_nil, Nat.zero_add, List.length_map, dT_lt, dF_lt, dT_le, dF_le, dT_eq, dF_eq, push_cast, ↓reduceIte, Nat.reduceEqDiff, reduceCtorEq, Nat.reduceAdd, Nat.reduceSub, Nat.reduceMul, Nat.reduceLeDiff, Nat.reduceLT, Nat.reduceMod, Nat.reduceDiv, Int.reduceToNat, Int.reduceLT, Int.reduceLE, Int.reduceEq, Int.reduceAdd, Int.reduceSub, Int.reduceNeg, Int.reduceMul, Bool.and_self] | split)
    refine ⟨?_, _, rfl⟩
    rw [replF_nil, List.append_assoc, List.map_append, List.map_append, ← hA, ← hC, List.take_of_length_le (by simp; omega)]
  | i :: p, n, x, f, t, l, hs, hp, hg, hft, ht, hl, H => by
    simp only [getL] at hg
    split at hg
    · rename_i hok
      obtain ⟨h0, hi⟩ := hok
      obtain ⟨i, rfl⟩ : ∃ i' : Nat, i = i' := ⟨i.toNat, by omega⟩
      have hi : i < n.kids.length := by omega
      rw [Int.toNat_natCast] at hg
      refine ACall.drop (R := fun x => x = .agg (ndR (replF n ((i : Int) :: p) f t l))) ?_
      refine enter Try.func62 L62z_ok (Nat.le_of_ble_eq_true rfl) ?_
      have hln := sml_len hs
      have hk := getD_mem' hi
      have hkc := cnt_kid hk
      simp only [List.length_cons] at hp
      have c1 := fun H => changeR p (n.kids.getD i default) x f t l (sml_kid hs hk) (by omega) hg hft ht (by omega) H
      simp -implicitDefEqProofs (disch := omega) only [L62z, cells_agg, nd_c1s, nd_len, nd_take, nd_cellsV, nd_drop4, nd_clL, dT_lt, dF_lt, dT_le, dF_le, dT_eq, dF_eq, push_cast, ↓reduceIte, Nat.reduceEqDiff, reduceCtorEq, Nat.reduceAdd, Nat.reduceSub, Nat.reduceMul, Nat.reduceLeDiff, Nat.reduceLT, Nat.reduceMod, Nat.reduceDiv, Int.reduceToNat, Int.reduceLT, Int.reduceLE, Int.reduceEq, Int.reduceAdd, Int.reduceSub, Int.reduceNeg, Int.reduceMul, Bool.and_self]
      refine callF_mono (copied0 n hs (fun k hk H => copiedR k (sml_kid hs hk) H) _) ?_
      rintro y H' ⟨v, a, b, rfl, rfl⟩
      have e22 : H.length + 2 + 2 = H.length + 4 := rfl
      have e3 : (p.map iR).take (p.length + 1 - 1) = p.map iR := List.take_of_length_le (by simp)
      repeat' (first | (refine And.intro (by omega) ?_) | (refine callF_pure (c1 _) ?_) | (refine callQF_pure (c1 _) (by first | rfl | simp -implicitDefEqProofs (disch := omega) only [e3, cells_agg, nd_c1s, nd_len, nd_take, nd_cellsV, nd_clL, splice, nd_drop5, List.append_nil, e22, rows_getD, List.length_map, List.map_cons, iR, List.length_cons, List.getD_cons_zero, Nat.zero_add, map_set_nd, dT_lt, dF_lt, dT_le, dF_le, dT_eq, dF_eq, push_cast, ↓reduceIte, Nat.reduceEqDiff, reduceCtorEq, Nat.reduceAdd, Nat.reduceSub, Nat.reduceMul, Nat.reduceLeDiff, Nat.reduceLT, Nat.reduceMod, Nat.reduceDiv, Int.reduceToNat, Int.reduceLT, Int.reduceLE, Int.reduceEq, Int.reduceAdd, Int.reduceSub, Int.reduceNeg, Int.reduceMul, Bool.and_self]) ?_) | simp -implicitDefEqProofs (disch := omega) only [e3, cells_agg, nd_c1s, nd_len, nd_take, nd_cellsV, nd_clL, splice, nd_drop5, List.append_nil, e22, rows_getD, List.length_map, List.map_cons, iR, List.length_cons, List.getD_cons_zero, Nat.zero_add, map_set_nd, dT_lt, dF_lt, dT_le, dF_le, dT_eq, dF_eq, push_cast, ↓reduceIte, Nat.reduceEqDiff, reduceCtorEq, Nat.reduceAdd, Nat.reduceSub, Nat.reduceMul, Nat.reduceLeDiff, Nat.reduceLT, Nat.reduceMod, Nat.reduceDiv, Int.reduceToNat, Int.reduceLT, Int.reduceLE, Int.reduceEq, Int.reduceAdd, Int.reduceSub, Int.reduceNeg, Int.reduceMul, Bool.and_self] | split)
      refine ⟨?_, _, rfl⟩
      rw [replF_cons, all_take _ (by simp), Int.toNat_natCast]
    · cases hg
#print axioms changeR
end Go.Proofs.Ytnbdogodcjhfiaa

/- Trees: Replace; what replacing back gives. -/
namespace Go.Proofs.Ytnbdogodcjhfiaa
open Go Go.Ax
set_option maxRecDepth 100000
set_option linter.unusedSimpArgs false
set_option linter.unusedVariables false

/-- The error of a replacement of kids. -/
def replE (n : Nd) (p : List Int) (f t : Int) (l : List Nd) : Int := match getL n p with
  | none => 7
  | some x => if f < 0 ∨ t < f ∨ (x.kids.length : Int) < t then 2 else if listF x.kind = false ∧ (l.length : Int) ≠ t - f then 1 else 0
def replN (n : Nd) (p : List Int) (f t : Int) (l : List Nd) : Nd := if replE n p f t l = 0 then replF n p f.toNat t.toNat l else zNd
def replX (n : Nd) (p : List Int) (f t : Int) (l : List Nd) : AV := if replE n p f t l = 0 then .tup [.agg (ndR (replF n p f.toNat t.toNat l)), int 0] else .tup [.agg zCs, int (replE n p f t l)]
def replA (n : Nd) (p : List Int) (f t : Int) (l : List Nd) : AV := .tup [.agg (ndR (replN n p f t l)), int (replE n p f t l)]
theorem replX_le (n : Nd) (p : List Int) (f t : Int) (l : List Nd) : AV.Le (replX n p f t l) (replA n p f t l) := by
  unfold replX replA replN
  split
  · rename_i h; rw [h]; exact AV.Le.refl _
  · exact AVLe_tup2 zLe (AV.Le.refl _)

theorem replX_no {n : Nd} {p : List Int} {f t : Int} {l : List Nd} {c : Int} (h : replE n p f t l = c) (h0 : c ≠ 0) : replX n p f t l = .tup [.agg zCs, int c] := by
  unfold replX
  rw [h, if_neg h0]
theorem replX_yes {n : Nd} {p : List Int} {f t : Int} {l : List Nd} (h : replE n p f t l = 0) : replX n p f t l = .tup [.agg (ndR (replF n p f.toNat t.toNat l)), int 0] := by
  unfold replX
  rw [h, if_pos rfl]
theorem replE_eq {n : Nd} {p : List Int} {f t : Int} {l : List Nd} {x : Nd} (hg : getL n p = some x) : replE n p f t l = if f < 0 ∨ t < f ∨ (x.kids.length : Int) < t then 2 else if listF x.kind = false ∧ (l.length : Int) ≠ t - f then 1 else 0 := by
  unfold replE; rw [hg]
theorem ReplaceT (n : Nd) (p : List Int) (f t : Int) (l : List Nd) (hs : Sml n) (hp : p.length ≤ 1048576) (hl : cnt n + l.length ≤ 1048576) (hls : ∀ k ∈ l, Sml k) (H : AHeap) : Comp' 38 [.agg (ndR n), .sl 1 (p.map iR), int f, int t, .sl 5 (l.map ndR)] H (replA n p f t l) := by
  refine ACall.resTo (R := fun x H' => x = replX n p f t l ∧ H' = H) ?_ (fun x H' ⟨h1, h2⟩ => ⟨_, h1 ▸ replX_le n p f t l, rfl, h2⟩)
  refine ACall.drop (R := fun x => x = replX n p f t l) ?_
  refine enter Try.func38 L38_ok (Nat.le_of_ble_eq_true rfl) ?_
  have c1 := fun H => getT n p hs (by omega) H
  cases hg : getL n p with
  | none =>
    rw [hg] at c1
    simp only [getA] at c1
    have hX : replX n p f t l = .tup [.agg zCs, int 7] := by unfold replX replE; rw [hg]; rfl
    rw [hX]
    repeat' (first | (refine And.intro (by omega) ?_) | (refine callF_pure (c1 _) ?_) | (refine callQF_pure (c1 _) (by first | rfl | simp -implicitDefEqProofs (disch := omega) only [L38, cells_agg, nd_c1s, nd_len, nd_take, nd_cellsV, nd_clL, nd_drop5, List.append_nil, splice, dT_lt, dF_lt, dT_le, dF_le, dT_eq, dF_eq, push_cast, ↓reduceIte, Nat.reduceEqDiff, reduceCtorEq, Nat.reduceAdd, Nat.reduceSub, Nat.reduceMul, Nat.reduceLeDiff, Nat.reduceLT, Nat.reduceMod, Nat.reduceDiv, Int.reduceToNat, Int.reduceLT, Int.reduceLE, Int.reduceEq, Int.reduceAdd, Int.reduceSub, Int.reduceNeg, Int.reduceMul, Bool.and_self]) ?_) | simp -implicitDefEqProofs (disch := omega) only [L38, cells_agg, nd_c1s, nd_len, nd_take, nd_cellsV, nd_clL, nd_drop5, List.append_nil, splice, dT_lt, dF_lt, dT_le, dF_le, dT_eq, dF_eq, push_cast, ↓reduceIte, Nat.reduceEqDiff, reduceCtorEq, Nat.reduceAdd, Nat.reduceSub, Nat.reduceMul, Nat.reduceLeDiff, Nat.reduceLT, Nat.reduceMod, Nat.reduceDiv, Int.reduceToNat, Int.reduceLT, Int.reduceLE, Int.reduceEq, Int.reduceAdd, Int.reduceSub, Int.reduceNeg, Int.reduceMul, Bool.and_self] | split)
    exact ⟨_, rfl⟩
  | some x =>
    rw [hg] at c1
    have hsx := getL_sml hs hg
    have hlx := sml_len hsx
    simp only [getA] at c1
    by_cases h1 : f < 0
    · have hX := replX_no (f := f) (t := t) (l := l) (c := 2) (by rw [replE_eq hg]; simp only [h1, true_or, ↓reduceIte]) (by decide)
      rw [hX]
      repeat' (first | (refine And.intro (by omega) ?_) | (refine callF_pure (c1 _) ?_) | (refine callQF_pure (c1 _) (by first | rfl | simp -implicitDefEqProofs (disch := omega) only [L38, cells_agg, nd_c1s, nd_len, nd_take, nd_cellsV, nd_clL, nd_drop5, nd_drop4, List.append_nil, splice, dT_lt, dF_lt, dT_le, dF_le, dT_eq, dF_eq, push_cast, ↓reduceIte, Nat.reduceEqDiff, reduceCtorEq, Nat.reduceAdd, Nat.reduceSub, Nat.reduceMul, Nat.reduceLeDiff, Nat.reduceLT, Nat.reduceMod, Nat.reduceDiv, Int.reduceToNat, Int.reduceLT, Int.reduceLE, Int.reduceEq, Int.reduceAdd, Int.reduceSub, Int.reduceNeg, Int.reduceMul, Bool.and_self]) ?_) | simp -implicitDefEqProofs (disch := omega) only [L38, cells_agg, nd_c1s, nd_len, nd_take, nd_cellsV, nd_clL, nd_drop5, nd_drop4, List.append_nil, splice, dT_lt, dF_lt, dT_le, dF_le, dT_eq, dF_eq, push_cast, ↓reduceIte, Nat.reduceEqDiff, reduceCtorEq, Nat.reduceAdd, Nat.reduceSub, Nat.reduceMul, Nat.reduceLeDiff, Nat.reduceLT, Nat.reduceMod, Nat.reduceDiv, Int.reduceToNat, Int.reduceLT, Int.reduceLE, Int.reduceEq, Int.reduceAdd, Int.reduceSub, Int.reduceNeg, Int.reduceMul, Bool.and_self] | split)
      exact ⟨_, rfl⟩
    · by_cases h2 : t < f
      · have hX := replX_no (f := f) (t := t) (l := l) (c := 2) (by rw [replE_eq hg]; simp only [h1, h2, true_or, or_true, ↓reduceIte]) (by decide)
        rw [hX]
        repeat' (first | (refine And.intro (by omega) ?_) | (refine callF_pure (c1 _) ?_) | (refine callQF_pure (c1 _) (by first | rfl | simp -implicitDefEqProofs (disch := omega) only [L38, cells_agg, nd_c1s, nd_len, nd_take, nd_cellsV, nd_clL, nd_drop5, nd_drop4, List.append_nil, splice, dT_lt, dF_lt, dT_le, dF_le, dT_eq, dF_eq, push_cast, ↓reduceIte, Nat.reduceEqDiff, reduceCtorEq, Nat.reduceAdd, Nat.reduceSub, Nat.reduceMul, Nat.reduceLeDiff, Nat.reduceLT, Nat.reduceMod, Nat.reduceDiv, Int.reduceToNat, Int.reduceLT, Int.reduceLE, Int.reduceEq, Int.reduceAdd, Int.reduceSub, Int.reduceNeg, Int.reduceMul, Bool.and_self]) ?_) | simp -implicitDefEqProofs (disch := omega) only [L38, cells_agg, nd_c1s, nd_len, nd_take, nd_cellsV, nd_clL, nd_drop5, nd_drop4, List.append_nil, splice, dT_lt, dF_lt, dT_le, dF_le, dT_eq, dF_eq, push_cast, ↓reduceIte, Nat.reduceEqDiff, reduceCtorEq, Nat.reduceAdd, Nat.reduceSub, Nat.reduceMul, Nat.reduceLeDiff, Nat.reduceLT, Nat.reduceMod, Nat.reduceDiv, Int.reduceToNat, Int.reduceLT, Int.reduceLE, Int.reduceEq, Int.reduceAdd, Int.reduceSub, Int.reduceNeg, Int.reduceMul, Bool.and_self] | split)
        exact ⟨_, rfl⟩
      · by_cases h3 : (x.kids.length : Int) < t
        · have hX := replX_no (f := f) (t := t) (l := l) (c := 2) (by rw [replE_eq hg]; simp only [h1, h2, h3, true_or, or_true, ↓reduceIte]) (by decide)
          rw [hX]
          repeat' (first | (refine And.intro (by omega) ?_) | (refine callF_pure (c1 _) ?_) | (refine callQF_pure (c1 _) (by first | rfl | simp -implicitDefEqProofs (disch := omega) only [L38, cells_agg, nd_c1s, nd_len, nd_take, nd_cellsV, nd_clL, nd_drop5, nd_drop4, List.append_nil, splice, dT_lt, dF_lt, dT_le, dF_le, dT_eq, dF_eq, push_cast, ↓reduceIte, Nat.reduceEqDiff, reduceCtorEq, Nat.reduceAdd, Nat.reduceSub, Nat.reduceMul, Nat.reduceLeDiff, Nat.reduceLT, Nat.reduceMod, Nat.reduceDiv, Int.reduceToNat, Int.reduceLT, Int.reduceLE, Int.reduceEq, Int.reduceAdd, Int.reduceSub, Int.reduceNeg, Int.reduceMul, Bool.and_self]) ?_) | simp -implicitDefEqProofs (disch := omega) only [L38, cells_agg, nd_c1s, nd_len, nd_take, nd_cellsV, nd_clL, nd_drop5, nd_drop4, List.append_nil, splice, dT_lt, dF_lt, dT_le, dF_le, dT_eq, dF_eq, push_cast, ↓reduceIte, Nat.reduceEqDiff, reduceCtorEq, Nat.reduceAdd, Nat.reduceSub, Nat.reduceMul, Nat.reduceLeDiff, Nat.reduceLT, Nat.reduceMod, Nat.reduceDiv, Int.reduceToNat, Int.reduceLT, Int.reduceLE, Int.reduceEq, Int.reduceAdd, Int.reduceSub, Int.reduceNeg, Int.reduceMul, Bool.and_self] | split)
          exact ⟨_, rfl⟩
        · obtain ⟨f, rfl⟩ : ∃ f' : Nat, f = f' := ⟨f.toNat, by omega⟩
          obtain ⟨t, rfl⟩ : ∃ t' : Nat, t = t' := ⟨t.toNat, by omega⟩
          have c2 := fun H => replaceT p n x f t l hs hp hg (by omega) (by omega) hl hls H
          have c3 := fun H => ListT x.kind H
          cases hk : listF x.kind
          · rw [hk] at c3
            by_cases h4 : (l.length : Int) = (t : Int) - f
            · have hX := replX_yes (f := f) (t := t) (l := l) (by rw [replE_eq hg]; simp only [h1, h2, h3, h4, hk, true_and, or_self, ↓reduceIte, ne_eq, not_true_eq_false, and_false])
              rw [Int.toNat_natCast, Int.toNat_natCast] at hX
              rw [hX]
              repeat' (first | (refine And.intro (by omega) ?_) | (refine callF_pure (c1 _) ?_) | (refine callF_pure (c2 _) ?_) | (refine callF_pure (c3 _) ?_) | (refine callQF_pure (c1 _) (by first | rfl | simp -implicitDefEqProofs (disch := omega) only [L38, cells_agg, nd_c1s, nd_len, nd_take, nd_cellsV, nd_clL, nd_drop5, nd_drop4, List.append_nil, splice, dT_lt, dF_lt, dT_le, dF_le, dT_eq, dF_eq, push_cast, ↓reduceIte, Nat.reduceEqDiff, reduceCtorEq, Nat.reduceAdd, Nat.reduceSub, Nat.reduceMul, Nat.reduceLeDiff, Nat.reduceLT, Nat.reduceMod, Nat.reduceDiv, Int.reduceToNat, Int.reduceLT, Int.reduceLE, Int.reduceEq, Int.reduceAdd, Int.reduceSub, Int.reduceNeg, Int.reduceMul, Bool.and_self]) ?_) | (refine callQF_pure (c2 _) (by first | rfl | simp -implicitDefEqProofs (disch := omega) only [L38, cells_agg, nd_c1s, nd_len, nd_take, nd_cellsV, nd_clL, nd_drop5, nd_drop4, List.append_nil, splice, dT_lt, dF_lt, dT_le, dF_le, dT_eq, dF_eq, push_cast, ↓reduceIte, Nat.reduceEqDiff, reduceCtorEq, Nat.reduceAdd, Nat.reduceSub, Nat.reduceMul, Nat.reduceLeDiff, Nat.reduceLT, Nat.reduceMod, Nat.reduceDiv, Int.reduceToNat, Int.reduceLT, Int.reduceLE, Int.reduceEq, Int.reduceAdd, Int.reduceSub, Int.reduceNeg, Int.reduceMul, Bool.and_self]) ?_) | (refine callQF_pure (c3 _) (by first | rfl | simp -implicitDefEqProofs (disch := omega) only [L38, cells_agg, nd_c1s, nd_len, nd_take, nd_cellsV, nd_clL, nd_drop5, nd_drop4, List.append_nil, splice, dT_lt, dF_lt, dT_le, dF_le, dT_eq, dF_eq, push_cast, ↓reduceIte, Nat.reduceEqDiff, reduceCtorEq, Nat.reduceAdd, Nat.reduceSub, Nat.reduceMul, Nat.reduceLeDiff, Nat.reduceLT, Nat.reduceMod, Nat.reduceDiv, Int.reduceToNat, Int.reduceLT, Int.reduceLE, Int.reduceEq, Int.reduceAdd, Int.reduceSub, Int.reduceNeg, Int.reduceMul, Bool.and_self]) ?_) | simp -implicitDefEqProofs (disch := omega) only [L38, cells_agg, nd_c1s, nd_len, nd_take, nd_cellsV, nd_clL, nd_drop5, nd_drop4, List.append_nil, splice, dT_lt, dF_lt, dT_le, dF_le, dT_eq, dF_eq, push_cast, ↓reduceIte, Nat.reduceEqDiff, reduceCtorEq, Nat.reduceAdd, Nat.reduceSub, Nat.reduceMul, Nat.reduceLeDiff, Nat.reduceLT, Nat.reduceMod, Nat.reduceDiv, Int.reduceToNat, Int.reduceLT, Int.reduceLE, Int.reduceEq, Int.reduceAdd, Int.reduceSub, Int.reduceNeg, Int.reduceMul, Bool.and_self] | split)
              exact ⟨_, rfl⟩
            · have hX := replX_no (f := f) (t := t) (l := l) (c := 1) (by rw [replE_eq hg]; simp only [h1, h2, h3, h4, hk, true_and, or_self, ↓reduceIte, ne_eq, not_false_eq_true, and_self]) (by decide)
              rw [hX]
              repeat' (first | (refine And.intro (by omega) ?_) | (refine callF_pure (c1 _) ?_) | (refine callF_pure (c2 _) ?_) | (refine callF_pure (c3 _) ?_) | (refine callQF_pure (c1 _) (by first | rfl | simp -implicitDefEqProofs (disch := omega) only [L38, cells_agg, nd_c1s, nd_len, nd_take, nd_cellsV, nd_clL, nd_drop5, nd_drop4, List.append_nil, splice, dT_lt, dF_lt, dT_le, dF_le, dT_eq, dF_eq, push_cast, ↓reduceIte, Nat.reduceEqDiff, reduceCtorEq, Nat.reduceAdd, Nat.reduceSub, Nat.reduceMul, Nat.reduceLeDiff, Nat.reduceLT, Nat.reduceMod, Nat.reduceDiv, Int.reduceToNat, Int.reduceLT, Int.reduceLE, Int.reduceEq, Int.reduceAdd, Int.reduceSub, Int.reduceNeg, Int.reduceMul, Bool.and_self]) ?_) | (refine callQF_pure (c2 _) (by first | rfl | simp -implicitDefEqProofs (disch := omega) only [L38, cells_agg, nd_c1s, nd_len, nd_take, nd_cellsV, nd_clL, nd_drop5, nd_drop4, List.append_nil, splice, dT_lt, dF_lt, dT_le, dF_le, dT_eq, dF_eq, push_cast, ↓reduceIte, Nat.reduceEqDiff, reduceCtorEq, Nat.reduceAdd, Nat.reduceSub, Nat.reduceMul, Nat.reduceLeDiff, Nat.reduceLT, Nat.reduceMod, Nat.reduceDiv, Int.reduceToNat, Int.reduceLT, Int.reduceLE, Int.reduceEq, Int.reduceAdd, Int.reduceSub, Int.reduceNeg, Int.reduceMul, Bool.and_self]) ?_) | (refine callQF_pure (c3 _) (by first | rfl | simp -implicitDefEqProofs (disch := omega) only [L38, cells_agg, nd_c1s, nd_len, nd_take, nd_cellsV, nd_clL, nd_drop5, nd_drop4, List.append_nil, splice, dT_lt, dF_lt, dT_le, dF_le, dT_eq, dF_eq, push_cast, ↓reduceIte, Nat.reduceEqDiff, reduceCtorEq, Nat.reduceAdd, Nat.reduceSub, Nat.reduceMul, Nat.reduceLeDiff, Nat.reduceLT, Nat.reduceMod, Nat.reduceDiv, Int.reduceToNat, Int.reduceLT, Int.reduceLE, Int.reduceEq, Int.reduceAdd, Int.reduceSub, Int.reduceNeg, Int.reduceMul, Bool.and_self]) ?_) | simp -implicitDefEqProofs (disch := omega) only [L38, cells_agg, nd_c1s, nd_len, nd_take, nd_cellsV, nd_clL, nd_drop5, nd_drop4, List.append_nil, splice, dT_lt, dF_lt, dT_le, dF_le, dT_eq, dF_eq, push_cast, ↓reduceIte, Nat.reduceEqDiff, reduceCtorEq, Nat.reduceAdd, Nat.reduceSub, Nat.reduceMul, Nat.reduceLeDiff, Nat.reduceLT, Nat.reduceMod, Nat.reduceDiv, Int.reduceToNat, Int.reduceLT, Int.reduceLE, Int.reduceEq, Int.reduceAdd, Int.reduceSub, Int.reduceNeg, Int.reduceMul, Bool.and_self] | split)
              exact ⟨_, rfl⟩
          · rw [hk] at c3
            have hX := replX_yes (f := f) (t := t) (l := l) (by rw [replE_eq hg]; simp only [h1, h2, h3, hk, or_self, ↓reduceIte, Bool.true_eq_false, false_and])
            rw [Int.toNat_natCast, Int.toNat_natCast] at hX
            rw [hX]
            repeat' (first | (refine And.intro (by omega) ?_) | (refine callF_pure (c1 _) ?_) | (refine callF_pure (c2 _) ?_) | (refine callF_pure (c3 _) ?_) | (refine callQF_pure (c1 _) (by first | rfl | simp -implicitDefEqProofs (disch := omega) only [L38, cells_agg, nd_c1s, nd_len, nd_take, nd_cellsV, nd_clL, nd_drop5, nd_drop4, List.append_nil, splice, dT_lt, dF_lt, dT_le, dF_le, dT_eq, dF_eq, push_cast, ↓reduceIte, Nat.reduceEqDiff, reduceCtorEq, Nat.reduceAdd, Nat.reduceSub, Nat.reduceMul, Nat.reduceLeDiff, Nat.reduceLT, Nat.reduceMod, Nat.reduceDiv, Int.reduceToNat, Int.reduceLT, Int.reduceLE, Int.reduceEq, Int.reduceAdd, Int.reduceSub, Int.reduceNeg, Int.reduceMul, Bool.and_self]) ?_) | (refine callQF_pure (c2 _) (by first | rfl | simp -implicitDefEqProofs (disch := omega) only [L38, cells_agg, nd_c1s, nd_len, nd_take, nd_cellsV, nd_clL, nd_drop5, nd_drop4, List.append_nil, splice, dT_lt, dF_lt, dT_le, dF_le, dT_eq, dF_eq, push_cast, ↓reduceIte, Nat.reduceEqDiff, reduceCtorEq, Nat.reduceAdd, Nat.reduceSub, Nat.reduceMul, Nat.reduceLeDiff, Nat.reduceLT, Nat.reduceMod, Nat.reduceDiv, Int.reduceToNat, Int.reduceLT, Int.reduceLE, Int.reduceEq, Int.reduceAdd, Int.reduceSub, Int.reduceNeg, Int.reduceMul, Bool.and_self]) ?_) | (refine callQF_pure (c3 _) (by first | rfl | simp -implicitDefEqProofs (disch := omega) only [L38, cells_agg, nd_c1s, nd_len, nd_take, nd_cellsV, nd_clL, nd_drop5, nd_drop4, List.append_nil, splice, dT_lt, dF_lt, dT_le, dF_le, dT_eq, dF_eq, push_cast, ↓reduceIte, Nat.reduceEqDiff, reduceCtorEq, Nat.reduceAdd, Nat.reduceSub, Nat.reduceMul, Nat.reduceLeDiff, Nat.reduceLT, Nat.reduceMod, Nat.reduceDiv, Int.reduceToNat, Int.reduceLT, Int.reduceLE, Int.reduceEq, Int.reduceAdd, Int.reduceSub, Int.reduceNeg, Int.reduceMul, Bool.and_self]) ?_) | simp -implicitDefEqProofs (disch := omega) only [L38, cells_agg, nd_c1s, nd_len, nd_take, nd_cellsV, nd_clL, nd_drop5, nd_drop4, List.append_nil, splice, dT_lt, dF_lt, dT_le, dF_le, dT_eq, dF_eq, push_cast, ↓reduceIte, Nat.reduceEqDiff, reduceCtorEq, Nat.reduceAdd, Nat.reduceSub, Nat.reduceMul, Nat.reduceLeDiff, Nat.reduceLT, Nat.reduceMod, Nat.reduceDiv, Int.reduceToNat, Int.reduceLT, Int.reduceLE, Int.reduceEq, Int.reduceAdd, Int.reduceSub, Int.reduceNeg, Int.reduceMul, Bool.and_self] | split)
            exact ⟨_, rfl⟩
#print axioms ReplaceT
theorem ReplaceR (n : Nd) (p : List Int) (f t : Int) (l : List Nd) (hs : Sml n) (hp : p.length ≤ 1048576) (hl : cnt n + l.length ≤ 1048576) (H : AHeap) : Comp' 39 [.agg (ndR n), .sl 1 (p.map iR), int f, int t, .sl 5 (l.map ndR)] H (replA n p f t l) := by
  refine ACall.resTo (R := fun x H' => x = replX n p f t l ∧ H' = H) ?_ (fun x H' ⟨h1, h2⟩ => ⟨_, h1 ▸ replX_le n p f t l, rfl, h2⟩)
  refine ACall.drop (R := fun x => x = replX n p f t l) ?_
  refine enter Try.func39 L39_ok (Nat.le_of_ble_eq_true rfl) ?_
  have c1 := fun H => getR n p hs (by omega) H
  cases hg : getL n p with
  | none =>
    rw [hg] at c1
    simp only [getA] at c1
    have hX : replX n p f t l = .tup [.agg zCs, int 7] := by unfold replX replE; rw [hg]; rfl
    rw [hX]
    repeat' (first | (refine And.intro (by omega) ?_) | (refine callF_pure (c1 _) ?_) | (refine callQF_pure (c1 _) (by first | rfl | simp -implicitDefEqProofs (disch := omega) only [L39, cells_agg, nd_c1s, nd_len, nd_take, nd_cellsV, nd_clL, nd_drop5, List.append_nil, splice, dT_lt, dF_lt, dT_le, dF_le, dT_eq, dF_eq, push_cast, ↓reduceIte, Nat.reduceEqDiff, reduceCtorEq, Nat.reduceAdd, Nat.reduceSub, Nat.reduceMul, Nat.reduceLeDiff, Nat.reduceLT, Nat.reduceMod, Nat.reduceDiv, Int.reduceToNat, Int.reduceLT, Int.reduceLE, Int.reduceEq, Int.reduceAdd, Int.reduceSub, Int.reduceNeg, Int.reduceMul, Bool.and_self]) ?_) | simp -implicitDefEqProofs (disch := omega) only [L39, cells_agg, nd_c1s, nd_len, nd_take, nd_cellsV, nd_clL, nd_drop5, List.append_nil, splice, dT_lt, dF_lt, dT_le, dF_le, dT_eq, dF_eq, push_cast, ↓reduceIte, Nat.reduceEqDiff, reduceCtorEq, Nat.reduceAdd, Nat.reduceSub, Nat.reduceMul, Nat.reduceLeDiff, Nat.reduceLT, Nat.reduceMod, Nat.reduceDiv, Int.reduceToNat, Int.reduceLT, Int.reduceLE, Int.reduceEq, Int.reduceAdd, Int.reduceSub, Int.reduceNeg, Int.reduceMul, Bool.and_self] | split)
    exact ⟨_, rfl⟩
  | some x =>
    rw [hg] at c1
    have hsx := getL_sml hs hg
    have hlx := sml_len hsx
    simp only [getA] at c1
    by_cases h1 : f < 0
    · have hX := replX_no (f := f) (t := t) (l := l) (c := 2) (by rw [replE_eq hg]; simp only [h1, true_or, ↓reduceIte]) (by decide)
      rw [hX]
      repeat' (first | (refine And.intro (by omega) ?_) | (refine callF_pure (c1 _) ?_) | (refine callQF_pure (c1 _) (by first | rfl | simp -implicitDefEqProofs (disch := omega) only [L39, cells_agg, nd_c1s, nd_len, nd_take, nd_cellsV, nd_clL, nd_drop5, nd_drop4, List.append_nil, splice, dT_lt, dF_lt, dT_le, dF_le, dT_eq, dF_eq, push_cast, ↓reduceIte, Nat.reduceEqDiff, reduceCtorEq, Nat.reduceAdd, Nat.reduceSub, Nat.reduceMul, Nat.reduceLeDiff, Nat.reduceLT, Nat.reduceMod, Nat.reduceDiv, Int.reduceToNat, Int.reduceLT, Int.reduceLE, Int.reduceEq, Int.reduceAdd, Int.reduceSub, Int.reduceNeg, Int.reduceMul, Bool.and_self]) ?_) | simp -implicitDefEqProofs (disch := omega) only [L39, cells_agg, nd_c1s, nd_len, nd_take, nd_cellsV, nd_clL, nd_drop5, nd_drop4, List.append_nil, splice, dT_lt, dF_lt, dT_le, dF_le, dT_eq, dF_eq, push_cast, ↓reduceIte, Nat.reduceEqDiff, reduceCtorEq, Nat.reduceAdd, Nat.reduceSub, Nat.reduceMul, Nat.reduceLeDiff, Nat.reduceLT, Nat.reduceMod, Nat.reduceDiv, Int.reduceToNat, Int.reduceLT, Int.reduceLE, Int.reduceEq, Int.reduceAdd, Int.reduceSub, Int.reduceNeg, Int.reduceMul, Bool.and_self] | split)
      exact ⟨_, rfl⟩
    · by_cases h2 : t < f
      · have hX := replX_no (f := f) (t := t) (l := l) (c := 2) (by rw [replE_eq hg]; simp only [h1, h2, true_or, or_true, ↓reduceIte]) (by decide)
        rw [hX]
        repeat' (first | (refine And.intro (by omega) ?_) | (refine callF_pure (c1 _) ?_) | (refine callQF_pure (c1 _) (by first | rfl | simp -implicitDefEqProofs (disch := omega) only [L39, cells_agg, nd_c1s, nd_len, nd_take, nd_cellsV, nd_clL, nd_drop5, nd_drop4, List.append_nil, splice, dT_lt, dF_lt, dT_le, dF_le, dT_eq, dF_eq, push_cast, ↓reduceIte, Nat.reduceEqDiff, reduceCtorEq, Nat.reduceAdd, Nat.reduceSub, Nat.reduceMul, Nat.reduceLeDiff, Nat.reduceLT, Nat.reduceMod, Nat.reduceDiv, Int.reduceToNat, Int.reduceLT, Int.reduceLE, Int.reduceEq, Int.reduceAdd, Int.reduceSub, Int.reduceNeg, Int.reduceMul, Bool.and_self]) ?_) | simp -implicitDefEqProofs (disch := omega) only [L39, cells_agg, nd_c1s, nd_len, nd_take, nd_cellsV, nd_clL, nd_drop5, nd_drop4, List.append_nil, splice, dT_lt, dF_lt, dT_le, dF_le, dT_eq, dF_eq, push_cast, ↓reduceIte, Nat.reduceEqDiff, reduceCtorEq, Nat.reduceAdd, Nat.reduceSub, Nat.reduceMul, Nat.reduceLeDiff, Nat.reduceLT, Nat.reduceMod, Nat.reduceDiv, Int.reduceToNat, Int.reduceLT, Int.reduceLE, Int.reduceEq, Int.reduceAdd, Int.reduceSub, Int.reduceNeg, Int.reduceMul, Bool.and_self] | split)
        exact ⟨_, rfl⟩
      · by_cases h3 : (x.kids.length : Int) < t
        · have hX := replX_no (f := f) (t := t) (l := l) (c := 2) (by rw [replE_eq hg]; simp only [h1, h2, h3, true_or, or_true, ↓reduceIte]) (by decide)
          rw [hX]
          repeat' (first | (refine And.intro (by omega) ?_) | (refine callF_pure (c1 _) ?_) | (refine callQF_pure (c1 _) (by first | rfl | simp -implicitDefEqProofs (disch := omega) only [L39, cells_agg, nd_c1s, nd_len, nd_take, nd_cellsV, nd_clL, nd_drop5, nd_drop4, List.append_nil, splice, dT_lt, dF_lt, dT_le, dF_le, dT_eq, dF_eq, push_cast, ↓reduceIte, Nat.reduceEqDiff, reduceCtorEq, Nat.reduceAdd, Nat.reduceSub, Nat.reduceMul, Nat.reduceLeDiff, Nat.reduceLT, Nat.reduceMod, Nat.reduceDiv, Int.reduceToNat, Int.reduceLT, Int.reduceLE, Int.reduceEq, Int.reduceAdd, Int.reduceSub, Int.reduceNeg, Int.reduceMul, Bool.and_self]) ?_) | simp -implicitDefEqProofs (disch := omega) only [L39, cells_agg, nd_c1s, nd_len, nd_take, nd_cellsV, nd_clL, nd_drop5, nd_drop4, List.append_nil, splice, dT_lt, dF_lt, dT_le, dF_le, dT_eq, dF_eq, push_cast, ↓reduceIte, Nat.reduceEqDiff, reduceCtorEq, Nat.reduceAdd, Nat.reduceSub, Nat.reduceMul, Nat.reduceLeDiff, Nat.reduceLT, Nat.reduceMod, Nat.reduceDiv, Int.reduceToNat, Int.reduceLT, Int.reduceLE, Int.reduceEq, Int.reduceAdd, Int.reduceSub, Int.reduceNeg, Int.reduceMul, Bool.and_self] | split)
          exact ⟨_, rfl⟩
        · obtain ⟨f, rfl⟩ : ∃ f' : Nat, f = f' := ⟨f.toNat, by omega⟩
          obtain ⟨t, rfl⟩ : ∃ t' : Nat, t = t' := ⟨t.toNat, by omega⟩
          have c2 := fun H => changeR p n x f t l hs hp hg (by omega) (by omega) hl H
          have c3 := fun H => ListR x.kind H
          cases hk : listF x.kind
          · rw [hk] at c3
            by_cases h4 : (l.length : Int) = (t : Int) - f
            · have hX := replX_yes (f := f) (t := t) (l := l) (by rw [replE_eq hg]; simp only [h1, h2, h3, h4, hk, true_and, or_self, ↓reduceIte, ne_eq, not_true_eq_false, and_false])
              rw [Int.toNat_natCast, Int.toNat_natCast] at hX
              rw [hX]
              repeat' (first | (refine And.intro (by omega) ?_) | (refine callF_pure (c1 _) ?_) | (refine callF_pure (c2 _) ?_) | (refine callF_pure (c3 _) ?_) | (refine callQF_pure (c1 _) (by first | rfl | simp -implicitDefEqProofs (disch := omega) only [L39, cells_agg, nd_c1s, nd_len, nd_take, nd_cellsV, nd_clL, nd_drop5, nd_drop4, List.append_nil, splice, dT_lt, dF_lt, dT_le, dF_le, dT_eq, dF_eq, push_cast, ↓reduceIte, Nat.reduceEqDiff, reduceCtorEq, Nat.reduceAdd, Nat.reduceSub, Nat.reduceMul, Nat.reduceLeDiff, Nat.reduceLT, Nat.reduceMod, Nat.reduceDiv, Int.reduceToNat, Int.reduceLT, Int.reduceLE, Int.reduceEq, Int.reduceAdd, Int.reduceSub, Int.reduceNeg, Int.reduceMul, Bool.and_self]) ?_) | (refine callQF_pure (c2 _) (by first | rfl | simp -implicitDefEqProofs (disch := omega) only [L39, cells_agg, nd_c1s, nd_len, nd_take, nd_cellsV, nd_clL, nd_drop5, nd_drop4, List.append_nil, splice, dT_lt, dF_lt, dT_le, dF_le, dT_eq, dF_eq, push_cast, ↓reduceIte, Nat.reduceEqDiff, reduceCtorEq, Nat.reduceAdd, Nat.reduceSub, Nat.reduceMul, Nat.reduceLeDiff, Nat.reduceLT, Nat.reduceMod, Nat.reduceDiv, Int.reduceToNat, Int.reduceLT, Int.reduceLE, Int.reduceEq, Int.reduceAdd, Int.reduceSub, Int.reduceNeg, Int.reduceMul, Bool.and_self]) ?_) | (refine callQF_pure (c3 _) (by first | rfl | simp -implicitDefEqProofs (disch := omega) only [L39, cells_agg, nd_c1s, nd_len, nd_take, nd_cellsV, nd_clL, nd_drop5, nd_drop4, List.append_nil, splice, dT_lt, dF_lt, dT_le, dF_le, dT_eq, dF_eq, push_cast, ↓reduceIte, Nat.reduceEqDiff, reduceCtorEq, Nat.reduceAdd, Nat.reduceSub, Nat.reduceMul, Nat.reduceLeDiff, Nat.reduceLT, Nat.reduceMod, Nat.reduceDiv, Int.reduceToNat, Int.reduceLT, Int.reduceLE, Int.reduceEq, Int.reduceAdd, Int.reduceSub, Int.reduceNeg, Int.reduceMul, Bool.and_self]) ?_) | simp -implicitDefEqProofs (disch := omega) only [L39, cells_agg, nd_c1s, nd_len, nd_take, nd_cellsV, nd_clL, nd_drop5, nd_drop4, List.append_nil, splice, dT_lt, dF_lt, dT_le, dF_le, dT_eq, dF_eq, push_cast, ↓reduceIte, Nat.reduceEqDiff, reduceCtorEq, Nat.reduceAdd, Nat.reduceSub, Nat.reduceMul, Nat.reduceLeDiff, Nat.reduceLT, Nat.reduceMod, Nat.reduceDiv, Int.reduceToNat, Int.reduceLT, Int.reduceLE, Int.reduceEq, Int.reduceAdd, Int.reduceSub, Int.reduceNeg, Int.reduceMul, Bool.and_self] | split)
              exact ⟨_, rfl⟩
            · have hX := replX_no (f := f) (t := t) (l := l) (c := 1) (by rw [replE_eq hg]; simp only [h1, h2, h3, h4, hk, true_and, or_self, ↓reduceIte, ne_eq, not_false_eq_true, and_self]) (by decide)
              rw [hX]
              repeat' (first | (refine And.intro (by omega) ?_) | (refine callF_pure (c1 _) ?_) | (refine callF_pure (c2 _) ?_) | (refine callF_pure (c3 _) ?_) | (refine callQF_pure (c1 _) (by first | rfl | simp -implicitDefEqProofs (disch := omega) only [L39, cells_agg, nd_c1s, nd_len, nd_take, nd_cellsV, nd_clL, nd_drop5, nd_drop4, List.append_nil, splice, dT_lt, dF_lt, dT_le, dF_le, dT_eq, dF_eq, push_cast, ↓reduceIte, Nat.reduceEqDiff, reduceCtorEq, Nat.reduceAdd, Nat.reduceSub, Nat.reduceMul, Nat.reduceLeDiff, Nat.reduceLT, Nat.reduceMod, Nat.reduceDiv, Int.reduceToNat, Int.reduceLT, Int.reduceLE, Int.reduceEq, Int.reduceAdd, Int.reduceSub, Int.reduceNeg, Int.reduceMul, Bool.and_self]) ?_) | (refine callQF_pure (c2 _) (by first | rfl | simp -implicitDefEqProofs (disch := omega) only [L39, cells_agg, nd_c1s, nd_len, nd_take, nd_cellsV, nd_clL, nd_drop5, nd_drop4, List.append_nil, splice, dT_lt, dF_lt, dT_le, dF_le, dT_eq, dF_eq, push_cast, ↓reduceIte, Nat.reduceEqDiff, reduceCtorEq, Nat.reduceAdd, Nat.reduceSub, Nat.reduceMul, Nat.reduceLeDiff, Nat.reduceLT, Nat.reduceMod, Nat.reduceDiv, Int.reduceToNat, Int.reduceLT, Int.reduceLE, Int.reduceEq, Int.reduceAdd, Int.reduceSub, Int.reduceNeg, Int.reduceMul, Bool.and_self]) ?_) | (refine callQF_pure (c3 _) (by first | rfl | simp -implicitDefEqProofs (disch := omega) only [L39, cells_agg, nd_c1s, nd_len, nd_take, nd_cellsV, nd_clL, nd_drop5, nd_drop4, List.append_nil, splice, dT_lt, dF_lt, dT_le, dF_le, dT_eq, dF_eq, push_cast, ↓reduceIte, Nat.reduceEqDiff, reduceCtorEq, Nat.reduceAdd, Nat.reduceSub, Nat.reduceMul, Nat.reduceLeDiff, Nat.reduceLT, Nat.reduceMod, Nat.reduceDiv, Int.reduceToNat, Int.reduceLT, Int.reduceLE, Int.reduceEq, Int.reduceAdd, Int.reduceSub, Int.reduceNeg, Int.reduceMul, Bool.and_self]) ?_) | simp -implicitDefEqProofs (disch := omega) only [L39, cells_agg, nd_c1s, nd_len, nd_take, nd_cellsV, nd_clL, nd_drop5, nd_drop4, List.append_nil, splice, dT_lt, dF_lt, dT_le, dF_le, dT_eq, dF_eq, push_cast, ↓reduceIte, Nat.reduceEqDiff, reduceCtorEq, Nat.reduceAdd, Nat.reduceSub, Nat.reduceMul, Nat.reduceLeDiff, Nat.reduceLT, Nat.reduceMod, Nat.reduceDiv, Int.reduceToNat, Int.reduceLT, Int.reduceLE, Int.reduceEq, Int.reduceAdd, Int.reduceSub, Int.reduceNeg, Int.reduceMul, Bool.and_self] | split)
              exact ⟨_, rfl⟩
          · rw [hk] at c3
            have hX := replX_yes (f := f) (t := t) (l := l) (by rw [replE_eq hg]; simp only [h1, h2, h3, hk, or_self, ↓reduceIte, Bool.true_eq_false, false_and])
            rw [Int.toNat_natCast, Int.toNat_natCast] at hX
            rw [hX]
            repeat' (first | (refine And.intro (by omega) ?_) | (refine callF_pure (c1 _) ?_) | (refine callF_pure (c2 _) ?_) | (refine callF_pure (c3 _) ?_) | (refine callQF_pure (c1 _) (by first | rfl | simp -implicitDefEqProofs (disch := omega) only [L39, cells_agg, nd_c1s, nd_len, nd_take, nd_cellsV, nd_clL, nd_drop5, nd_drop4, List.append_nil, splice, dT_lt, dF_lt, dT_le, dF_le, dT_eq, dF_eq, push_cast, ↓reduceIte, Nat.reduceEqDiff, reduceCtorEq, Nat.reduceAdd, Nat.reduceSub, Nat.reduceMul, Nat.reduceLeDiff, Nat.reduceLT, Nat.reduceMod, Nat.reduceDiv, Int.reduceToNat, Int.reduceLT, Int.reduceLE, Int.reduceEq, Int.reduceAdd, Int.reduceSub, Int.reduceNeg, Int.reduceMul, Bool.and_self]) ?_) | (refine callQF_pure (c2 _) (by first | rfl | simp -implicitDefEqProofs (disch := omega) only [L39, cells_agg, nd_c1s, nd_len, nd_take, nd_cellsV, nd_clL, nd_drop5, nd_drop4, List.append_nil, splice, dT_lt, dF_lt, dT_le, dF_le, dT_eq, dF_eq, push_cast, ↓reduceIte, Nat.reduceEqDiff, reduceCtorEq, Nat.reduceAdd, Nat.reduceSub, Nat.reduceMul, Nat.reduceLeDiff, Nat.reduceLT, Nat.reduceMod, Nat.reduceDiv, Int.reduceToNat, Int.reduceLT, Int.reduceLE, Int.reduceEq, Int.reduceAdd, Int.reduceSub, Int.reduceNeg, Int.reduceMul, Bool.and_self]) ?_) | (refine callQF_pure (c3 _) (by first | rfl | simp -implicitDefEqProofs (disch := omega) only [L39, cells_agg, nd_c1s, nd_len, nd_take, nd_cellsV, nd_clL, nd_drop5, nd_drop4, List.append_nil, splice, dT_lt, dF_lt, dT_le, dF_le, dT_eq, dF_eq, push_cast, ↓reduceIte, Nat.reduceEqDiff, reduceCtorEq, Nat.reduceAdd, Nat.reduceSub, Nat.reduceMul, Nat.reduceLeDiff, Nat.reduceLT, Nat.reduceMod, Nat.reduceDiv, Int.reduceToNat, Int.reduceLT, Int.reduceLE, Int.reduceEq, Int.reduceAdd, Int.reduceSub, Int.reduceNeg, Int.reduceMul, Bool.and_self]) ?_) | simp -implicitDefEqProofs (disch := omega) only [L39, cells_agg, nd_c1s, nd_len, nd_take, nd_cellsV, nd_clL, nd_drop5, nd_drop4, List.append_nil, splice, dT_lt, dF_lt, dT_le, dF_le, dT_eq, dF_eq, push_cast, ↓reduceIte, Nat.reduceEqDiff, reduceCtorEq, Nat.reduceAdd, Nat.reduceSub, Nat.reduceMul, Nat.reduceLeDiff, Nat.reduceLT, Nat.reduceMod, Nat.reduceDiv, Int.reduceToNat, Int.reduceLT, Int.reduceLE, Int.reduceEq, Int.reduceAdd, Int.reduceSub, Int.reduceNeg, Int.reduceMul, Bool.and_self] | split)
            exact ⟨_, rfl⟩
#print axioms ReplaceR

/-! ### How large -/
theorem bulkRR_app : ∀ a b : List (List AV), bulkRR (a ++ b) = bulkRR a + bulkRR b
  | [], b => by simp [bulkRR]
  | x :: a, b => by simp only [List.cons_append, bulkRR, bulkRR_app a b]; omega
theorem bulk_take (l : List Nd) (i : Nat) : bulkRR ((l.take i).map ndR) + bulkRR ((l.drop i).map ndR) = bulkRR (l.map ndR) := by
  rw [← bulkRR_app, ← List.map_append, List.take_append_drop]
theorem bulk_drop_le (l : List Nd) {i j : Nat} (h : i ≤ j) : bulkRR ((l.drop j).map ndR) ≤ bulkRR ((l.drop i).map ndR) := by
  have h1 := bulk_take (l.drop i) (j - i)
  rw [List.drop_drop, show i + (j - i) = j by omega] at h1
  omega
theorem bulk_at {l : List Nd} {i : Nat} (h : i < l.length) : bulkRR (l.map ndR) = bulkRR ((l.take i).map ndR) + (bulkR (ndR (l.getD i default)) + bulkRR ((l.drop (i + 1)).map ndR)) := by
  rw [← bulk_take l i, drop_cons h]; rfl
theorem set_eq {l : List Nd} {i : Nat} (h : i < l.length) (m : Nd) : l.set i m = l.take i ++ m :: l.drop (i + 1) := List.set_eq_take_append_cons_drop ▸ if_pos h
theorem replF_bulk : ∀ (p : List Int) (n x : Nd) (f t : Nat) (l : List Nd), getL n p = some x → f ≤ t → bulkR (ndR (replF n p f t l)) ≤ bulkR (ndR n) + bulkRR (l.map ndR)
  | [], n, x, f, t, l, _, hft => by
    rw [replF_nil]
    have h1 := bulk_nd n
    have h2 := bulk_take n.kids f
    have h3 := bulk_drop_le n.kids hft
    simp only [bulkR, bulk_int, bulk_str, bulk_sl, List.map_append, bulkRR_app]
    omega
  | i :: p, n, x, f, t, l, hg, hft => by
    simp only [getL] at hg
    split at hg
    · rename_i hok
      have hi : i.toNat < n.kids.length := by omega
      have ih := replF_bulk p _ x f t l hg hft
      rw [replF_cons, set_eq hi]
      have h1 := bulk_nd n
      have h2 := bulk_at hi
      simp only [bulkR, bulk_int, bulk_str, bulk_sl, List.map_append, List.map_cons, bulkRR_app, bulkRR]
      omega
    · cases hg
mutual
theorem small_bulk0 : ∀ n : Nd, (∀ x ∈ nds n, x.text.length ≤ 60) → bulkR (ndR n) ≤ 65 * cnt n
  | .mk k tx a e ks, h => by
    have h1 := h (.mk k tx a e ks) (by simp [nds])
    have h2 := small_bulks ks fun x hx => h x (by simp [nds, hx])
    rw [bulk_nd]
    simp only [cnt, Nd.text, Nd.kids] at h1 h2 ⊢
    omega
theorem small_bulks : ∀ l : List Nd, (∀ x ∈ ndss l, x.text.length ≤ 60) → bulkRR (l.map ndR) ≤ 65 * cnts l
  | [], _ => by simp [bulkRR]
  | x :: l, h => by
    have h1 := small_bulk0 x fun y hy => h y (by simp [ndss, hy])
    have h2 := small_bulks l fun y hy => h y (by simp [ndss, hy])
    simp only [List.map_cons, bulkRR, cnts]
    omega
end
theorem small_bulk {n : Nd} {m : Int} (h : smallF n m = true) : bulkR (ndR n) ≤ 65 * cnt n := by
  unfold smallF at h
  simp only [Bool.and_eq_true, List.all_eq_true, decide_eq_true_eq] at h
  exact small_bulk0 n h.1
theorem smalls_bulk : ∀ {l : List Nd}, (∀ i, i < l.length → smallF (l.getD i default) 30 = true) → bulkRR (l.map ndR) ≤ 1950 * l.length ∧ cnts l ≤ 30 * l.length
  | [], _ => by simp [bulkRR, cnts]
  | x :: l, h => by
    have h1 := h 0 (by simp)
    have h2 := small_bulk h1
    have h3 := small_cnt h1
    obtain ⟨h4, h5⟩ := smalls_bulk (l := l) fun i hi => by simpa using h (i + 1) (by simpa using hi)
    simp only [List.getD_cons_zero] at h2 h3
    simp only [List.map_cons, bulkRR, cnts, List.length_cons]
    omega
theorem replE_some {n : Nd} {p : List Int} {f t : Int} {l : List Nd} (h : replE n p f t l = 0) : ∃ x, getL n p = some x ∧ 0 ≤ f ∧ f ≤ t ∧ t ≤ x.kids.length ∧ (listF x.kind = false → (l.length : Int) = t - f) := by
  unfold replE at h
  cases hg : getL n p with
  | none => rw [hg] at h; cases h
  | some x =>
    rw [hg] at h
    simp only at h
    split at h
    · cases h
    · split at h
      · cases h
      · rename_i h1 h2
        refine ⟨x, rfl, by omega, by omega, by omega, fun hk => ?_⟩
        apply Classical.byContradiction
        intro hh
        exact h2 ⟨hk, hh⟩
theorem replN_sml {n : Nd} {p : List Int} {f t : Int} {l : List Nd} (h : bulkR (ndR n) + bulkRR (l.map ndR) ≤ 1048576) : Sml (replN n p f t l) := by
  unfold replN
  split
  · rename_i he
    obtain ⟨x, h1, h2, h3, _⟩ := replE_some he
    have := replF_bulk p n x f.toNat t.toNat l h1 (by omega)
    unfold Sml
    omega
  · decide +kernel

/-! ### And back -/
theorem replF_get : ∀ (p : List Int) (n x : Nd) (f t : Nat) (l : List Nd), getL n p = some x → ∃ y, getL (replF n p f t l) p = some y ∧ y.kind = x.kind ∧ y.kids = x.kids.take f ++ l ++ x.kids.drop t
  | [], .mk k tx a e ks, x, f, t, l, hg => by cases hg; exact ⟨_, rfl, rfl, rfl⟩
  | i :: p, .mk k tx a e ks, x, f, t, l, hg => by
    have hg : (if 0 ≤ i ∧ i < ks.length then getL (ks.getD i.toNat default) p else none) = some x := hg
    by_cases hok : 0 ≤ i ∧ i < ks.length
    · rw [if_pos hok] at hg
      obtain ⟨y, h1, h2, h3⟩ := replF_get p _ x f t l hg
      refine ⟨y, ?_, h2, h3⟩
      simp only [replF, getL, Nd.kids, List.length_set]
      rw [if_pos hok]
      have hi : i.toNat < ks.length := by omega
      rw [List.getD_eq_getElem?_getD, List.getElem?_set_self (by simpa using hi)]
      exact h1
    · rw [if_neg hok] at hg; cases hg
theorem replF_back : ∀ (p : List Int) (n x : Nd) (f t : Nat) (l : List Nd), getL n p = some x → f ≤ t → t ≤ x.kids.length → replF (replF n p f t l) p f (f + l.length) ((x.kids.drop f).take (t - f)) = n
  | [], .mk k tx a e ks, x, f, t, l, hg, hft, ht => by
    cases hg
    simp only [Nd.kids] at ht
    simp only [replF, Nd.kids]
    have h1 : (ks.take f).length = f := by rw [List.length_take]; omega
    have h2 : (ks.take f ++ l ++ ks.drop t).take f = ks.take f := by rw [List.append_assoc, List.take_append_of_le_length (by omega), List.take_of_length_le (by omega)]
    have h3 : (ks.take f ++ l ++ ks.drop t).drop (f + l.length) = ks.drop t := by rw [List.drop_left' (by simp [h1])]
    have h4 : (ks.drop f).take (t - f) ++ ks.drop t = ks.drop f := by
      have := List.take_append_drop (t - f) (ks.drop f)
      rwa [List.drop_drop, show f + (t - f) = t by omega] at this
    rw [h2, h3, List.append_assoc, h4, List.take_append_drop]
  | i :: p, .mk k tx a e ks, x, f, t, l, hg, hft, ht => by
    have hg : (if 0 ≤ i ∧ i < ks.length then getL (ks.getD i.toNat default) p else none) = some x := hg
    by_cases hok : 0 ≤ i ∧ i < ks.length
    · rw [if_pos hok] at hg
      have ih := replF_back p _ x f t l hg hft ht
      have hi : i.toNat < ks.length := by omega
      simp only [replF]
      rw [List.getD_eq_getElem?_getD (l := ks.set _ _), List.getElem?_set_self (by simpa using hi), Option.getD_some, ih, List.set_set]
      congr 1
      rw [set_eq hi]
      have := List.take_append_drop i.toNat ks
      rw [drop_cons hi] at this
      exact this
    · rw [if_neg hok] at hg; cases hg
theorem cnts_take (l : List Nd) (i : Nat) : cnts (l.take i) + cnts (l.drop i) = cnts l := by rw [← cnts_append, List.take_append_drop]
theorem replF_cnt : ∀ (p : List Int) (n x : Nd) (f t : Nat) (l : List Nd), getL n p = some x → f ≤ t → t ≤ x.kids.length → cnt (replF n p f t l) + cnts ((x.kids.drop f).take (t - f)) = cnt n + cnts l
  | [], .mk k tx a e ks, x, f, t, l, hg, hft, ht => by
    cases hg
    simp only [replF, cnt, cnts_append, Nd.kids]
    have h1 := cnts_take ks f
    have h2 := cnts_take (ks.drop f) (t - f)
    rw [List.drop_drop, show f + (t - f) = t by omega] at h2
    omega
  | i :: p, .mk k tx a e ks, x, f, t, l, hg, hft, ht => by
    have hg : (if 0 ≤ i ∧ i < ks.length then getL (ks.getD i.toNat default) p else none) = some x := hg
    by_cases hok : 0 ≤ i ∧ i < ks.length
    · rw [if_pos hok] at hg
      have ih := replF_cnt p _ x f t l hg hft ht
      have hi : i.toNat < ks.length := by omega
      simp only [replF, cnt]
      rw [set_eq hi, cnts_append]
      have h1 := cnts_take ks i.toNat
      rw [drop_cons hi] at h1
      simp only [cnts] at h1 ⊢
      omega
    · rw [if_neg hok] at hg; cases hg
end Go.Proofs.Ytnbdogodcjhfiaa

/- Trees: the laws TreeEdits, TreeRestores. -/
namespace Go.Proofs.Ytnbdogodcjhfiaa
open Go Go.Ax
set_option maxRecDepth 100000
set_option linter.unusedSimpArgs false
set_option linter.unusedVariables false

theorem mem_upto {α : Type} [Inhabited α] {l : List α} {p : α → Prop} (h : ∀ i, i < l.length → p (l.getD i default)) : ∀ t ∈ l, p t := by
  intro t ht
  obtain ⟨i, hi, rfl⟩ := List.mem_iff_getElem.1 ht
  have := h i hi
  simpa [List.getD_eq_getElem?_getD, hi] using this
theorem sml_row {l : List Nd} (h : bulkRR (l.map ndR) ≤ 1048576) : ∀ k ∈ l, Sml k := fun k hk => by
  have := bulkRR_mem (List.mem_map_of_mem (f := ndR) hk)
  unfold Sml; omega

theorem treeEdits (n m : Nd) (p : List Int) (f t : Int) (l : List Nd) (hn : Sml n) (hm : Sml m) (hp : p.length ≤ 1048576) (hll : l.length ≤ 1048576) (hl : bulkRR (l.map ndR) ≤ 1048576) (H : AHeap) :
    Comp' 8 [.agg (ndR n), .agg (ndR m), .sl 1 (p.map iR), int f, int t, .sl 5 (l.map ndR)] H (bool true) := by
  refine ACall.drop (R := fun x => x = bool true) ?_
  refine enter Try.func8 L8_ok (Nat.le_of_ble_eq_true rfl) ?_
  by_cases hf : smallF n 100 = true
  · by_cases hf2 : smallF m 100 = true
    · by_cases hp20 : p.length ≤ 20
      · by_cases hl10 : l.length ≤ 10
        · have hrow := sml_row hl
          repeat' (first | (refine And.intro (by omega) ?_) | (refine callF_pure (smallR n 100 hn _) ?_) | (refine callF_pure (smallR m 100 hm _) ?_) | (refine callQF_pure (smallR n 100 hn _) (by first | rfl | simp -implicitDefEqProofs (disch := omega) only [L8, cells_agg, nd_c1s, nd_len, nd_take, nd_cellsV, nd_clL, hf, hf2, dT_lt, dF_lt, dT_le, dF_le, dT_eq, dF_eq, push_cast, ↓reduceIte, Nat.reduceEqDiff, reduceCtorEq, Nat.reduceAdd, Nat.reduceSub, Nat.reduceMul, Nat.reduceLeDiff, Nat.reduceLT, Nat.reduceMod, Nat.reduceDiv, Int.reduceToNat, Int.reduceLT, Int.reduceLE, Int.reduceEq, Int.reduceAdd, Int.reduceSub, Int.reduceNeg, Int.reduceMul, Bool.and_self]) ?_) | (refine callQF_pure (smallR m 100 hm _) (by first | rfl | simp -implicitDefEqProofs (disch := omega) only [L8, cells_agg, nd_c1s, nd_len, nd_take, nd_cellsV, nd_clL, hf, hf2, dT_lt, dF_lt, dT_le, dF_le, dT_eq, dF_eq, push_cast, ↓reduceIte, Nat.reduceEqDiff, reduceCtorEq, Nat.reduceAdd, Nat.reduceSub, Nat.reduceMul, Nat.reduceLeDiff, Nat.reduceLT, Nat.reduceMod, Nat.reduceDiv, Int.reduceToNat, Int.reduceLT, Int.reduceLE, Int.reduceEq, Int.reduceAdd, Int.reduceSub, Int.reduceNeg, Int.reduceMul, Bool.and_self]) ?_) | simp -implicitDefEqProofs (disch := omega) only [L8, cells_agg, nd_c1s, nd_len, nd_take, nd_cellsV, nd_clL, hf, hf2, dT_lt, dF_lt, dT_le, dF_le, dT_eq, dF_eq, push_cast, ↓reduceIte, Nat.reduceEqDiff, reduceCtorEq, Nat.reduceAdd, Nat.reduceSub, Nat.reduceMul, Nat.reduceLeDiff, Nat.reduceLT, Nat.reduceMod, Nat.reduceDiv, Int.reduceToNat, Int.reduceLT, Int.reduceLE, Int.reduceEq, Int.reduceAdd, Int.reduceSub, Int.reduceNeg, Int.reduceMul, Bool.and_self] | split)
          refine rk_loopS (fun (st : Nat × AHeap) e' H' => e' 2 = .sl 1 (p.map iR) ∧ e' 3 = int f ∧ e' 4 = int t ∧ e' 5 = .sl 5 (l.map ndR) ∧ e' 6 = .ptr H.length 0 0 ∧ e' 7 = .ptr (H.length + 1) 0 0 ∧ e' 38 = .sl 5 (l.map ndR) ∧ e' 39 = int l.length ∧ e' 40 = int st.1 ∧ H' = H ++ (.box (ndR n) :: .box (ndR m) :: st.2) ∧ st.1 ≤ l.length ∧ ∀ i, i < st.1 → smallF (l.getD i default) 30 = true) (fun st => l.length - st.1) (0, []) ?_ ?_
          · exact ⟨rfl, rfl, rfl, rfl, rfl, rfl, rfl, rfl, rfl, rfl, Nat.zero_le _, by simp⟩
          rintro ⟨j, ext⟩ e' H' ⟨h2, h3, h4, h5, h6, h7, h38, h39, h40, rfl, hj, hsm⟩
          simp only at h40 hj hsm
          have hgg : ∀ (a b x : HO), (H ++ a :: b :: (ext ++ [x]))[H.length + (ext.length + 1 + 1)]? = some x := fun a b x => by rw [get_add]; simp
          have hss : ∀ (a b x y : HO), (H ++ a :: b :: (ext ++ [x])).set (H.length + (ext.length + 1 + 1)) y = H ++ a :: b :: (ext ++ [y]) := fun a b x y => by rw [set_add]; simp
          by_cases hlt : j < l.length
          · have hsk := hrow _ (getD_mem' hlt)
            cases hfk : smallF (l.getD j default) 30
            · repeat' (first | (refine And.intro (by omega) ?_) | (refine callF_pure (smallR _ 30 hsk _) ?_) | (refine callF_pure (awakeC _) ?_) | (refine callQF_pure (smallR _ 30 hsk _) (by first | rfl | simp -implicitDefEqProofs (disch := omega) only [h2, h3, h4, h5, h6, h7, h38, h39, h40, rows_getD, cells_agg, nd_c1s, nd_len, nd_take, nd_cellsV, nd_clL, nd_drop5, List.append_nil, splice, hgg, hss, hfk, dT_lt, dF_lt, dT_le, dF_le, dT_eq, dF_eq, push_cast, ↓reduceIte, Nat.reduceEqDiff, reduceCtorEq, Nat.reduceAdd, Nat.reduceSub, Nat.reduceMul, Nat.reduceLeDiff, Nat.reduceLT, Nat.reduceMod, Nat.reduceDiv, Int.reduceToNat, Int.reduceLT, Int.reduceLE, Int.reduceEq, Int.reduceAdd, Int.reduceSub, Int.reduceNeg, Int.reduceMul, Bool.and_self]) ?_) | (refine callQF_pure (awakeC _) (by first | rfl | simp -implicitDefEqProofs (disch := omega) only [h2, h3, h4, h5, h6, h7, h38, h39, h40, rows_getD, cells_agg, nd_c1s, nd_len, nd_take, nd_cellsV, nd_clL, nd_drop5, List.append_nil, splice, hgg, hss, hfk, dT_lt, dF_lt, dT_le, dF_le, dT_eq, dF_eq, push_cast, ↓reduceIte, Nat.reduceEqDiff, reduceCtorEq, Nat.reduceAdd, Nat.reduceSub, Nat.reduceMul, Nat.reduceLeDiff, Nat.reduceLT, Nat.reduceMod, Nat.reduceDiv, Int.reduceToNat, Int.reduceLT, Int.reduceLE, Int.reduceEq, Int.reduceAdd, Int.reduceSub, Int.reduceNeg, Int.reduceMul, Bool.and_self]) ?_) | simp -implicitDefEqProofs (disch := omega) only [h2, h3, h4, h5, h6, h7, h38, h39, h40, rows_getD, cells_agg, nd_c1s, nd_len, nd_take, nd_cellsV, nd_clL, nd_drop5, List.append_nil, splice, hgg, hss, hfk, dT_lt, dF_lt, dT_le, dF_le, dT_eq, dF_eq, push_cast, ↓reduceIte, Nat.reduceEqDiff, reduceCtorEq, Nat.reduceAdd, Nat.reduceSub, Nat.reduceMul, Nat.reduceLeDiff, Nat.reduceLT, Nat.reduceMod, Nat.reduceDiv, Int.reduceToNat, Int.reduceLT, Int.reduceLE, Int.reduceEq, Int.reduceAdd, Int.reduceSub, Int.reduceNeg, Int.reduceMul, Bool.and_self] | split)
              exact ⟨_, rfl⟩
            · repeat' (first | (refine And.intro (by omega) ?_) | (refine callF_pure (smallR _ 30 hsk _) ?_) | (refine callQF_pure (smallR _ 30 hsk _) (by first | rfl | simp -implicitDefEqProofs (disch := omega) only [h2, h3, h4, h5, h6, h7, h38, h39, h40, rows_getD, cells_agg, nd_c1s, nd_len, nd_take, nd_cellsV, nd_clL, nd_drop5, List.append_nil, splice, hgg, hss, hfk, dT_lt, dF_lt, dT_le, dF_le, dT_eq, dF_eq, push_cast, ↓reduceIte, Nat.reduceEqDiff, reduceCtorEq, Nat.reduceAdd, Nat.reduceSub, Nat.reduceMul, Nat.reduceLeDiff, Nat.reduceLT, Nat.reduceMod, Nat.reduceDiv, Int.reduceToNat, Int.reduceLT, Int.reduceLE, Int.reduceEq, Int.reduceAdd, Int.reduceSub, Int.reduceNeg, Int.reduceMul, Bool.and_self]) ?_) | simp -implicitDefEqProofs (disch := omega) only [h2, h3, h4, h5, h6, h7, h38, h39, h40, rows_getD, cells_agg, nd_c1s, nd_len, nd_take, nd_cellsV, nd_clL, nd_drop5, List.append_nil, splice, hgg, hss, hfk, dT_lt, dF_lt, dT_le, dF_le, dT_eq, dF_eq, push_cast, ↓reduceIte, Nat.reduceEqDiff, reduceCtorEq, Nat.reduceAdd, Nat.reduceSub, Nat.reduceMul, Nat.reduceLeDiff, Nat.reduceLT, Nat.reduceMod, Nat.reduceDiv, Int.reduceToNat, Int.reduceLT, Int.reduceLE, Int.reduceEq, Int.reduceAdd, Int.reduceSub, Int.reduceNeg, Int.reduceMul, Bool.and_self] | split)
              exact .mk (j + 1, _) ⟨h2, h3, h4, h5, h6, h7, h38, h39, rfl, rfl, hlt, upto_succ hsm hfk⟩ (by simp only; omega)
          · have hb := smalls_bulk fun i hi => hsm i (by omega)
            have hbn := small_bulk hf
            have hcn := small_cnt hf
            have c1 := fun H => ReplaceT n p f t l hn (by omega) (by omega) hrow H
            have c2 := fun H => ReplaceR n p f t l hn (by omega) (by omega) H
            have hrs : Sml (replN n p f t l) := replN_sml (by omega)
            have c3 := fun H => EqualR _ _ hrs hrs H
            rw [eqF_true rfl] at c3
            have c4 := fun H => EqualR _ _ (bare_sml hn) (bare_sml hn) H
            rw [eqF_true rfl] at c4
            simp only [replA] at c1 c2
            repeat' (first | (refine And.intro (by omega) ?_) | (refine callF_pure (c1 _) ?_) | (refine callF_pure (c2 _) ?_) | (refine callF_pure (c3 _) ?_) | (refine callF_pure (c4 _) ?_) | (refine callF_pure (sameT n m hn hm _) ?_) | (refine callF_pure (SameR n m hn hm _) ?_) | (refine callF_pure (bareT n hn _) ?_) | (refine callF_pure (bareR n hn _) ?_) | (refine callF_pure (awakeC _) ?_) | (refine callQF_pure (c1 _) (by first | rfl | simp -implicitDefEqProofs (disch := omega) only [h2, h3, h4, h5, h6, h7, h38, h39, h40, cells_agg, nd_c1s, nd_len, nd_take, nd_cellsV, nd_clL, nd_drop5, List.append_nil, splice, hgg, hss, eq_self, dT_lt, dF_lt, dT_le, dF_le, dT_eq, dF_eq, push_cast, ↓reduceIte, Nat.reduceEqDiff, reduceCtorEq, Nat.reduceAdd, Nat.reduceSub, Nat.reduceMul, Nat.reduceLeDiff, Nat.reduceLT, Nat.reduceMod, Nat.reduceDiv, Int.reduceToNat, Int.reduceLT, Int.reduceLE, Int.reduceEq, Int.reduceAdd, Int.reduceSub, Int.reduceNeg, Int.reduceMul, Bool.and_self]) ?_) | (refine callQF_pure (c2 _) (by first | rfl | simp -implicitDefEqProofs (disch := omega) only [h2, h3, h4, h5, h6, h7, h38, h39, h40, cells_agg, nd_c1s, nd_len, nd_take, nd_cellsV, nd_clL, nd_drop5, List.append_nil, splice, hgg, hss, eq_self, dT_lt, dF_lt, dT_le, dF_le, dT_eq, dF_eq, push_cast, ↓reduceIte, Nat.reduceEqDiff, reduceCtorEq, Nat.reduceAdd, Nat.reduceSub, Nat.reduceMul, Nat.reduceLeDiff, Nat.reduceLT, Nat.reduceMod, Nat.reduceDiv, Int.reduceToNat, Int.reduceLT, Int.reduceLE, Int.reduceEq, Int.reduceAdd, Int.reduceSub, Int.reduceNeg, Int.reduceMul, Bool.and_self]) ?_) | (refine callQF_pure (c3 _) (by first | rfl | simp -implicitDefEqProofs (disch := omega) only [h2, h3, h4, h5, h6, h7, h38, h39, h40, cells_agg, nd_c1s, nd_len, nd_take, nd_cellsV, nd_clL, nd_drop5, List.append_nil, splice, hgg, hss, eq_self, dT_lt, dF_lt, dT_le, dF_le, dT_eq, dF_eq, push_cast, ↓reduceIte, Nat.reduceEqDiff, reduceCtorEq, Nat.reduceAdd, Nat.reduceSub, Nat.reduceMul, Nat.reduceLeDiff, Nat.reduceLT, Nat.reduceMod, Nat.reduceDiv, Int.reduceToNat, Int.reduceLT, Int.reduceLE, Int.reduceEq, Int.reduceAdd, Int.reduceSub, Int.reduceNeg, Int.reduceMul, Bool.and_self]) ?_) | (refine callQF_pure (c4 _) (by first | rfl | simp -implicitDefEqProofs (disch := omega) only [h2, h3, h4, h5, h6, h7, h38, h39, h40, cells_agg, nd_c1s, nd_len, nd_take, nd_cellsV, nd_clL, nd_drop5, List.append_nil, splice, hgg, hss, eq_self, dT_lt, dF_lt, dT_le, dF_le, dT_eq, dF_eq, push_cast, ↓reduceIte, Nat.reduceEqDiff, reduceCtorEq, Nat.reduceAdd, Nat.reduceSub, Nat.reduceMul, Nat.reduceLeDiff, Nat.reduceLT, Nat.reduceMod, Nat.reduceDiv, Int.reduceToNat, Int.reduceLT, Int.reduceLE, Int.reduceEq, Int.reduceAdd, Int.reduceSub, Int.reduceNeg, Int.reduceMul, Bool.and_self]) ?_) | (refine callQF_pure (sameT n m hn hm _) (by first | rfl | simp -implicitDefEqProofs (disch := omega) only [h2, h3, h4, h5, h6, h7, h38, h39, h40, cells_agg, nd_c1s, nd_len, nd_take, nd_cellsV, nd_clL, nd_drop5, List.append_nil, splice, hgg, hss, eq_self, dT_lt, dF_lt, dT_le, dF_le, dT_eq, dF_eq, push_cast, ↓reduceIte, Nat.reduceEqDiff, reduceCtorEq, Nat.reduceAdd, Nat.reduceSub, Nat.reduceMul, Nat.reduceLeDiff, Nat.reduceLT, Nat.reduceMod, Nat.reduceDiv, Int.reduceToNat, Int.reduceLT, Int.reduceLE, Int.reduceEq, Int.reduceAdd, Int.reduceSub, Int.reduceNeg, Int.reduceMul, Bool.and_self]) ?_) | (refine callQF_pure (SameR n m hn hm _) (by first | rfl | simp -implicitDefEqProofs (disch := omega) only [h2, h3, h4, h5, h6, h7, h38, h39, h40, cells_agg, nd_c1s, nd_len, nd_take, nd_cellsV, nd_clL, nd_drop5, List.append_nil, splice, hgg, hss, eq_self, dT_lt, dF_lt, dT_le, dF_le, dT_eq, dF_eq, push_cast, ↓reduceIte, Nat.reduceEqDiff, reduceCtorEq, Nat.reduceAdd, Nat.reduceSub, Nat.reduceMul, Nat.reduceLeDiff, Nat.reduceLT, Nat.reduceMod, Nat.reduceDiv, Int.reduceToNat, Int.reduceLT, Int.reduceLE, Int.reduceEq, Int.reduceAdd, Int.reduceSub, Int.reduceNeg, Int.reduceMul, Bool.and_self]) ?_) | (refine callQF_pure (bareT n hn _) (by first | rfl | simp -implicitDefEqProofs (disch := omega) only [h2, h3, h4, h5, h6, h7, h38, h39, h40, cells_agg, nd_c1s, nd_len, nd_take, nd_cellsV, nd_clL, nd_drop5, List.append_nil, splice, hgg, hss, eq_self, dT_lt, dF_lt, dT_le, dF_le, dT_eq, dF_eq, push_cast, ↓reduceIte, Nat.reduceEqDiff, reduceCtorEq, Nat.reduceAdd, Nat.reduceSub, Nat.reduceMul, Nat.reduceLeDiff, Nat.reduceLT, Nat.reduceMod, Nat.reduceDiv, Int.reduceToNat, Int.reduceLT, Int.reduceLE, Int.reduceEq, Int.reduceAdd, Int.reduceSub, Int.reduceNeg, Int.reduceMul, Bool.and_self]) ?_) | (refine callQF_pure (bareR n hn _) (by first | rfl | simp -implicitDefEqProofs (disch := omega) only [h2, h3, h4, h5, h6, h7, h38, h39, h40, cells_agg, nd_c1s, nd_len, nd_take, nd_cellsV, nd_clL, nd_drop5, List.append_nil, splice, hgg, hss, eq_self, dT_lt, dF_lt, dT_le, dF_le, dT_eq, dF_eq, push_cast, ↓reduceIte, Nat.reduceEqDiff, reduceCtorEq, Nat.reduceAdd, Nat.reduceSub, Nat.reduceMul, Nat.reduceLeDiff, Nat.reduceLT, Nat.reduceMod, Nat.reduceDiv, Int.reduceToNat, Int.reduceLT, Int.reduceLE, Int.reduceEq, Int.reduceAdd, Int.reduceSub, Int.reduceNeg, Int.reduceMul, Bool.and_self]) ?_) | (refine callQF_pure (awakeC _) (by first | rfl | simp -implicitDefEqProofs (disch := omega) only [h2, h3, h4, h5, h6, h7, h38, h39, h40, cells_agg, nd_c1s, nd_len, nd_take, nd_cellsV, nd_clL, nd_drop5, List.append_nil, splice, hgg, hss, eq_self, dT_lt, dF_lt, dT_le, dF_le, dT_eq, dF_eq, push_cast, ↓reduceIte, Nat.reduceEqDiff, reduceCtorEq, Nat.reduceAdd, Nat.reduceSub, Nat.reduceMul, Nat.reduceLeDiff, Nat.reduceLT, Nat.reduceMod, Nat.reduceDiv, Int.reduceToNat, Int.reduceLT, Int.reduceLE, Int.reduceEq, Int.reduceAdd, Int.reduceSub, Int.reduceNeg, Int.reduceMul, Bool.and_self]) ?_) | simp -implicitDefEqProofs (disch := omega) only [h2, h3, h4, h5, h6, h7, h38, h39, h40, cells_agg, nd_c1s, nd_len, nd_take, nd_cellsV, nd_clL, nd_drop5, List.append_nil, splice, hgg, hss, eq_self, dT_lt, dF_lt, dT_le, dF_le, dT_eq, dF_eq, push_cast, ↓reduceIte, Nat.reduceEqDiff, reduceCtorEq, Nat.reduceAdd, Nat.reduceSub, Nat.reduceMul, Nat.reduceLeDiff, Nat.reduceLT, Nat.reduceMod, Nat.reduceDiv, Int.reduceToNat, Int.reduceLT, Int.reduceLE, Int.reduceEq, Int.reduceAdd, Int.reduceSub, Int.reduceNeg, Int.reduceMul, Bool.and_self] | split)
            exact ⟨_, rfl⟩
        · repeat' (first | (refine And.intro (by omega) ?_) | (refine callF_pure (smallR n 100 hn _) ?_) | (refine callF_pure (smallR m 100 hm _) ?_) | (refine callF_pure (awakeC _) ?_) | (refine callQF_pure (smallR n 100 hn _) (by first | rfl | simp -implicitDefEqProofs (disch := omega) only [L8, cells_agg, nd_c1s, nd_len, nd_take, nd_cellsV, nd_clL, hf, hf2, dT_lt, dF_lt, dT_le, dF_le, dT_eq, dF_eq, push_cast, ↓reduceIte, Nat.reduceEqDiff, reduceCtorEq, Nat.reduceAdd, Nat.reduceSub, Nat.reduceMul, Nat.reduceLeDiff, Nat.reduceLT, Nat.reduceMod, Nat.reduceDiv, Int.reduceToNat, Int.reduceLT, Int.reduceLE, Int.reduceEq, Int.reduceAdd, Int.reduceSub, Int.reduceNeg, Int.reduceMul, Bool.and_self]) ?_) | (refine callQF_pure (smallR m 100 hm _) (by first | rfl | simp -implicitDefEqProofs (disch := omega) only [L8, cells_agg, nd_c1s, nd_len, nd_take, nd_cellsV, nd_clL, hf, hf2, dT_lt, dF_lt, dT_le, dF_le, dT_eq, dF_eq, push_cast, ↓reduceIte, Nat.reduceEqDiff, reduceCtorEq, Nat.reduceAdd, Nat.reduceSub, Nat.reduceMul, Nat.reduceLeDiff, Nat.reduceLT, Nat.reduceMod, Nat.reduceDiv, Int.reduceToNat, Int.reduceLT, Int.reduceLE, Int.reduceEq, Int.reduceAdd, Int.reduceSub, Int.reduceNeg, Int.reduceMul, Bool.and_self]) ?_) | (refine callQF_pure (awakeC _) (by first | rfl | simp -implicitDefEqProofs (disch := omega) only [L8, cells_agg, nd_c1s, nd_len, nd_take, nd_cellsV, nd_clL, hf, hf2, dT_lt, dF_lt, dT_le, dF_le, dT_eq, dF_eq, push_cast, ↓reduceIte, Nat.reduceEqDiff, reduceCtorEq, Nat.reduceAdd, Nat.reduceSub, Nat.reduceMul, Nat.reduceLeDiff, Nat.reduceLT, Nat.reduceMod, Nat.reduceDiv, Int.reduceToNat, Int.reduceLT, Int.reduceLE, Int.reduceEq, Int.reduceAdd, Int.reduceSub, Int.reduceNeg, Int.reduceMul, Bool.and_self]) ?_) | simp -implicitDefEqProofs (disch := omega) only [L8, cells_agg, nd_c1s, nd_len, nd_take, nd_cellsV, nd_clL, hf, hf2, dT_lt, dF_lt, dT_le, dF_le, dT_eq, dF_eq, push_cast, ↓reduceIte, Nat.reduceEqDiff, reduceCtorEq, Nat.reduceAdd, Nat.reduceSub, Nat.reduceMul, Nat.reduceLeDiff, Nat.reduceLT, Nat.reduceMod, Nat.reduceDiv, Int.reduceToNat, Int.reduceLT, Int.reduceLE, Int.reduceEq, Int.reduceAdd, Int.reduceSub, Int.reduceNeg, Int.reduceMul, Bool.and_self] | split)
          exact ⟨_, rfl⟩
      · repeat' (first | (refine And.intro (by omega) ?_) | (refine callF_pure (smallR n 100 hn _) ?_) | (refine callF_pure (smallR m 100 hm _) ?_) | (refine callF_pure (awakeC _) ?_) | (refine callQF_pure (smallR n 100 hn _) (by first | rfl | simp -implicitDefEqProofs (disch := omega) only [L8, cells_agg, nd_c1s, nd_len, nd_take, nd_cellsV, nd_clL, hf, hf2, dT_lt, dF_lt, dT_le, dF_le, dT_eq, dF_eq, push_cast, ↓reduceIte, Nat.reduceEqDiff, reduceCtorEq, Nat.reduceAdd, Nat.reduceSub, Nat.reduceMul, Nat.reduceLeDiff, Nat.reduceLT, Nat.reduceMod, Nat.reduceDiv, Int.reduceToNat, Int.reduceLT, Int.reduceLE, Int.reduceEq, Int.reduceAdd, Int.reduceSub, Int.reduceNeg, Int.reduceMul, Bool.and_self]) ?_) | (refine callQF_pure (smallR m 100 hm _) (by first | rfl | simp -implicitDefEqProofs (disch := omega) only [L8, cells_agg, nd_c1s, nd_len, nd_take, nd_cellsV, nd_clL, hf, hf2, dT_lt, dF_lt, dT_le, dF_le, dT_eq, dF_eq, push_cast, ↓reduceIte, Nat.reduceEqDiff, reduceCtorEq, Nat.reduceAdd, Nat.reduceSub, Nat.reduceMul, Nat.reduceLeDiff, Nat.reduceLT, Nat.reduceMod, Nat.reduceDiv, Int.reduceToNat, Int.reduceLT, Int.reduceLE, Int.reduceEq, Int.reduceAdd, Int.reduceSub, Int.reduceNeg, Int.reduceMul, Bool.and_self]) ?_) | (refine callQF_pure (awakeC _) (by first | rfl | simp -implicitDefEqProofs (disch := omega) only [L8, cells_agg, nd_c1s, nd_len, nd_take, nd_cellsV, nd_clL, hf, hf2, dT_lt, dF_lt, dT_le, dF_le, dT_eq, dF_eq, push_cast, ↓reduceIte, Nat.reduceEqDiff, reduceCtorEq, Nat.reduceAdd, Nat.reduceSub, Nat.reduceMul, Nat.reduceLeDiff, Nat.reduceLT, Nat.reduceMod, Nat.reduceDiv, Int.reduceToNat, Int.reduceLT, Int.reduceLE, Int.reduceEq, Int.reduceAdd, Int.reduceSub, Int.reduceNeg, Int.reduceMul, Bool.and_self]) ?_) | simp -implicitDefEqProofs (disch := omega) only [L8, cells_agg, nd_c1s, nd_len, nd_take, nd_cellsV, nd_clL, hf, hf2, dT_lt, dF_lt, dT_le, dF_le, dT_eq, dF_eq, push_cast, ↓reduceIte, Nat.reduceEqDiff, reduceCtorEq, Nat.reduceAdd, Nat.reduceSub, Nat.reduceMul, Nat.reduceLeDiff, Nat.reduceLT, Nat.reduceMod, Nat.reduceDiv, Int.reduceToNat, Int.reduceLT, Int.reduceLE, Int.reduceEq, Int.reduceAdd, Int.reduceSub, Int.reduceNeg, Int.reduceMul, Bool.and_self] | split)
        exact ⟨_, rfl⟩
    · have hf2' := Bool.eq_false_iff.2 hf2
      repeat' (first | (refine And.intro (by omega) ?_) | (refine callF_pure (smallR n 100 hn _) ?_) | (refine callF_pure (smallR m 100 hm _) ?_) | (refine callF_pure (awakeC _) ?_) | (refine callQF_pure (smallR n 100 hn _) (by first | rfl | simp -implicitDefEqProofs (disch := omega) only [L8, cells_agg, nd_c1s, nd_len, nd_take, nd_cellsV, nd_clL, hf, hf2', dT_lt, dF_lt, dT_le, dF_le, dT_eq, dF_eq, push_cast, ↓reduceIte, Nat.reduceEqDiff, reduceCtorEq, Nat.reduceAdd, Nat.reduceSub, Nat.reduceMul, Nat.reduceLeDiff, Nat.reduceLT, Nat.reduceMod, Nat.reduceDiv, Int.reduceToNat, Int.reduceLT, Int.reduceLE, Int.reduceEq, Int.reduceAdd, Int.reduceSub, Int.reduceNeg, Int.reduceMul, Bool.and_self]) ?_) | (refine callQF_pure (smallR m 100 hm _) (by first | rfl | simp -implicitDefEqProofs (disch := omega) only [L8, cells_agg, nd_c1s, nd_len, nd_take, nd_cellsV, nd_clL, hf, hf2', dT_lt, dF_lt, dT_le, dF_le, dT_eq, dF_eq, push_cast, ↓reduceIte, Nat.reduceEqDiff, reduceCtorEq, Nat.reduceAdd, Nat.reduceSub, Nat.reduceMul, Nat.reduceLeDiff, Nat.reduceLT, Nat.reduceMod, Nat.reduceDiv, Int.reduceToNat, Int.reduceLT, Int.reduceLE, Int.reduceEq, Int.reduceAdd, Int.reduceSub, Int.reduceNeg, Int.reduceMul, Bool.and_self]) ?_) | (refine callQF_pure (awakeC _) (by first | rfl | simp -implicitDefEqProofs (disch := omega) only [L8, cells_agg, nd_c1s, nd_len, nd_take, nd_cellsV, nd_clL, hf, hf2', dT_lt, dF_lt, dT_le, dF_le, dT_eq, dF_eq, push_cast, ↓reduceIte, Nat.reduceEqDiff, reduceCtorEq, Nat.reduceAdd, Nat.reduceSub, Nat.reduceMul, Nat.reduceLeDiff, Nat.reduceLT, Nat.reduceMod, Nat.reduceDiv, Int.reduceToNat, Int.reduceLT, Int.reduceLE, Int.reduceEq, Int.reduceAdd, Int.reduceSub, Int.reduceNeg, Int.reduceMul, Bool.and_self]) ?_) | simp -implicitDefEqProofs (disch := omega) only [L8, cells_agg, nd_c1s, nd_len, nd_take, nd_cellsV, nd_clL, hf, hf2', dT_lt, dF_lt, dT_le, dF_le, dT_eq, dF_eq, push_cast, ↓reduceIte, Nat.reduceEqDiff, reduceCtorEq, Nat.reduceAdd, Nat.reduceSub, Nat.reduceMul, Nat.reduceLeDiff, Nat.reduceLT, Nat.reduceMod, Nat.reduceDiv, Int.reduceToNat, Int.reduceLT, Int.reduceLE, Int.reduceEq, Int.reduceAdd, Int.reduceSub, Int.reduceNeg, Int.reduceMul, Bool.and_self] | split)
      exact ⟨_, rfl⟩
  · have hf' := Bool.eq_false_iff.2 hf
    repeat' (first | (refine And.intro (by omega) ?_) | (refine callF_pure (smallR n 100 hn _) ?_) | (refine callF_pure (awakeC _) ?_) | (refine callQF_pure (smallR n 100 hn _) (by first | rfl | simp -implicitDefEqProofs (disch := omega) only [L8, cells_agg, nd_c1s, nd_len, nd_take, nd_cellsV, nd_clL, hf', dT_lt, dF_lt, dT_le, dF_le, dT_eq, dF_eq, push_cast, ↓reduceIte, Nat.reduceEqDiff, reduceCtorEq, Nat.reduceAdd, Nat.reduceSub, Nat.reduceMul, Nat.reduceLeDiff, Nat.reduceLT, Nat.reduceMod, Nat.reduceDiv, Int.reduceToNat, Int.reduceLT, Int.reduceLE, Int.reduceEq, Int.reduceAdd, Int.reduceSub, Int.reduceNeg, Int.reduceMul, Bool.and_self]) ?_) | (refine callQF_pure (awakeC _) (by first | rfl | simp -implicitDefEqProofs (disch := omega) only [L8, cells_agg, nd_c1s, nd_len, nd_take, nd_cellsV, nd_clL, hf', dT_lt, dF_lt, dT_le, dF_le, dT_eq, dF_eq, push_cast, ↓reduceIte, Nat.reduceEqDiff, reduceCtorEq, Nat.reduceAdd, Nat.reduceSub, Nat.reduceMul, Nat.reduceLeDiff, Nat.reduceLT, Nat.reduceMod, Nat.reduceDiv, Int.reduceToNat, Int.reduceLT, Int.reduceLE, Int.reduceEq, Int.reduceAdd, Int.reduceSub, Int.reduceNeg, Int.reduceMul, Bool.and_self]) ?_) | simp -implicitDefEqProofs (disch := omega) only [L8, cells_agg, nd_c1s, nd_len, nd_take, nd_cellsV, nd_clL, hf', dT_lt, dF_lt, dT_le, dF_le, dT_eq, dF_eq, push_cast, ↓reduceIte, Nat.reduceEqDiff, reduceCtorEq, Nat.reduceAdd, Nat.reduceSub, Nat.reduceMul, Nat.reduceLeDiff, Nat.reduceLT, Nat.reduceMod, Nat.reduceDiv, Int.reduceToNat, Int.reduceLT, Int.reduceLE, Int.reduceEq, Int.reduceAdd, Int.reduceSub, Int.reduceNeg, Int.reduceMul, Bool.and_self] | split)
    exact ⟨_, rfl⟩
#print axioms treeEdits

theorem cnts_snoc' {l : List Nd} {j : Nat} (h : j < l.length) : cnts (l.take (j + 1)) = cnts (l.take j) + cnt (l.getD j default) := by
  rw [take_snoc h, cnts_append]
  simp [cnts]
theorem cnts_take_le (l : List Nd) (j : Nat) : cnts (l.take j) ≤ cnts l := by
  have := cnts_take l j; omega

theorem treeRestores (n : Nd) (p : List Int) (f t : Int) (l : List Nd) (hn : Sml n) (hp : p.length ≤ 1048576) (hll : l.length ≤ 1048576) (hl : bulkRR (l.map ndR) ≤ 1048576) (H : AHeap) :
    Comp' 9 [.agg (ndR n), .sl 1 (p.map iR), int f, int t, .sl 5 (l.map ndR)] H (bool true) := by
  refine ACall.drop (R := fun x => x = bool true) ?_
  refine enter Try.func9 L9_ok (Nat.le_of_ble_eq_true rfl) ?_
  by_cases hf : smallF n 100 = true
  · by_cases hp20 : p.length ≤ 20
    · by_cases hl10 : l.length ≤ 10
      · have hrow := sml_row hl
        have hcl := cnts_bulk l
        repeat' (first | (refine And.intro (by omega) ?_) | (refine callF_pure (smallR n 100 hn _) ?_) | (refine callQF_pure (smallR n 100 hn _) (by first | rfl | simp -implicitDefEqProofs (disch := omega) only [L9, cells_agg, nd_c1s, nd_len, nd_take, nd_cellsV, nd_clL, hf, dT_lt, dF_lt, dT_le, dF_le, dT_eq, dF_eq, push_cast, ↓reduceIte, Nat.reduceEqDiff, reduceCtorEq, Nat.reduceAdd, Nat.reduceSub, Nat.reduceMul, Nat.reduceLeDiff, Nat.reduceLT, Nat.reduceMod, Nat.reduceDiv, Int.reduceToNat, Int.reduceLT, Int.reduceLE, Int.reduceEq, Int.reduceAdd, Int.reduceSub, Int.reduceNeg, Int.reduceMul, Bool.and_self]) ?_) | simp -implicitDefEqProofs (disch := omega) only [L9, cells_agg, nd_c1s, nd_len, nd_take, nd_cellsV, nd_clL, hf, dT_lt, dF_lt, dT_le, dF_le, dT_eq, dF_eq, push_cast, ↓reduceIte, Nat.reduceEqDiff, reduceCtorEq, Nat.reduceAdd, Nat.reduceSub, Nat.reduceMul, Nat.reduceLeDiff, Nat.reduceLT, Nat.reduceMod, Nat.reduceDiv, Int.reduceToNat, Int.reduceLT, Int.reduceLE, Int.reduceEq, Int.reduceAdd, Int.reduceSub, Int.reduceNeg, Int.reduceMul, Bool.and_self] | split)
        refine rk_loopS (fun (st : Nat × AHeap) e' H' => e' 1 = .sl 1 (p.map iR) ∧ e' 2 = int f ∧ e' 3 = int t ∧ e' 4 = .sl 5 (l.map ndR) ∧ e' 5 = .ptr H.length 0 0 ∧ e' 11 = int (cnts (l.take st.1)) ∧ e' 36 = .sl 5 (l.map ndR) ∧ e' 37 = int l.length ∧ e' 38 = int st.1 ∧ H' = H ++ (.box (ndR n) :: st.2) ∧ st.1 ≤ l.length ∧ ∀ i, i < st.1 → smallF (l.getD i default) 30 = true) (fun st => l.length - st.1) (0, []) ?_ ?_
        · exact ⟨rfl, rfl, rfl, rfl, rfl, rfl, rfl, rfl, rfl, rfl, Nat.zero_le _, by simp⟩
        rintro ⟨j, ext⟩ e' H' ⟨h1, h2, h3, h4, h5, h11, h36, h37, h38, rfl, hj, hsm⟩
        simp only at h11 h38 hj hsm
        have hgg : ∀ (a x : HO), (H ++ a :: (ext ++ [x]))[H.length + (ext.length + 1)]? = some x := fun a x => by rw [get_add]; simp
        have hss : ∀ (a x y : HO), (H ++ a :: (ext ++ [x])).set (H.length + (ext.length + 1)) y = H ++ a :: (ext ++ [y]) := fun a x y => by rw [set_add]; simp
        by_cases hlt : j < l.length
        · have hsk := hrow _ (getD_mem' hlt)
          have hc1 := cnts_snoc' hlt
          have hc2 := cnts_take_le l (j + 1)
          cases hfk : smallF (l.getD j default) 30
          · repeat' (first | (refine And.intro (by omega) ?_) | (refine callF_pure (smallR _ 30 hsk _) ?_) | (refine callF_pure (awakeC _) ?_) | (refine callQF_pure (smallR _ 30 hsk _) (by first | rfl | simp -implicitDefEqProofs (disch := omega) only [h1, h2, h3, h4, h5, h11, h36, h37, h38, rows_getD, cells_agg, nd_c1s, nd_len, nd_take, nd_cellsV, nd_clL, nd_drop5, List.append_nil, splice, hgg, hss, hfk, dT_lt, dF_lt, dT_le, dF_le, dT_eq, dF_eq, push_cast, ↓reduceIte, Nat.reduceEqDiff, reduceCtorEq, Nat.reduceAdd, Nat.reduceSub, Nat.reduceMul, Nat.reduceLeDiff, Nat.reduceLT, Nat.reduceMod, Nat.reduceDiv, Int.reduceToNat, Int.reduceLT, Int.reduceLE, Int.reduceEq, Int.reduceAdd, Int.reduceSub, Int.reduceNeg, Int.reduceMul, Bool.and_self]) ?_) | (refine callQF_pure (awakeC _) (by first | rfl | simp -implicitDefEqProofs (disch := omega) only [h1, h2, h3, h4, h5, h11, h36, h37, h38, rows_getD, cells_agg, nd_c1s, nd_len, nd_take, nd_cellsV, nd_clL, nd_drop5, List.append_nil, splice, hgg, hss, hfk, dT_lt, dF_lt, dT_le, dF_le, dT_eq, dF_eq, push_cast, ↓reduceIte, Nat.reduceEqDiff, reduceCtorEq, Nat.reduceAdd, Nat.reduceSub, Nat.reduceMul, Nat.reduceLeDiff, Nat.reduceLT, Nat.reduceMod, Nat.reduceDiv, Int.reduceToNat, Int.reduceLT, Int.reduceLE, Int.reduceEq, Int.reduceAdd, Int.reduceSub, Int.reduceNeg, Int.reduceMul, Bool.and_self]) ?_) | simp -implicitDefEqProofs (disch := omega) only [h1, h2, h3, h4, h5, h11, h36, h37, h38, rows_getD, cells_agg, nd_c1s, nd_len, nd_take, nd_cellsV, nd_clL, nd_drop5, List.append_nil, splice, hgg, hss, hfk, dT_lt, dF_lt, dT_le, dF_le, dT_eq, dF_eq, push_cast, ↓reduceIte, Nat.reduceEqDiff, reduceCtorEq, Nat.reduceAdd, Nat.reduceSub, Nat.reduceMul, Nat.reduceLeDiff, Nat.reduceLT, Nat.reduceMod, Nat.reduceDiv, Int.reduceToNat, Int.reduceLT, Int.reduceLE, Int.reduceEq, Int.reduceAdd, Int.reduceSub, Int.reduceNeg, Int.reduceMul, Bool.and_self] | split)
            exact ⟨_, rfl⟩
          · repeat' (first | (refine And.intro (by omega) ?_) | (refine callF_pure (smallR _ 30 hsk _) ?_) | (refine callF_pure (countR _ hsk _) ?_) | (refine callQF_pure (smallR _ 30 hsk _) (by first | rfl | simp -implicitDefEqProofs (disch := omega) only [h1, h2, h3, h4, h5, h11, h36, h37, h38, rows_getD, cells_agg, nd_c1s, nd_len, nd_take, nd_cellsV, nd_clL, nd_drop5, List.append_nil, splice, hgg, hss, hfk, dT_lt, dF_lt, dT_le, dF_le, dT_eq, dF_eq, push_cast, ↓reduceIte, Nat.reduceEqDiff, reduceCtorEq, Nat.reduceAdd, Nat.reduceSub, Nat.reduceMul, Nat.reduceLeDiff, Nat.reduceLT, Nat.reduceMod, Nat.reduceDiv, Int.reduceToNat, Int.reduceLT, Int.reduceLE, Int.reduceEq, Int.reduceAdd, Int.reduceSub, Int.reduceNeg, Int.reduceMul, Bool.and_self]) ?_) | (refine callQF_pure (countR _ hsk _) (by first | rfl | simp -implicitDefEqProofs (disch := omega) only [h1, h2, h3, h4, h5, h11, h36, h37, h38, rows_getD, cells_agg, nd_c1s, nd_len, nd_take, nd_cellsV, nd_clL, nd_drop5, List.append_nil, splice, hgg, hss, hfk, dT_lt, dF_lt, dT_le, dF_le, dT_eq, dF_eq, push_cast, ↓reduceIte, Nat.reduceEqDiff, reduceCtorEq, Nat.reduceAdd, Nat.reduceSub, Nat.reduceMul, Nat.reduceLeDiff, Nat.reduceLT, Nat.reduceMod, Nat.reduceDiv, Int.reduceToNat, Int.reduceLT, Int.reduceLE, Int.reduceEq, Int.reduceAdd, Int.reduceSub, Int.reduceNeg, Int.reduceMul, Bool.and_self]) ?_) | simp -implicitDefEqProofs (disch := omega) only [h1, h2, h3, h4, h5, h11, h36, h37, h38, rows_getD, cells_agg, nd_c1s, nd_len, nd_take, nd_cellsV, nd_clL, nd_drop5, List.append_nil, splice, hgg, hss, hfk, dT_lt, dF_lt, dT_le, dF_le, dT_eq, dF_eq, push_cast, ↓reduceIte, Nat.reduceEqDiff, reduceCtorEq, Nat.reduceAdd, Nat.reduceSub, Nat.reduceMul, Nat.reduceLeDiff, Nat.reduceLT, Nat.reduceMod, Nat.reduceDiv, Int.reduceToNat, Int.reduceLT, Int.reduceLE, Int.reduceEq, Int.reduceAdd, Int.reduceSub, Int.reduceNeg, Int.reduceMul, Bool.and_self] | split)
            exact .mk (j + 1, _) ⟨h1, h2, h3, h4, h5, intc rfl (by simp only; rw [hc1]; omega), h36, h37, rfl, rfl, hlt, upto_succ hsm hfk⟩ (by simp only; omega)
        · have hb := smalls_bulk fun i hi => hsm i (by omega)
          have ej : j = l.length := by omega
          rw [ej, List.take_length] at h11
          have hbn := small_bulk hf
          have hcn := small_cnt hf
          have c1 := fun H => ReplaceT n p f t l hn (by omega) (by omega) hrow H
          have hrs : Sml (replN n p f t l) := replN_sml (by omega)
          simp only [replA] at c1
          by_cases hE : replE n p f t l = 0
          · obtain ⟨x, hx, e1, e2, e3, e4⟩ := replE_some hE
            obtain ⟨f, rfl⟩ : ∃ f' : Nat, f = f' := ⟨f.toNat, by omega⟩
            obtain ⟨t, rfl⟩ : ∃ t' : Nat, t = t' := ⟨t.toNat, by omega⟩
            have hN : replN n p f t l = replF n p f t l := by unfold replN; rw [if_pos hE, Int.toNat_natCast, Int.toNat_natCast]
            rw [hE, hN] at c1
            rw [hN] at hrs
            have hsx := getL_sml hn hx
            have hlx := sml_len hsx
            have c2 := fun H => getT n p hn (by omega) H
            rw [hx] at c2
            simp only [getA] at c2
            obtain ⟨y, hy, hyk, hyl⟩ := replF_get p n x f t l hx
            obtain ⟨R, hR⟩ : ∃ R, R = (x.kids.drop f).take (t - f) := ⟨_, rfl⟩
            have hRl : R.length = t - f := by rw [hR, List.length_take, List.length_drop]; omega
            have hR1 : ((x.kids.map ndR).drop f).take (t - f) = R.map ndR := by rw [hR, List.map_take, List.map_drop]
            have hcnt := replF_cnt p n x f t l hx (by omega) (by omega)
            have hback := replF_back p n x f t l hx (by omega) (by omega)
            rw [← hR] at hcnt hback
            have hE2 : replE (replF n p f t l) p f ((f : Int) + l.length) R = 0 := by
              rw [replE_eq hy, hyk, hyl]
              rw [if_neg (by simp only [List.length_append, List.length_take, List.length_drop]; omega), if_neg]
              rintro ⟨hk, hne⟩
              have := e4 hk
              omega
            have hN2 : replN (replF n p f t l) p f ((f : Int) + l.length) R = n := by
              unfold replN
              rw [if_pos hE2, Int.toNat_natCast, show ((f : Int) + l.length).toNat = f + l.length by omega, hback]
            have hRs : ∀ k ∈ R, Sml k := fun k hk => sml_kid hsx (by rw [hR] at hk; exact List.mem_of_mem_drop (List.mem_of_mem_take hk))
            have hRx : cnts R ≤ cnts x.kids := by
              have h1 := cnts_take (x.kids.drop f) (t - f)
              have h2 := cnts_take x.kids f
              rw [← hR] at h1
              omega
            have hRn : cnts R ≤ 1048576 := by
              have h1 := sml_cnt hsx
              rw [cnt_eq] at h1
              omega
            have hmc := sml_cnt hrs
            have hRc := cnts_len R
            have c3 := fun H => ReplaceT (replF n p f t l) p f ((f : Int) + l.length) R hrs (by omega) (by omega) hRs H
            simp only [replA] at c3
            rw [hE2, hN2] at c3
            have c4 := fun H => EqualR n n hn hn H
            rw [eqF_true rfl] at c4
            have c5 := fun H => countT (replF n p f t l) hrs H
            repeat' (first | (refine And.intro (by omega) ?_) | (refine callF_pure (c1 _) ?_) | (refine callF_pure (c2 _) ?_) | (refine callQF_pure (c1 _) (by first | rfl | simp -implicitDefEqProofs (disch := omega) only [h1, h2, h3, h4, h5, h11, h36, h37, h38, cells_agg, nd_c1s, nd_len, nd_take, nd_cellsV, nd_clL, nd_drop5, nd_drop4, List.append_nil, splice, hgg, hss, eq_self, hR1, hRl, List.length_map, dT_lt, dF_lt, dT_le, dF_le, dT_eq, dF_eq, push_cast, ↓reduceIte, Nat.reduceEqDiff, reduceCtorEq, Nat.reduceAdd, Nat.reduceSub, Nat.reduceMul, Nat.reduceLeDiff, Nat.reduceLT, Nat.reduceMod, Nat.reduceDiv, Int.reduceToNat, Int.reduceLT, Int.reduceLE, Int.reduceEq, Int.reduceAdd, Int.reduceSub, Int.reduceNeg, Int.reduceMul, Bool.and_self]) ?_) | (refine callQF_pure (c2 _) (by first | rfl | simp -implicitDefEqProofs (disch := omega) only [h1, h2, h3, h4, h5, h11, h36, h37, h38, cells_agg, nd_c1s, nd_len, nd_take, nd_cellsV, nd_clL, nd_drop5, nd_drop4, List.append_nil, splice, hgg, hss, eq_self, hR1, hRl, List.length_map, dT_lt, dF_lt, dT_le, dF_le, dT_eq, dF_eq, push_cast, ↓reduceIte, Nat.reduceEqDiff, reduceCtorEq, Nat.reduceAdd, Nat.reduceSub, Nat.reduceMul, Nat.reduceLeDiff, Nat.reduceLT, Nat.reduceMod, Nat.reduceDiv, Int.reduceToNat, Int.reduceLT, Int.reduceLE, Int.reduceEq, Int.reduceAdd, Int.reduceSub, Int.reduceNeg, Int.reduceMul, Bool.and_self]) ?_) | simp -implicitDefEqProofs (disch := omega) only [h1, h2, h3, h4, h5, h11, h36, h37, h38, cells_agg, nd_c1s, nd_len, nd_take, nd_cellsV, nd_clL, nd_drop5, nd_drop4, List.append_nil, splice, hgg, hss, eq_self, hR1, hRl, List.length_map, dT_lt, dF_lt, dT_le, dF_le, dT_eq, dF_eq, push_cast, ↓reduceIte, Nat.reduceEqDiff, reduceCtorEq, Nat.reduceAdd, Nat.reduceSub, Nat.reduceMul, Nat.reduceLeDiff, Nat.reduceLT, Nat.reduceMod, Nat.reduceDiv, Int.reduceToNat, Int.reduceLT, Int.reduceLE, Int.reduceEq, Int.reduceAdd, Int.reduceSub, Int.reduceNeg, Int.reduceMul, Bool.and_self] | split)
            refine rk_loopS (fun (st : Nat × AHeap) e' H' => e' 1 = .sl 1 (p.map iR) ∧ e' 2 = int f ∧ e' 3 = int t ∧ e' 4 = .sl 5 (l.map ndR) ∧ e' 5 = .ptr H.length 0 0 ∧ e' 11 = int ((cnts l : Int) - cnts (R.take st.1)) ∧ e' 14 = .ptr (H.length + (ext.length + 1)) 0 0 ∧ e' 16 = .ptr (H.length + (ext.length + 1 + 1)) 0 0 ∧ e' 91 = .sl 5 (R.map ndR) ∧ e' 92 = int R.length ∧ e' 93 = int st.1 ∧ H' = H ++ (.box (ndR n) :: (ext ++ .box (ndR (replF n p f t l)) :: .box (ndR x) :: st.2)) ∧ st.1 ≤ R.length) (fun st => R.length - st.1) (0, []) ?_ ?_
            · exact ⟨h1, h2, h3, h4, h5, by simpa [up, cnts] using h11, rfl, rfl, rfl, by simp [up, hRl]; omega, rfl, rfl, Nat.zero_le _⟩
            rintro ⟨j2, ext2⟩ e' H' ⟨h1, h2, h3, h4, h5, h11, h14, h16, h91, h92, h93, rfl, hj2⟩
            simp only at h11 h93 hj2
            by_cases hlt2 : j2 < R.length
            · have hsk := hRs _ (getD_mem' hlt2)
              have hc1 := cnts_snoc' hlt2
              have hc2 := cnts_take_le R (j2 + 1)
              repeat' (first | (refine And.intro (by omega) ?_) | (refine callF_pure (countR _ hsk _) ?_) | (refine callQF_pure (countR _ hsk _) (by first | rfl | simp -implicitDefEqProofs (disch := omega) only [h1, h2, h3, h4, h5, h11, h14, h16, h91, h92, h93, rows_getD, cells_agg, nd_c1s, nd_len, nd_take, nd_cellsV, nd_clL, nd_drop5, List.append_nil, splice, dT_lt, dF_lt, dT_le, dF_le, dT_eq, dF_eq, push_cast, ↓reduceIte, Nat.reduceEqDiff, reduceCtorEq, Nat.reduceAdd, Nat.reduceSub, Nat.reduceMul, Nat.reduceLeDiff, Nat.reduceLT, Nat.reduceMod, Nat.reduceDiv, Int.reduceToNat, Int.reduceLT, Int.reduceLE, Int.reduceEq, Int.reduceAdd, Int.reduceSub, Int.reduceNeg, Int.reduceMul, Bool.and_self]) ?_) | simp -implicitDefEqProofs (disch := omega) only [h1, h2, h3, h4, h5, h11, h14, h16, h91, h92, h93, rows_getD, cells_agg, nd_c1s, nd_len, nd_take, nd_cellsV, nd_clL, nd_drop5, List.append_nil, splice, dT_lt, dF_lt, dT_le, dF_le, dT_eq, dF_eq, push_cast, ↓reduceIte, Nat.reduceEqDiff, reduceCtorEq, Nat.reduceAdd, Nat.reduceSub, Nat.reduceMul, Nat.reduceLeDiff, Nat.reduceLT, Nat.reduceMod, Nat.reduceDiv, Int.reduceToNat, Int.reduceLT, Int.reduceLE, Int.reduceEq, Int.reduceAdd, Int.reduceSub, Int.reduceNeg, Int.reduceMul, Bool.and_self] | split)
              exact .mk (j2 + 1, _) ⟨h1, h2, h3, h4, h5, intc rfl (by simp only; rw [hc1]; omega), h14, h16, h91, h92, rfl, rfl, hlt2⟩ (by simp only; omega)
            · have ej2 : j2 = R.length := by omega
              rw [ej2, List.take_length] at h11
              repeat' (first | (refine And.intro (by omega) ?_) | (refine callF_pure (c3 _) ?_) | (refine callF_pure (c4 _) ?_) | (refine callF_pure (c5 _) ?_) | (refine callF_pure (countT n hn _) ?_) | (refine callF_pure (awakeC _) ?_) | (refine callQF_pure (c3 _) (by first | rfl | simp -implicitDefEqProofs (disch := omega) only [h1, h2, h3, h4, h5, h11, h14, h16, h91, h92, h93, rows_getD, cells_agg, nd_c1s, nd_len, nd_take, nd_cellsV, nd_clL, nd_drop5, nd_drop4, List.append_nil, splice, hR1, dT_lt, dF_lt, dT_le, dF_le, dT_eq, dF_eq, push_cast, ↓reduceIte, Nat.reduceEqDiff, reduceCtorEq, Nat.reduceAdd, Nat.reduceSub, Nat.reduceMul, Nat.reduceLeDiff, Nat.reduceLT, Nat.reduceMod, Nat.reduceDiv, Int.reduceToNat, Int.reduceLT, Int.reduceLE, Int.reduceEq, Int.reduceAdd, Int.reduceSub, Int.reduceNeg, Int.reduceMul, Bool.and_self]) ?_) | (refine callQF_pure (c4 _) (by first | rfl | simp -implicitDefEqProofs (disch := omega) only [h1, h2, h3, h4, h5, h11, h14, h16, h91, h92, h93, rows_getD, cells_agg, nd_c1s, nd_len, nd_take, nd_cellsV, nd_clL, nd_drop5, nd_drop4, List.append_nil, splice, hR1, dT_lt, dF_lt, dT_le, dF_le, dT_eq, dF_eq, push_cast, ↓reduceIte, Nat.reduceEqDiff, reduceCtorEq, Nat.reduceAdd, Nat.reduceSub, Nat.reduceMul, Nat.reduceLeDiff, Nat.reduceLT, Nat.reduceMod, Nat.reduceDiv, Int.reduceToNat, Int.reduceLT, Int.reduceLE, Int.reduceEq, Int.reduceAdd, Int.reduceSub, Int.reduceNeg, Int.reduceMul, Bool.and_self]) ?_) | (refine callQF_pure (c5 _) (by first | rfl | simp -implicitDefEqProofs (disch := omega) only [h1, h2, h3, h4, h5, h11, h14, h16, h91, h92, h93, rows_getD, cells_agg, nd_c1s, nd_len, nd_take, nd_cellsV, nd_clL, nd_drop5, nd_drop4, List.append_nil, splice, hR1, dT_lt, dF_lt, dT_le, dF_le, dT_eq, dF_eq, push_cast, ↓reduceIte, Nat.reduceEqDiff, reduceCtorEq, Nat.reduceAdd, Nat.reduceSub, Nat.reduceMul, Nat.reduceLeDiff, Nat.reduceLT, Nat.reduceMod, Nat.reduceDiv, Int.reduceToNat, Int.reduceLT, Int.reduceLE, Int.reduceEq, Int.reduceAdd, Int.reduceSub, Int.reduceNeg, Int.reduceMul, Bool.and_self]) ?_) | (refine callQF_pure (countT n hn _) (by first | rfl | simp -implicitDefEqProofs (disch := omega) only [h1, h2, h3, h4, h5, h11, h14, h16, h91, h92, h93, rows_getD, cells_agg, nd_c1s, nd_len, nd_take, nd_cellsV, nd_clL, nd_drop5, nd_drop4, List.append_nil, splice, hR1, dT_lt, dF_lt, dT_le, dF_le, dT_eq, dF_eq, push_cast, ↓reduceIte, Nat.reduceEqDiff, reduceCtorEq, Nat.reduceAdd, Nat.reduceSub, Nat.reduceMul, Nat.reduceLeDiff, Nat.reduceLT, Nat.reduceMod, Nat.reduceDiv, Int.reduceToNat, Int.reduceLT, Int.reduceLE, Int.reduceEq, Int.reduceAdd, Int.reduceSub, Int.reduceNeg, Int.reduceMul, Bool.and_self]) ?_) | (refine callQF_pure (awakeC _) (by first | rfl | simp -implicitDefEqProofs (disch := omega) only [h1, h2, h3, h4, h5, h11, h14, h16, h91, h92, h93, rows_getD, cells_agg, nd_c1s, nd_len, nd_take, nd_cellsV, nd_clL, nd_drop5, nd_drop4, List.append_nil, splice, hR1, dT_lt, dF_lt, dT_le, dF_le, dT_eq, dF_eq, push_cast, ↓reduceIte, Nat.reduceEqDiff, reduceCtorEq, Nat.reduceAdd, Nat.reduceSub, Nat.reduceMul, Nat.reduceLeDiff, Nat.reduceLT, Nat.reduceMod, Nat.reduceDiv, Int.reduceToNat, Int.reduceLT, Int.reduceLE, Int.reduceEq, Int.reduceAdd, Int.reduceSub, Int.reduceNeg, Int.reduceMul, Bool.and_self]) ?_) | simp -implicitDefEqProofs (disch := omega) only [h1, h2, h3, h4, h5, h11, h14, h16, h91, h92, h93, rows_getD, cells_agg, nd_c1s, nd_len, nd_take, nd_cellsV, nd_clL, nd_drop5, nd_drop4, List.append_nil, splice, hR1, dT_lt, dF_lt, dT_le, dF_le, dT_eq, dF_eq, push_cast, ↓reduceIte, Nat.reduceEqDiff, reduceCtorEq, Nat.reduceAdd, Nat.reduceSub, Nat.reduceMul, Nat.reduceLeDiff, Nat.reduceLT, Nat.reduceMod, Nat.reduceDiv, Int.reduceToNat, Int.reduceLT, Int.reduceLE, Int.reduceEq, Int.reduceAdd, Int.reduceSub, Int.reduceNeg, Int.reduceMul, Bool.and_self] | split)
              exact ⟨_, rfl⟩
          · repeat' (first | (refine And.intro (by omega) ?_) | (refine callF_pure (c1 _) ?_) | (refine callF_pure (awakeC _) ?_) | (refine callQF_pure (c1 _) (by first | rfl | simp -implicitDefEqProofs (disch := omega) only [h1, h2, h3, h4, h5, h11, h36, h37, h38, cells_agg, nd_c1s, nd_len, nd_take, nd_cellsV, nd_clL, nd_drop5, List.append_nil, splice, hgg, hss, dT_lt, dF_lt, dT_le, dF_le, dT_eq, dF_eq, push_cast, ↓reduceIte, Nat.reduceEqDiff, reduceCtorEq, Nat.reduceAdd, Nat.reduceSub, Nat.reduceMul, Nat.reduceLeDiff, Nat.reduceLT, Nat.reduceMod, Nat.reduceDiv, Int.reduceToNat, Int.reduceLT, Int.reduceLE, Int.reduceEq, Int.reduceAdd, Int.reduceSub, Int.reduceNeg, Int.reduceMul, Bool.and_self]) ?_) | (refine callQF_pure (awakeC _) (by first | rfl | simp -implicitDefEqProofs (disch := omega) only [h1, h2, h3, h4, h5, h11, h36, h37, h38, cells_agg, nd_c1s, nd_len, nd_take, nd_cellsV, nd_clL, nd_drop5, List.append_nil, splice, hgg, hss, dT_lt, dF_lt, dT_le, dF_le, dT_eq, dF_eq, push_cast, ↓reduceIte, Nat.reduceEqDiff, reduceCtorEq, Nat.reduceAdd, Nat.reduceSub, Nat.reduceMul, Nat.reduceLeDiff, Nat.reduceLT, Nat.reduceMod, Nat.reduceDiv, Int.reduceToNat, Int.reduceLT, Int.reduceLE, Int.reduceEq, Int.reduceAdd, Int.reduceSub, Int.reduceNeg, Int.reduceMul, Bool.and_self]) ?_) | simp -implicitDefEqProofs (disch := omega) only [h1, h2, h3, h4, h5, h11, h36, h37, h38, cells_agg, nd_c1s, nd_len, nd_take, nd_cellsV, nd_clL, nd_drop5, List.append_nil, splice, hgg, hss, dT_lt, dF_lt, dT_le, dF_le, dT_eq, dF_eq, push_cast, ↓reduceIte, Nat.reduceEqDiff, reduceCtorEq, Nat.reduceAdd, Nat.reduceSub, Nat.reduceMul, Nat.reduceLeDiff, Nat.reduceLT, Nat.reduceMod, Nat.reduceDiv, Int.reduceToNat, Int.reduceLT, Int.reduceLE, Int.reduceEq, Int.reduceAdd, Int.reduceSub, Int.reduceNeg, Int.reduceMul, Bool.and_self] | split)
            exact ⟨_, rfl⟩
      · repeat' (first | (refine And.intro (by omega) ?_) | (refine callF_pure (smallR n 100 hn _) ?_) | (refine callF_pure (awakeC _) ?_) | (refine callQF_pure (smallR n 100 hn _) (by first | rfl | simp -implicitDefEqProofs (disch := omega) only [L9, cells_agg, nd_c1s, nd_len, nd_take, nd_cellsV, nd_clL, hf, dT_lt, dF_lt, dT_le, dF_le, dT_eq, dF_eq, push_cast, ↓reduceIte, Nat.reduceEqDiff, reduceCtorEq, Nat.reduceAdd, Nat.reduceSub, Nat.reduceMul, Nat.reduceLeDiff, Nat.reduceLT, Nat.reduceMod, Nat.reduceDiv, Int.reduceToNat, Int.reduceLT, Int.reduceLE, Int.reduceEq, Int.reduceAdd, Int.reduceSub, Int.reduceNeg, Int.reduceMul, Bool.and_self]) ?_) | (refine callQF_pure (awakeC _) (by first | rfl | simp -implicitDefEqProofs (disch := omega) only [L9, cells_agg, nd_c1s, nd_len, nd_take, nd_cellsV, nd_clL, hf, dT_lt, dF_lt, dT_le, dF_le, dT_eq, dF_eq, push_cast, ↓reduceIte, Nat.reduceEqDiff, reduceCtorEq, Nat.reduceAdd, Nat.reduceSub, Nat.reduceMul, Nat.reduceLeDiff, Nat.reduceLT, Nat.reduceMod, Nat.reduceDiv, Int.reduceToNat, Int.reduceLT, Int.reduceLE, Int.reduceEq, Int.reduceAdd, Int.reduceSub, Int.reduceNeg, Int.reduceMul, Bool.and_self]) ?_) | simp -implicitDefEqProofs (disch := omega) only [L9, cells_agg, nd_c1s, nd_len, nd_take, nd_cellsV, nd_clL, hf, dT_lt, dF_lt, dT_le, dF_le, dT_eq, dF_eq, push_cast, ↓reduceIte, Nat.reduceEqDiff, reduceCtorEq, Nat.reduceAdd, Nat.reduceSub, Nat.reduceMul, Nat.reduceLeDiff, Nat.reduceLT, Nat.reduceMod, Nat.reduceDiv, Int.reduceToNat, Int.reduceLT, Int.reduceLE, Int.reduceEq, Int.reduceAdd, Int.reduceSub, Int.reduceNeg, Int.reduceMul, Bool.and_self] | split)
        exact ⟨_, rfl⟩
    · repeat' (first | (refine And.intro (by omega) ?_) | (refine callF_pure (smallR n 100 hn _) ?_) | (refine callF_pure (awakeC _) ?_) | (refine callQF_pure (smallR n 100 hn _) (by first | rfl | simp -implicitDefEqProofs (disch := omega) only [L9, cells_agg, nd_c1s, nd_len, nd_take, nd_cellsV, nd_clL, hf, dT_lt, dF_lt, dT_le, dF_le, dT_eq, dF_eq, push_cast, ↓reduceIte, Nat.reduceEqDiff, reduceCtorEq, Nat.reduceAdd, Nat.reduceSub, Nat.reduceMul, Nat.reduceLeDiff, Nat.reduceLT, Nat.reduceMod, Nat.reduceDiv, Int.reduceToNat, Int.reduceLT, Int.reduceLE, Int.reduceEq, Int.reduceAdd, Int.reduceSub, Int.reduceNeg, Int.reduceMul, Bool.and_self]) ?_) | (refine callQF_pure (awakeC _) (by first | rfl | simp -implicitDefEqProofs (disch := omega) only [L9, cells_agg, nd_c1s, nd_len, nd_take, nd_cellsV, nd_clL, hf, dT_lt, dF_lt, dT_le, dF_le, dT_eq, dF_eq, push_cast, ↓reduceIte, Nat.reduceEqDiff, reduceCtorEq, Nat.reduceAdd, Nat.reduceSub, Nat.reduceMul, Nat.reduceLeDiff, Nat.reduceLT, Nat.reduceMod, Nat.reduceDiv, Int.reduceToNat, Int.reduceLT, Int.reduceLE, Int.reduceEq, Int.reduceAdd, Int.reduceSub, Int.reduceNeg, Int.reduceMul, Bool.and_self]) ?_) | simp -implicitDefEqProofs (disch := omega) only [L9, cells_agg, nd_c1s, nd_len, nd_take, nd_cellsV, nd_clL, hf, dT_lt, dF_lt, dT_le, dF_le, dT_eq, dF_eq, push_cast, ↓reduceIte, Nat.reduceEqDiff, reduceCtorEq, Nat.reduceAdd, Nat.reduceSub, Nat.reduceMul, Nat.reduceLeDiff, Nat.reduceLT, Nat.reduceMod, Nat.reduceDiv, Int.reduceToNat, Int.reduceLT, Int.reduceLE, Int.reduceEq, Int.reduceAdd, Int.reduceSub, Int.reduceNeg, Int.reduceMul, Bool.and_self] | split)
      exact ⟨_, rfl⟩
  · have hf' := Bool.eq_false_iff.2 hf
    repeat' (first | (refine And.intro (by omega) ?_) | (refine callF_pure (smallR n 100 hn _) ?_) | (refine callF_pure (awakeC _) ?_) | (refine callQF_pure (smallR n 100 hn _) (by first | rfl | simp -implicitDefEqProofs (disch := omega) only [L9, cells_agg, nd_c1s, nd_len, nd_take, nd_cellsV, nd_clL, hf', dT_lt, dF_lt, dT_le, dF_le, dT_eq, dF_eq, push_cast, ↓reduceIte, Nat.reduceEqDiff, reduceCtorEq, Nat.reduceAdd, Nat.reduceSub, Nat.reduceMul, Nat.reduceLeDiff, Nat.reduceLT, Nat.reduceMod, Nat.reduceDiv, Int.reduceToNat, Int.reduceLT, Int.reduceLE, Int.reduceEq, Int.reduceAdd, Int.reduceSub, Int.reduceNeg, Int.reduceMul, Bool.and_self]) ?_) | (refine callQF_pure (awakeC _) (by first | rfl | simp -implicitDefEqProofs (disch := omega) only [L9, cells_agg, nd_c1s, nd_len, nd_take, nd_cellsV, nd_clL, hf', dT_lt, dF_lt, dT_le, dF_le, dT_eq, dF_eq, push_cast, ↓reduceIte, Nat.reduceEqDiff, reduceCtorEq, Nat.reduceAdd, Nat.reduceSub, Nat.reduceMul, Nat.reduceLeDiff, Nat.reduceLT, Nat.reduceMod, Nat.reduceDiv, Int.reduceToNat, Int.reduceLT, Int.reduceLE, Int.reduceEq, Int.reduceAdd, Int.reduceSub, Int.reduceNeg, Int.reduceMul, Bool.and_self]) ?_) | simp -implicitDefEqProofs (disch := omega) only [L9, cells_agg, nd_c1s, nd_len, nd_take, nd_cellsV, nd_clL, hf', dT_lt, dF_lt, dT_le, dF_le, dT_eq, dF_eq, push_cast, ↓reduceIte, Nat.reduceEqDiff, reduceCtorEq, Nat.reduceAdd, Nat.reduceSub, Nat.reduceMul, Nat.reduceLeDiff, Nat.reduceLT, Nat.reduceMod, Nat.reduceDiv, Int.reduceToNat, Int.reduceLT, Int.reduceLE, Int.reduceEq, Int.reduceAdd, Int.reduceSub, Int.reduceNeg, Int.reduceMul, Bool.and_self] | split)
    exact ⟨_, rfl⟩
#print axioms treeRestores
end Go.Proofs.Ytnbdogodcjhfiaa
