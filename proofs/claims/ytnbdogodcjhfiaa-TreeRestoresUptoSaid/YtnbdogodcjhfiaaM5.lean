/- Parts, merged by a program (wip/tools/merge.py): Tr10 Tr11 Tr12 Tr13 Ax29 Tr14 Tr15 Tr16 Tr17 Fz Tr18 Tr19 Tr20. -/
import Derived.Test.YtnbdogodcjhfiaaM4
import Derived.Test.YtnbdogodcjhfiaaChecked
/- Trees: the reference's shapes, and that both agree. -/
namespace Go.Proofs.Ytnbdogodcjhfiaa
open Go Go.Ax
set_option maxRecDepth 100000
set_option linter.unusedSimpArgs false
set_option linter.unusedVariables false

def kidsF (m : Nd) : Bool := (List.range m.kids.length).all fun j => kidF m.kind j (m.kids.getD j default)
def preP (m : Nd) : Bool := decide (0 ≤ m.kind) && !decide (m.kind = 1) && decide (m.kind ≤ 29) && txF m.kind m.text && decide ((mostF m.kind).1 ≤ m.kids.length) && decide ((m.kids.length : Int) ≤ (mostF m.kind).2)
/-- The reference's test of a node. -/
def refP (m : Nd) : Bool := preP m && kidsF m
def shpF (n : Nd) : Bool := (nds n).all refP
theorem ndss_all (p : Nd → Bool) : ∀ l : List Nd, (ndss l).all p = l.all fun k => (nds k).all p
  | [] => rfl
  | x :: l => by simp only [ndss, List.all_append, List.all_cons, ndss_all p l]
theorem shpF_eq (n : Nd) : shpF n = (refP n && n.kids.all shpF) := by
  unfold shpF
  rw [nds_eq, List.all_cons, ndss_all]
theorem kids_false {n : Nd} {j : Nat} (hj : j < n.kids.length) (h : kidF n.kind j (n.kids.getD j default) = false ∨ shpF (n.kids.getD j default) = false) : shpF n = false := by
  rw [shpF_eq, refP]
  rcases h with h | h
  · have : kidsF n = false := by
      unfold kidsF
      rw [List.all_eq_false]
      exact ⟨j, by simpa using hj, by simp only [h]; simp⟩
    rw [this]; simp
  · have : n.kids.all shpF = false := by
      rw [List.all_eq_false]
      exact ⟨_, getD_mem' hj, by simp only [h]; simp⟩
    rw [this]; simp
theorem kids_true {n : Nd} (hp : preP n = true) (h : ∀ j, j < n.kids.length → kidF n.kind j (n.kids.getD j default) = true ∧ shpF (n.kids.getD j default) = true) : shpF n = true := by
  rw [shpF_eq, refP, hp]
  have h1 : kidsF n = true := by
    unfold kidsF
    rw [List.all_eq_true]
    intro j hj
    exact (h j (by simpa using hj)).1
  have h2 : n.kids.all shpF = true := by
    rw [List.all_eq_true]
    intro x hx
    obtain ⟨i, hi, rfl⟩ := List.mem_iff_getElem.1 hx
    have := (h i hi).2
    simpa [List.getD_eq_getElem?_getD, hi] using this
  rw [h1, h2]; rfl
theorem pre_false {n : Nd} (hp : preP n = false) : shpF n = false := by
  rw [shpF_eq, refP, hp]; simp
theorem ShapeR (n : Nd) : Sml n → ∀ H, Comp' 51 [.agg (ndR n)] H (bool (shpF n)) := by
  induction n using Nd.ind with
  | h n ih =>
  intro hs H
  refine ACall.drop (R := fun x => x = bool (shpF n)) ?_
  refine enter Try.func51 L51_ok (Nat.le_of_ble_eq_true rfl) ?_
  have hln := sml_len hs
  have htx := fun H => textR n (sml_text hs) H
  have hmo := fun H => mostR n.kind H
  have pre : ∀ b, preP n = b → preP n = b := fun _ h => h
  by_cases k1 : n.kind < 0
  · rw [pre_false (by unfold preP; rw [decide_eq_false (show ¬ 0 ≤ n.kind by omega)]; simp)]
    repeat' (first | (refine And.intro (by omega) ?_) | simp -implicitDefEqProofs (disch := omega) only [L51, cells_agg, nd_c1s, nd_len, nd_cellsV, dT_lt, dF_lt, dT_le, dF_le, dT_eq, dF_eq, push_cast, ↓reduceIte, Nat.reduceEqDiff, reduceCtorEq, Nat.reduceAdd, Nat.reduceSub, Nat.reduceMul, Nat.reduceLeDiff, Nat.reduceLT, Nat.reduceMod, Nat.reduceDiv, Int.reduceToNat, Int.reduceLT, Int.reduceLE, Int.reduceEq, Int.reduceAdd, Int.reduceSub, Int.reduceNeg, Int.reduceMul, Bool.and_self] | split)
    exact ⟨_, rfl⟩
  by_cases k2 : n.kind = 1
  · rw [pre_false (by unfold preP; rw [decide_eq_true k2]; simp)]
    repeat' (first | (refine And.intro (by omega) ?_) | simp -implicitDefEqProofs (disch := omega) only [L51, cells_agg, nd_c1s, nd_len, nd_cellsV, dT_lt, dF_lt, dT_le, dF_le, dT_eq, dF_eq, push_cast, ↓reduceIte, Nat.reduceEqDiff, reduceCtorEq, Nat.reduceAdd, Nat.reduceSub, Nat.reduceMul, Nat.reduceLeDiff, Nat.reduceLT, Nat.reduceMod, Nat.reduceDiv, Int.reduceToNat, Int.reduceLT, Int.reduceLE, Int.reduceEq, Int.reduceAdd, Int.reduceSub, Int.reduceNeg, Int.reduceMul, Bool.and_self] | split)
    exact ⟨_, rfl⟩
  by_cases k3 : 29 < n.kind
  · rw [pre_false (by unfold preP; rw [decide_eq_false (show ¬ n.kind ≤ 29 by omega)]; simp)]
    repeat' (first | (refine And.intro (by omega) ?_) | simp -implicitDefEqProofs (disch := omega) only [L51, cells_agg, nd_c1s, nd_len, nd_cellsV, dT_lt, dF_lt, dT_le, dF_le, dT_eq, dF_eq, push_cast, ↓reduceIte, Nat.reduceEqDiff, reduceCtorEq, Nat.reduceAdd, Nat.reduceSub, Nat.reduceMul, Nat.reduceLeDiff, Nat.reduceLT, Nat.reduceMod, Nat.reduceDiv, Int.reduceToNat, Int.reduceLT, Int.reduceLE, Int.reduceEq, Int.reduceAdd, Int.reduceSub, Int.reduceNeg, Int.reduceMul, Bool.and_self] | split)
    exact ⟨_, rfl⟩
  cases hx : txF n.kind n.text
  · rw [hx] at htx
    rw [pre_false (by unfold preP; rw [hx]; simp)]
    repeat' (first | (refine And.intro (by omega) ?_) | (refine callF_pure (htx _) ?_) | (refine callQF_pure (htx _) rfl ?_) | simp -implicitDefEqProofs (disch := omega) only [L51, cells_agg, nd_c1s, nd_len, nd_cellsV, nd_take, dT_lt, dF_lt, dT_le, dF_le, dT_eq, dF_eq, push_cast, ↓reduceIte, Nat.reduceEqDiff, reduceCtorEq, Nat.reduceAdd, Nat.reduceSub, Nat.reduceMul, Nat.reduceLeDiff, Nat.reduceLT, Nat.reduceMod, Nat.reduceDiv, Int.reduceToNat, Int.reduceLT, Int.reduceLE, Int.reduceEq, Int.reduceAdd, Int.reduceSub, Int.reduceNeg, Int.reduceMul, Bool.and_self] | split)
    exact ⟨_, rfl⟩
  rw [hx] at htx
  by_cases k4 : (mostF n.kind).1 ≤ n.kids.length
  · by_cases k5 : (n.kids.length : Int) ≤ (mostF n.kind).2
    · have hp : preP n = true := by
        unfold preP
        rw [hx, decide_eq_true k4, decide_eq_true k5, decide_eq_true (show 0 ≤ n.kind by omega), decide_eq_false k2, decide_eq_true (show n.kind ≤ 29 by omega)]
        rfl
      repeat' (first | (refine And.intro (by omega) ?_) | (refine callF_pure (htx _) ?_) | (refine callF_pure (hmo _) ?_) | (refine callQF_pure (htx _) rfl ?_) | (refine callQF_pure (hmo _) rfl ?_) | simp -implicitDefEqProofs (disch := omega) only [L51, cells_agg, nd_c1s, nd_len, nd_cellsV, nd_take, nd_drop4, dT_lt, dF_lt, dT_le, dF_le, dT_eq, dF_eq, push_cast, ↓reduceIte, Nat.reduceEqDiff, reduceCtorEq, Nat.reduceAdd, Nat.reduceSub, Nat.reduceMul, Nat.reduceLeDiff, Nat.reduceLT, Nat.reduceMod, Nat.reduceDiv, Int.reduceToNat, Int.reduceLT, Int.reduceLE, Int.reduceEq, Int.reduceAdd, Int.reduceSub, Int.reduceNeg, Int.reduceMul, Bool.and_self] | split)
      refine rk_loopS (fun (j : Nat) e' H' => e' 1 = .ptr H.length 0 0 ∧ e' 5 = int j ∧ H' = H ++ [.box (ndR n)] ∧ j ≤ n.kids.length ∧ ∀ i, i < j → (kidF n.kind i (n.kids.getD i default) = true ∧ shpF (n.kids.getD i default) = true)) (fun j => n.kids.length - j) 0 ?_ ?_
      · exact ⟨rfl, rfl, rfl, Nat.zero_le _, by simp⟩
      rintro j e' H' ⟨h1, h5, rfl, hj, hr⟩
      by_cases hlt : j < n.kids.length
      · have hk := getD_mem' hlt
        have hcl : ∀ a b m, clL [int a, int b, .agg (ndR m)] = true := fun a b m => by simp [clL, AV.cl, nd_clL]
        have hcl1 : ∀ m, clL [.agg (ndR m)] = true := fun m => by simp [clL, AV.cl, nd_clL]
        have c1 := kidR n.kind j (n.kids.getD j default) []
        have c2 := ih _ hk (sml_kid hs hk) []
        cases hkf : kidF n.kind j (n.kids.getD j default)
        · rw [hkf] at c1
          rw [kids_false hlt (.inl hkf)]
          simp -implicitDefEqProofs (disch := omega) only [h1, h5, nd_drop4, nd_len, rows_getD, nd_take, nd_cellsV, dT_lt, dF_lt, dT_le, dF_le, dT_eq, dF_eq, push_cast, ↓reduceIte, Nat.reduceEqDiff, reduceCtorEq, Nat.reduceAdd, Nat.reduceSub, Nat.reduceMul, Nat.reduceLeDiff, Nat.reduceLT, Nat.reduceMod, Nat.reduceDiv, Int.reduceToNat, Int.reduceLT, Int.reduceLE, Int.reduceEq, Int.reduceAdd, Int.reduceSub, Int.reduceNeg, Int.reduceMul, Bool.and_self]
          refine And.intro (by omega) (callQF_pure c1 (hcl _ _ _) ?_)
          repeat' (first | (refine And.intro (by omega) ?_) | simp -implicitDefEqProofs (disch := omega) only [h1, h5, dT_lt, dF_lt, dT_le, dF_le, dT_eq, dF_eq, push_cast, ↓reduceIte, Nat.reduceEqDiff, reduceCtorEq, Nat.reduceAdd, Nat.reduceSub, Nat.reduceMul, Nat.reduceLeDiff, Nat.reduceLT, Nat.reduceMod, Nat.reduceDiv, Int.reduceToNat, Int.reduceLT, Int.reduceLE, Int.reduceEq, Int.reduceAdd, Int.reduceSub, Int.reduceNeg, Int.reduceMul, Bool.and_self] | split)
          exact ⟨_, rfl⟩
        · rw [hkf] at c1
          cases hsf : shpF (n.kids.getD j default)
          · rw [hsf] at c2
            rw [kids_false hlt (.inr hsf)]
            simp -implicitDefEqProofs (disch := omega) only [h1, h5, nd_drop4, nd_len, rows_getD, nd_take, nd_cellsV, dT_lt, dF_lt, dT_le, dF_le, dT_eq, dF_eq, push_cast, ↓reduceIte, Nat.reduceEqDiff, reduceCtorEq, Nat.reduceAdd, Nat.reduceSub, Nat.reduceMul, Nat.reduceLeDiff, Nat.reduceLT, Nat.reduceMod, Nat.reduceDiv, Int.reduceToNat, Int.reduceLT, Int.reduceLE, Int.reduceEq, Int.reduceAdd, Int.reduceSub, Int.reduceNeg, Int.reduceMul, Bool.and_self]
            refine And.intro (by omega) (callQF_pure c1 (hcl _ _ _) ?_)
            simp -implicitDefEqProofs (disch := omega) only [h1, h5, nd_drop4, nd_len, rows_getD, nd_take, nd_cellsV, dT_lt, dF_lt, dT_le, dF_le, dT_eq, dF_eq, push_cast, ↓reduceIte, Nat.reduceEqDiff, reduceCtorEq, Nat.reduceAdd, Nat.reduceSub, Nat.reduceMul, Nat.reduceLeDiff, Nat.reduceLT, Nat.reduceMod, Nat.reduceDiv, Int.reduceToNat, Int.reduceLT, Int.reduceLE, Int.reduceEq, Int.reduceAdd, Int.reduceSub, Int.reduceNeg, Int.reduceMul, Bool.and_self]
            refine And.intro (by omega) (callQF_pure c2 (hcl1 _) ?_)
            repeat' (first | (refine And.intro (by omega) ?_) | simp -implicitDefEqProofs (disch := omega) only [h1, h5, dT_lt, dF_lt, dT_le, dF_le, dT_eq, dF_eq, push_cast, ↓reduceIte, Nat.reduceEqDiff, reduceCtorEq, Nat.reduceAdd, Nat.reduceSub, Nat.reduceMul, Nat.reduceLeDiff, Nat.reduceLT, Nat.reduceMod, Nat.reduceDiv, Int.reduceToNat, Int.reduceLT, Int.reduceLE, Int.reduceEq, Int.reduceAdd, Int.reduceSub, Int.reduceNeg, Int.reduceMul, Bool.and_self] | split)
            exact ⟨_, rfl⟩
          · rw [hsf] at c2
            simp -implicitDefEqProofs (disch := omega) only [h1, h5, nd_drop4, nd_len, rows_getD, nd_take, nd_cellsV, dT_lt, dF_lt, dT_le, dF_le, dT_eq, dF_eq, push_cast, ↓reduceIte, Nat.reduceEqDiff, reduceCtorEq, Nat.reduceAdd, Nat.reduceSub, Nat.reduceMul, Nat.reduceLeDiff, Nat.reduceLT, Nat.reduceMod, Nat.reduceDiv, Int.reduceToNat, Int.reduceLT, Int.reduceLE, Int.reduceEq, Int.reduceAdd, Int.reduceSub, Int.reduceNeg, Int.reduceMul, Bool.and_self]
            refine And.intro (by omega) (callQF_pure c1 (hcl _ _ _) ?_)
            simp -implicitDefEqProofs (disch := omega) only [h1, h5, nd_drop4, nd_len, rows_getD, nd_take, nd_cellsV, dT_lt, dF_lt, dT_le, dF_le, dT_eq, dF_eq, push_cast, ↓reduceIte, Nat.reduceEqDiff, reduceCtorEq, Nat.reduceAdd, Nat.reduceSub, Nat.reduceMul, Nat.reduceLeDiff, Nat.reduceLT, Nat.reduceMod, Nat.reduceDiv, Int.reduceToNat, Int.reduceLT, Int.reduceLE, Int.reduceEq, Int.reduceAdd, Int.reduceSub, Int.reduceNeg, Int.reduceMul, Bool.and_self]
            refine And.intro (by omega) (callQF_pure c2 (hcl1 _) ?_)
            repeat' (first | (refine And.intro (by omega) ?_) | simp -implicitDefEqProofs (disch := omega) only [h1, h5, dT_lt, dF_lt, dT_le, dF_le, dT_eq, dF_eq, push_cast, ↓reduceIte, Nat.reduceEqDiff, reduceCtorEq, Nat.reduceAdd, Nat.reduceSub, Nat.reduceMul, Nat.reduceLeDiff, Nat.reduceLT, Nat.reduceMod, Nat.reduceDiv, Int.reduceToNat, Int.reduceLT, Int.reduceLE, Int.reduceEq, Int.reduceAdd, Int.reduceSub, Int.reduceNeg, Int.reduceMul, Bool.and_self] | split)
            exact .mk (j + 1) ⟨h1, rfl, rfl, hlt, upto_succ hr ⟨hkf, hsf⟩⟩ (by omega)
      · rw [kids_true hp fun i hi => hr i (by omega)]
        repeat' (first | (refine And.intro (by omega) ?_) | simp -implicitDefEqProofs (disch := omega) only [h1, h5, nd_drop4, nd_len, dT_lt, dF_lt, dT_le, dF_le, dT_eq, dF_eq, push_cast, ↓reduceIte, Nat.reduceEqDiff, reduceCtorEq, Nat.reduceAdd, Nat.reduceSub, Nat.reduceMul, Nat.reduceLeDiff, Nat.reduceLT, Nat.reduceMod, Nat.reduceDiv, Int.reduceToNat, Int.reduceLT, Int.reduceLE, Int.reduceEq, Int.reduceAdd, Int.reduceSub, Int.reduceNeg, Int.reduceMul, Bool.and_self] | split)
        exact ⟨_, rfl⟩
    · rw [pre_false (by unfold preP; rw [decide_eq_false k5]; simp)]
      repeat' (first | (refine And.intro (by omega) ?_) | (refine callF_pure (htx _) ?_) | (refine callF_pure (hmo _) ?_) | (refine callQF_pure (htx _) rfl ?_) | (refine callQF_pure (hmo _) rfl ?_) | simp -implicitDefEqProofs (disch := omega) only [L51, cells_agg, nd_c1s, nd_len, nd_cellsV, nd_take, nd_drop4, dT_lt, dF_lt, dT_le, dF_le, dT_eq, dF_eq, push_cast, ↓reduceIte, Nat.reduceEqDiff, reduceCtorEq, Nat.reduceAdd, Nat.reduceSub, Nat.reduceMul, Nat.reduceLeDiff, Nat.reduceLT, Nat.reduceMod, Nat.reduceDiv, Int.reduceToNat, Int.reduceLT, Int.reduceLE, Int.reduceEq, Int.reduceAdd, Int.reduceSub, Int.reduceNeg, Int.reduceMul, Bool.and_self] | split)
      exact ⟨_, rfl⟩
  · rw [pre_false (by unfold preP; rw [decide_eq_false k4]; simp)]
    repeat' (first | (refine And.intro (by omega) ?_) | (refine callF_pure (htx _) ?_) | (refine callF_pure (hmo _) ?_) | (refine callQF_pure (htx _) rfl ?_) | (refine callQF_pure (hmo _) rfl ?_) | simp -implicitDefEqProofs (disch := omega) only [L51, cells_agg, nd_c1s, nd_len, nd_cellsV, nd_take, nd_drop4, dT_lt, dF_lt, dT_le, dF_le, dT_eq, dF_eq, push_cast, ↓reduceIte, Nat.reduceEqDiff, reduceCtorEq, Nat.reduceAdd, Nat.reduceSub, Nat.reduceMul, Nat.reduceLeDiff, Nat.reduceLT, Nat.reduceMod, Nat.reduceDiv, Int.reduceToNat, Int.reduceLT, Int.reduceLE, Int.reduceEq, Int.reduceAdd, Int.reduceSub, Int.reduceNeg, Int.reduceMul, Bool.and_self] | split)
    exact ⟨_, rfl⟩

theorem range_all {ks : List Nd} {f : Nd → Bool} : ((List.range ks.length).all fun j => f (ks.getD j default)) = ks.all f := by
  rw [Bool.eq_iff_iff, List.all_eq_true, List.all_eq_true]
  constructor
  · intro h x hx
    obtain ⟨i, hi, rfl⟩ := List.mem_iff_getElem.1 hx
    have := h i (by simpa using hi)
    simpa [List.getD_eq_getElem?_getD, hi] using this
  · intro h j hj
    exact h _ (getD_mem' (by simpa using hj))
theorem loc_ref (m : Nd) (hl : m.kids.length ≤ 4096) : locP m = refP m := by
  obtain ⟨k, t, a, e, ks⟩ := m
  simp only [locP, refP, preP, kidsF, Nd.kind, Nd.text, Nd.kids] at hl ⊢
  have hl2 : (ks.length : Int) ≤ 4096 := by omega
  have hl3 : (0 : Int) ≤ ks.length := by omega
  rcases kind_cases k with h | rfl | rfl | rfl | rfl | rfl | rfl | rfl | rfl | rfl | rfl | rfl | rfl | rfl | rfl | rfl | rfl | rfl | rfl | rfl | rfl | rfl | rfl | rfl | rfl | rfl | rfl | rfl | rfl | rfl | rfl
  · rw [(sh_out (k := k) (by omega)).1]
    rw [Bool.eq_iff_iff]
    simp only [Bool.and_eq_true, decide_eq_true_eq, Bool.false_eq_true, false_iff]
    rintro ⟨⟨⟨⟨⟨⟨g1, _⟩, g2⟩, _⟩, _⟩, _⟩, _⟩
    have g1 := of_decide_eq_true g1
    have g2 := of_decide_eq_true g2
    omega
  · by_cases hn : ks.length = 0
    · match ks, hn with
      | [], _ =>
        rw [Bool.eq_iff_iff]
        simp [shapeOf, fitsF, txF, mostF, kidF, Nd.text, Nd.kids, List.range_succ, and_assoc]
        all_goals grind
    · have h1 : (match shapeOf 0 with
          | none => false
          | some sh => fitsF sh (Nd.mk 0 t a e ks)) = false := by
        simp [shapeOf, fitsF, Nd.text, Nd.kids, hn]
      have h2 : (decide ((mostF 0).1 ≤ (ks.length : Int)) && decide ((ks.length : Int) ≤ (mostF 0).2)) = false := by
        simp only [mostF, Int.reduceEq, or_self, or_false, false_or, or_true, true_or, ↓reduceIte, Bool.and_eq_false_iff, decide_eq_false_iff_not]
        omega
      rw [Bool.eq_iff_iff]
      simp only [Bool.and_eq_false_iff] at h2
      simp [shapeOf, fitsF, Nd.text, Nd.kids, hn]
      all_goals grind
  · rfl
  · have hk : ∀ (j : Int) m, kidF 2 j m = (decide (m.kind = 3) || decide (m.kind = 5)) := fun _ _ => rfl
    simp only [hk]
    rw [range_all (f := fun m => decide (m.kind = 3) || decide (m.kind = 5))]
    rw [Bool.eq_iff_iff]
    simp [shapeOf, fitsF, txF, mostF, hl, hl2, hl3, Nd.text, Nd.kids]
    all_goals grind
  · have hk : ∀ (j : Int) m, kidF 3 j m = (decide (m.kind = 4)) := fun _ _ => rfl
    simp only [hk]
    rw [range_all (f := fun m => decide (m.kind = 4))]
    rw [Bool.eq_iff_iff]
    simp [shapeOf, fitsF, txF, mostF, hl, hl2, hl3, Nd.text, Nd.kids]
    all_goals grind
  · by_cases hn : ks.length = 1
    · match ks, hn with
      | [x], _ =>
        rw [Bool.eq_iff_iff]
        simp [shapeOf, fitsF, txF, mostF, kidF, Nd.text, Nd.kids, List.range_succ, and_assoc]
        all_goals grind
    · have h1 : (match shapeOf 4 with
          | none => false
          | some sh => fitsF sh (Nd.mk 4 t a e ks)) = false := by
        simp [shapeOf, fitsF, Nd.text, Nd.kids, hn]
      have h2 : (decide ((mostF 4).1 ≤ (ks.length : Int)) && decide ((ks.length : Int) ≤ (mostF 4).2)) = false := by
        simp only [mostF, Int.reduceEq, or_self, or_false, false_or, or_true, true_or, ↓reduceIte, Bool.and_eq_false_iff, decide_eq_false_iff_not]
        omega
      rw [Bool.eq_iff_iff]
      simp only [Bool.and_eq_false_iff] at h2
      simp [shapeOf, fitsF, Nd.text, Nd.kids, hn]
      all_goals grind
  · by_cases hn : ks.length = 3
    · match ks, hn with
      | [x, y, z], _ =>
        rw [Bool.eq_iff_iff]
        simp [shapeOf, fitsF, txF, mostF, kidF, Nd.text, Nd.kids, List.range_succ, and_assoc]
        all_goals grind
    · have h1 : (match shapeOf 5 with
          | none => false
          | some sh => fitsF sh (Nd.mk 5 t a e ks)) = false := by
        simp [shapeOf, fitsF, Nd.text, Nd.kids, hn]
      have h2 : (decide ((mostF 5).1 ≤ (ks.length : Int)) && decide ((ks.length : Int) ≤ (mostF 5).2)) = false := by
        simp only [mostF, Int.reduceEq, or_self, or_false, false_or, or_true, true_or, ↓reduceIte, Bool.and_eq_false_iff, decide_eq_false_iff_not]
        omega
      rw [Bool.eq_iff_iff]
      simp only [Bool.and_eq_false_iff] at h2
      simp [shapeOf, fitsF, Nd.text, Nd.kids, hn]
      all_goals grind
  · have hk : ∀ (j : Int) m, kidF 6 j m = (decide (m.kind = 7) || decide (m.kind = 8)) := fun _ _ => rfl
    simp only [hk]
    rw [range_all (f := fun m => decide (m.kind = 7) || decide (m.kind = 8))]
    rw [Bool.eq_iff_iff]
    simp [shapeOf, fitsF, txF, mostF, hl, hl2, hl3, Nd.text, Nd.kids]
    all_goals grind
  · by_cases hn : ks.length = 1
    · match ks, hn with
      | [x], _ =>
        rw [Bool.eq_iff_iff]
        simp [shapeOf, fitsF, txF, mostF, kidF, Nd.text, Nd.kids, List.range_succ, and_assoc]
        all_goals grind
    · have h1 : (match shapeOf 7 with
          | none => false
          | some sh => fitsF sh (Nd.mk 7 t a e ks)) = false := by
        simp [shapeOf, fitsF, Nd.text, Nd.kids, hn]
      have h2 : (decide ((mostF 7).1 ≤ (ks.length : Int)) && decide ((ks.length : Int) ≤ (mostF 7).2)) = false := by
        simp only [mostF, Int.reduceEq, or_self, or_false, false_or, or_true, true_or, ↓reduceIte, Bool.and_eq_false_iff, decide_eq_false_iff_not]
        omega
      rw [Bool.eq_iff_iff]
      simp only [Bool.and_eq_false_iff] at h2
      simp [shapeOf, fitsF, Nd.text, Nd.kids, hn]
      all_goals grind
  · by_cases hn : ks.length = 1
    · match ks, hn with
      | [x], _ =>
        rw [Bool.eq_iff_iff]
        simp [shapeOf, fitsF, txF, mostF, kidF, Nd.text, Nd.kids, List.range_succ, and_assoc]
        all_goals grind
    · have h1 : (match shapeOf 8 with
          | none => false
          | some sh => fitsF sh (Nd.mk 8 t a e ks)) = false := by
        simp [shapeOf, fitsF, Nd.text, Nd.kids, hn]
      have h2 : (decide ((mostF 8).1 ≤ (ks.length : Int)) && decide ((ks.length : Int) ≤ (mostF 8).2)) = false := by
        simp only [mostF, Int.reduceEq, or_self, or_false, false_or, or_true, true_or, ↓reduceIte, Bool.and_eq_false_iff, decide_eq_false_iff_not]
        omega
      rw [Bool.eq_iff_iff]
      simp only [Bool.and_eq_false_iff] at h2
      simp [shapeOf, fitsF, Nd.text, Nd.kids, hn]
      all_goals grind
  · by_cases hn : ks.length = 0
    · match ks, hn with
      | [], _ =>
        rw [Bool.eq_iff_iff]
        simp [shapeOf, fitsF, txF, mostF, kidF, Nd.text, Nd.kids, List.range_succ, and_assoc]
        all_goals grind
    · have h1 : (match shapeOf 9 with
          | none => false
          | some sh => fitsF sh (Nd.mk 9 t a e ks)) = false := by
        simp [shapeOf, fitsF, Nd.text, Nd.kids, hn]
      have h2 : (decide ((mostF 9).1 ≤ (ks.length : Int)) && decide ((ks.length : Int) ≤ (mostF 9).2)) = false := by
        simp only [mostF, Int.reduceEq, or_self, or_false, false_or, or_true, true_or, ↓reduceIte, Bool.and_eq_false_iff, decide_eq_false_iff_not]
        omega
      rw [Bool.eq_iff_iff]
      simp only [Bool.and_eq_false_iff] at h2
      simp [shapeOf, fitsF, Nd.text, Nd.kids, hn]
      all_goals grind
  · by_cases hn : ks.length = 0
    · match ks, hn with
      | [], _ =>
        rw [Bool.eq_iff_iff]
        simp [shapeOf, fitsF, txF, mostF, kidF, Nd.text, Nd.kids, List.range_succ, and_assoc]
        all_goals grind
    · have h1 : (match shapeOf 10 with
          | none => false
          | some sh => fitsF sh (Nd.mk 10 t a e ks)) = false := by
        simp [shapeOf, fitsF, Nd.text, Nd.kids, hn]
      have h2 : (decide ((mostF 10).1 ≤ (ks.length : Int)) && decide ((ks.length : Int) ≤ (mostF 10).2)) = false := by
        simp only [mostF, Int.reduceEq, or_self, or_false, false_or, or_true, true_or, ↓reduceIte, Bool.and_eq_false_iff, decide_eq_false_iff_not]
        omega
      rw [Bool.eq_iff_iff]
      simp only [Bool.and_eq_false_iff] at h2
      simp [shapeOf, fitsF, Nd.text, Nd.kids, hn]
      all_goals grind
  · have hk : ∀ (j : Int) m, kidF 11 j m = (isSt m.kind) := fun _ _ => rfl
    simp only [hk]
    rw [range_all (f := fun m => isSt m.kind)]
    rw [Bool.eq_iff_iff]
    simp [shapeOf, fitsF, txF, mostF, hl, hl2, hl3, Nd.text, Nd.kids]
    all_goals grind
  · by_cases hn : ks.length = 2
    · match ks, hn with
      | [x, y], _ =>
        rw [Bool.eq_iff_iff]
        simp [shapeOf, fitsF, txF, mostF, kidF, Nd.text, Nd.kids, List.range_succ, and_assoc]
        all_goals grind
    · have h1 : (match shapeOf 12 with
          | none => false
          | some sh => fitsF sh (Nd.mk 12 t a e ks)) = false := by
        simp [shapeOf, fitsF, Nd.text, Nd.kids, hn]
      have h2 : (decide ((mostF 12).1 ≤ (ks.length : Int)) && decide ((ks.length : Int) ≤ (mostF 12).2)) = false := by
        simp only [mostF, Int.reduceEq, or_self, or_false, false_or, or_true, true_or, ↓reduceIte, Bool.and_eq_false_iff, decide_eq_false_iff_not]
        omega
      rw [Bool.eq_iff_iff]
      simp only [Bool.and_eq_false_iff] at h2
      simp [shapeOf, fitsF, Nd.text, Nd.kids, hn]
      all_goals grind
  · by_cases hn : ks.length = 2
    · match ks, hn with
      | [x, y], _ =>
        rw [Bool.eq_iff_iff]
        simp [shapeOf, fitsF, txF, mostF, kidF, Nd.text, Nd.kids, List.range_succ, and_assoc]
        all_goals grind
    · have h1 : (match shapeOf 13 with
          | none => false
          | some sh => fitsF sh (Nd.mk 13 t a e ks)) = false := by
        simp [shapeOf, fitsF, Nd.text, Nd.kids, hn]
      have h2 : (decide ((mostF 13).1 ≤ (ks.length : Int)) && decide ((ks.length : Int) ≤ (mostF 13).2)) = false := by
        simp only [mostF, Int.reduceEq, or_self, or_false, false_or, or_true, true_or, ↓reduceIte, Bool.and_eq_false_iff, decide_eq_false_iff_not]
        omega
      rw [Bool.eq_iff_iff]
      simp only [Bool.and_eq_false_iff] at h2
      simp [shapeOf, fitsF, Nd.text, Nd.kids, hn]
      all_goals grind
  · by_cases hn : ks.length = 3
    · match ks, hn with
      | [x, y, z], _ =>
        rw [Bool.eq_iff_iff]
        simp [shapeOf, fitsF, txF, mostF, kidF, Nd.text, Nd.kids, List.range_succ, and_assoc]
        all_goals grind
    · have h1 : (match shapeOf 14 with
          | none => false
          | some sh => fitsF sh (Nd.mk 14 t a e ks)) = false := by
        simp [shapeOf, fitsF, Nd.text, Nd.kids, hn]
      have h2 : (decide ((mostF 14).1 ≤ (ks.length : Int)) && decide ((ks.length : Int) ≤ (mostF 14).2)) = false := by
        simp only [mostF, Int.reduceEq, or_self, or_false, false_or, or_true, true_or, ↓reduceIte, Bool.and_eq_false_iff, decide_eq_false_iff_not]
        omega
      rw [Bool.eq_iff_iff]
      simp only [Bool.and_eq_false_iff] at h2
      simp [shapeOf, fitsF, Nd.text, Nd.kids, hn]
      all_goals grind
  · by_cases hn : ks.length = 2
    · match ks, hn with
      | [x, y], _ =>
        rw [Bool.eq_iff_iff]
        simp [shapeOf, fitsF, txF, mostF, kidF, Nd.text, Nd.kids, List.range_succ, and_assoc]
        all_goals grind
    · have h1 : (match shapeOf 15 with
          | none => false
          | some sh => fitsF sh (Nd.mk 15 t a e ks)) = false := by
        simp [shapeOf, fitsF, Nd.text, Nd.kids, hn]
      have h2 : (decide ((mostF 15).1 ≤ (ks.length : Int)) && decide ((ks.length : Int) ≤ (mostF 15).2)) = false := by
        simp only [mostF, Int.reduceEq, or_self, or_false, false_or, or_true, true_or, ↓reduceIte, Bool.and_eq_false_iff, decide_eq_false_iff_not]
        omega
      rw [Bool.eq_iff_iff]
      simp only [Bool.and_eq_false_iff] at h2
      simp [shapeOf, fitsF, Nd.text, Nd.kids, hn]
      all_goals grind
  · by_cases hn : ks.length = 3
    · match ks, hn with
      | [x, y, z], _ =>
        rw [Bool.eq_iff_iff]
        simp [shapeOf, fitsF, txF, mostF, kidF, Nd.text, Nd.kids, List.range_succ, and_assoc]
        all_goals grind
    · have h1 : (match shapeOf 16 with
          | none => false
          | some sh => fitsF sh (Nd.mk 16 t a e ks)) = false := by
        simp [shapeOf, fitsF, Nd.text, Nd.kids, hn]
      have h2 : (decide ((mostF 16).1 ≤ (ks.length : Int)) && decide ((ks.length : Int) ≤ (mostF 16).2)) = false := by
        simp only [mostF, Int.reduceEq, or_self, or_false, false_or, or_true, true_or, ↓reduceIte, Bool.and_eq_false_iff, decide_eq_false_iff_not]
        omega
      rw [Bool.eq_iff_iff]
      simp only [Bool.and_eq_false_iff] at h2
      simp [shapeOf, fitsF, Nd.text, Nd.kids, hn]
      all_goals grind
  · by_cases hn : ks.length = 1
    · match ks, hn with
      | [x], _ =>
        rw [Bool.eq_iff_iff]
        simp [shapeOf, fitsF, txF, mostF, kidF, Nd.text, Nd.kids, List.range_succ, and_assoc]
        all_goals grind
    · have h1 : (match shapeOf 17 with
          | none => false
          | some sh => fitsF sh (Nd.mk 17 t a e ks)) = false := by
        simp [shapeOf, fitsF, Nd.text, Nd.kids, hn]
      have h2 : (decide ((mostF 17).1 ≤ (ks.length : Int)) && decide ((ks.length : Int) ≤ (mostF 17).2)) = false := by
        simp only [mostF, Int.reduceEq, or_self, or_false, false_or, or_true, true_or, ↓reduceIte, Bool.and_eq_false_iff, decide_eq_false_iff_not]
        omega
      rw [Bool.eq_iff_iff]
      simp only [Bool.and_eq_false_iff] at h2
      simp [shapeOf, fitsF, Nd.text, Nd.kids, hn]
      all_goals grind
  · by_cases hn : ks.length = 1
    · match ks, hn with
      | [x], _ =>
        rw [Bool.eq_iff_iff]
        simp [shapeOf, fitsF, txF, mostF, kidF, Nd.text, Nd.kids, List.range_succ, and_assoc]
        all_goals grind
    · have h1 : (match shapeOf 18 with
          | none => false
          | some sh => fitsF sh (Nd.mk 18 t a e ks)) = false := by
        simp [shapeOf, fitsF, Nd.text, Nd.kids, hn]
      have h2 : (decide ((mostF 18).1 ≤ (ks.length : Int)) && decide ((ks.length : Int) ≤ (mostF 18).2)) = false := by
        simp only [mostF, Int.reduceEq, or_self, or_false, false_or, or_true, true_or, ↓reduceIte, Bool.and_eq_false_iff, decide_eq_false_iff_not]
        omega
      rw [Bool.eq_iff_iff]
      simp only [Bool.and_eq_false_iff] at h2
      simp [shapeOf, fitsF, Nd.text, Nd.kids, hn]
      all_goals grind
  · have hk : ∀ (j : Int) m, kidF 19 j m = (isEx m.kind) := fun _ _ => rfl
    simp only [hk]
    rw [range_all (f := fun m => isEx m.kind)]
    rw [Bool.eq_iff_iff]
    simp [shapeOf, fitsF, txF, mostF, hl, hl2, hl3, Nd.text, Nd.kids]
    all_goals grind
  · by_cases hn : ks.length = 0
    · match ks, hn with
      | [], _ =>
        rw [Bool.eq_iff_iff]
        simp [shapeOf, fitsF, txF, mostF, kidF, Nd.text, Nd.kids, List.range_succ, and_assoc]
        all_goals grind
    · have h1 : (match shapeOf 20 with
          | none => false
          | some sh => fitsF sh (Nd.mk 20 t a e ks)) = false := by
        simp [shapeOf, fitsF, Nd.text, Nd.kids, hn]
      have h2 : (decide ((mostF 20).1 ≤ (ks.length : Int)) && decide ((ks.length : Int) ≤ (mostF 20).2)) = false := by
        simp only [mostF, Int.reduceEq, or_self, or_false, false_or, or_true, true_or, ↓reduceIte, Bool.and_eq_false_iff, decide_eq_false_iff_not]
        omega
      rw [Bool.eq_iff_iff]
      simp only [Bool.and_eq_false_iff] at h2
      simp [shapeOf, fitsF, Nd.text, Nd.kids, hn]
      all_goals grind
  · by_cases hn : ks.length = 2
    · match ks, hn with
      | [x, y], _ =>
        rw [Bool.eq_iff_iff]
        simp [shapeOf, fitsF, txF, mostF, kidF, Nd.text, Nd.kids, List.range_succ, and_assoc]
        all_goals grind
    · have h1 : (match shapeOf 21 with
          | none => false
          | some sh => fitsF sh (Nd.mk 21 t a e ks)) = false := by
        simp [shapeOf, fitsF, Nd.text, Nd.kids, hn]
      have h2 : (decide ((mostF 21).1 ≤ (ks.length : Int)) && decide ((ks.length : Int) ≤ (mostF 21).2)) = false := by
        simp only [mostF, Int.reduceEq, or_self, or_false, false_or, or_true, true_or, ↓reduceIte, Bool.and_eq_false_iff, decide_eq_false_iff_not]
        omega
      rw [Bool.eq_iff_iff]
      simp only [Bool.and_eq_false_iff] at h2
      simp [shapeOf, fitsF, Nd.text, Nd.kids, hn]
      all_goals grind
  · by_cases hn : ks.length = 1
    · match ks, hn with
      | [x], _ =>
        rw [Bool.eq_iff_iff]
        simp [shapeOf, fitsF, txF, mostF, kidF, Nd.text, Nd.kids, List.range_succ, and_assoc]
        all_goals grind
    · have h1 : (match shapeOf 22 with
          | none => false
          | some sh => fitsF sh (Nd.mk 22 t a e ks)) = false := by
        simp [shapeOf, fitsF, Nd.text, Nd.kids, hn]
      have h2 : (decide ((mostF 22).1 ≤ (ks.length : Int)) && decide ((ks.length : Int) ≤ (mostF 22).2)) = false := by
        simp only [mostF, Int.reduceEq, or_self, or_false, false_or, or_true, true_or, ↓reduceIte, Bool.and_eq_false_iff, decide_eq_false_iff_not]
        omega
      rw [Bool.eq_iff_iff]
      simp only [Bool.and_eq_false_iff] at h2
      simp [shapeOf, fitsF, Nd.text, Nd.kids, hn]
      all_goals grind
  · by_cases hn : ks.length = 1
    · match ks, hn with
      | [x], _ =>
        rw [Bool.eq_iff_iff]
        simp [shapeOf, fitsF, txF, mostF, kidF, Nd.text, Nd.kids, List.range_succ, and_assoc]
        all_goals grind
    · have h1 : (match shapeOf 23 with
          | none => false
          | some sh => fitsF sh (Nd.mk 23 t a e ks)) = false := by
        simp [shapeOf, fitsF, Nd.text, Nd.kids, hn]
      have h2 : (decide ((mostF 23).1 ≤ (ks.length : Int)) && decide ((ks.length : Int) ≤ (mostF 23).2)) = false := by
        simp only [mostF, Int.reduceEq, or_self, or_false, false_or, or_true, true_or, ↓reduceIte, Bool.and_eq_false_iff, decide_eq_false_iff_not]
        omega
      rw [Bool.eq_iff_iff]
      simp only [Bool.and_eq_false_iff] at h2
      simp [shapeOf, fitsF, Nd.text, Nd.kids, hn]
      all_goals grind
  · by_cases hn : ks.length = 0
    · match ks, hn with
      | [], _ =>
        rw [Bool.eq_iff_iff]
        simp [shapeOf, fitsF, txF, mostF, kidF, Nd.text, Nd.kids, List.range_succ, and_assoc]
        all_goals grind
    · have h1 : (match shapeOf 24 with
          | none => false
          | some sh => fitsF sh (Nd.mk 24 t a e ks)) = false := by
        simp [shapeOf, fitsF, Nd.text, Nd.kids, hn]
      have h2 : (decide ((mostF 24).1 ≤ (ks.length : Int)) && decide ((ks.length : Int) ≤ (mostF 24).2)) = false := by
        simp only [mostF, Int.reduceEq, or_self, or_false, false_or, or_true, true_or, ↓reduceIte, Bool.and_eq_false_iff, decide_eq_false_iff_not]
        omega
      rw [Bool.eq_iff_iff]
      simp only [Bool.and_eq_false_iff] at h2
      simp [shapeOf, fitsF, Nd.text, Nd.kids, hn]
      all_goals grind
  · by_cases hn : ks.length = 0
    · match ks, hn with
      | [], _ =>
        rw [Bool.eq_iff_iff]
        simp [shapeOf, fitsF, txF, mostF, kidF, Nd.text, Nd.kids, List.range_succ, and_assoc]
        all_goals grind
    · have h1 : (match shapeOf 25 with
          | none => false
          | some sh => fitsF sh (Nd.mk 25 t a e ks)) = false := by
        simp [shapeOf, fitsF, Nd.text, Nd.kids, hn]
      have h2 : (decide ((mostF 25).1 ≤ (ks.length : Int)) && decide ((ks.length : Int) ≤ (mostF 25).2)) = false := by
        simp only [mostF, Int.reduceEq, or_self, or_false, false_or, or_true, true_or, ↓reduceIte, Bool.and_eq_false_iff, decide_eq_false_iff_not]
        omega
      rw [Bool.eq_iff_iff]
      simp only [Bool.and_eq_false_iff] at h2
      simp [shapeOf, fitsF, Nd.text, Nd.kids, hn]
      all_goals grind
  · have hk : ∀ (j : Int) m, kidF 26 j m = (isEx m.kind) := fun _ _ => rfl
    simp only [hk]
    rw [range_all (f := fun m => isEx m.kind)]
    rw [Bool.eq_iff_iff]
    simp [shapeOf, fitsF, txF, mostF, hl, hl2, hl3, Nd.text, Nd.kids]
    all_goals grind
  · have hk : ∀ (j : Int) m, kidF 27 j m = (isEx m.kind) := fun _ _ => rfl
    simp only [hk]
    rw [range_all (f := fun m => isEx m.kind)]
    rw [Bool.eq_iff_iff]
    simp [shapeOf, fitsF, txF, mostF, hl, hl2, hl3, Nd.text, Nd.kids]
    all_goals grind
  · by_cases hn : ks.length = 1
    · match ks, hn with
      | [x], _ =>
        rw [Bool.eq_iff_iff]
        simp [shapeOf, fitsF, txF, mostF, kidF, Nd.text, Nd.kids, List.range_succ, and_assoc]
        all_goals grind
    · have h1 : (match shapeOf 28 with
          | none => false
          | some sh => fitsF sh (Nd.mk 28 t a e ks)) = false := by
        simp [shapeOf, fitsF, Nd.text, Nd.kids, hn]
      have h2 : (decide ((mostF 28).1 ≤ (ks.length : Int)) && decide ((ks.length : Int) ≤ (mostF 28).2)) = false := by
        simp only [mostF, Int.reduceEq, or_self, or_false, false_or, or_true, true_or, ↓reduceIte, Bool.and_eq_false_iff, decide_eq_false_iff_not]
        omega
      rw [Bool.eq_iff_iff]
      simp only [Bool.and_eq_false_iff] at h2
      simp [shapeOf, fitsF, Nd.text, Nd.kids, hn]
      all_goals grind
  · by_cases hn : ks.length = 2
    · match ks, hn with
      | [x, y], _ =>
        rw [Bool.eq_iff_iff]
        simp [shapeOf, fitsF, txF, mostF, kidF, Nd.text, Nd.kids, List.range_succ, and_assoc]
        all_goals grind
    · have h1 : (match shapeOf 29 with
          | none => false
          | some sh => fitsF sh (Nd.mk 29 t a e ks)) = false := by
        simp [shapeOf, fitsF, Nd.text, Nd.kids, hn]
      have h2 : (decide ((mostF 29).1 ≤ (ks.length : Int)) && decide ((ks.length : Int) ≤ (mostF 29).2)) = false := by
        simp only [mostF, Int.reduceEq, or_self, or_false, false_or, or_true, true_or, ↓reduceIte, Bool.and_eq_false_iff, decide_eq_false_iff_not]
        omega
      rw [Bool.eq_iff_iff]
      simp only [Bool.and_eq_false_iff] at h2
      simp [shapeOf, fitsF, Nd.text, Nd.kids, hn]
      all_goals grind
#print axioms loc_ref
#print axioms ShapeR
end Go.Proofs.Ytnbdogodcjhfiaa

/- Trees: Valid, Expression, Statement; sameness. -/
namespace Go.Proofs.Ytnbdogodcjhfiaa
open Go Go.Ax
set_option maxRecDepth 100000
set_option linter.unusedSimpArgs false
set_option linter.unusedVariables false

mutual
theorem nds_mem {m : Nd} : ∀ {n : Nd}, m ∈ nds n → cnt m ≤ cnt n
  | .mk k t a e ks, h => by
    simp only [nds, List.mem_cons] at h
    rcases h with rfl | h
    · exact Nat.le_refl _
    · have := ndss_mem h
      simp only [cnt]
      omega
theorem ndss_mem {m : Nd} : ∀ {l : List Nd}, m ∈ ndss l → cnt m ≤ cnts l
  | [], h => by simp [ndss] at h
  | x :: l, h => by
    simp only [ndss, List.mem_append] at h
    simp only [cnts]
    rcases h with h | h
    · have := nds_mem h; omega
    · have := ndss_mem h; omega
end
/-- Both say the same of trees that are not too great. -/
theorem shaped_ref {n : Nd} (h : cnt n ≤ 4096) : shapedF n = shpF n := by
  unfold shapedF shpF
  rw [Bool.eq_iff_iff, List.all_eq_true, List.all_eq_true]
  have hm : ∀ m ∈ nds n, locP m = refP m := fun m hm => loc_ref m (by
    have h1 := nds_mem hm
    have h2 := cnts_len m.kids
    rw [cnt_eq] at h1
    omega)
  exact ⟨fun hh m h => by rw [← hm m h]; exact hh m h, fun hh m h => by rw [hm m h]; exact hh m h⟩

theorem ValidT (n : Nd) (hs : Sml n) (H : AHeap) : Comp' 13 [.agg (ndR n)] H (bool (decide (n.kind = 2) && shapedF n)) := by
  refine ACall.drop (R := fun x => x = bool (decide (n.kind = 2) && shapedF n)) ?_
  refine enter Try.func13 L13_ok (Nat.le_of_ble_eq_true rfl) ?_
  by_cases h : n.kind = 2
  · rw [decide_eq_true h, Bool.true_and]
    repeat' (first | (refine And.intro (by omega) ?_) | (refine callF_pure (shapedC n hs _) ?_) | (refine callQF_pure (shapedC n hs _) rfl ?_) | simp -implicitDefEqProofs (disch := omega) only [L13, cells_agg, nd_c1s, nd_len, nd_cellsV, nd_take, dT_lt, dF_lt, dT_le, dF_le, dT_eq, dF_eq, push_cast, ↓reduceIte, Nat.reduceEqDiff, reduceCtorEq, Nat.reduceAdd, Nat.reduceSub, Nat.reduceMul, Nat.reduceLeDiff, Nat.reduceLT, Nat.reduceMod, Nat.reduceDiv, Int.reduceToNat, Int.reduceLT, Int.reduceLE, Int.reduceEq, Int.reduceAdd, Int.reduceSub, Int.reduceNeg, Int.reduceMul, Bool.and_self] | split)
    exact ⟨_, rfl⟩
  · rw [decide_eq_false h, Bool.false_and]
    repeat' (first | (refine And.intro (by omega) ?_) | (refine callF_pure (shapedC n hs _) ?_) | (refine callQF_pure (shapedC n hs _) rfl ?_) | simp -implicitDefEqProofs (disch := omega) only [L13, cells_agg, nd_c1s, nd_len, nd_cellsV, nd_take, dT_lt, dF_lt, dT_le, dF_le, dT_eq, dF_eq, push_cast, ↓reduceIte, Nat.reduceEqDiff, reduceCtorEq, Nat.reduceAdd, Nat.reduceSub, Nat.reduceMul, Nat.reduceLeDiff, Nat.reduceLT, Nat.reduceMod, Nat.reduceDiv, Int.reduceToNat, Int.reduceLT, Int.reduceLE, Int.reduceEq, Int.reduceAdd, Int.reduceSub, Int.reduceNeg, Int.reduceMul, Bool.and_self] | split)
    exact ⟨_, rfl⟩
theorem ExprT (n : Nd) (hs : Sml n) (H : AHeap) : Comp' 15 [.agg (ndR n)] H (bool (isEx n.kind && shapedF n)) := by
  refine ACall.drop (R := fun x => x = bool (isEx n.kind && shapedF n)) ?_
  refine enter Try.func15 L15_ok (Nat.le_of_ble_eq_true rfl) ?_
  have hc := fun H => isExpressionC n.kind H
  cases h : isEx n.kind
  · rw [h] at hc
    repeat' (first | (refine And.intro (by omega) ?_) | (refine callF_pure (hc _) ?_) | (refine callF_pure (shapedC n hs _) ?_) | (refine callQF_pure (hc _) rfl ?_) | (refine callQF_pure (shapedC n hs _) rfl ?_) | simp -implicitDefEqProofs (disch := omega) only [L15, cells_agg, nd_c1s, nd_len, nd_cellsV, nd_take, dT_lt, dF_lt, dT_le, dF_le, dT_eq, dF_eq, push_cast, ↓reduceIte, Nat.reduceEqDiff, reduceCtorEq, Nat.reduceAdd, Nat.reduceSub, Nat.reduceMul, Nat.reduceLeDiff, Nat.reduceLT, Nat.reduceMod, Nat.reduceDiv, Int.reduceToNat, Int.reduceLT, Int.reduceLE, Int.reduceEq, Int.reduceAdd, Int.reduceSub, Int.reduceNeg, Int.reduceMul, Bool.and_self] | split)
    exact ⟨_, rfl⟩
  · rw [h] at hc
    repeat' (first | (refine And.intro (by omega) ?_) | (refine callF_pure (hc _) ?_) | (refine callF_pure (shapedC n hs _) ?_) | (refine callQF_pure (hc _) rfl ?_) | (refine callQF_pure (shapedC n hs _) rfl ?_) | simp -implicitDefEqProofs (disch := omega) only [L15, cells_agg, nd_c1s, nd_len, nd_cellsV, nd_take, dT_lt, dF_lt, dT_le, dF_le, dT_eq, dF_eq, push_cast, ↓reduceIte, Nat.reduceEqDiff, reduceCtorEq, Nat.reduceAdd, Nat.reduceSub, Nat.reduceMul, Nat.reduceLeDiff, Nat.reduceLT, Nat.reduceMod, Nat.reduceDiv, Int.reduceToNat, Int.reduceLT, Int.reduceLE, Int.reduceEq, Int.reduceAdd, Int.reduceSub, Int.reduceNeg, Int.reduceMul, Bool.and_self] | split)
    exact ⟨_, rfl⟩
theorem StatT (n : Nd) (hs : Sml n) (H : AHeap) : Comp' 17 [.agg (ndR n)] H (bool (isSt n.kind && shapedF n)) := by
  refine ACall.drop (R := fun x => x = bool (isSt n.kind && shapedF n)) ?_
  refine enter Try.func17 L17_ok (Nat.le_of_ble_eq_true rfl) ?_
  have hc := fun H => isStatementC n.kind H
  cases h : isSt n.kind
  · rw [h] at hc
    repeat' (first | (refine And.intro (by omega) ?_) | (refine callF_pure (hc _) ?_) | (refine callF_pure (shapedC n hs _) ?_) | (refine callQF_pure (hc _) rfl ?_) | (refine callQF_pure (shapedC n hs _) rfl ?_) | simp -implicitDefEqProofs (disch := omega) only [L17, cells_agg, nd_c1s, nd_len, nd_cellsV, nd_take, dT_lt, dF_lt, dT_le, dF_le, dT_eq, dF_eq, push_cast, ↓reduceIte, Nat.reduceEqDiff, reduceCtorEq, Nat.reduceAdd, Nat.reduceSub, Nat.reduceMul, Nat.reduceLeDiff, Nat.reduceLT, Nat.reduceMod, Nat.reduceDiv, Int.reduceToNat, Int.reduceLT, Int.reduceLE, Int.reduceEq, Int.reduceAdd, Int.reduceSub, Int.reduceNeg, Int.reduceMul, Bool.and_self] | split)
    exact ⟨_, rfl⟩
  · rw [h] at hc
    repeat' (first | (refine And.intro (by omega) ?_) | (refine callF_pure (hc _) ?_) | (refine callF_pure (shapedC n hs _) ?_) | (refine callQF_pure (hc _) rfl ?_) | (refine callQF_pure (shapedC n hs _) rfl ?_) | simp -implicitDefEqProofs (disch := omega) only [L17, cells_agg, nd_c1s, nd_len, nd_cellsV, nd_take, dT_lt, dF_lt, dT_le, dF_le, dT_eq, dF_eq, push_cast, ↓reduceIte, Nat.reduceEqDiff, reduceCtorEq, Nat.reduceAdd, Nat.reduceSub, Nat.reduceMul, Nat.reduceLeDiff, Nat.reduceLT, Nat.reduceMod, Nat.reduceDiv, Int.reduceToNat, Int.reduceLT, Int.reduceLE, Int.reduceEq, Int.reduceAdd, Int.reduceSub, Int.reduceNeg, Int.reduceMul, Bool.and_self] | split)
    exact ⟨_, rfl⟩
theorem ValidTR (n : Nd) (hs : Sml n) (H : AHeap) : Comp' 14 [.agg (ndR n)] H (bool (decide (n.kind = 2) && shpF n)) := by
  refine ACall.drop (R := fun x => x = bool (decide (n.kind = 2) && shpF n)) ?_
  refine enter Try.func14 L14_ok (Nat.le_of_ble_eq_true rfl) ?_
  by_cases h : n.kind = 2
  · rw [decide_eq_true h, Bool.true_and]
    repeat' (first | (refine And.intro (by omega) ?_) | (refine callF_pure (ShapeR n hs _) ?_) | (refine callQF_pure (ShapeR n hs _) rfl ?_) | simp -implicitDefEqProofs (disch := omega) only [L14, cells_agg, nd_c1s, nd_len, nd_cellsV, nd_take, dT_lt, dF_lt, dT_le, dF_le, dT_eq, dF_eq, push_cast, ↓reduceIte, Nat.reduceEqDiff, reduceCtorEq, Nat.reduceAdd, Nat.reduceSub, Nat.reduceMul, Nat.reduceLeDiff, Nat.reduceLT, Nat.reduceMod, Nat.reduceDiv, Int.reduceToNat, Int.reduceLT, Int.reduceLE, Int.reduceEq, Int.reduceAdd, Int.reduceSub, Int.reduceNeg, Int.reduceMul, Bool.and_self] | split)
    exact ⟨_, rfl⟩
  · rw [decide_eq_false h, Bool.false_and]
    repeat' (first | (refine And.intro (by omega) ?_) | (refine callF_pure (ShapeR n hs _) ?_) | (refine callQF_pure (ShapeR n hs _) rfl ?_) | simp -implicitDefEqProofs (disch := omega) only [L14, cells_agg, nd_c1s, nd_len, nd_cellsV, nd_take, dT_lt, dF_lt, dT_le, dF_le, dT_eq, dF_eq, push_cast, ↓reduceIte, Nat.reduceEqDiff, reduceCtorEq, Nat.reduceAdd, Nat.reduceSub, Nat.reduceMul, Nat.reduceLeDiff, Nat.reduceLT, Nat.reduceMod, Nat.reduceDiv, Int.reduceToNat, Int.reduceLT, Int.reduceLE, Int.reduceEq, Int.reduceAdd, Int.reduceSub, Int.reduceNeg, Int.reduceMul, Bool.and_self] | split)
    exact ⟨_, rfl⟩
theorem ExprTR (n : Nd) (hs : Sml n) (H : AHeap) : Comp' 16 [.agg (ndR n)] H (bool (isEx n.kind && shpF n)) := by
  refine ACall.drop (R := fun x => x = bool (isEx n.kind && shpF n)) ?_
  refine enter Try.func16 L16_ok (Nat.le_of_ble_eq_true rfl) ?_
  have hc := fun H => ExpressionR n.kind H
  cases h : isEx n.kind
  · rw [h] at hc
    repeat' (first | (refine And.intro (by omega) ?_) | (refine callF_pure (hc _) ?_) | (refine callF_pure (ShapeR n hs _) ?_) | (refine callQF_pure (hc _) rfl ?_) | (refine callQF_pure (ShapeR n hs _) rfl ?_) | simp -implicitDefEqProofs (disch := omega) only [L16, cells_agg, nd_c1s, nd_len, nd_cellsV, nd_take, dT_lt, dF_lt, dT_le, dF_le, dT_eq, dF_eq, push_cast, ↓reduceIte, Nat.reduceEqDiff, reduceCtorEq, Nat.reduceAdd, Nat.reduceSub, Nat.reduceMul, Nat.reduceLeDiff, Nat.reduceLT, Nat.reduceMod, Nat.reduceDiv, Int.reduceToNat, Int.reduceLT, Int.reduceLE, Int.reduceEq, Int.reduceAdd, Int.reduceSub, Int.reduceNeg, Int.reduceMul, Bool.and_self] | split)
    exact ⟨_, rfl⟩
  · rw [h] at hc
    repeat' (first | (refine And.intro (by omega) ?_) | (refine callF_pure (hc _) ?_) | (refine callF_pure (ShapeR n hs _) ?_) | (refine callQF_pure (hc _) rfl ?_) | (refine callQF_pure (ShapeR n hs _) rfl ?_) | simp -implicitDefEqProofs (disch := omega) only [L16, cells_agg, nd_c1s, nd_len, nd_cellsV, nd_take, dT_lt, dF_lt, dT_le, dF_le, dT_eq, dF_eq, push_cast, ↓reduceIte, Nat.reduceEqDiff, reduceCtorEq, Nat.reduceAdd, Nat.reduceSub, Nat.reduceMul, Nat.reduceLeDiff, Nat.reduceLT, Nat.reduceMod, Nat.reduceDiv, Int.reduceToNat, Int.reduceLT, Int.reduceLE, Int.reduceEq, Int.reduceAdd, Int.reduceSub, Int.reduceNeg, Int.reduceMul, Bool.and_self] | split)
    exact ⟨_, rfl⟩
theorem StatTR (n : Nd) (hs : Sml n) (H : AHeap) : Comp' 18 [.agg (ndR n)] H (bool (isSt n.kind && shpF n)) := by
  refine ACall.drop (R := fun x => x = bool (isSt n.kind && shpF n)) ?_
  refine enter Try.func18 L18_ok (Nat.le_of_ble_eq_true rfl) ?_
  have hc := fun H => StatementR n.kind H
  cases h : isSt n.kind
  · rw [h] at hc
    repeat' (first | (refine And.intro (by omega) ?_) | (refine callF_pure (hc _) ?_) | (refine callF_pure (ShapeR n hs _) ?_) | (refine callQF_pure (hc _) rfl ?_) | (refine callQF_pure (ShapeR n hs _) rfl ?_) | simp -implicitDefEqProofs (disch := omega) only [L18, cells_agg, nd_c1s, nd_len, nd_cellsV, nd_take, dT_lt, dF_lt, dT_le, dF_le, dT_eq, dF_eq, push_cast, ↓reduceIte, Nat.reduceEqDiff, reduceCtorEq, Nat.reduceAdd, Nat.reduceSub, Nat.reduceMul, Nat.reduceLeDiff, Nat.reduceLT, Nat.reduceMod, Nat.reduceDiv, Int.reduceToNat, Int.reduceLT, Int.reduceLE, Int.reduceEq, Int.reduceAdd, Int.reduceSub, Int.reduceNeg, Int.reduceMul, Bool.and_self] | split)
    exact ⟨_, rfl⟩
  · rw [h] at hc
    repeat' (first | (refine And.intro (by omega) ?_) | (refine callF_pure (hc _) ?_) | (refine callF_pure (ShapeR n hs _) ?_) | (refine callQF_pure (hc _) rfl ?_) | (refine callQF_pure (ShapeR n hs _) rfl ?_) | simp -implicitDefEqProofs (disch := omega) only [L18, cells_agg, nd_c1s, nd_len, nd_cellsV, nd_take, dT_lt, dF_lt, dT_le, dF_le, dT_eq, dF_eq, push_cast, ↓reduceIte, Nat.reduceEqDiff, reduceCtorEq, Nat.reduceAdd, Nat.reduceSub, Nat.reduceMul, Nat.reduceLeDiff, Nat.reduceLT, Nat.reduceMod, Nat.reduceDiv, Int.reduceToNat, Int.reduceLT, Int.reduceLE, Int.reduceEq, Int.reduceAdd, Int.reduceSub, Int.reduceNeg, Int.reduceMul, Bool.and_self] | split)
    exact ⟨_, rfl⟩
#print axioms shaped_ref
#print axioms StatTR
end Go.Proofs.Ytnbdogodcjhfiaa

/- Trees: sameness. -/
namespace Go.Proofs.Ytnbdogodcjhfiaa
open Go Go.Ax
set_option maxRecDepth 100000
set_option linter.unusedSimpArgs false
set_option linter.unusedVariables false

mutual
/-- Equal but for the places. -/
def sameF : Nd → Nd → Bool
  | .mk k t _ _ ks, m => decide (k = m.kind) && (decide (t = m.text) && sameFs ks m.kids)
def sameFs : List Nd → List Nd → Bool
  | [], [] => true
  | x :: l, y :: m => sameF x y && sameFs l m
  | _, _ => false
end
theorem sameF_eq (n m : Nd) : sameF n m = (decide (n.kind = m.kind) && (decide (n.text = m.text) && sameFs n.kids m.kids)) := by cases n; rfl
theorem sameFs_len : ∀ {a b : List Nd}, sameFs a b = true → a.length = b.length
  | [], [], _ => rfl
  | x :: l, y :: m, h => by
    simp only [sameFs, Bool.and_eq_true] at h
    simp [sameFs_len h.2]
  | [], y :: m, h => by simp [sameFs] at h
  | x :: l, [], h => by simp [sameFs] at h
theorem sameFs_no {a b : List Nd} (h : ¬ a.length = b.length) : sameFs a b = false := by
  cases hh : sameFs a b with
  | false => rfl
  | true => exact absurd (sameFs_len hh) h
theorem sameFs_false : ∀ {a b : List Nd} {j : Nat}, j < a.length → a.length = b.length → sameF (a.getD j default) (b.getD j default) = false → sameFs a b = false
  | [], _, j, hj, _, _ => by simp at hj
  | x :: l, [], j, hj, hl, h => by simp at hl
  | x :: l, y :: m, 0, hj, hl, h => by
    have h' : sameF x y = false := h
    simp [sameFs, h']
  | x :: l, y :: m, j + 1, hj, hl, h => by
    have : sameFs l m = false := sameFs_false (j := j) (by simpa using hj) (by simpa using hl) (by simpa using h)
    simp [sameFs, this]
theorem sameFs_true : ∀ {a b : List Nd}, a.length = b.length → (∀ j, j < a.length → sameF (a.getD j default) (b.getD j default) = true) → sameFs a b = true
  | [], [], _, _ => rfl
  | x :: l, [], hl, h => by simp at hl
  | [], y :: m, hl, h => by simp at hl
  | x :: l, y :: m, hl, h => by
    have h0 : sameF x y = true := h 0 (by simp)
    have h1 : sameFs l m = true := sameFs_true (by simpa using hl) fun j hj => by simpa using h (j + 1) (by simpa using hj)
    simp [sameFs, h0, h1]

theorem equalFunc (ns ms : List Nd) (ha : ns.length ≤ 1048576) (hb : ms.length ≤ 1048576) (f : FuncId) (hp : ∀ a ∈ ns, ∀ b ∈ ms, ∀ H, Comp' f [.agg (ndR a), .agg (ndR b)] H (bool (sameF a b))) (H : AHeap) :
    Comp' 57 [.sl 5 (ns.map ndR), .sl 5 (ms.map ndR), .fn (.func f) [] []] H (bool (sameFs ns ms)) := by
  refine ACall.drop (R := fun x => x = bool (sameFs ns ms)) ?_
  refine enter Try.func57 L57_ok (Nat.le_of_ble_eq_true rfl) ?_
  by_cases hl : ns.length = ms.length
  · have hl' : ((ns.length : Nat) : Int) = ms.length := by omega
    repeat' (first | (refine And.intro (by omega) ?_) | simp -implicitDefEqProofs (disch := omega) only [L57, dT_lt, dF_lt, dT_le, dF_le, dT_eq, dF_eq, push_cast, ↓reduceIte, Nat.reduceEqDiff, reduceCtorEq, Nat.reduceAdd, Nat.reduceSub, Nat.reduceMul, Nat.reduceLeDiff, Nat.reduceLT, Nat.reduceMod, Nat.reduceDiv, Int.reduceToNat, Int.reduceLT, Int.reduceLE, Int.reduceEq, Int.reduceAdd, Int.reduceSub, Int.reduceNeg, Int.reduceMul, Bool.and_self] | split)
    refine rk_loopS (fun (st : Nat × AHeap) e' H' => e' 1 = .sl 5 (ms.map ndR) ∧ e' 2 = .fn (.func f) [] [] ∧ e' 15 = .sl 5 (ns.map ndR) ∧ e' 16 = int ns.length ∧ e' 17 = int st.1 ∧ H' = H ++ st.2 ∧ st.1 ≤ ns.length ∧ ∀ i, i < st.1 → sameF (ns.getD i default) (ms.getD i default) = true) (fun st => ns.length - st.1) (0, []) ?_ ?_
    · exact ⟨rfl, rfl, rfl, rfl, rfl, by simp, Nat.zero_le _, by simp⟩
    rintro ⟨j, ext⟩ e' H' ⟨h1, h2, h15, h16, h17, rfl, hj, hr⟩
    simp only at h17 hj hr
    by_cases hlt : j < ns.length
    · have hg1 : ∀ (x : HO) t, (H ++ (ext ++ x :: t))[H.length + ext.length]? = some x := fun x t => by rw [get_add]; simp
      have hs1 : ∀ (x y : HO) t, (H ++ (ext ++ x :: t)).set (H.length + ext.length) y = H ++ (ext ++ y :: t) := fun x y t => by rw [set_add]; simp
      have hg2 : ∀ (z x : HO) t, (H ++ (ext ++ z :: x :: t))[H.length + (ext.length + 1)]? = some x := fun z x t => by rw [get_add]; simp
      have hs2 : ∀ (z x y : HO) t, (H ++ (ext ++ z :: x :: t)).set (H.length + (ext.length + 1)) y = H ++ (ext ++ z :: y :: t) := fun z x y t => by rw [set_add]; simp
      have hc := fun H => hp _ (getD_mem' hlt) _ (getD_mem' (show j < ms.length by omega)) H
      cases hq : sameF (ns.getD j default) (ms.getD j default)
      · rw [hq] at hc
        rw [sameFs_false hlt hl hq]
        repeat' (first | (refine And.intro (by omega) ?_) | (refine callF_pure (hc _) ?_) | (refine callQF_pure (hc _) rfl ?_) | simp -implicitDefEqProofs (disch := omega) only [h1, h2, h15, h16, h17, rows_getD, nd_len, nd_take, nd_c1s, cells_agg, hg1, hs1, hg2, hs2, splice, dT_lt, dF_lt, dT_le, dF_le, dT_eq, dF_eq, push_cast, ↓reduceIte, Nat.reduceEqDiff, reduceCtorEq, Nat.reduceAdd, Nat.reduceSub, Nat.reduceMul, Nat.reduceLeDiff, Nat.reduceLT, Nat.reduceMod, Nat.reduceDiv, Int.reduceToNat, Int.reduceLT, Int.reduceLE, Int.reduceEq, Int.reduceAdd, Int.reduceSub, Int.reduceNeg, Int.reduceMul, Bool.and_self] | split)
        exact ⟨_, rfl⟩
      · rw [hq] at hc
        repeat' (first | (refine And.intro (by omega) ?_) | (refine callF_pure (hc _) ?_) | (refine callQF_pure (hc _) rfl ?_) | simp -implicitDefEqProofs (disch := omega) only [h1, h2, h15, h16, h17, rows_getD, nd_len, nd_take, nd_c1s, cells_agg, hg1, hs1, hg2, hs2, splice, dT_lt, dF_lt, dT_le, dF_le, dT_eq, dF_eq, push_cast, ↓reduceIte, Nat.reduceEqDiff, reduceCtorEq, Nat.reduceAdd, Nat.reduceSub, Nat.reduceMul, Nat.reduceLeDiff, Nat.reduceLT, Nat.reduceMod, Nat.reduceDiv, Int.reduceToNat, Int.reduceLT, Int.reduceLE, Int.reduceEq, Int.reduceAdd, Int.reduceSub, Int.reduceNeg, Int.reduceMul, Bool.and_self] | split)
        exact .mk (j + 1, _) ⟨h1, h2, h15, h16, rfl, rfl, hlt, upto_succ hr hq⟩ (by simp; omega)
    · rw [sameFs_true hl fun i hi => hr i (by omega)]
      repeat' (first | (refine And.intro (by omega) ?_) | simp -implicitDefEqProofs (disch := omega) only [h1, h2, h15, h16, h17, dT_lt, dF_lt, dT_le, dF_le, dT_eq, dF_eq, push_cast, ↓reduceIte, Nat.reduceEqDiff, reduceCtorEq, Nat.reduceAdd, Nat.reduceSub, Nat.reduceMul, Nat.reduceLeDiff, Nat.reduceLT, Nat.reduceMod, Nat.reduceDiv, Int.reduceToNat, Int.reduceLT, Int.reduceLE, Int.reduceEq, Int.reduceAdd, Int.reduceSub, Int.reduceNeg, Int.reduceMul, Bool.and_self] | split)
      exact ⟨_, rfl⟩
  · have hl' : ¬ ((ns.length : Nat) : Int) = ms.length := by omega
    rw [sameFs_no hl]
    repeat' (first | (refine And.intro (by omega) ?_) | simp -implicitDefEqProofs (disch := omega) only [L57, dT_lt, dF_lt, dT_le, dF_le, dT_eq, dF_eq, push_cast, ↓reduceIte, Nat.reduceEqDiff, reduceCtorEq, Nat.reduceAdd, Nat.reduceSub, Nat.reduceMul, Nat.reduceLeDiff, Nat.reduceLT, Nat.reduceMod, Nat.reduceDiv, Int.reduceToNat, Int.reduceLT, Int.reduceLE, Int.reduceEq, Int.reduceAdd, Int.reduceSub, Int.reduceNeg, Int.reduceMul, Bool.and_self] | split)
    exact ⟨[], by simp⟩
theorem sameT (n : Nd) : ∀ m : Nd, Sml n → Sml m → ∀ H, Comp' 22 [.agg (ndR n), .agg (ndR m)] H (bool (sameF n m)) := by
  induction n using Nd.ind with
  | h n ih =>
  intro m hn hm H
  refine ACall.drop (R := fun x => x = bool (sameF n m)) ?_
  refine enter Try.func22 L22_ok (Nat.le_of_ble_eq_true rfl) ?_
  have hc := fun H => equalFunc n.kids m.kids (sml_len hn) (sml_len hm) 22 (fun a ha b hb H => ih a ha b (sml_kid hn ha) (sml_kid hm hb) H) H
  rw [sameF_eq]
  by_cases h1 : n.kind = m.kind
  · rw [decide_eq_true h1, Bool.true_and]
    cases h2 : decide (n.text = m.text)
    · rw [Bool.false_and]
      repeat' (first | (refine And.intro (by omega) ?_) | (refine callF_pure (hc _) ?_) | (refine callQF_pure (hc _) rfl ?_) | simp -implicitDefEqProofs (disch := omega) only [L22, cells_agg, nd_c1s, nd_len, nd_cellsV, nd_take, nd_drop1, nd_drop4, h2, dT_lt, dF_lt, dT_le, dF_le, dT_eq, dF_eq, push_cast, ↓reduceIte, Nat.reduceEqDiff, reduceCtorEq, Nat.reduceAdd, Nat.reduceSub, Nat.reduceMul, Nat.reduceLeDiff, Nat.reduceLT, Nat.reduceMod, Nat.reduceDiv, Int.reduceToNat, Int.reduceLT, Int.reduceLE, Int.reduceEq, Int.reduceAdd, Int.reduceSub, Int.reduceNeg, Int.reduceMul, Bool.and_self] | split)
      exact ⟨_, rfl⟩
    · rw [Bool.true_and]
      repeat' (first | (refine And.intro (by omega) ?_) | (refine callF_pure (hc _) ?_) | (refine callQF_pure (hc _) rfl ?_) | simp -implicitDefEqProofs (disch := omega) only [L22, cells_agg, nd_c1s, nd_len, nd_cellsV, nd_take, nd_drop1, nd_drop4, h2, dT_lt, dF_lt, dT_le, dF_le, dT_eq, dF_eq, push_cast, ↓reduceIte, Nat.reduceEqDiff, reduceCtorEq, Nat.reduceAdd, Nat.reduceSub, Nat.reduceMul, Nat.reduceLeDiff, Nat.reduceLT, Nat.reduceMod, Nat.reduceDiv, Int.reduceToNat, Int.reduceLT, Int.reduceLE, Int.reduceEq, Int.reduceAdd, Int.reduceSub, Int.reduceNeg, Int.reduceMul, Bool.and_self] | split)
      exact ⟨_, rfl⟩
  · rw [decide_eq_false h1, Bool.false_and]
    repeat' (first | (refine And.intro (by omega) ?_) | (refine callF_pure (hc _) ?_) | (refine callQF_pure (hc _) rfl ?_) | simp -implicitDefEqProofs (disch := omega) only [L22, cells_agg, nd_c1s, nd_len, nd_cellsV, nd_take, nd_drop1, nd_drop4, dT_lt, dF_lt, dT_le, dF_le, dT_eq, dF_eq, push_cast, ↓reduceIte, Nat.reduceEqDiff, reduceCtorEq, Nat.reduceAdd, Nat.reduceSub, Nat.reduceMul, Nat.reduceLeDiff, Nat.reduceLT, Nat.reduceMod, Nat.reduceDiv, Int.reduceToNat, Int.reduceLT, Int.reduceLE, Int.reduceEq, Int.reduceAdd, Int.reduceSub, Int.reduceNeg, Int.reduceMul, Bool.and_self] | split)
    exact ⟨_, rfl⟩
#print axioms sameT
end Go.Proofs.Ytnbdogodcjhfiaa

/- Trees: the reference's Same and Equal, Ints. -/
namespace Go.Proofs.Ytnbdogodcjhfiaa
open Go Go.Ax
set_option maxRecDepth 100000
set_option linter.unusedSimpArgs false
set_option linter.unusedVariables false

theorem nd_ext {n m : Nd} : n = m ↔ n.kind = m.kind ∧ n.text = m.text ∧ n.a = m.a ∧ n.e = m.e ∧ n.kids = m.kids := by
  cases n; cases m
  simp [Nd.kind, Nd.text, Nd.a, Nd.e, Nd.kids]
theorem SameR (n : Nd) : ∀ m : Nd, Sml n → Sml m → ∀ H, Comp' 40 [.agg (ndR n), .agg (ndR m)] H (bool (sameF n m)) := by
  induction n using Nd.ind with
  | h n ih =>
  intro m hn hm H
  refine ACall.drop (R := fun x => x = bool (sameF n m)) ?_
  refine enter Try.func40 L40_ok (Nat.le_of_ble_eq_true rfl) ?_
  have hln := sml_len hn
  have hlm := sml_len hm
  rw [sameF_eq]
  by_cases h1 : n.kind = m.kind
  · rw [decide_eq_true h1, Bool.true_and]
    cases h2 : decide (n.text = m.text)
    · rw [Bool.false_and]
      repeat' (first | (refine And.intro (by omega) ?_) | simp -implicitDefEqProofs (disch := omega) only [L40, cells_agg, nd_c1s, nd_len, nd_cellsV, nd_take, nd_drop1, nd_drop4, h2, dT_lt, dF_lt, dT_le, dF_le, dT_eq, dF_eq, push_cast, ↓reduceIte, Nat.reduceEqDiff, reduceCtorEq, Nat.reduceAdd, Nat.reduceSub, Nat.reduceMul, Nat.reduceLeDiff, Nat.reduceLT, Nat.reduceMod, Nat.reduceDiv, Int.reduceToNat, Int.reduceLT, Int.reduceLE, Int.reduceEq, Int.reduceAdd, Int.reduceSub, Int.reduceNeg, Int.reduceMul, Bool.and_self] | split)
      exact ⟨_, rfl⟩
    · rw [Bool.true_and]
      by_cases hl : n.kids.length = m.kids.length
      · have hl' : ((n.kids.length : Nat) : Int) = m.kids.length := by omega
        repeat' (first | (refine And.intro (by omega) ?_) | simp -implicitDefEqProofs (disch := omega) only [L40, cells_agg, nd_c1s, nd_len, nd_cellsV, nd_take, nd_drop1, nd_drop4, h2, dT_lt, dF_lt, dT_le, dF_le, dT_eq, dF_eq, push_cast, ↓reduceIte, Nat.reduceEqDiff, reduceCtorEq, Nat.reduceAdd, Nat.reduceSub, Nat.reduceMul, Nat.reduceLeDiff, Nat.reduceLT, Nat.reduceMod, Nat.reduceDiv, Int.reduceToNat, Int.reduceLT, Int.reduceLE, Int.reduceEq, Int.reduceAdd, Int.reduceSub, Int.reduceNeg, Int.reduceMul, Bool.and_self] | split)
        refine rk_loopS (fun (j : Nat) e' H' => e' 2 = .ptr H.length 0 0 ∧ e' 3 = .ptr (H.length + 1) 0 0 ∧ e' 5 = int j ∧ H' = H ++ [.box (ndR n), .box (ndR m)] ∧ j ≤ n.kids.length ∧ ∀ i, i < j → sameF (n.kids.getD i default) (m.kids.getD i default) = true) (fun j => n.kids.length - j) 0 ?_ ?_
        · exact ⟨rfl, rfl, rfl, rfl, Nat.zero_le _, by simp⟩
        rintro j e' H' ⟨h1, h3, h5, rfl, hj, hr⟩
        by_cases hlt : j < n.kids.length
        · have hk := getD_mem' hlt
          have hk2 := getD_mem' (show j < m.kids.length by omega)
          have hcl : ∀ a m, clL [.agg (ndR a), .agg (ndR m)] = true := fun a m => by simp [clL, AV.cl, nd_clL]
          have c2 := ih _ hk _ (sml_kid hn hk) (sml_kid hm hk2) []
          cases hsf : sameF (n.kids.getD j default) (m.kids.getD j default)
          · rw [hsf] at c2
            rw [sameFs_false hlt hl hsf]
            simp -implicitDefEqProofs (disch := omega) only [h1, h3, h5, nd_drop4, nd_len, rows_getD, nd_take, nd_cellsV, dT_lt, dF_lt, dT_le, dF_le, dT_eq, dF_eq, push_cast, ↓reduceIte, Nat.reduceEqDiff, reduceCtorEq, Nat.reduceAdd, Nat.reduceSub, Nat.reduceMul, Nat.reduceLeDiff, Nat.reduceLT, Nat.reduceMod, Nat.reduceDiv, Int.reduceToNat, Int.reduceLT, Int.reduceLE, Int.reduceEq, Int.reduceAdd, Int.reduceSub, Int.reduceNeg, Int.reduceMul, Bool.and_self]
            refine And.intro (by omega) (And.intro (by omega) (callQF_pure c2 (hcl _ _) ?_))
            repeat' (first | (refine And.intro (by omega) ?_) | simp -implicitDefEqProofs (disch := omega) only [h1, h3, h5, dT_lt, dF_lt, dT_le, dF_le, dT_eq, dF_eq, push_cast, ↓reduceIte, Nat.reduceEqDiff, reduceCtorEq, Nat.reduceAdd, Nat.reduceSub, Nat.reduceMul, Nat.reduceLeDiff, Nat.reduceLT, Nat.reduceMod, Nat.reduceDiv, Int.reduceToNat, Int.reduceLT, Int.reduceLE, Int.reduceEq, Int.reduceAdd, Int.reduceSub, Int.reduceNeg, Int.reduceMul, Bool.and_self] | split)
            exact ⟨_, rfl⟩
          · rw [hsf] at c2
            simp -implicitDefEqProofs (disch := omega) only [h1, h3, h5, nd_drop4, nd_len, rows_getD, nd_take, nd_cellsV, dT_lt, dF_lt, dT_le, dF_le, dT_eq, dF_eq, push_cast, ↓reduceIte, Nat.reduceEqDiff, reduceCtorEq, Nat.reduceAdd, Nat.reduceSub, Nat.reduceMul, Nat.reduceLeDiff, Nat.reduceLT, Nat.reduceMod, Nat.reduceDiv, Int.reduceToNat, Int.reduceLT, Int.reduceLE, Int.reduceEq, Int.reduceAdd, Int.reduceSub, Int.reduceNeg, Int.reduceMul, Bool.and_self]
            refine And.intro (by omega) (And.intro (by omega) (callQF_pure c2 (hcl _ _) ?_))
            repeat' (first | (refine And.intro (by omega) ?_) | simp -implicitDefEqProofs (disch := omega) only [h1, h3, h5, dT_lt, dF_lt, dT_le, dF_le, dT_eq, dF_eq, push_cast, ↓reduceIte, Nat.reduceEqDiff, reduceCtorEq, Nat.reduceAdd, Nat.reduceSub, Nat.reduceMul, Nat.reduceLeDiff, Nat.reduceLT, Nat.reduceMod, Nat.reduceDiv, Int.reduceToNat, Int.reduceLT, Int.reduceLE, Int.reduceEq, Int.reduceAdd, Int.reduceSub, Int.reduceNeg, Int.reduceMul, Bool.and_self] | split)
            exact .mk (j + 1) ⟨h1, h3, rfl, rfl, hlt, upto_succ hr hsf⟩ (by omega)
        · rw [sameFs_true hl fun i hi => hr i (by omega)]
          repeat' (first | (refine And.intro (by omega) ?_) | simp -implicitDefEqProofs (disch := omega) only [h1, h3, h5, nd_drop4, nd_len, dT_lt, dF_lt, dT_le, dF_le, dT_eq, dF_eq, push_cast, ↓reduceIte, Nat.reduceEqDiff, reduceCtorEq, Nat.reduceAdd, Nat.reduceSub, Nat.reduceMul, Nat.reduceLeDiff, Nat.reduceLT, Nat.reduceMod, Nat.reduceDiv, Int.reduceToNat, Int.reduceLT, Int.reduceLE, Int.reduceEq, Int.reduceAdd, Int.reduceSub, Int.reduceNeg, Int.reduceMul, Bool.and_self] | split)
          exact ⟨_, rfl⟩
      · rw [sameFs_no hl]
        have hl' : ¬ ((n.kids.length : Nat) : Int) = m.kids.length := by omega
        repeat' (first | (refine And.intro (by omega) ?_) | simp -implicitDefEqProofs (disch := omega) only [L40, cells_agg, nd_c1s, nd_len, nd_cellsV, nd_take, nd_drop1, nd_drop4, h2, dT_lt, dF_lt, dT_le, dF_le, dT_eq, dF_eq, push_cast, ↓reduceIte, Nat.reduceEqDiff, reduceCtorEq, Nat.reduceAdd, Nat.reduceSub, Nat.reduceMul, Nat.reduceLeDiff, Nat.reduceLT, Nat.reduceMod, Nat.reduceDiv, Int.reduceToNat, Int.reduceLT, Int.reduceLE, Int.reduceEq, Int.reduceAdd, Int.reduceSub, Int.reduceNeg, Int.reduceMul, Bool.and_self] | split)
        exact ⟨_, rfl⟩
  · rw [decide_eq_false h1, Bool.false_and]
    repeat' (first | (refine And.intro (by omega) ?_) | simp -implicitDefEqProofs (disch := omega) only [L40, cells_agg, nd_c1s, nd_len, nd_cellsV, nd_take, nd_drop1, nd_drop4, dT_lt, dF_lt, dT_le, dF_le, dT_eq, dF_eq, push_cast, ↓reduceIte, Nat.reduceEqDiff, reduceCtorEq, Nat.reduceAdd, Nat.reduceSub, Nat.reduceMul, Nat.reduceLeDiff, Nat.reduceLT, Nat.reduceMod, Nat.reduceDiv, Int.reduceToNat, Int.reduceLT, Int.reduceLE, Int.reduceEq, Int.reduceAdd, Int.reduceSub, Int.reduceNeg, Int.reduceMul, Bool.and_self] | split)
    exact ⟨_, rfl⟩
theorem nd_drop2 (n : Nd) : (ndR n).drop 2 = [int n.a, int n.e, .sl 5 (n.kids.map ndR)] := by rw [ndR_eq]; rfl
theorem nd_drop3 (n : Nd) : (ndR n).drop 3 = [int n.e, .sl 5 (n.kids.map ndR)] := by rw [ndR_eq]; rfl
/-- Equal with the places. -/
noncomputable def eqF (n m : Nd) : Bool := @decide (n = m) (Classical.propDecidable _)
theorem eqF_false {n m : Nd} (h : ¬ n = m) : eqF n m = false := by unfold eqF; simp [h]
theorem eqF_true {n m : Nd} (h : n = m) : eqF n m = true := by unfold eqF; simp [h]
theorem eqF_iff {n m : Nd} : eqF n m = true ↔ n = m := by unfold eqF; simp
theorem eqF_ne {n m : Nd} : eqF n m = false ↔ ¬ n = m := by unfold eqF; simp
theorem nds_ext {a b : List Nd} (hl : a.length = b.length) (h : ∀ j, j < a.length → a.getD j default = b.getD j default) : a = b := by
  apply List.ext_getElem hl
  intro i h1 h2
  have := h i h1
  simpa [List.getD_eq_getElem?_getD, h1, h2] using this
theorem EqualR (n : Nd) : ∀ m : Nd, Sml n → Sml m → ∀ H, Comp' 36 [.agg (ndR n), .agg (ndR m)] H (bool (eqF n m)) := by
  induction n using Nd.ind with
  | h n ih =>
  intro m hn hm H
  refine ACall.drop (R := fun x => x = bool (eqF n m)) ?_
  refine enter Try.func36 L36_ok (Nat.le_of_ble_eq_true rfl) ?_
  have hln := sml_len hn
  have hlm := sml_len hm
  have no : ∀ P : Prop, (n = m → P) → ¬ P → eqF n m = false := fun P h g => eqF_false fun e => g (h e)
  by_cases h1 : n.kind = m.kind
  · by_cases h2 : n.text = m.text
    · have h2' := decide_eq_true h2
      by_cases ha : n.a = m.a
      · by_cases he : n.e = m.e
        · by_cases hl : n.kids.length = m.kids.length
          · have hl' : ((n.kids.length : Nat) : Int) = m.kids.length := by omega
            repeat' (first | (refine And.intro (by omega) ?_) | simp -implicitDefEqProofs (disch := omega) only [L36, cells_agg, nd_c1s, nd_len, nd_cellsV, nd_take, nd_drop1, nd_drop4, h2', nd_drop2, nd_drop3, dT_lt, dF_lt, dT_le, dF_le, dT_eq, dF_eq, push_cast, ↓reduceIte, Nat.reduceEqDiff, reduceCtorEq, Nat.reduceAdd, Nat.reduceSub, Nat.reduceMul, Nat.reduceLeDiff, Nat.reduceLT, Nat.reduceMod, Nat.reduceDiv, Int.reduceToNat, Int.reduceLT, Int.reduceLE, Int.reduceEq, Int.reduceAdd, Int.reduceSub, Int.reduceNeg, Int.reduceMul, Bool.and_self] | split)
            refine rk_loopS (fun (j : Nat) e' H' => e' 2 = .ptr H.length 0 0 ∧ e' 3 = .ptr (H.length + 1) 0 0 ∧ e' 5 = int j ∧ H' = H ++ [.box (ndR n), .box (ndR m)] ∧ j ≤ n.kids.length ∧ ∀ i, i < j → n.kids.getD i default = m.kids.getD i default) (fun j => n.kids.length - j) 0 ?_ ?_
            · exact ⟨rfl, rfl, rfl, rfl, Nat.zero_le _, by simp⟩
            rintro j e' H' ⟨h1', h3', h5', rfl, hj, hr⟩
            by_cases hlt : j < n.kids.length
            · have hk := getD_mem' hlt
              have hk2 := getD_mem' (show j < m.kids.length by omega)
              have hcl : ∀ a m, clL [.agg (ndR a), .agg (ndR m)] = true := fun a m => by simp [clL, AV.cl, nd_clL]
              have c2 := ih _ hk _ (sml_kid hn hk) (sml_kid hm hk2) []
              by_cases hq : n.kids.getD j default = m.kids.getD j default
              · rw [eqF_true hq] at c2
                simp -implicitDefEqProofs (disch := omega) only [h1', h3', h5', nd_drop4, nd_len, rows_getD, nd_take, nd_cellsV, dT_lt, dF_lt, dT_le, dF_le, dT_eq, dF_eq, push_cast, ↓reduceIte, Nat.reduceEqDiff, reduceCtorEq, Nat.reduceAdd, Nat.reduceSub, Nat.reduceMul, Nat.reduceLeDiff, Nat.reduceLT, Nat.reduceMod, Nat.reduceDiv, Int.reduceToNat, Int.reduceLT, Int.reduceLE, Int.reduceEq, Int.reduceAdd, Int.reduceSub, Int.reduceNeg, Int.reduceMul, Bool.and_self]
                refine And.intro (by omega) (And.intro (by omega) (callQF_pure c2 (hcl _ _) ?_))
                repeat' (first | (refine And.intro (by omega) ?_) | simp -implicitDefEqProofs (disch := omega) only [h1', h3', h5', dT_lt, dF_lt, dT_le, dF_le, dT_eq, dF_eq, push_cast, ↓reduceIte, Nat.reduceEqDiff, reduceCtorEq, Nat.reduceAdd, Nat.reduceSub, Nat.reduceMul, Nat.reduceLeDiff, Nat.reduceLT, Nat.reduceMod, Nat.reduceDiv, Int.reduceToNat, Int.reduceLT, Int.reduceLE, Int.reduceEq, Int.reduceAdd, Int.reduceSub, Int.reduceNeg, Int.reduceMul, Bool.and_self] | split)
                exact .mk (j + 1) ⟨h1', h3', rfl, rfl, hlt, upto_succ hr hq⟩ (by omega)
              · rw [eqF_false hq] at c2
                rw [no _ (fun e => by rw [e]) hq]
                simp -implicitDefEqProofs (disch := omega) only [h1', h3', h5', nd_drop4, nd_len, rows_getD, nd_take, nd_cellsV, dT_lt, dF_lt, dT_le, dF_le, dT_eq, dF_eq, push_cast, ↓reduceIte, Nat.reduceEqDiff, reduceCtorEq, Nat.reduceAdd, Nat.reduceSub, Nat.reduceMul, Nat.reduceLeDiff, Nat.reduceLT, Nat.reduceMod, Nat.reduceDiv, Int.reduceToNat, Int.reduceLT, Int.reduceLE, Int.reduceEq, Int.reduceAdd, Int.reduceSub, Int.reduceNeg, Int.reduceMul, Bool.and_self]
                refine And.intro (by omega) (And.intro (by omega) (callQF_pure c2 (hcl _ _) ?_))
                repeat' (first | (refine And.intro (by omega) ?_) | simp -implicitDefEqProofs (disch := omega) only [h1', h3', h5', dT_lt, dF_lt, dT_le, dF_le, dT_eq, dF_eq, push_cast, ↓reduceIte, Nat.reduceEqDiff, reduceCtorEq, Nat.reduceAdd, Nat.reduceSub, Nat.reduceMul, Nat.reduceLeDiff, Nat.reduceLT, Nat.reduceMod, Nat.reduceDiv, Int.reduceToNat, Int.reduceLT, Int.reduceLE, Int.reduceEq, Int.reduceAdd, Int.reduceSub, Int.reduceNeg, Int.reduceMul, Bool.and_self] | split)
                exact ⟨_, rfl⟩
            · rw [eqF_true (nd_ext.2 ⟨h1, h2, ha, he, nds_ext hl fun i hi => hr i (by omega)⟩)]
              repeat' (first | (refine And.intro (by omega) ?_) | simp -implicitDefEqProofs (disch := omega) only [h1', h3', h5', nd_drop4, nd_len, dT_lt, dF_lt, dT_le, dF_le, dT_eq, dF_eq, push_cast, ↓reduceIte, Nat.reduceEqDiff, reduceCtorEq, Nat.reduceAdd, Nat.reduceSub, Nat.reduceMul, Nat.reduceLeDiff, Nat.reduceLT, Nat.reduceMod, Nat.reduceDiv, Int.reduceToNat, Int.reduceLT, Int.reduceLE, Int.reduceEq, Int.reduceAdd, Int.reduceSub, Int.reduceNeg, Int.reduceMul, Bool.and_self] | split)
              exact ⟨_, rfl⟩
          · rw [no _ (fun e => by rw [e]) hl]
            have hl' : ¬ ((n.kids.length : Nat) : Int) = m.kids.length := by omega
            repeat' (first | (refine And.intro (by omega) ?_) | simp -implicitDefEqProofs (disch := omega) only [L36, cells_agg, nd_c1s, nd_len, nd_cellsV, nd_take, nd_drop1, nd_drop4, h2', nd_drop2, nd_drop3, dT_lt, dF_lt, dT_le, dF_le, dT_eq, dF_eq, push_cast, ↓reduceIte, Nat.reduceEqDiff, reduceCtorEq, Nat.reduceAdd, Nat.reduceSub, Nat.reduceMul, Nat.reduceLeDiff, Nat.reduceLT, Nat.reduceMod, Nat.reduceDiv, Int.reduceToNat, Int.reduceLT, Int.reduceLE, Int.reduceEq, Int.reduceAdd, Int.reduceSub, Int.reduceNeg, Int.reduceMul, Bool.and_self] | split)
            exact ⟨_, rfl⟩
        · rw [no _ (fun e => by rw [e]) he]
          repeat' (first | (refine And.intro (by omega) ?_) | simp -implicitDefEqProofs (disch := omega) only [L36, cells_agg, nd_c1s, nd_len, nd_cellsV, nd_take, nd_drop1, nd_drop4, h2', nd_drop2, nd_drop3, dT_lt, dF_lt, dT_le, dF_le, dT_eq, dF_eq, push_cast, ↓reduceIte, Nat.reduceEqDiff, reduceCtorEq, Nat.reduceAdd, Nat.reduceSub, Nat.reduceMul, Nat.reduceLeDiff, Nat.reduceLT, Nat.reduceMod, Nat.reduceDiv, Int.reduceToNat, Int.reduceLT, Int.reduceLE, Int.reduceEq, Int.reduceAdd, Int.reduceSub, Int.reduceNeg, Int.reduceMul, Bool.and_self] | split)
          exact ⟨_, rfl⟩
      · rw [no _ (fun e => by rw [e]) ha]
        repeat' (first | (refine And.intro (by omega) ?_) | simp -implicitDefEqProofs (disch := omega) only [L36, cells_agg, nd_c1s, nd_len, nd_cellsV, nd_take, nd_drop1, nd_drop4, h2', nd_drop2, nd_drop3, dT_lt, dF_lt, dT_le, dF_le, dT_eq, dF_eq, push_cast, ↓reduceIte, Nat.reduceEqDiff, reduceCtorEq, Nat.reduceAdd, Nat.reduceSub, Nat.reduceMul, Nat.reduceLeDiff, Nat.reduceLT, Nat.reduceMod, Nat.reduceDiv, Int.reduceToNat, Int.reduceLT, Int.reduceLE, Int.reduceEq, Int.reduceAdd, Int.reduceSub, Int.reduceNeg, Int.reduceMul, Bool.and_self] | split)
        exact ⟨_, rfl⟩
    · have h2' := decide_eq_false h2
      rw [no _ (fun e => by rw [e]) h2]
      repeat' (first | (refine And.intro (by omega) ?_) | simp -implicitDefEqProofs (disch := omega) only [L36, cells_agg, nd_c1s, nd_len, nd_cellsV, nd_take, nd_drop1, nd_drop4, h2', nd_drop2, nd_drop3, dT_lt, dF_lt, dT_le, dF_le, dT_eq, dF_eq, push_cast, ↓reduceIte, Nat.reduceEqDiff, reduceCtorEq, Nat.reduceAdd, Nat.reduceSub, Nat.reduceMul, Nat.reduceLeDiff, Nat.reduceLT, Nat.reduceMod, Nat.reduceDiv, Int.reduceToNat, Int.reduceLT, Int.reduceLE, Int.reduceEq, Int.reduceAdd, Int.reduceSub, Int.reduceNeg, Int.reduceMul, Bool.and_self] | split)
      exact ⟨_, rfl⟩
  · rw [no _ (fun e => by rw [e]) h1]
    repeat' (first | (refine And.intro (by omega) ?_) | simp -implicitDefEqProofs (disch := omega) only [L36, cells_agg, nd_c1s, nd_len, nd_cellsV, nd_take, nd_drop1, nd_drop4, nd_drop2, nd_drop3, dT_lt, dF_lt, dT_le, dF_le, dT_eq, dF_eq, push_cast, ↓reduceIte, Nat.reduceEqDiff, reduceCtorEq, Nat.reduceAdd, Nat.reduceSub, Nat.reduceMul, Nat.reduceLeDiff, Nat.reduceLT, Nat.reduceMod, Nat.reduceDiv, Int.reduceToNat, Int.reduceLT, Int.reduceLE, Int.reduceEq, Int.reduceAdd, Int.reduceSub, Int.reduceNeg, Int.reduceMul, Bool.and_self] | split)
    exact ⟨_, rfl⟩
#print axioms SameR
#print axioms EqualR
end Go.Proofs.Ytnbdogodcjhfiaa

/- Calls: what is handed back as a value; arguments that say less. -/
namespace Go.Ax
open Go
set_option linter.unusedSimpArgs false
set_option linter.unusedVariables false

variable {P : Program} {H : AHeap}
/-- A slice of one's own that is handed back is a value. -/
theorem ACall.frz {k : FuncId} {args : List AV} {R : AV → AHeap → Prop} (h : ACall P k args H R) (hR : ∀ x H', R x H' → (rFrz x H').ok) :
    ACall P k args H fun y H2 => ∃ x H', R x H' ∧ y = (rFrz x H').x ∧ H2 = (rFrz x H').H :=
  ⟨h.1, fun X ρ w vs a b => (h.2 X ρ w vs a b).mono fun _ w' ⟨v, x, H', ρ', e, r, g1, g2, g3⟩ => by
    obtain ⟨ρ2, f1, f2, f3⟩ := snd_frz g1 g2 (hR _ _ r)
    exact ⟨v, _, _, ρ2, e, ⟨x, H', r, rfl, rfl⟩, f1, f2, g3.trans f3⟩⟩
/-- The same of a slice in a struct that is handed back. -/
theorem ACall.frzf {k : FuncId} {args : List AV} {R : AV → AHeap → Prop} (sz off : Nat) (h : ACall P k args H R) (hR : ∀ x H', R x H' → (rFrzf sz off x H').ok) :
    ACall P k args H fun y H2 => ∃ x H', R x H' ∧ y = (rFrzf sz off x H').x ∧ H2 = (rFrzf sz off x H').H :=
  ⟨h.1, fun X ρ w vs a b => (h.2 X ρ w vs a b).mono fun _ w' ⟨v, x, H', ρ', e, r, g1, g2, g3⟩ => by
    obtain ⟨ρ2, f1, f2, f3⟩ := snd_frzf g1 g2 (hR _ _ r)
    exact ⟨v, _, _, ρ2, e, ⟨x, H', r, rfl, rfl⟩, f1, f2, g3.trans f3⟩⟩
/-- y says no more than x. -/
def AV.Le (x y : AV) : Prop := ∀ (w : World) (M : Nat → Prop) (ρ : Nat → Loc) (n : Nat) (v : Value), Rep w M ρ n x v → Rep w M ρ n y v
theorem AV.Le.refl (x : AV) : AV.Le x x := fun _ _ _ _ _ h => h
theorem AV.Le.nil (sz : Nat) : AV.Le (.v (.slice none 0 0)) (.sl sz []) := fun w M ρ n v h => by
  cases h
  exact .slE _ _ _ _
theorem AV.Le.agg {xs ys : List AV} (hl : xs.length = ys.length) (h : ∀ (i : Nat) (x y : AV), xs[i]? = some x → ys[i]? = some y → AV.Le x y) : AV.Le (.agg xs) (.agg ys) := fun w M ρ n v hv => by
  cases hv with
  | agg _ _ us hl' hr =>
    refine .agg _ _ _ (by omega) fun i y u hy hu => ?_
    have hi : i < xs.length := by have := (List.getElem?_eq_some_iff.1 hy).1; omega
    exact h i xs[i] y (List.getElem?_eq_getElem hi) hy _ _ _ _ _ (hr i _ u (List.getElem?_eq_getElem hi) hu)
/-- A call with arguments that say more. -/
theorem ACall.args {k : FuncId} {xs ys : List AV} {R : AV → AHeap → Prop} (h : ACall P k ys H R) (hl : xs.length = ys.length) (hle : ∀ (i : Nat) (x y : AV), xs[i]? = some x → ys[i]? = some y → AV.Le x y) : ACall P k xs H R :=
  ⟨h.1, fun X ρ w vs a b => h.2 X ρ w vs a (by
    obtain ⟨b1, b2⟩ := b
    refine ⟨by omega, fun i y u hy hu => ?_⟩
    have hi : i < xs.length := by have := (List.getElem?_eq_some_iff.1 hy).1; omega
    exact hle i xs[i] y (List.getElem?_eq_getElem hi) hy _ _ _ _ _ (b2 i _ u (List.getElem?_eq_getElem hi) hu))⟩
/-- A result that says less. -/
theorem ACall.res {k : FuncId} {args : List AV} {R : AV → AHeap → Prop} (h : ACall P k args H R) : ACall P k args H fun y H' => ∃ x, R x H' ∧ AV.Le x y := by
  refine h.mono fun x H' r => ⟨x, r, AV.Le.refl x⟩
theorem ACall.resTo {k : FuncId} {args : List AV} {R R' : AV → AHeap → Prop} (h : ACall P k args H R) (hr : ∀ x H', R x H' → ∃ y, AV.Le x y ∧ R' y H') : ACall P k args H R' :=
  ⟨h.1, fun X ρ w vs a b => (h.2 X ρ w vs a b).mono fun _ w' ⟨v, x, H', ρ', e, r, g1, g2, g3⟩ => by
    obtain ⟨y, h1, h2⟩ := hr _ _ r
    exact ⟨v, y, H', ρ', e, h2, g1, h1 _ _ _ _ _ g2, g3⟩⟩
end Go.Ax

/- Trees: nodes by their paths. -/
namespace Go.Proofs.Ytnbdogodcjhfiaa
open Go Go.Ax
set_option maxRecDepth 100000
set_option linter.unusedSimpArgs false
set_option linter.unusedVariables false

/-- A number as a row. -/
def iR (n : Int) : List AV := [int n]
theorem iR_len (n : Int) : (iR n).length = 1 := rfl
def zNd : Nd := .mk 0 [] 0 0 []
abbrev zCs : List AV := [int 0, str [], int 0, int 0, nilS]
theorem zLe : AV.Le (.agg zCs) (.agg (ndR zNd)) := by
  have e : ndR zNd = [int 0, str [], int 0, int 0, .sl 5 []] := by simp [zNd, ndR, ndRs]
  rw [e]
  refine AV.Le.agg rfl ?_
  intro i x y hx hy
  match i with
  | 0 => cases hx; cases hy; exact AV.Le.refl _
  | 1 => cases hx; cases hy; exact AV.Le.refl _
  | 2 => cases hx; cases hy; exact AV.Le.refl _
  | 3 => cases hx; cases hy; exact AV.Le.refl _
  | 4 => cases hx; cases hy; exact AV.Le.nil _
  | i + 5 => cases hx
theorem AVLe_tup2 {x y a b : AV} (h : AV.Le x y) (h2 : AV.Le a b) : AV.Le (.tup [x, a]) (.tup [y, b]) := fun w M ρ n v hv => by
  cases hv with
  | tup _ _ us hl' hr =>
    refine .tup _ _ _ hl' fun i z u hz hu => ?_
    match i with
    | 0 => cases hz; exact h _ _ _ _ _ (hr 0 _ u rfl hu)
    | 1 => cases hz; exact h2 _ _ _ _ _ (hr 1 _ u rfl hu)
    | i + 2 => cases hz

/-- The node with a path. -/
def getL : Nd → List Int → Option Nd
  | n, [] => some n
  | n, i :: p => if 0 ≤ i ∧ i < n.kids.length then getL (n.kids.getD i.toNat default) p else none
theorem getL_step {n : Nd} {p : List Int} {j : Nat} (h : j < p.length) : getL n (p.drop j) = if 0 ≤ p.getD j default ∧ p.getD j default < n.kids.length then getL (n.kids.getD (p.getD j default).toNat default) (p.drop (j + 1)) else none := by
  rw [drop_cons h]; rfl
def getX : Option Nd → AV
  | some m => .tup [.agg (ndR m), bool true]
  | none => .tup [.agg zCs, bool false]
def getA : Option Nd → AV
  | some m => .tup [.agg (ndR m), bool true]
  | none => .tup [.agg (ndR zNd), bool false]
theorem getX_le : ∀ o, AV.Le (getX o) (getA o)
  | some m => AV.Le.refl _
  | none => AVLe_tup2 zLe (AV.Le.refl _)
theorem nd_drop5 (n : Nd) : (ndR n).drop 5 = [] := by rw [ndR_eq]; rfl
theorem nd_cl (n : Nd) : AV.cl (.agg (ndR n)) = true := by simp [AV.cl, nd_clL]
theorem getX_cl : ∀ o, (getX o).cl = true
  | some m => by simp [getX, AV.cl, clL, nd_clL]
  | none => by simp [getX, AV.cl, clL]

theorem getT (n : Nd) (p : List Int) (hs : Sml n) (hp : p.length ≤ 9223372036854775807) (H : AHeap) : Comp' 25 [.agg (ndR n), .sl 1 (p.map iR)] H (getA (getL n p)) := by
  refine ACall.resTo (R := fun x H' => x = getX (getL n p) ∧ H' = H) ?_ (fun x H' ⟨h1, h2⟩ => ⟨_, h1 ▸ getX_le _, rfl, h2⟩)
  refine ACall.drop (R := fun x => x = getX (getL n p)) ?_
  refine enter Try.func25 L25_ok (Nat.le_of_ble_eq_true rfl) ?_
  repeat' (first | (refine And.intro (by omega) ?_) | simp -implicitDefEqProofs (disch := omega) only [L25, cells_agg, nd_c1s, dT_lt, dF_lt, dT_le, dF_le, dT_eq, dF_eq, push_cast, ↓reduceIte, Nat.reduceEqDiff, reduceCtorEq, Nat.reduceAdd, Nat.reduceSub, Nat.reduceMul, Nat.reduceLeDiff, Nat.reduceLT, Nat.reduceMod, Nat.reduceDiv, Int.reduceToNat, Int.reduceLT, Int.reduceLE, Int.reduceEq, Int.reduceAdd, Int.reduceSub, Int.reduceNeg, Int.reduceMul, Bool.and_self] | split)
  refine rk_loopS (fun (st : Nat × Nd) e' H' => e' 2 = .ptr H.length 0 0 ∧ e' 4 = .ptr (H.length + 1) 0 0 ∧ e' 8 = .sl 1 (p.map iR) ∧ e' 9 = int p.length ∧ e' 10 = int st.1 ∧ H' = H ++ [.box (ndR st.2), .box zCs] ∧ st.1 ≤ p.length ∧ Sml st.2 ∧ getL st.2 (p.drop st.1) = getL n p) (fun st => p.length - st.1) (0, n) ?_ ?_
  · exact ⟨rfl, rfl, rfl, rfl, rfl, rfl, Nat.zero_le _, hs, rfl⟩
  rintro ⟨j, m⟩ e' H' ⟨h2, h4, h8, h9, h10, rfl, hj, hsm, hg⟩
  simp only at h10 hj hsm hg
  have hln := sml_len hsm
  by_cases hlt : j < p.length
  · rw [getL_step hlt] at hg
    generalize hi : p.getD j default = i at *
    by_cases h0 : 0 ≤ i
    · obtain ⟨k, rfl⟩ : ∃ k : Nat, i = k := ⟨i.toNat, by omega⟩
      by_cases hk : k < m.kids.length
      · rw [if_pos ⟨h0, by omega⟩] at hg
        repeat' (first | (refine And.intro (by omega) ?_) | simp -implicitDefEqProofs (disch := omega) only [h2, h4, h8, h9, h10, rows_getD, iR, hi, nd_drop4, nd_len, nd_take, nd_c1s, nd_cellsV, cells_agg, splice, nd_clL, nd_drop5, List.append_nil, dT_lt, dF_lt, dT_le, dF_le, dT_eq, dF_eq, push_cast, ↓reduceIte, Nat.reduceEqDiff, reduceCtorEq, Nat.reduceAdd, Nat.reduceSub, Nat.reduceMul, Nat.reduceLeDiff, Nat.reduceLT, Nat.reduceMod, Nat.reduceDiv, Int.reduceToNat, Int.reduceLT, Int.reduceLE, Int.reduceEq, Int.reduceAdd, Int.reduceSub, Int.reduceNeg, Int.reduceMul, Bool.and_self] | split)
        exact .mk (j + 1, m.kids.getD k default) ⟨h2, h4, h8, h9, rfl, rfl, hlt, sml_kid hsm (getD_mem' hk), hg⟩ (by simp; omega)
      · rw [if_neg (by omega)] at hg
        rw [← hg]
        repeat' (first | (refine And.intro (by omega) ?_) | simp -implicitDefEqProofs (disch := omega) only [h2, h4, h8, h9, h10, rows_getD, iR, hi, nd_drop4, nd_len, nd_take, nd_c1s, nd_cellsV, cells_agg, splice, nd_clL, nd_drop5, List.append_nil, dT_lt, dF_lt, dT_le, dF_le, dT_eq, dF_eq, push_cast, ↓reduceIte, Nat.reduceEqDiff, reduceCtorEq, Nat.reduceAdd, Nat.reduceSub, Nat.reduceMul, Nat.reduceLeDiff, Nat.reduceLT, Nat.reduceMod, Nat.reduceDiv, Int.reduceToNat, Int.reduceLT, Int.reduceLE, Int.reduceEq, Int.reduceAdd, Int.reduceSub, Int.reduceNeg, Int.reduceMul, Bool.and_self] | split)
        exact ⟨rfl, _, rfl⟩
    · rw [if_neg (by omega)] at hg
      rw [← hg]
      repeat' (first | (refine And.intro (by omega) ?_) | simp -implicitDefEqProofs (disch := omega) only [h2, h4, h8, h9, h10, rows_getD, iR, hi, nd_drop4, nd_len, nd_take, nd_c1s, nd_cellsV, cells_agg, splice, nd_clL, nd_drop5, List.append_nil, dT_lt, dF_lt, dT_le, dF_le, dT_eq, dF_eq, push_cast, ↓reduceIte, Nat.reduceEqDiff, reduceCtorEq, Nat.reduceAdd, Nat.reduceSub, Nat.reduceMul, Nat.reduceLeDiff, Nat.reduceLT, Nat.reduceMod, Nat.reduceDiv, Int.reduceToNat, Int.reduceLT, Int.reduceLE, Int.reduceEq, Int.reduceAdd, Int.reduceSub, Int.reduceNeg, Int.reduceMul, Bool.and_self] | split)
      exact ⟨rfl, _, rfl⟩
  · have e : j = p.length := by omega
    subst e
    rw [List.drop_length] at hg
    rw [← hg]
    repeat' (first | (refine And.intro (by omega) ?_) | simp -implicitDefEqProofs (disch := omega) only [h2, h4, h8, h9, h10, nd_drop4, nd_len, nd_take, nd_c1s, nd_cellsV, cells_agg, splice, nd_clL, nd_drop5, List.append_nil, dT_lt, dF_lt, dT_le, dF_le, dT_eq, dF_eq, push_cast, ↓reduceIte, Nat.reduceEqDiff, reduceCtorEq, Nat.reduceAdd, Nat.reduceSub, Nat.reduceMul, Nat.reduceLeDiff, Nat.reduceLT, Nat.reduceMod, Nat.reduceDiv, Int.reduceToNat, Int.reduceLT, Int.reduceLE, Int.reduceEq, Int.reduceAdd, Int.reduceSub, Int.reduceNeg, Int.reduceMul, Bool.and_self] | split)
    exact ⟨rfl, _, rfl⟩

theorem getR (n : Nd) (p : List Int) (hs : Sml n) (hp : p.length ≤ 9223372036854775807) (H : AHeap) : Comp' 26 [.agg (ndR n), .sl 1 (p.map iR)] H (getA (getL n p)) := by
  refine ACall.resTo (R := fun x H' => x = getX (getL n p) ∧ H' = H) ?_ (fun x H' ⟨h1, h2⟩ => ⟨_, h1 ▸ getX_le _, rfl, h2⟩)
  refine ACall.drop (R := fun x => x = getX (getL n p)) ?_
  refine enter Try.func26 L26_ok (Nat.le_of_ble_eq_true rfl) ?_
  repeat' (first | (refine And.intro (by omega) ?_) | simp -implicitDefEqProofs (disch := omega) only [L26, cells_agg, nd_c1s, dT_lt, dF_lt, dT_le, dF_le, dT_eq, dF_eq, push_cast, ↓reduceIte, Nat.reduceEqDiff, reduceCtorEq, Nat.reduceAdd, Nat.reduceSub, Nat.reduceMul, Nat.reduceLeDiff, Nat.reduceLT, Nat.reduceMod, Nat.reduceDiv, Int.reduceToNat, Int.reduceLT, Int.reduceLE, Int.reduceEq, Int.reduceAdd, Int.reduceSub, Int.reduceNeg, Int.reduceMul, Bool.and_self] | split)
  refine rk_loopS (fun (st : Nat × Nd) e' H' => e' 2 = .ptr H.length 0 0 ∧ e' 4 = .ptr (H.length + 1) 0 0 ∧ e' 1 = .sl 1 (p.map iR) ∧ e' 6 = int st.1 ∧ H' = H ++ [.box (ndR st.2), .box zCs] ∧ st.1 ≤ p.length ∧ Sml st.2 ∧ getL st.2 (p.drop st.1) = getL n p) (fun st => p.length - st.1) (0, n) ?_ ?_
  · exact ⟨rfl, rfl, rfl, rfl, rfl, Nat.zero_le _, hs, rfl⟩
  rintro ⟨j, m⟩ e' H' ⟨h2, h4, h1, h6, rfl, hj, hsm, hg⟩
  simp only at h6 hj hsm hg
  have hln := sml_len hsm
  by_cases hlt : j < p.length
  · rw [getL_step hlt] at hg
    generalize hi : p.getD j default = i at *
    by_cases h0 : 0 ≤ i
    · obtain ⟨k, rfl⟩ : ∃ k : Nat, i = k := ⟨i.toNat, by omega⟩
      by_cases hk : k < m.kids.length
      · rw [if_pos ⟨h0, by omega⟩] at hg
        repeat' (first | (refine And.intro (by omega) ?_) | simp -implicitDefEqProofs (disch := omega) only [h2, h4, h1, h6, rows_getD, iR, hi, nd_drop4, nd_len, nd_take, nd_c1s, nd_cellsV, cells_agg, splice, nd_clL, nd_drop5, List.append_nil, dT_lt, dF_lt, dT_le, dF_le, dT_eq, dF_eq, push_cast, ↓reduceIte, Nat.reduceEqDiff, reduceCtorEq, Nat.reduceAdd, Nat.reduceSub, Nat.reduceMul, Nat.reduceLeDiff, Nat.reduceLT, Nat.reduceMod, Nat.reduceDiv, Int.reduceToNat, Int.reduceLT, Int.reduceLE, Int.reduceEq, Int.reduceAdd, Int.reduceSub, Int.reduceNeg, Int.reduceMul, Bool.and_self] | split)
        exact .mk (j + 1, m.kids.getD k default) ⟨h2, h4, h1, rfl, rfl, hlt, sml_kid hsm (getD_mem' hk), hg⟩ (by simp; omega)
      · rw [if_neg (by omega)] at hg
        rw [← hg]
        repeat' (first | (refine And.intro (by omega) ?_) | simp -implicitDefEqProofs (disch := omega) only [h2, h4, h1, h6, rows_getD, iR, hi, nd_drop4, nd_len, nd_take, nd_c1s, nd_cellsV, cells_agg, splice, nd_clL, nd_drop5, List.append_nil, dT_lt, dF_lt, dT_le, dF_le, dT_eq, dF_eq, push_cast, ↓reduceIte, Nat.reduceEqDiff, reduceCtorEq, Nat.reduceAdd, Nat.reduceSub, Nat.reduceMul, Nat.reduceLeDiff, Nat.reduceLT, Nat.reduceMod, Nat.reduceDiv, Int.reduceToNat, Int.reduceLT, Int.reduceLE, Int.reduceEq, Int.reduceAdd, Int.reduceSub, Int.reduceNeg, Int.reduceMul, Bool.and_self] | split)
        exact ⟨rfl, _, rfl⟩
    · rw [if_neg (by omega)] at hg
      rw [← hg]
      repeat' (first | (refine And.intro (by omega) ?_) | simp -implicitDefEqProofs (disch := omega) only [h2, h4, h1, h6, rows_getD, iR, hi, nd_drop4, nd_len, nd_take, nd_c1s, nd_cellsV, cells_agg, splice, nd_clL, nd_drop5, List.append_nil, dT_lt, dF_lt, dT_le, dF_le, dT_eq, dF_eq, push_cast, ↓reduceIte, Nat.reduceEqDiff, reduceCtorEq, Nat.reduceAdd, Nat.reduceSub, Nat.reduceMul, Nat.reduceLeDiff, Nat.reduceLT, Nat.reduceMod, Nat.reduceDiv, Int.reduceToNat, Int.reduceLT, Int.reduceLE, Int.reduceEq, Int.reduceAdd, Int.reduceSub, Int.reduceNeg, Int.reduceMul, Bool.and_self] | split)
      exact ⟨rfl, _, rfl⟩
  · have e : j = p.length := by omega
    subst e
    rw [List.drop_length] at hg
    rw [← hg]
    repeat' (first | (refine And.intro (by omega) ?_) | simp -implicitDefEqProofs (disch := omega) only [h2, h4, h1, h6, nd_drop4, nd_len, nd_take, nd_c1s, nd_cellsV, cells_agg, splice, nd_clL, nd_drop5, List.append_nil, dT_lt, dF_lt, dT_le, dF_le, dT_eq, dF_eq, push_cast, ↓reduceIte, Nat.reduceEqDiff, reduceCtorEq, Nat.reduceAdd, Nat.reduceSub, Nat.reduceMul, Nat.reduceLeDiff, Nat.reduceLT, Nat.reduceMod, Nat.reduceDiv, Int.reduceToNat, Int.reduceLT, Int.reduceLE, Int.reduceEq, Int.reduceAdd, Int.reduceSub, Int.reduceNeg, Int.reduceMul, Bool.and_self] | split)
    exact ⟨rfl, _, rfl⟩

theorem intsC (l m : List Int) (hl : l.length ≤ 9223372036854775807) (H : AHeap) : Comp' 37 [.sl 1 (l.map iR), .sl 1 (m.map iR)] H (bool (decide (l = m))) := by
  refine enter Try.func37 L37_ok (Nat.le_of_ble_eq_true rfl) ?_
  by_cases hlen : l.length = m.length
  · repeat' (first | (refine And.intro (by omega) ?_) | simp -implicitDefEqProofs (disch := omega) only [L37, dT_lt, dF_lt, dT_le, dF_le, dT_eq, dF_eq, push_cast, ↓reduceIte, Nat.reduceEqDiff, reduceCtorEq, Nat.reduceAdd, Nat.reduceSub, Nat.reduceMul, Nat.reduceLeDiff, Nat.reduceLT, Nat.reduceMod, Nat.reduceDiv, Int.reduceToNat, Int.reduceLT, Int.reduceLE, Int.reduceEq, Int.reduceAdd, Int.reduceSub, Int.reduceNeg, Int.reduceMul, Bool.and_self] | split)
    refine rk_loopS (fun (j : Nat) e' H' => e' 0 = .sl 1 (l.map iR) ∧ e' 1 = .sl 1 (m.map iR) ∧ e' 5 = int j ∧ H = H' ∧ j ≤ l.length ∧ l.take j = m.take j) (fun j => l.length - j) 0 ?_ ?_
    · exact ⟨rfl, rfl, rfl, rfl, Nat.zero_le _, rfl⟩
    rintro j e' H' ⟨h0, h1, h5, rfl, hj, ht⟩
    by_cases hlt : j < l.length
    · by_cases he : l.getD j default = m.getD j default
      · repeat' (first | (refine And.intro (by omega) ?_) | simp -implicitDefEqProofs (disch := omega) only [h0, h1, h5, rows_getD, iR, he, dT_lt, dF_lt, dT_le, dF_le, dT_eq, dF_eq, push_cast, ↓reduceIte, Nat.reduceEqDiff, reduceCtorEq, Nat.reduceAdd, Nat.reduceSub, Nat.reduceMul, Nat.reduceLeDiff, Nat.reduceLT, Nat.reduceMod, Nat.reduceDiv, Int.reduceToNat, Int.reduceLT, Int.reduceLE, Int.reduceEq, Int.reduceAdd, Int.reduceSub, Int.reduceNeg, Int.reduceMul, Bool.and_self] | split)
        refine .mk (j + 1) ⟨h0, h1, rfl, rfl, hlt, ?_⟩ (by omega)
        rw [take_snoc hlt, take_snoc (by omega), ht, he]
      · have hd : decide (l = m) = false := by
          simp only [decide_eq_false_iff_not]
          intro h; exact he (by rw [h])
        repeat' (first | (refine And.intro (by omega) ?_) | simp -implicitDefEqProofs (disch := omega) only [h0, h1, h5, rows_getD, iR, dT_lt, dF_lt, dT_le, dF_le, dT_eq, dF_eq, push_cast, ↓reduceIte, Nat.reduceEqDiff, reduceCtorEq, Nat.reduceAdd, Nat.reduceSub, Nat.reduceMul, Nat.reduceLeDiff, Nat.reduceLT, Nat.reduceMod, Nat.reduceDiv, Int.reduceToNat, Int.reduceLT, Int.reduceLE, Int.reduceEq, Int.reduceAdd, Int.reduceSub, Int.reduceNeg, Int.reduceMul, Bool.and_self] | split)
        rw [hd]
    · have hd : decide (l = m) = true := by
        simp only [decide_eq_true_eq]
        have := ht
        rwa [List.take_of_length_le (by omega), List.take_of_length_le (by omega)] at this
      repeat' (first | (refine And.intro (by omega) ?_) | simp -implicitDefEqProofs (disch := omega) only [h0, h1, h5, dT_lt, dF_lt, dT_le, dF_le, dT_eq, dF_eq, push_cast, ↓reduceIte, Nat.reduceEqDiff, reduceCtorEq, Nat.reduceAdd, Nat.reduceSub, Nat.reduceMul, Nat.reduceLeDiff, Nat.reduceLT, Nat.reduceMod, Nat.reduceDiv, Int.reduceToNat, Int.reduceLT, Int.reduceLE, Int.reduceEq, Int.reduceAdd, Int.reduceSub, Int.reduceNeg, Int.reduceMul, Bool.and_self] | split)
      rw [hd]
  · have hd : decide (l = m) = false := by
      simp only [decide_eq_false_iff_not]
      intro h; exact hlen (by rw [h])
    repeat' (first | (refine And.intro (by omega) ?_) | simp -implicitDefEqProofs (disch := omega) only [L37, dT_lt, dF_lt, dT_le, dF_le, dT_eq, dF_eq, push_cast, ↓reduceIte, Nat.reduceEqDiff, reduceCtorEq, Nat.reduceAdd, Nat.reduceSub, Nat.reduceMul, Nat.reduceLeDiff, Nat.reduceLT, Nat.reduceMod, Nat.reduceDiv, Int.reduceToNat, Int.reduceLT, Int.reduceLE, Int.reduceEq, Int.reduceAdd, Int.reduceSub, Int.reduceNeg, Int.reduceMul, Bool.and_self] | split)
    rw [hd]
#print axioms getT
#print axioms getR
end Go.Proofs.Ytnbdogodcjhfiaa

/- Trees: numbers of nodes. -/
namespace Go.Proofs.Ytnbdogodcjhfiaa
open Go Go.Ax
set_option maxRecDepth 100000
set_option linter.unusedSimpArgs false
set_option linter.unusedVariables false

/-- The number of the node with a path. -/
def numL : Nd → List Int → Option Nat
  | n, [] => some 0
  | n, i :: p => if 0 ≤ i ∧ i < n.kids.length then (numL (n.kids.getD i.toNat default) p).map (1 + cnts (n.kids.take i.toNat) + ·) else none
theorem numL_step {n : Nd} {p : List Int} {j : Nat} (h : j < p.length) : numL n (p.drop j) = if 0 ≤ p.getD j default ∧ p.getD j default < n.kids.length then (numL (n.kids.getD (p.getD j default).toNat default) (p.drop (j + 1))).map (1 + cnts (n.kids.take (p.getD j default).toNat) + ·) else none := by
  rw [drop_cons h]; rfl
theorem numL_some : ∀ (p : List Int) (n : Nd), (numL n p).isSome = (getL n p).isSome
  | [], n => rfl
  | i :: p, n => by
    simp only [numL, getL]
    split
    · rw [Option.isSome_map, numL_some p]
    · rfl
def numA : Option Nat → AV
  | some k => .tup [int k, bool true]
  | none => .tup [int 0, bool false]
theorem numA_cl : ∀ o, (numA o).cl = true
  | some m => by simp [numA, AV.cl, clL]
  | none => by simp [numA, AV.cl, clL]
theorem kid_cnt {n : Nd} {k : Nat} (h : k < n.kids.length) : 1 + cnts (n.kids.take k) + cnt (n.kids.getD k default) ≤ cnt n := by
  have h1 := cnts_snoc h
  have h2 := cnts_append (n.kids.take (k + 1)) (n.kids.drop (k + 1))
  rw [List.take_append_drop] at h2
  rw [cnt_eq n]
  omega
theorem opt_add {o : Option Nat} (a b : Nat) : (o.map (a + ·)).map (b + ·) = o.map (b + a + ·) := by
  cases o <;> simp [Nat.add_assoc]

theorem numT (n : Nd) (p : List Int) (hs : Sml n) (hp : p.length ≤ 9223372036854775807) (H : AHeap) : Comp' 29 [.agg (ndR n), .sl 1 (p.map iR)] H (numA (numL n p)) := by
  refine ACall.drop (R := fun x => x = numA (numL n p)) ?_
  refine enter Try.func29 L29_ok (Nat.le_of_ble_eq_true rfl) ?_
  have hc := sml_cnt hs
  repeat' (first | (refine And.intro (by omega) ?_) | simp -implicitDefEqProofs (disch := omega) only [L29, cells_agg, nd_c1s, dT_lt, dF_lt, dT_le, dF_le, dT_eq, dF_eq, push_cast, ↓reduceIte, Nat.reduceEqDiff, reduceCtorEq, Nat.reduceAdd, Nat.reduceSub, Nat.reduceMul, Nat.reduceLeDiff, Nat.reduceLT, Nat.reduceMod, Nat.reduceDiv, Int.reduceToNat, Int.reduceLT, Int.reduceLE, Int.reduceEq, Int.reduceAdd, Int.reduceSub, Int.reduceNeg, Int.reduceMul, Bool.and_self] | split)
  refine rk_loopS (fun (st : Nat × Nd × Nat × AHeap) e' H' => e' 2 = .ptr H.length 0 0 ∧ e' 6 = int st.2.2.1 ∧ e' 11 = .sl 1 (p.map iR) ∧ e' 12 = int p.length ∧ e' 13 = int st.1 ∧ H' = H ++ (.box (ndR st.2.1) :: st.2.2.2) ∧ st.1 ≤ p.length ∧ Sml st.2.1 ∧ st.2.2.1 + cnt st.2.1 ≤ cnt n ∧ (numL st.2.1 (p.drop st.1)).map (st.2.2.1 + ·) = numL n p) (fun st => p.length - st.1) (0, n, 0, []) ?_ ?_
  · exact ⟨rfl, rfl, rfl, rfl, rfl, rfl, Nat.zero_le _, hs, by simp, by simp⟩
  rintro ⟨j, m, a, ext⟩ e' H' ⟨h2, h6, h11, h12, h13, rfl, hj, hsm, hb, hg⟩
  simp only at h6 h13 hj hsm hb hg
  have hln := sml_len hsm
  have hpos := cnt_pos m
  by_cases hlt : j < p.length
  · rw [numL_step hlt] at hg
    generalize hi : p.getD j default = i at *
    by_cases h0 : 0 ≤ i
    · obtain ⟨k, rfl⟩ : ∃ k : Nat, i = k := ⟨i.toNat, by omega⟩
      by_cases hk : k < m.kids.length
      · rw [if_pos ⟨h0, by omega⟩, opt_add, Int.toNat_natCast] at hg
        obtain ⟨ks, hks⟩ : ∃ ks, ks = m.kids.take k := ⟨_, rfl⟩
        have hkl : ks.length = k := by rw [hks, List.length_take]; omega
        have htk : (m.kids.map ndR).take k = ks.map ndR := by rw [hks, List.map_take]
        have hkc := kid_cnt hk
        have hki : ∀ j, j < k → cnts (m.kids.take (j + 1)) = cnts (m.kids.take j) + cnt (ks.getD j default) ∧ cnts (m.kids.take (j + 1)) ≤ cnts (m.kids.take k) ∧ Sml (ks.getD j default) := by
          intro j hjk
          have e : ks.getD j default = m.kids.getD j default := by
            rw [hks]; simp [List.getD_eq_getElem?_getD, hjk]
          rw [e]
          refine ⟨cnts_snoc (by omega), ?_, sml_kid hsm (getD_mem' (by omega))⟩
          have h2 := cnts_append ((m.kids.take k).take (j + 1)) ((m.kids.take k).drop (j + 1))
          rw [List.take_append_drop, List.take_take, Nat.min_eq_left (by omega)] at h2
          omega
        rw [← hks] at hkc hg
        repeat' (first | (refine And.intro (by omega) ?_) | simp -implicitDefEqProofs (disch := omega) only [h2, h6, h11, h12, h13, rows_getD, iR, hi, nd_drop4, nd_len, nd_take, nd_c1s, nd_cellsV, cells_agg, splice, nd_clL, nd_drop5, List.append_nil, htk, hkl, Nat.sub_zero, List.length_map, dT_lt, dF_lt, dT_le, dF_le, dT_eq, dF_eq, push_cast, ↓reduceIte, Nat.reduceEqDiff, reduceCtorEq, Nat.reduceAdd, Nat.reduceSub, Nat.reduceMul, Nat.reduceLeDiff, Nat.reduceLT, Nat.reduceMod, Nat.reduceDiv, Int.reduceToNat, Int.reduceLT, Int.reduceLE, Int.reduceEq, Int.reduceAdd, Int.reduceSub, Int.reduceNeg, Int.reduceMul, Bool.and_self] | split)
        refine rk_loopS (fun (st : Nat × AHeap) e' H' => e' 2 = .ptr H.length 0 0 ∧ e' 6 = int (a + 1 + cnts (m.kids.take st.1) : Nat) ∧ e' 8 = int k ∧ e' 11 = .sl 1 (p.map iR) ∧ e' 12 = int p.length ∧ e' 13 = int j ∧ e' 31 = .sl 5 (ks.map ndR) ∧ e' 32 = int k ∧ e' 33 = int st.1 ∧ H' = H ++ (.box (ndR m) :: st.2) ∧ st.1 ≤ k) (fun st => k - st.1) (0, ext) ?_ ?_
        · exact ⟨h2, by simp [up, cnts], rfl, h11, h12, h13, rfl, rfl, rfl, rfl, Nat.zero_le _⟩
        rintro ⟨j2, ext⟩ e' H' ⟨h2, h6, h8, h11, h12, h13, h31, h32, h33, rfl, hj2⟩
        simp only at h6 h33 hj2
        by_cases hlt2 : j2 < k
        · obtain ⟨hq1, hq2, hq3⟩ := hki j2 hlt2
          rw [← hks] at hq2
          have hgg : ∀ x : HO, (H ++ HO.box (ndR m) :: (ext ++ [x]))[H.length + (ext.length + 1)]? = some x := fun x => by rw [get_add]; simp
          have hss : ∀ x y : HO, (H ++ HO.box (ndR m) :: (ext ++ [x])).set (H.length + (ext.length + 1)) y = H ++ HO.box (ndR m) :: (ext ++ [y]) := fun x y => by rw [set_add]; simp
          repeat' (first | (refine And.intro (by omega) ?_) | (refine callF_pure (countT _ hq3 _) ?_) | (refine callQF_pure (countT _ hq3 _) (by first | rfl | simp -implicitDefEqProofs (disch := omega) only [h2, h6, h8, h11, h12, h13, h31, h32, h33, nd_drop4, nd_len, rows_getD, nd_take, nd_c1s, cells_agg, hgg, hss, splice, nd_clL, nd_drop5, List.append_nil, dT_lt, dF_lt, dT_le, dF_le, dT_eq, dF_eq, push_cast, ↓reduceIte, Nat.reduceEqDiff, reduceCtorEq, Nat.reduceAdd, Nat.reduceSub, Nat.reduceMul, Nat.reduceLeDiff, Nat.reduceLT, Nat.reduceMod, Nat.reduceDiv, Int.reduceToNat, Int.reduceLT, Int.reduceLE, Int.reduceEq, Int.reduceAdd, Int.reduceSub, Int.reduceNeg, Int.reduceMul, Bool.and_self]) ?_) | simp -implicitDefEqProofs (disch := omega) only [h2, h6, h8, h11, h12, h13, h31, h32, h33, nd_drop4, nd_len, rows_getD, nd_take, nd_c1s, cells_agg, hgg, hss, splice, nd_clL, nd_drop5, List.append_nil, dT_lt, dF_lt, dT_le, dF_le, dT_eq, dF_eq, push_cast, ↓reduceIte, Nat.reduceEqDiff, reduceCtorEq, Nat.reduceAdd, Nat.reduceSub, Nat.reduceMul, Nat.reduceLeDiff, Nat.reduceLT, Nat.reduceMod, Nat.reduceDiv, Int.reduceToNat, Int.reduceLT, Int.reduceLE, Int.reduceEq, Int.reduceAdd, Int.reduceSub, Int.reduceNeg, Int.reduceMul, Bool.and_self] | split)
          exact .mk (j2 + 1, _) ⟨h2, intc rfl (by rw [hq1]; omega), h8, h11, h12, h13, h31, h32, rfl, rfl, hlt2⟩ (by simp; omega)
        · have e : j2 = k := by omega
          subst e
          repeat' (first | (refine And.intro (by omega) ?_) | simp -implicitDefEqProofs (disch := omega) only [h2, h6, h8, h11, h12, h13, h31, h32, h33, nd_drop4, nd_len, rows_getD, nd_take, nd_c1s, nd_cellsV, cells_agg, splice, nd_clL, nd_drop5, List.append_nil, dT_lt, dF_lt, dT_le, dF_le, dT_eq, dF_eq, push_cast, ↓reduceIte, Nat.reduceEqDiff, reduceCtorEq, Nat.reduceAdd, Nat.reduceSub, Nat.reduceMul, Nat.reduceLeDiff, Nat.reduceLT, Nat.reduceMod, Nat.reduceDiv, Int.reduceToNat, Int.reduceLT, Int.reduceLE, Int.reduceEq, Int.reduceAdd, Int.reduceSub, Int.reduceNeg, Int.reduceMul, Bool.and_self] | split)
          exact .mk (j + 1, m.kids.getD j2 default, a + 1 + cnts (m.kids.take j2), ext) ⟨h2, h6, h11, h12, rfl, rfl, hlt, sml_kid hsm (getD_mem' hk), by rw [← hks]; simp only; omega, by rw [← hg, ← hks]; simp only [Nat.add_assoc]⟩ (by simp; omega)
      · rw [if_neg (by omega)] at hg
        rw [← hg]
        repeat' (first | (refine And.intro (by omega) ?_) | simp -implicitDefEqProofs (disch := omega) only [h2, h6, h11, h12, h13, rows_getD, iR, hi, nd_drop4, nd_len, nd_take, nd_c1s, nd_cellsV, cells_agg, splice, nd_clL, nd_drop5, List.append_nil, dT_lt, dF_lt, dT_le, dF_le, dT_eq, dF_eq, push_cast, ↓reduceIte, Nat.reduceEqDiff, reduceCtorEq, Nat.reduceAdd, Nat.reduceSub, Nat.reduceMul, Nat.reduceLeDiff, Nat.reduceLT, Nat.reduceMod, Nat.reduceDiv, Int.reduceToNat, Int.reduceLT, Int.reduceLE, Int.reduceEq, Int.reduceAdd, Int.reduceSub, Int.reduceNeg, Int.reduceMul, Bool.and_self] | split)
        exact ⟨rfl, _, rfl⟩
    · rw [if_neg (by omega)] at hg
      rw [← hg]
      repeat' (first | (refine And.intro (by omega) ?_) | simp -implicitDefEqProofs (disch := omega) only [h2, h6, h11, h12, h13, rows_getD, iR, hi, nd_drop4, nd_len, nd_take, nd_c1s, nd_cellsV, cells_agg, splice, nd_clL, nd_drop5, List.append_nil, dT_lt, dF_lt, dT_le, dF_le, dT_eq, dF_eq, push_cast, ↓reduceIte, Nat.reduceEqDiff, reduceCtorEq, Nat.reduceAdd, Nat.reduceSub, Nat.reduceMul, Nat.reduceLeDiff, Nat.reduceLT, Nat.reduceMod, Nat.reduceDiv, Int.reduceToNat, Int.reduceLT, Int.reduceLE, Int.reduceEq, Int.reduceAdd, Int.reduceSub, Int.reduceNeg, Int.reduceMul, Bool.and_self] | split)
      exact ⟨rfl, _, rfl⟩
  · have e : j = p.length := by omega
    subst e
    rw [List.drop_length] at hg
    rw [← hg]
    repeat' (first | (refine And.intro (by omega) ?_) | simp -implicitDefEqProofs (disch := omega) only [h2, h6, h11, h12, h13, dT_lt, dF_lt, dT_le, dF_le, dT_eq, dF_eq, push_cast, ↓reduceIte, Nat.reduceEqDiff, reduceCtorEq, Nat.reduceAdd, Nat.reduceSub, Nat.reduceMul, Nat.reduceLeDiff, Nat.reduceLT, Nat.reduceMod, Nat.reduceDiv, Int.reduceToNat, Int.reduceLT, Int.reduceLE, Int.reduceEq, Int.reduceAdd, Int.reduceSub, Int.reduceNeg, Int.reduceMul, Bool.and_self] | split)
    exact ⟨by simp [numA, numL], _, rfl⟩

theorem numR (n : Nd) (p : List Int) (hs : Sml n) (hp : p.length ≤ 9223372036854775806) (H : AHeap) : Comp' 30 [.agg (ndR n), .sl 1 (p.map iR)] H (numA (numL n p)) := by
  refine ACall.drop (R := fun x => x = numA (numL n p)) ?_
  refine enter Try.func30 L30_ok (Nat.le_of_ble_eq_true rfl) ?_
  have hc := sml_cnt hs
  have hcg := fun H => getR n p hs (by omega) H
  have hsome := numL_some p n
  cases hgx : getL n p with
  | none =>
    rw [hgx] at hcg hsome
    have hnn : numL n p = none := by cases hh : numL n p <;> simp_all
    rw [hnn]
    simp only [getA] at hcg
    repeat' (first | (refine And.intro (by omega) ?_) | (refine callF_pure (hcg _) ?_) | (refine callQF_pure (hcg _) (by first | rfl | simp -implicitDefEqProofs (disch := omega) only [L30, cells_agg, nd_c1s, nd_len, nd_take, splice, dT_lt, dF_lt, dT_le, dF_le, dT_eq, dF_eq, push_cast, ↓reduceIte, Nat.reduceEqDiff, reduceCtorEq, Nat.reduceAdd, Nat.reduceSub, Nat.reduceMul, Nat.reduceLeDiff, Nat.reduceLT, Nat.reduceMod, Nat.reduceDiv, Int.reduceToNat, Int.reduceLT, Int.reduceLE, Int.reduceEq, Int.reduceAdd, Int.reduceSub, Int.reduceNeg, Int.reduceMul, Bool.and_self]) ?_) | simp -implicitDefEqProofs (disch := omega) only [L30, cells_agg, nd_c1s, nd_len, nd_take, splice, dT_lt, dF_lt, dT_le, dF_le, dT_eq, dF_eq, push_cast, ↓reduceIte, Nat.reduceEqDiff, reduceCtorEq, Nat.reduceAdd, Nat.reduceSub, Nat.reduceMul, Nat.reduceLeDiff, Nat.reduceLT, Nat.reduceMod, Nat.reduceDiv, Int.reduceToNat, Int.reduceLT, Int.reduceLE, Int.reduceEq, Int.reduceAdd, Int.reduceSub, Int.reduceNeg, Int.reduceMul, Bool.and_self] | split)
    exact ⟨rfl, _, rfl⟩
  | some x0 =>
    rw [hgx] at hcg hsome
    simp only [getA] at hcg
    repeat' (first | (refine And.intro (by omega) ?_) | (refine callF_pure (hcg _) ?_) | (refine callQF_pure (hcg _) (by first | rfl | simp -implicitDefEqProofs (disch := omega) only [L30, cells_agg, nd_c1s, nd_len, nd_take, splice, dT_lt, dF_lt, dT_le, dF_le, dT_eq, dF_eq, push_cast, ↓reduceIte, Nat.reduceEqDiff, reduceCtorEq, Nat.reduceAdd, Nat.reduceSub, Nat.reduceMul, Nat.reduceLeDiff, Nat.reduceLT, Nat.reduceMod, Nat.reduceDiv, Int.reduceToNat, Int.reduceLT, Int.reduceLE, Int.reduceEq, Int.reduceAdd, Int.reduceSub, Int.reduceNeg, Int.reduceMul, Bool.and_self]) ?_) | simp -implicitDefEqProofs (disch := omega) only [L30, cells_agg, nd_c1s, nd_len, nd_take, splice, dT_lt, dF_lt, dT_le, dF_le, dT_eq, dF_eq, push_cast, ↓reduceIte, Nat.reduceEqDiff, reduceCtorEq, Nat.reduceAdd, Nat.reduceSub, Nat.reduceMul, Nat.reduceLeDiff, Nat.reduceLT, Nat.reduceMod, Nat.reduceDiv, Int.reduceToNat, Int.reduceLT, Int.reduceLE, Int.reduceEq, Int.reduceAdd, Int.reduceSub, Int.reduceNeg, Int.reduceMul, Bool.and_self] | split)
    refine rk_loopS (fun (st : Nat × Nd × Nat) e' H' => e' 1 = .sl 1 (p.map iR) ∧ e' 2 = .ptr H.length 0 0 ∧ e' 8 = int st.2.2 ∧ e' 9 = int st.1 ∧ H' = H ++ [.box (ndR st.2.1), .box (ndR x0)] ∧ st.1 ≤ p.length ∧ Sml st.2.1 ∧ st.2.2 + cnt st.2.1 ≤ cnt n ∧ (numL st.2.1 (p.drop st.1)).map (st.2.2 + ·) = numL n p) (fun st => p.length - st.1) (0, n, 0) ?_ ?_
    · exact ⟨rfl, rfl, rfl, rfl, rfl, Nat.zero_le _, hs, by simp, by simp⟩
    rintro ⟨j, m, a⟩ e' H' ⟨h1, h2, h8, h9, rfl, hj, hsm, hb, hg⟩
    simp only at h8 h9 hj hsm hb hg
    have hln := sml_len hsm
    have hpos := cnt_pos m
    by_cases hlt : j < p.length
    · rw [numL_step hlt] at hg
      generalize hi : p.getD j default = i at *
      by_cases hok : 0 ≤ i ∧ i < m.kids.length
      · rw [if_pos hok] at hg
        obtain ⟨k, rfl⟩ : ∃ k : Nat, i = k := ⟨i.toNat, by omega⟩
        have hk : k < m.kids.length := by omega
        rw [opt_add, Int.toNat_natCast] at hg
        have hkc := kid_cnt hk
        repeat' (first | (refine And.intro (by omega) ?_) | simp -implicitDefEqProofs (disch := omega) only [h1, h2, h8, h9, rows_getD, iR, hi, nd_drop4, nd_len, nd_take, nd_c1s, nd_cellsV, cells_agg, splice, nd_clL, nd_drop5, List.append_nil, dT_lt, dF_lt, dT_le, dF_le, dT_eq, dF_eq, push_cast, ↓reduceIte, Nat.reduceEqDiff, reduceCtorEq, Nat.reduceAdd, Nat.reduceSub, Nat.reduceMul, Nat.reduceLeDiff, Nat.reduceLT, Nat.reduceMod, Nat.reduceDiv, Int.reduceToNat, Int.reduceLT, Int.reduceLE, Int.reduceEq, Int.reduceAdd, Int.reduceSub, Int.reduceNeg, Int.reduceMul, Bool.and_self] | split)
        refine rk_loopS (fun (j2 : Nat) e' H' => e' 1 = .sl 1 (p.map iR) ∧ e' 2 = .ptr H.length 0 0 ∧ e' 8 = int (a + 1 + cnts (m.kids.take j2) : Nat) ∧ e' 9 = int j ∧ e' 10 = int j2 ∧ H' = H ++ [.box (ndR m), .box (ndR x0)] ∧ j2 ≤ k) (fun j2 => k - j2) 0 ?_ ?_
        · exact ⟨h1, h2, by simp [up, cnts], h9, rfl, rfl, Nat.zero_le _⟩
        rintro j2 e' H' ⟨h1, h2, h8, h9, h10, rfl, hj2⟩
        by_cases hlt2 : j2 < k
        · have hq1 := cnts_snoc (show j2 < m.kids.length by omega)
          have hq2 : cnts (m.kids.take (j2 + 1)) ≤ cnts (m.kids.take k) := by
            have h2 := cnts_append ((m.kids.take k).take (j2 + 1)) ((m.kids.take k).drop (j2 + 1))
            rw [List.take_append_drop, List.take_take, Nat.min_eq_left (by omega)] at h2
            omega
          have hq3 : Sml (m.kids.getD j2 default) := sml_kid hsm (getD_mem' (by omega))
          repeat' (first | (refine And.intro (by omega) ?_) | (refine callF_pure (countR _ hq3 _) ?_) | (refine callQF_pure (countR _ hq3 _) (by first | rfl | simp -implicitDefEqProofs (disch := omega) only [h1, h2, h8, h9, h10, nd_drop4, nd_len, rows_getD, iR, hi, nd_take, nd_c1s, cells_agg, splice, nd_clL, nd_drop5, List.append_nil, dT_lt, dF_lt, dT_le, dF_le, dT_eq, dF_eq, push_cast, ↓reduceIte, Nat.reduceEqDiff, reduceCtorEq, Nat.reduceAdd, Nat.reduceSub, Nat.reduceMul, Nat.reduceLeDiff, Nat.reduceLT, Nat.reduceMod, Nat.reduceDiv, Int.reduceToNat, Int.reduceLT, Int.reduceLE, Int.reduceEq, Int.reduceAdd, Int.reduceSub, Int.reduceNeg, Int.reduceMul, Bool.and_self]) ?_) | simp -implicitDefEqProofs (disch := omega) only [h1, h2, h8, h9, h10, nd_drop4, nd_len, rows_getD, iR, hi, nd_take, nd_c1s, cells_agg, splice, nd_clL, nd_drop5, List.append_nil, dT_lt, dF_lt, dT_le, dF_le, dT_eq, dF_eq, push_cast, ↓reduceIte, Nat.reduceEqDiff, reduceCtorEq, Nat.reduceAdd, Nat.reduceSub, Nat.reduceMul, Nat.reduceLeDiff, Nat.reduceLT, Nat.reduceMod, Nat.reduceDiv, Int.reduceToNat, Int.reduceLT, Int.reduceLE, Int.reduceEq, Int.reduceAdd, Int.reduceSub, Int.reduceNeg, Int.reduceMul, Bool.and_self] | split)
          exact .mk (j2 + 1) ⟨h1, h2, intc rfl (by rw [hq1]; omega), h9, rfl, rfl, hlt2⟩ (by omega)
        · have e : j2 = k := by omega
          subst e
          repeat' (first | (refine And.intro (by omega) ?_) | simp -implicitDefEqProofs (disch := omega) only [h1, h2, h8, h9, h10, nd_drop4, nd_len, rows_getD, iR, hi, nd_take, nd_c1s, nd_cellsV, cells_agg, splice, nd_clL, nd_drop5, List.append_nil, dT_lt, dF_lt, dT_le, dF_le, dT_eq, dF_eq, push_cast, ↓reduceIte, Nat.reduceEqDiff, reduceCtorEq, Nat.reduceAdd, Nat.reduceSub, Nat.reduceMul, Nat.reduceLeDiff, Nat.reduceLT, Nat.reduceMod, Nat.reduceDiv, Int.reduceToNat, Int.reduceLT, Int.reduceLE, Int.reduceEq, Int.reduceAdd, Int.reduceSub, Int.reduceNeg, Int.reduceMul, Bool.and_self] | split)
          exact .mk (j + 1, m.kids.getD j2 default, a + 1 + cnts (m.kids.take j2)) ⟨h1, h2, h8, rfl, rfl, hlt, sml_kid hsm (getD_mem' hk), by simp only; omega, by rw [← hg]; simp only [Nat.add_assoc]⟩ (by simp; omega)
      · rw [if_neg hok] at hg
        rw [← hg] at hsome
        simp at hsome
    · have e : j = p.length := by omega
      subst e
      rw [List.drop_length] at hg
      rw [← hg]
      repeat' (first | (refine And.intro (by omega) ?_) | simp -implicitDefEqProofs (disch := omega) only [h1, h2, h8, h9, dT_lt, dF_lt, dT_le, dF_le, dT_eq, dF_eq, push_cast, ↓reduceIte, Nat.reduceEqDiff, reduceCtorEq, Nat.reduceAdd, Nat.reduceSub, Nat.reduceMul, Nat.reduceLeDiff, Nat.reduceLT, Nat.reduceMod, Nat.reduceDiv, Int.reduceToNat, Int.reduceLT, Int.reduceLE, Int.reduceEq, Int.reduceAdd, Int.reduceSub, Int.reduceNeg, Int.reduceMul, Bool.and_self] | split)
      exact ⟨by simp [numA, numL], _, rfl⟩
#print axioms numT
#print axioms numR
end Go.Proofs.Ytnbdogodcjhfiaa

/- Trees: paths of nodes. -/
namespace Go.Proofs.Ytnbdogodcjhfiaa
open Go Go.Ax
set_option maxRecDepth 100000
set_option linter.unusedSimpArgs false
set_option linter.unusedVariables false

mutual
/-- The path of the node with a number. -/
def pathF : Nd → Nat → List Int
  | .mk _ _ _ _ _, 0 => []
  | .mk _ _ _ _ ks, k + 1 => pathFs ks 0 k
def pathFs : List Nd → Nat → Nat → List Int
  | [], _, _ => []
  | x :: l, i, k => if k < cnt x then (i : Int) :: pathF x k else pathFs l (i + 1) (k - cnt x)
end
theorem pathF_0 (n : Nd) : pathF n 0 = [] := by cases n; rfl
theorem pathF_succ (n : Nd) (k : Nat) : pathF n (k + 1) = pathFs n.kids 0 k := by cases n; rfl
theorem pathFs_step {l : List Nd} {j k : Nat} (h : j < l.length) : pathFs (l.drop j) j k = if k < cnt (l.getD j default) then (j : Int) :: pathF (l.getD j default) k else pathFs (l.drop (j + 1)) (j + 1) (k - cnt (l.getD j default)) := by
  rw [drop_cons h]; rfl
theorem cnts_drop {l : List Nd} {j : Nat} (h : j < l.length) : cnts (l.drop j) = cnt (l.getD j default) + cnts (l.drop (j + 1)) := by
  rw [drop_cons h]; rfl
def pathO (n : Nd) (k : Int) : Option (List Int) := if 0 ≤ k ∧ k < cnt n then some (pathF n k.toNat) else none
def pathX : Option (List Int) → AV
  | some p => .tup [.sl 1 (p.map iR), bool true]
  | none => .tup [nilS, bool false]
def pathA : Option (List Int) → AV
  | some p => .tup [.sl 1 (p.map iR), bool true]
  | none => .tup [.sl 1 [], bool false]
theorem pathX_le : ∀ o, AV.Le (pathX o) (pathA o)
  | some m => AV.Le.refl _
  | none => AVLe_tup2 (AV.Le.nil 1) (AV.Le.refl _)
theorem pathX_cl : ∀ o, (pathX o).cl = true
  | some m => by simp [pathX, AV.cl, clL]
  | none => by simp [pathX, AV.cl, clL]

theorem pathT (n : Nd) (k : Int) (hs : Sml n) (H : AHeap) : Comp' 27 [.agg (ndR n), int k] H (pathA (pathO n k)) := by
  refine ACall.resTo (R := fun x H' => x = pathX (pathO n k) ∧ H' = H) ?_ (fun x H' ⟨h1, h2⟩ => ⟨_, h1 ▸ pathX_le _, rfl, h2⟩)
  refine ACall.drop (R := fun x => x = pathX (pathO n k)) ?_
  refine enter Try.func27 L27_ok (Nat.le_of_ble_eq_true rfl) ?_
  have hc := sml_cnt hs
  by_cases h0 : 0 ≤ k
  · obtain ⟨k, rfl⟩ : ∃ k' : Nat, k = k' := ⟨k.toNat, by omega⟩
    by_cases hk : k < cnt n
    · have ho : pathO n k = some (pathF n k) := by unfold pathO; rw [if_pos ⟨h0, by omega⟩]; rfl
      rw [ho]
      repeat' (first | (refine And.intro (by omega) ?_) | (refine callF_pure (countT n hs _) ?_) | (refine callQF_pure (countT n hs _) (by first | rfl | simp -implicitDefEqProofs (disch := omega) only [L27, cells_agg, nd_c1s, nd_len, nd_take, dT_lt, dF_lt, dT_le, dF_le, dT_eq, dF_eq, push_cast, ↓reduceIte, Nat.reduceEqDiff, reduceCtorEq, Nat.reduceAdd, Nat.reduceSub, Nat.reduceMul, Nat.reduceLeDiff, Nat.reduceLT, Nat.reduceMod, Nat.reduceDiv, Int.reduceToNat, Int.reduceLT, Int.reduceLE, Int.reduceEq, Int.reduceAdd, Int.reduceSub, Int.reduceNeg, Int.reduceMul, Bool.and_self]) ?_) | simp -implicitDefEqProofs (disch := omega) only [L27, cells_agg, nd_c1s, nd_len, nd_take, dT_lt, dF_lt, dT_le, dF_le, dT_eq, dF_eq, push_cast, ↓reduceIte, Nat.reduceEqDiff, reduceCtorEq, Nat.reduceAdd, Nat.reduceSub, Nat.reduceMul, Nat.reduceLeDiff, Nat.reduceLT, Nat.reduceMod, Nat.reduceDiv, Int.reduceToNat, Int.reduceLT, Int.reduceLE, Int.reduceEq, Int.reduceAdd, Int.reduceSub, Int.reduceNeg, Int.reduceMul, Bool.and_self] | split)
      refine rk_loopS (fun (st : Nat × Nd × List Int × Nat × AHeap) e' H' => e' 1 = int st.1 ∧ e' 2 = .ptr H.length 0 0 ∧ e' 6 = .os (H.length + 1) st.2.2.2.1 0 st.2.2.1.length ∧ H' = H ++ (.box (ndR st.2.1) :: .arr st.2.2.2.1 1 (st.2.2.1.map iR) :: st.2.2.2.2) ∧ Sml st.2.1 ∧ st.1 < cnt st.2.1 ∧ st.2.2.1.length + cnt st.2.1 ≤ cnt n ∧ st.2.2.1 ++ pathF st.2.1 st.1 = pathF n k) (fun st => st.1) (k, n, [], 0, []) ?_ ?_
      · exact ⟨rfl, rfl, rfl, rfl, hs, hk, by simp, rfl⟩
      rintro ⟨c, m, out, v, ext⟩ e' H' ⟨h1, h2, h6, rfl, hsm, hcm, hol, hg⟩
      simp only at h1 h6 hsm hcm hol hg
      have hln := sml_len hsm
      cases c with
      | zero =>
        rw [pathF_0, List.append_nil] at hg
        rw [← hg]
        repeat' (first | (refine And.intro (by omega) ?_) | simp -implicitDefEqProofs (disch := omega) only [h1, h2, h6, dT_lt, dF_lt, dT_le, dF_le, dT_eq, dF_eq, push_cast, ↓reduceIte, Nat.reduceEqDiff, reduceCtorEq, Nat.reduceAdd, Nat.reduceSub, Nat.reduceMul, Nat.reduceLeDiff, Nat.reduceLT, Nat.reduceMod, Nat.reduceDiv, Int.reduceToNat, Int.reduceLT, Int.reduceLE, Int.reduceEq, Int.reduceAdd, Int.reduceSub, Int.reduceNeg, Int.reduceMul, Bool.and_self] | split)
        refine ⟨?_, _, rfl⟩
        simp [pathX]
      | succ c =>
        rw [pathF_succ] at hg
        have hcm' := hcm
        rw [cnt_eq] at hcm'
        have hcms := sml_cnt hsm
        repeat' (first | (refine And.intro (by omega) ?_) | simp -implicitDefEqProofs (disch := omega) only [h1, h2, h6, nd_drop4, nd_len, dT_lt, dF_lt, dT_le, dF_le, dT_eq, dF_eq, push_cast, ↓reduceIte, Nat.reduceEqDiff, reduceCtorEq, Nat.reduceAdd, Nat.reduceSub, Nat.reduceMul, Nat.reduceLeDiff, Nat.reduceLT, Nat.reduceMod, Nat.reduceDiv, Int.reduceToNat, Int.reduceLT, Int.reduceLE, Int.reduceEq, Int.reduceAdd, Int.reduceSub, Int.reduceNeg, Int.reduceMul, Bool.and_self] | split)
        refine rk_loopS (fun (st : Nat × Nat × AHeap) e' H' => e' 1 = int st.2.1 ∧ e' 2 = .ptr H.length 0 0 ∧ e' 6 = .os (H.length + 1) v 0 out.length ∧ e' 23 = .sl 5 (m.kids.map ndR) ∧ e' 24 = int m.kids.length ∧ e' 25 = int st.1 ∧ H' = H ++ (.box (ndR m) :: .arr v 1 (out.map iR) :: st.2.2) ∧ st.2.1 ≤ c ∧ st.2.1 < cnts (m.kids.drop st.1) ∧ out ++ pathFs (m.kids.drop st.1) st.1 st.2.1 = pathF n k) (fun st => m.kids.length - st.1) (0, c, ext) ?_ ?_
        · exact ⟨intc rfl (by simp only; omega), h2, h6, rfl, rfl, rfl, rfl, Nat.le_refl _, by simp; omega, by simpa using hg⟩
        rintro ⟨i, c', ext⟩ e' H' ⟨h1, h2, h6, h23, h24, h25, rfl, hcc, hcd, hg⟩
        simp only at h1 h25 hcc hcd hg
        have hi : i < m.kids.length := by
          apply Classical.byContradiction
          intro hh
          rw [List.drop_eq_nil_of_le (by omega)] at hcd
          simp [cnts] at hcd
        have hsk := sml_kid hsm (getD_mem' hi)
        have hck := sml_cnt hsk
        have hkc := kid_cnt hi
        rw [pathFs_step hi] at hg
        rw [cnts_drop hi] at hcd
        have hgg : ∀ (a b x : HO), (H ++ a :: b :: (ext ++ [x]))[H.length + (ext.length + 1 + 1)]? = some x := fun a b x => by rw [get_add]; simp
        have hss : ∀ (a b x y : HO), (H ++ a :: b :: (ext ++ [x])).set (H.length + (ext.length + 1 + 1)) y = H ++ a :: b :: (ext ++ [y]) := fun a b x y => by rw [set_add]; simp
        by_cases hlt : c' < cnt (m.kids.getD i default)
        · rw [if_pos hlt] at hg
          repeat' (first | (refine And.intro (by omega) ?_) | (refine callF_pure (countT _ hsk _) ?_) | (refine callQF_pure (countT _ hsk _) (by first | rfl | simp -implicitDefEqProofs (disch := omega) only [h1, h2, h6, h23, h24, h25, nd_drop4, nd_len, rows_getD, nd_take, nd_c1s, nd_cellsV, cells_agg, hgg, hss, splice, nd_clL, nd_drop5, List.append_nil, iR, dT_lt, dF_lt, dT_le, dF_le, dT_eq, dF_eq, push_cast, ↓reduceIte, Nat.reduceEqDiff, reduceCtorEq, Nat.reduceAdd, Nat.reduceSub, Nat.reduceMul, Nat.reduceLeDiff, Nat.reduceLT, Nat.reduceMod, Nat.reduceDiv, Int.reduceToNat, Int.reduceLT, Int.reduceLE, Int.reduceEq, Int.reduceAdd, Int.reduceSub, Int.reduceNeg, Int.reduceMul, Bool.and_self]) ?_) | simp -implicitDefEqProofs (disch := omega) only [h1, h2, h6, h23, h24, h25, nd_drop4, nd_len, rows_getD, nd_take, nd_c1s, nd_cellsV, cells_agg, hgg, hss, splice, nd_clL, nd_drop5, List.append_nil, iR, dT_lt, dF_lt, dT_le, dF_le, dT_eq, dF_eq, push_cast, ↓reduceIte, Nat.reduceEqDiff, reduceCtorEq, Nat.reduceAdd, Nat.reduceSub, Nat.reduceMul, Nat.reduceLeDiff, Nat.reduceLT, Nat.reduceMod, Nat.reduceDiv, Int.reduceToNat, Int.reduceLT, Int.reduceLE, Int.reduceEq, Int.reduceAdd, Int.reduceSub, Int.reduceNeg, Int.reduceMul, Bool.and_self] | split)
          refine .mk (c', m.kids.getD i default, out ++ [(i : Int)], v + 1, ext ++ [.box (ndR (m.kids.getD i default))]) ⟨h1, h2, by simp [up, ups], ?_, hsk, hlt, by simp only [List.length_append, List.length_cons, List.length_nil]; omega, by rw [List.append_assoc]; exact hg⟩ (by simp; omega)
          simp [iR]
        · rw [if_neg hlt] at hg
          repeat' (first | (refine And.intro (by omega) ?_) | (refine callF_pure (countT _ hsk _) ?_) | (refine callQF_pure (countT _ hsk _) (by first | rfl | simp -implicitDefEqProofs (disch := omega) only [h1, h2, h6, h23, h24, h25, nd_drop4, nd_len, rows_getD, nd_take, nd_c1s, nd_cellsV, cells_agg, hgg, hss, splice, nd_clL, nd_drop5, List.append_nil, iR, dT_lt, dF_lt, dT_le, dF_le, dT_eq, dF_eq, push_cast, ↓reduceIte, Nat.reduceEqDiff, reduceCtorEq, Nat.reduceAdd, Nat.reduceSub, Nat.reduceMul, Nat.reduceLeDiff, Nat.reduceLT, Nat.reduceMod, Nat.reduceDiv, Int.reduceToNat, Int.reduceLT, Int.reduceLE, Int.reduceEq, Int.reduceAdd, Int.reduceSub, Int.reduceNeg, Int.reduceMul, Bool.and_self]) ?_) | simp -implicitDefEqProofs (disch := omega) only [h1, h2, h6, h23, h24, h25, nd_drop4, nd_len, rows_getD, nd_take, nd_c1s, nd_cellsV, cells_agg, hgg, hss, splice, nd_clL, nd_drop5, List.append_nil, iR, dT_lt, dF_lt, dT_le, dF_le, dT_eq, dF_eq, push_cast, ↓reduceIte, Nat.reduceEqDiff, reduceCtorEq, Nat.reduceAdd, Nat.reduceSub, Nat.reduceMul, Nat.reduceLeDiff, Nat.reduceLT, Nat.reduceMod, Nat.reduceDiv, Int.reduceToNat, Int.reduceLT, Int.reduceLE, Int.reduceEq, Int.reduceAdd, Int.reduceSub, Int.reduceNeg, Int.reduceMul, Bool.and_self] | split)
          exact .mk (i + 1, c' - cnt (m.kids.getD i default), _) ⟨intc rfl (by simp only; omega), h2, h6, h23, h24, rfl, rfl, by simp only; omega, by simp only; omega, hg⟩ (by simp only; omega)
    · have ho : pathO n k = none := by unfold pathO; rw [if_neg (by omega)]
      rw [ho]
      repeat' (first | (refine And.intro (by omega) ?_) | (refine callF_pure (countT n hs _) ?_) | (refine callQF_pure (countT n hs _) (by first | rfl | simp -implicitDefEqProofs (disch := omega) only [L27, cells_agg, nd_c1s, nd_len, nd_take, dT_lt, dF_lt, dT_le, dF_le, dT_eq, dF_eq, push_cast, ↓reduceIte, Nat.reduceEqDiff, reduceCtorEq, Nat.reduceAdd, Nat.reduceSub, Nat.reduceMul, Nat.reduceLeDiff, Nat.reduceLT, Nat.reduceMod, Nat.reduceDiv, Int.reduceToNat, Int.reduceLT, Int.reduceLE, Int.reduceEq, Int.reduceAdd, Int.reduceSub, Int.reduceNeg, Int.reduceMul, Bool.and_self]) ?_) | simp -implicitDefEqProofs (disch := omega) only [L27, cells_agg, nd_c1s, nd_len, nd_take, dT_lt, dF_lt, dT_le, dF_le, dT_eq, dF_eq, push_cast, ↓reduceIte, Nat.reduceEqDiff, reduceCtorEq, Nat.reduceAdd, Nat.reduceSub, Nat.reduceMul, Nat.reduceLeDiff, Nat.reduceLT, Nat.reduceMod, Nat.reduceDiv, Int.reduceToNat, Int.reduceLT, Int.reduceLE, Int.reduceEq, Int.reduceAdd, Int.reduceSub, Int.reduceNeg, Int.reduceMul, Bool.and_self] | split)
      exact ⟨rfl, _, rfl⟩
  · have ho : pathO n k = none := by unfold pathO; rw [if_neg (by omega)]
    rw [ho]
    repeat' (first | (refine And.intro (by omega) ?_) | (refine callF_pure (countT n hs _) ?_) | (refine callQF_pure (countT n hs _) (by first | rfl | simp -implicitDefEqProofs (disch := omega) only [L27, cells_agg, nd_c1s, nd_len, nd_take, dT_lt, dF_lt, dT_le, dF_le, dT_eq, dF_eq, push_cast, ↓reduceIte, Nat.reduceEqDiff, reduceCtorEq, Nat.reduceAdd, Nat.reduceSub, Nat.reduceMul, Nat.reduceLeDiff, Nat.reduceLT, Nat.reduceMod, Nat.reduceDiv, Int.reduceToNat, Int.reduceLT, Int.reduceLE, Int.reduceEq, Int.reduceAdd, Int.reduceSub, Int.reduceNeg, Int.reduceMul, Bool.and_self]) ?_) | simp -implicitDefEqProofs (disch := omega) only [L27, cells_agg, nd_c1s, nd_len, nd_take, dT_lt, dF_lt, dT_le, dF_le, dT_eq, dF_eq, push_cast, ↓reduceIte, Nat.reduceEqDiff, reduceCtorEq, Nat.reduceAdd, Nat.reduceSub, Nat.reduceMul, Nat.reduceLeDiff, Nat.reduceLT, Nat.reduceMod, Nat.reduceDiv, Int.reduceToNat, Int.reduceLT, Int.reduceLE, Int.reduceEq, Int.reduceAdd, Int.reduceSub, Int.reduceNeg, Int.reduceMul, Bool.and_self] | split)
    exact ⟨rfl, _, rfl⟩

theorem pathR (n : Nd) (k : Int) (hs : Sml n) (H : AHeap) : Comp' 28 [.agg (ndR n), int k] H (pathA (pathO n k)) := by
  refine ACall.resTo (R := fun x H' => x = pathX (pathO n k) ∧ H' = H) ?_ (fun x H' ⟨h1, h2⟩ => ⟨_, h1 ▸ pathX_le _, rfl, h2⟩)
  refine ACall.drop (R := fun x => x = pathX (pathO n k)) ?_
  refine enter Try.func28 L28_ok (Nat.le_of_ble_eq_true rfl) ?_
  have hc := sml_cnt hs
  by_cases h0 : 0 ≤ k
  · obtain ⟨k, rfl⟩ : ∃ k' : Nat, k = k' := ⟨k.toNat, by omega⟩
    by_cases hk : k < cnt n
    · have ho : pathO n k = some (pathF n k) := by unfold pathO; rw [if_pos ⟨h0, by omega⟩]; rfl
      rw [ho]
      repeat' (first | (refine And.intro (by omega) ?_) | (refine callF_pure (countR n hs _) ?_) | (refine callQF_pure (countR n hs _) (by first | rfl | simp -implicitDefEqProofs (disch := omega) only [L28, cells_agg, nd_c1s, nd_len, nd_take, dT_lt, dF_lt, dT_le, dF_le, dT_eq, dF_eq, push_cast, ↓reduceIte, Nat.reduceEqDiff, reduceCtorEq, Nat.reduceAdd, Nat.reduceSub, Nat.reduceMul, Nat.reduceLeDiff, Nat.reduceLT, Nat.reduceMod, Nat.reduceDiv, Int.reduceToNat, Int.reduceLT, Int.reduceLE, Int.reduceEq, Int.reduceAdd, Int.reduceSub, Int.reduceNeg, Int.reduceMul, Bool.and_self]) ?_) | simp -implicitDefEqProofs (disch := omega) only [L28, cells_agg, nd_c1s, nd_len, nd_take, dT_lt, dF_lt, dT_le, dF_le, dT_eq, dF_eq, push_cast, ↓reduceIte, Nat.reduceEqDiff, reduceCtorEq, Nat.reduceAdd, Nat.reduceSub, Nat.reduceMul, Nat.reduceLeDiff, Nat.reduceLT, Nat.reduceMod, Nat.reduceDiv, Int.reduceToNat, Int.reduceLT, Int.reduceLE, Int.reduceEq, Int.reduceAdd, Int.reduceSub, Int.reduceNeg, Int.reduceMul, Bool.and_self] | split)
      refine rk_loopS (fun (st : Nat × Nd × List Int × Nat) e' H' => e' 1 = int ((st.1 : Int) - 1) ∧ e' 2 = .ptr H.length 0 0 ∧ e' 6 = .os (H.length + 1) st.2.2.2 0 st.2.2.1.length ∧ H' = H ++ [.box (ndR st.2.1), .arr st.2.2.2 1 (st.2.2.1.map iR)] ∧ Sml st.2.1 ∧ st.1 < cnt st.2.1 ∧ st.2.2.1.length + cnt st.2.1 ≤ cnt n ∧ st.2.2.1 ++ pathF st.2.1 st.1 = pathF n k) (fun st => st.1) (k, n, [], 0) ?_ ?_
      · exact ⟨rfl, rfl, rfl, rfl, hs, hk, by simp, rfl⟩
      rintro ⟨c, m, out, v⟩ e' H' ⟨h1, h2, h6, rfl, hsm, hcm, hol, hg⟩
      simp only at h1 h6 hsm hcm hol hg
      have hln := sml_len hsm
      cases c with
      | zero =>
        rw [pathF_0, List.append_nil] at hg
        rw [← hg]
        have h1 : e' 1 = int (-1) := h1
        repeat' (first | (refine And.intro (by omega) ?_) | simp -implicitDefEqProofs (disch := omega) only [h1, h2, h6, dT_lt, dF_lt, dT_le, dF_le, dT_eq, dF_eq, push_cast, ↓reduceIte, Nat.reduceEqDiff, reduceCtorEq, Nat.reduceAdd, Nat.reduceSub, Nat.reduceMul, Nat.reduceLeDiff, Nat.reduceLT, Nat.reduceMod, Nat.reduceDiv, Int.reduceToNat, Int.reduceLT, Int.reduceLE, Int.reduceEq, Int.reduceAdd, Int.reduceSub, Int.reduceNeg, Int.reduceMul, Bool.and_self] | split)
        refine ⟨?_, _, rfl⟩
        simp [pathX]
      | succ c =>
        rw [pathF_succ] at hg
        have h1 : e' 1 = int c := intc h1 (by omega)
        have hcm' := hcm
        rw [cnt_eq] at hcm'
        have hcms := sml_cnt hsm
        repeat' (first | (refine And.intro (by omega) ?_) | simp -implicitDefEqProofs (disch := omega) only [h1, h2, h6, nd_drop4, nd_len, dT_lt, dF_lt, dT_le, dF_le, dT_eq, dF_eq, push_cast, ↓reduceIte, Nat.reduceEqDiff, reduceCtorEq, Nat.reduceAdd, Nat.reduceSub, Nat.reduceMul, Nat.reduceLeDiff, Nat.reduceLT, Nat.reduceMod, Nat.reduceDiv, Int.reduceToNat, Int.reduceLT, Int.reduceLE, Int.reduceEq, Int.reduceAdd, Int.reduceSub, Int.reduceNeg, Int.reduceMul, Bool.and_self] | split)
        refine rk_loopS (fun (st : Nat × Nat) e' H' => e' 1 = int st.2 ∧ e' 2 = .ptr H.length 0 0 ∧ e' 6 = .os (H.length + 1) v 0 out.length ∧ e' 7 = int st.1 ∧ H' = H ++ [.box (ndR m), .arr v 1 (out.map iR)] ∧ st.2 ≤ c ∧ st.2 < cnts (m.kids.drop st.1) ∧ out ++ pathFs (m.kids.drop st.1) st.1 st.2 = pathF n k) (fun st => m.kids.length - st.1) (0, c) ?_ ?_
        · exact ⟨h1, h2, h6, rfl, rfl, Nat.le_refl _, by simp; omega, by simpa using hg⟩
        rintro ⟨i, c'⟩ e' H' ⟨h1, h2, h6, h7, rfl, hcc, hcd, hg⟩
        simp only at h1 h7 hcc hcd hg
        have hi : i < m.kids.length := by
          apply Classical.byContradiction
          intro hh
          rw [List.drop_eq_nil_of_le (by omega)] at hcd
          simp [cnts] at hcd
        have hsk := sml_kid hsm (getD_mem' hi)
        have hck := sml_cnt hsk
        have hkc := kid_cnt hi
        rw [pathFs_step hi] at hg
        rw [cnts_drop hi] at hcd
        by_cases hlt : c' < cnt (m.kids.getD i default)
        · rw [if_pos hlt] at hg
          repeat' (first | (refine And.intro (by omega) ?_) | (refine callF_pure (countR _ hsk _) ?_) | (refine callQF_pure (countR _ hsk _) (by first | rfl | simp -implicitDefEqProofs (disch := omega) only [h1, h2, h6, h7, nd_drop4, nd_len, rows_getD, nd_take, nd_c1s, nd_cellsV, cells_agg, splice, nd_clL, nd_drop5, List.append_nil, iR, dT_lt, dF_lt, dT_le, dF_le, dT_eq, dF_eq, push_cast, ↓reduceIte, Nat.reduceEqDiff, reduceCtorEq, Nat.reduceAdd, Nat.reduceSub, Nat.reduceMul, Nat.reduceLeDiff, Nat.reduceLT, Nat.reduceMod, Nat.reduceDiv, Int.reduceToNat, Int.reduceLT, Int.reduceLE, Int.reduceEq, Int.reduceAdd, Int.reduceSub, Int.reduceNeg, Int.reduceMul, Bool.and_self]) ?_) | simp -implicitDefEqProofs (disch := omega) only [h1, h2, h6, h7, nd_drop4, nd_len, rows_getD, nd_take, nd_c1s, nd_cellsV, cells_agg, splice, nd_clL, nd_drop5, List.append_nil, iR, dT_lt, dF_lt, dT_le, dF_le, dT_eq, dF_eq, push_cast, ↓reduceIte, Nat.reduceEqDiff, reduceCtorEq, Nat.reduceAdd, Nat.reduceSub, Nat.reduceMul, Nat.reduceLeDiff, Nat.reduceLT, Nat.reduceMod, Nat.reduceDiv, Int.reduceToNat, Int.reduceLT, Int.reduceLE, Int.reduceEq, Int.reduceAdd, Int.reduceSub, Int.reduceNeg, Int.reduceMul, Bool.and_self] | split)
          refine .mk (c', m.kids.getD i default, out ++ [(i : Int)], v + 1) ⟨rfl, h2, by simp [up, ups], ?_, hsk, hlt, by simp only [List.length_append, List.length_cons, List.length_nil]; omega, by rw [List.append_assoc]; exact hg⟩ (by simp; omega)
          simp [iR]
        · rw [if_neg hlt] at hg
          repeat' (first | (refine And.intro (by omega) ?_) | (refine callF_pure (countR _ hsk _) ?_) | (refine callQF_pure (countR _ hsk _) (by first | rfl | simp -implicitDefEqProofs (disch := omega) only [h1, h2, h6, h7, nd_drop4, nd_len, rows_getD, nd_take, nd_c1s, nd_cellsV, cells_agg, splice, nd_clL, nd_drop5, List.append_nil, iR, dT_lt, dF_lt, dT_le, dF_le, dT_eq, dF_eq, push_cast, ↓reduceIte, Nat.reduceEqDiff, reduceCtorEq, Nat.reduceAdd, Nat.reduceSub, Nat.reduceMul, Nat.reduceLeDiff, Nat.reduceLT, Nat.reduceMod, Nat.reduceDiv, Int.reduceToNat, Int.reduceLT, Int.reduceLE, Int.reduceEq, Int.reduceAdd, Int.reduceSub, Int.reduceNeg, Int.reduceMul, Bool.and_self]) ?_) | simp -implicitDefEqProofs (disch := omega) only [h1, h2, h6, h7, nd_drop4, nd_len, rows_getD, nd_take, nd_c1s, nd_cellsV, cells_agg, splice, nd_clL, nd_drop5, List.append_nil, iR, dT_lt, dF_lt, dT_le, dF_le, dT_eq, dF_eq, push_cast, ↓reduceIte, Nat.reduceEqDiff, reduceCtorEq, Nat.reduceAdd, Nat.reduceSub, Nat.reduceMul, Nat.reduceLeDiff, Nat.reduceLT, Nat.reduceMod, Nat.reduceDiv, Int.reduceToNat, Int.reduceLT, Int.reduceLE, Int.reduceEq, Int.reduceAdd, Int.reduceSub, Int.reduceNeg, Int.reduceMul, Bool.and_self] | split)
          exact .mk (i + 1, c' - cnt (m.kids.getD i default)) ⟨intc rfl (by simp only; omega), h2, h6, rfl, rfl, by simp only; omega, by simp only; omega, hg⟩ (by simp only; omega)
    · have ho : pathO n k = none := by unfold pathO; rw [if_neg (by omega)]
      rw [ho]
      repeat' (first | (refine And.intro (by omega) ?_) | (refine callF_pure (countR n hs _) ?_) | (refine callQF_pure (countR n hs _) (by first | rfl | simp -implicitDefEqProofs (disch := omega) only [L28, cells_agg, nd_c1s, nd_len, nd_take, dT_lt, dF_lt, dT_le, dF_le, dT_eq, dF_eq, push_cast, ↓reduceIte, Nat.reduceEqDiff, reduceCtorEq, Nat.reduceAdd, Nat.reduceSub, Nat.reduceMul, Nat.reduceLeDiff, Nat.reduceLT, Nat.reduceMod, Nat.reduceDiv, Int.reduceToNat, Int.reduceLT, Int.reduceLE, Int.reduceEq, Int.reduceAdd, Int.reduceSub, Int.reduceNeg, Int.reduceMul, Bool.and_self]) ?_) | simp -implicitDefEqProofs (disch := omega) only [L28, cells_agg, nd_c1s, nd_len, nd_take, dT_lt, dF_lt, dT_le, dF_le, dT_eq, dF_eq, push_cast, ↓reduceIte, Nat.reduceEqDiff, reduceCtorEq, Nat.reduceAdd, Nat.reduceSub, Nat.reduceMul, Nat.reduceLeDiff, Nat.reduceLT, Nat.reduceMod, Nat.reduceDiv, Int.reduceToNat, Int.reduceLT, Int.reduceLE, Int.reduceEq, Int.reduceAdd, Int.reduceSub, Int.reduceNeg, Int.reduceMul, Bool.and_self] | split)
      exact ⟨rfl, _, rfl⟩
  · have ho : pathO n k = none := by unfold pathO; rw [if_neg (by omega)]
    rw [ho]
    repeat' (first | (refine And.intro (by omega) ?_) | (refine callF_pure (countR n hs _) ?_) | (refine callQF_pure (countR n hs _) (by first | rfl | simp -implicitDefEqProofs (disch := omega) only [L28, cells_agg, nd_c1s, nd_len, nd_take, dT_lt, dF_lt, dT_le, dF_le, dT_eq, dF_eq, push_cast, ↓reduceIte, Nat.reduceEqDiff, reduceCtorEq, Nat.reduceAdd, Nat.reduceSub, Nat.reduceMul, Nat.reduceLeDiff, Nat.reduceLT, Nat.reduceMod, Nat.reduceDiv, Int.reduceToNat, Int.reduceLT, Int.reduceLE, Int.reduceEq, Int.reduceAdd, Int.reduceSub, Int.reduceNeg, Int.reduceMul, Bool.and_self]) ?_) | simp -implicitDefEqProofs (disch := omega) only [L28, cells_agg, nd_c1s, nd_len, nd_take, dT_lt, dF_lt, dT_le, dF_le, dT_eq, dF_eq, push_cast, ↓reduceIte, Nat.reduceEqDiff, reduceCtorEq, Nat.reduceAdd, Nat.reduceSub, Nat.reduceMul, Nat.reduceLeDiff, Nat.reduceLT, Nat.reduceMod, Nat.reduceDiv, Int.reduceToNat, Int.reduceLT, Int.reduceLE, Int.reduceEq, Int.reduceAdd, Int.reduceSub, Int.reduceNeg, Int.reduceMul, Bool.and_self] | split)
    exact ⟨rfl, _, rfl⟩
#print axioms pathT
#print axioms pathR
end Go.Proofs.Ytnbdogodcjhfiaa

/- Trees: nodes by their places. -/
namespace Go.Proofs.Ytnbdogodcjhfiaa
open Go Go.Ax
set_option maxRecDepth 100000
set_option linter.unusedSimpArgs false
set_option linter.unusedVariables false

/-- Does the node contain the offset? -/
def inF (n : Nd) (t : Int) : Bool := decide (n.a ≤ t) && decide (t < n.e)
mutual
/-- The number of the innermost node that contains an offset which the root contains. -/
def findI : Nd → Int → Nat
  | .mk _ _ _ _ ks, t => match findFs ks t with
    | none => 0
    | some k => 1 + k
def findFs : List Nd → Int → Option Nat
  | [], _ => none
  | x :: l, t => if inF x t = true then some (findI x t) else (findFs l t).map (cnt x + ·)
end
def findO (n : Nd) (t : Int) : Option Nat := if inF n t = true then some (findI n t) else none
theorem findI_eq (n : Nd) (t : Int) : findI n t = match findFs n.kids t with
    | none => 0
    | some k => 1 + k := by cases n; rfl
mutual
theorem findI_lt (t : Int) : ∀ n : Nd, findI n t < cnt n
  | .mk k x a e ks => by
    simp only [findI, cnt]
    have := findFs_lt t ks
    split
    · omega
    · rename_i k hk
      have := this k hk
      omega
theorem findFs_lt (t : Int) : ∀ (l : List Nd) (k : Nat), findFs l t = some k → k < cnts l
  | [], k, h => by simp [findFs] at h
  | x :: l, k, h => by
    simp only [findFs] at h
    simp only [cnts]
    split at h
    · have := findI_lt t x
      cases h
      omega
    · cases hh : findFs l t with
      | none => rw [hh] at h; cases h
      | some j =>
        rw [hh] at h
        have := findFs_lt t l j hh
        cases h
        show cnt x + j < _
        omega
end
theorem findFs_step {l : List Nd} {t : Int} {j : Nat} (h : j < l.length) : findFs (l.drop j) t = if inF (l.getD j default) t = true then some (findI (l.getD j default) t) else (findFs (l.drop (j + 1)) t).map (cnt (l.getD j default) + ·) := by
  rw [drop_cons h]; rfl
theorem findFs_no : ∀ {l : List Nd} {t : Int} {j : Nat}, j ≤ l.length → (∀ i, i < j → inF (l.getD i default) t = false) → findFs l t = (findFs (l.drop j) t).map (cnts (l.take j) + ·) := by
  intro l t j
  induction j with
  | zero => intro _ _; simp [cnts]
  | succ j ih =>
    intro hj h
    rw [ih (by omega) fun i hi => h i (by omega), findFs_step (by omega), if_neg (by rw [h j (by omega)]; simp), opt_add, take_snoc (by omega), cnts_append]
    simp [cnts]
theorem findFs_at {l : List Nd} {t : Int} {i : Nat} (h : l.findIdx? (fun m => inF m t) = some i) : findFs l t = some (cnts (l.take i) + findI (l.getD i default) t) := by
  have h1 := find_lt h
  have h2 : ∀ j, j < i → inF (l.getD j default) t = false := by
    intro j hj
    rw [List.findIdx?_eq_some_iff_getElem] at h
    obtain ⟨hi, _, hh⟩ := h
    have := hh j hj
    rw [List.getD_eq_getElem?_getD, List.getElem?_eq_getElem (by omega)]
    simpa using this
  rw [findFs_no (Nat.le_of_lt h1.1) h2, findFs_step h1.1, if_pos h1.2]
  rfl
theorem findFs_none {l : List Nd} {t : Int} (h : l.findIdx? (fun m => inF m t) = none) : findFs l t = none := by
  rw [findFs_no (Nat.le_refl _) fun i hi => ?_, List.drop_length]
  · rfl
  · rw [List.findIdx?_eq_none_iff] at h
    have := h _ (getD_mem' hi)
    simpa using this

theorem nd_drop23 (n : Nd) : (ndR n).drop (2 + 1) = [int n.e, .sl 5 (n.kids.map ndR)] := nd_drop3 n
theorem find1C (m : Nd) (t : Int) (r : Nat) (H : AHeap) (hr : H[r]? = some (.box [int t])) : Comp' 59 [.agg (ndR m), .ptr r 0 0] H (bool (inF m t)) := by
  refine ACall.drop (R := fun x => x = bool (inF m t)) ?_
  refine enter Try.func59 L59_ok (Nat.le_of_ble_eq_true rfl) ?_
  have hlt : r < H.length := (List.getElem?_eq_some_iff.1 hr).1
  have hg : ∀ l, (H ++ l)[r]? = some (HO.box [int t]) := fun l => by rw [List.getElem?_append_left hlt]; exact hr
  unfold inF
  by_cases h1 : m.a ≤ t
  · by_cases h2 : t < m.e
    · repeat' (first | (refine And.intro (by omega) ?_) | simp -implicitDefEqProofs (disch := omega) only [L59, cells_agg, nd_c1s, nd_len, nd_take, nd_cellsV, nd_drop2, nd_drop3, hg, dT_lt, dF_lt, dT_le, dF_le, dT_eq, dF_eq, push_cast, ↓reduceIte, Nat.reduceEqDiff, reduceCtorEq, Nat.reduceAdd, Nat.reduceSub, Nat.reduceMul, Nat.reduceLeDiff, Nat.reduceLT, Nat.reduceMod, Nat.reduceDiv, Int.reduceToNat, Int.reduceLT, Int.reduceLE, Int.reduceEq, Int.reduceAdd, Int.reduceSub, Int.reduceNeg, Int.reduceMul, Bool.and_self] | split)
      exact ⟨_, rfl⟩
    · repeat' (first | (refine And.intro (by omega) ?_) | simp -implicitDefEqProofs (disch := omega) only [L59, cells_agg, nd_c1s, nd_len, nd_take, nd_cellsV, nd_drop2, nd_drop3, hg, dT_lt, dF_lt, dT_le, dF_le, dT_eq, dF_eq, push_cast, ↓reduceIte, Nat.reduceEqDiff, reduceCtorEq, Nat.reduceAdd, Nat.reduceSub, Nat.reduceMul, Nat.reduceLeDiff, Nat.reduceLT, Nat.reduceMod, Nat.reduceDiv, Int.reduceToNat, Int.reduceLT, Int.reduceLE, Int.reduceEq, Int.reduceAdd, Int.reduceSub, Int.reduceNeg, Int.reduceMul, Bool.and_self] | split)
      exact ⟨_, rfl⟩
  · repeat' (first | (refine And.intro (by omega) ?_) | simp -implicitDefEqProofs (disch := omega) only [L59, cells_agg, nd_c1s, nd_len, nd_take, nd_cellsV, nd_drop2, nd_drop3, hg, dT_lt, dF_lt, dT_le, dF_le, dT_eq, dF_eq, push_cast, ↓reduceIte, Nat.reduceEqDiff, reduceCtorEq, Nat.reduceAdd, Nat.reduceSub, Nat.reduceMul, Nat.reduceLeDiff, Nat.reduceLT, Nat.reduceMod, Nat.reduceDiv, Int.reduceToNat, Int.reduceLT, Int.reduceLE, Int.reduceEq, Int.reduceAdd, Int.reduceSub, Int.reduceNeg, Int.reduceMul, Bool.and_self] | split)
    exact ⟨_, rfl⟩

theorem indexC (l : List Nd) (t : Int) (hl : l.length ≤ 1048576) (r : Nat) (H : AHeap) (hr : H[r]? = some (.box [int t])) : Comp' 60 [.sl 5 (l.map ndR), .fn (.func 59) [] [.ptr r 0 0]] H (int (idxI (l.findIdx? fun m => inF m t))) := by
  refine enter Try.func60 L60_ok (Nat.le_of_ble_eq_true rfl) ?_
  repeat' (first | (refine And.intro (by omega) ?_) | simp -implicitDefEqProofs (disch := omega) only [L60, dT_lt, dF_lt, dT_le, dF_le, dT_eq, dF_eq, push_cast, ↓reduceIte, Nat.reduceEqDiff, reduceCtorEq, Nat.reduceAdd, Nat.reduceSub, Nat.reduceMul, Nat.reduceLeDiff, Nat.reduceLT, Nat.reduceMod, Nat.reduceDiv, Int.reduceToNat, Int.reduceLT, Int.reduceLE, Int.reduceEq, Int.reduceAdd, Int.reduceSub, Int.reduceNeg, Int.reduceMul, Bool.and_self] | split)
  refine rk_loopS (fun (j : Nat) e' H' => e' 0 = .sl 5 (l.map ndR) ∧ e' 1 = .fn (.func 59) [] [.ptr r 0 0] ∧ e' 7 = int l.length ∧ e' 8 = int j ∧ H = H' ∧ j ≤ l.length ∧ ∀ i, i < j → inF (l.getD i default) t = false) (fun j => l.length - j) 0 ?_ ?_
  · exact ⟨rfl, rfl, rfl, rfl, rfl, Nat.zero_le _, by simp⟩
  rintro j e' H' ⟨h0, h1, h7, h8, rfl, hj, hb⟩
  by_cases hlt : j < l.length
  · have hc := fun m => find1C m t r H hr
    cases hin : inF (l.getD j default) t
    · have hc1 := hc (l.getD j default)
      rw [hin] at hc1
      repeat' (first | (refine And.intro (by omega) ?_) | (refine callF_pure (hc1) ?_) | (refine callQF_pure (hc1) (by first | rfl | simp -implicitDefEqProofs (disch := omega) only [h0, h1, h7, h8, rows_getD, nd_len, nd_take, nd_cellsV, dT_lt, dF_lt, dT_le, dF_le, dT_eq, dF_eq, push_cast, ↓reduceIte, Nat.reduceEqDiff, reduceCtorEq, Nat.reduceAdd, Nat.reduceSub, Nat.reduceMul, Nat.reduceLeDiff, Nat.reduceLT, Nat.reduceMod, Nat.reduceDiv, Int.reduceToNat, Int.reduceLT, Int.reduceLE, Int.reduceEq, Int.reduceAdd, Int.reduceSub, Int.reduceNeg, Int.reduceMul, Bool.and_self]) ?_) | simp -implicitDefEqProofs (disch := omega) only [h0, h1, h7, h8, rows_getD, nd_len, nd_take, nd_cellsV, dT_lt, dF_lt, dT_le, dF_le, dT_eq, dF_eq, push_cast, ↓reduceIte, Nat.reduceEqDiff, reduceCtorEq, Nat.reduceAdd, Nat.reduceSub, Nat.reduceMul, Nat.reduceLeDiff, Nat.reduceLT, Nat.reduceMod, Nat.reduceDiv, Int.reduceToNat, Int.reduceLT, Int.reduceLE, Int.reduceEq, Int.reduceAdd, Int.reduceSub, Int.reduceNeg, Int.reduceMul, Bool.and_self] | split)
      exact .mk (j + 1) ⟨h0, h1, h7, rfl, rfl, hlt, upto_succ hb hin⟩ (by omega)
    · have hc1 := hc (l.getD j default)
      rw [hin] at hc1
      repeat' (first | (refine And.intro (by omega) ?_) | (refine callF_pure (hc1) ?_) | (refine callQF_pure (hc1) (by first | rfl | simp -implicitDefEqProofs (disch := omega) only [h0, h1, h7, h8, rows_getD, nd_len, nd_take, nd_cellsV, dT_lt, dF_lt, dT_le, dF_le, dT_eq, dF_eq, push_cast, ↓reduceIte, Nat.reduceEqDiff, reduceCtorEq, Nat.reduceAdd, Nat.reduceSub, Nat.reduceMul, Nat.reduceLeDiff, Nat.reduceLT, Nat.reduceMod, Nat.reduceDiv, Int.reduceToNat, Int.reduceLT, Int.reduceLE, Int.reduceEq, Int.reduceAdd, Int.reduceSub, Int.reduceNeg, Int.reduceMul, Bool.and_self]) ?_) | simp -implicitDefEqProofs (disch := omega) only [h0, h1, h7, h8, rows_getD, nd_len, nd_take, nd_cellsV, dT_lt, dF_lt, dT_le, dF_le, dT_eq, dF_eq, push_cast, ↓reduceIte, Nat.reduceEqDiff, reduceCtorEq, Nat.reduceAdd, Nat.reduceSub, Nat.reduceMul, Nat.reduceLeDiff, Nat.reduceLT, Nat.reduceMod, Nat.reduceDiv, Int.reduceToNat, Int.reduceLT, Int.reduceLE, Int.reduceEq, Int.reduceAdd, Int.reduceSub, Int.reduceNeg, Int.reduceMul, Bool.and_self] | split)
      rw [find_some hlt hin hb]
      rfl
  · rw [find_none fun i hi => hb i (by omega)]
    repeat' (first | (refine And.intro (by omega) ?_) | simp -implicitDefEqProofs (disch := omega) only [h0, h1, h7, h8, dT_lt, dF_lt, dT_le, dF_le, dT_eq, dF_eq, push_cast, ↓reduceIte, Nat.reduceEqDiff, reduceCtorEq, Nat.reduceAdd, Nat.reduceSub, Nat.reduceMul, Nat.reduceLeDiff, Nat.reduceLT, Nat.reduceMod, Nat.reduceDiv, Int.reduceToNat, Int.reduceLT, Int.reduceLE, Int.reduceEq, Int.reduceAdd, Int.reduceSub, Int.reduceNeg, Int.reduceMul, Bool.and_self] | split)
    rfl

theorem findT (n : Nd) (t : Int) (hs : Sml n) (H : AHeap) : Comp' 31 [.agg (ndR n), int t] H (numA (findO n t)) := by
  refine ACall.drop (R := fun x => x = numA (findO n t)) ?_
  refine enter Try.func31 L31_ok (Nat.le_of_ble_eq_true rfl) ?_
  have hc := sml_cnt hs
  have hc1 := find1C n t (H.length + 1) (H ++ [.box (ndR n), .box [int t]]) (by rw [get_add]; rfl)
  cases hin : inF n t
  · have ho : findO n t = none := by unfold findO; rw [hin]; rfl
    rw [ho]
    rw [hin] at hc1
    repeat' (first | (refine And.intro (by omega) ?_) | (refine callF_pure (hc1) ?_) | (refine callQF_pure (hc1) (by first | rfl | simp -implicitDefEqProofs (disch := omega) only [L31, cells_agg, nd_c1s, nd_len, nd_take, nd_cellsV, dT_lt, dF_lt, dT_le, dF_le, dT_eq, dF_eq, push_cast, ↓reduceIte, Nat.reduceEqDiff, reduceCtorEq, Nat.reduceAdd, Nat.reduceSub, Nat.reduceMul, Nat.reduceLeDiff, Nat.reduceLT, Nat.reduceMod, Nat.reduceDiv, Int.reduceToNat, Int.reduceLT, Int.reduceLE, Int.reduceEq, Int.reduceAdd, Int.reduceSub, Int.reduceNeg, Int.reduceMul, Bool.and_self]) ?_) | simp -implicitDefEqProofs (disch := omega) only [L31, cells_agg, nd_c1s, nd_len, nd_take, nd_cellsV, dT_lt, dF_lt, dT_le, dF_le, dT_eq, dF_eq, push_cast, ↓reduceIte, Nat.reduceEqDiff, reduceCtorEq, Nat.reduceAdd, Nat.reduceSub, Nat.reduceMul, Nat.reduceLeDiff, Nat.reduceLT, Nat.reduceMod, Nat.reduceDiv, Int.reduceToNat, Int.reduceLT, Int.reduceLE, Int.reduceEq, Int.reduceAdd, Int.reduceSub, Int.reduceNeg, Int.reduceMul, Bool.and_self] | split)
    exact ⟨rfl, _, rfl⟩
  · have ho : findO n t = some (findI n t) := by unfold findO; rw [hin]; rfl
    rw [ho]
    rw [hin] at hc1
    repeat' (first | (refine And.intro (by omega) ?_) | (refine callF_pure (hc1) ?_) | (refine callQF_pure (hc1) (by first | rfl | simp -implicitDefEqProofs (disch := omega) only [L31, cells_agg, nd_c1s, nd_len, nd_take, nd_cellsV, dT_lt, dF_lt, dT_le, dF_le, dT_eq, dF_eq, push_cast, ↓reduceIte, Nat.reduceEqDiff, reduceCtorEq, Nat.reduceAdd, Nat.reduceSub, Nat.reduceMul, Nat.reduceLeDiff, Nat.reduceLT, Nat.reduceMod, Nat.reduceDiv, Int.reduceToNat, Int.reduceLT, Int.reduceLE, Int.reduceEq, Int.reduceAdd, Int.reduceSub, Int.reduceNeg, Int.reduceMul, Bool.and_self]) ?_) | simp -implicitDefEqProofs (disch := omega) only [L31, cells_agg, nd_c1s, nd_len, nd_take, nd_cellsV, dT_lt, dF_lt, dT_le, dF_le, dT_eq, dF_eq, push_cast, ↓reduceIte, Nat.reduceEqDiff, reduceCtorEq, Nat.reduceAdd, Nat.reduceSub, Nat.reduceMul, Nat.reduceLeDiff, Nat.reduceLT, Nat.reduceMod, Nat.reduceDiv, Int.reduceToNat, Int.reduceLT, Int.reduceLE, Int.reduceEq, Int.reduceAdd, Int.reduceSub, Int.reduceNeg, Int.reduceMul, Bool.and_self] | split)
    refine rk_loopS (fun (st : Nd × Nat × AHeap) e' H' => e' 2 = .ptr H.length 0 0 ∧ e' 6 = .fn (.func 59) [] [.ptr (H.length + 1) 0 0] ∧ e' 7 = int st.2.1 ∧ H' = H ++ (.box (ndR st.1) :: .box [int t] :: st.2.2) ∧ Sml st.1 ∧ st.2.1 + cnt st.1 ≤ cnt n ∧ st.2.1 + findI st.1 t = findI n t) (fun st => cnt st.1) (n, 0, []) ?_ ?_
    · exact ⟨rfl, rfl, rfl, rfl, hs, by simp, by simp⟩
    rintro ⟨m, a, ext⟩ e' H' ⟨h2, h6, h7, rfl, hsm, hb, hg⟩
    simp only at h7 hsm hb hg
    have hln := sml_len hsm
    have hci := indexC m.kids t hln (H.length + 1) (H ++ (.box (ndR m) :: .box [int t] :: ext)) (by rw [get_add]; rfl)
    cases hx : m.kids.findIdx? (fun m => inF m t) with
    | none =>
      rw [hx] at hci
      rw [findI_eq, findFs_none hx] at hg
      simp only [idxI] at hci
      repeat' (first | (refine And.intro (by omega) ?_) | (refine callF_pure (hci) ?_) | (refine callQF_pure (hci) (by first | rfl | simp -implicitDefEqProofs (disch := omega) only [h2, h6, h7, nd_drop4, nd_len, nd_take, nd_c1s, nd_cellsV, dT_lt, dF_lt, dT_le, dF_le, dT_eq, dF_eq, push_cast, ↓reduceIte, Nat.reduceEqDiff, reduceCtorEq, Nat.reduceAdd, Nat.reduceSub, Nat.reduceMul, Nat.reduceLeDiff, Nat.reduceLT, Nat.reduceMod, Nat.reduceDiv, Int.reduceToNat, Int.reduceLT, Int.reduceLE, Int.reduceEq, Int.reduceAdd, Int.reduceSub, Int.reduceNeg, Int.reduceMul, Bool.and_self]) ?_) | simp -implicitDefEqProofs (disch := omega) only [h2, h6, h7, nd_drop4, nd_len, nd_take, nd_c1s, nd_cellsV, dT_lt, dF_lt, dT_le, dF_le, dT_eq, dF_eq, push_cast, ↓reduceIte, Nat.reduceEqDiff, reduceCtorEq, Nat.reduceAdd, Nat.reduceSub, Nat.reduceMul, Nat.reduceLeDiff, Nat.reduceLT, Nat.reduceMod, Nat.reduceDiv, Int.reduceToNat, Int.reduceLT, Int.reduceLE, Int.reduceEq, Int.reduceAdd, Int.reduceSub, Int.reduceNeg, Int.reduceMul, Bool.and_self] | split)
      refine ⟨?_, _, rfl⟩
      rw [← hg]
      simp [numA]
    | some k =>
      rw [hx] at hci
      obtain ⟨hk, hik⟩ := find_lt hx
      rw [findI_eq, findFs_at hx] at hg
      simp only [idxI] at hci
      simp only at hg
      obtain ⟨ks, hks⟩ : ∃ ks, ks = m.kids.take k := ⟨_, rfl⟩
      have hkl : ks.length = k := by rw [hks, List.length_take]; omega
      have htk : (m.kids.map ndR).take k = ks.map ndR := by rw [hks, List.map_take]
      have hkc := kid_cnt hk
      have hki : ∀ j, j < k → cnts (m.kids.take (j + 1)) = cnts (m.kids.take j) + cnt (ks.getD j default) ∧ cnts (m.kids.take (j + 1)) ≤ cnts (m.kids.take k) ∧ Sml (ks.getD j default) := by
        intro j hjk
        have e : ks.getD j default = m.kids.getD j default := by
          rw [hks]; simp [List.getD_eq_getElem?_getD, hjk]
        rw [e]
        refine ⟨cnts_snoc (by omega), ?_, sml_kid hsm (getD_mem' (by omega))⟩
        have h2 := cnts_append ((m.kids.take k).take (j + 1)) ((m.kids.take k).drop (j + 1))
        rw [List.take_append_drop, List.take_take, Nat.min_eq_left (by omega)] at h2
        omega
      repeat' (first | (refine And.intro (by omega) ?_) | (refine callF_pure (hci) ?_) | (refine callQF_pure (hci) (by first | rfl | simp -implicitDefEqProofs (disch := omega) only [h2, h6, h7, nd_drop4, nd_len, nd_take, nd_c1s, nd_cellsV, cells_agg, splice, nd_clL, nd_drop5, List.append_nil, htk, hkl, Nat.sub_zero, List.length_map, dT_lt, dF_lt, dT_le, dF_le, dT_eq, dF_eq, push_cast, ↓reduceIte, Nat.reduceEqDiff, reduceCtorEq, Nat.reduceAdd, Nat.reduceSub, Nat.reduceMul, Nat.reduceLeDiff, Nat.reduceLT, Nat.reduceMod, Nat.reduceDiv, Int.reduceToNat, Int.reduceLT, Int.reduceLE, Int.reduceEq, Int.reduceAdd, Int.reduceSub, Int.reduceNeg, Int.reduceMul, Bool.and_self]) ?_) | simp -implicitDefEqProofs (disch := omega) only [h2, h6, h7, nd_drop4, nd_len, nd_take, nd_c1s, nd_cellsV, cells_agg, splice, nd_clL, nd_drop5, List.append_nil, htk, hkl, Nat.sub_zero, List.length_map, dT_lt, dF_lt, dT_le, dF_le, dT_eq, dF_eq, push_cast, ↓reduceIte, Nat.reduceEqDiff, reduceCtorEq, Nat.reduceAdd, Nat.reduceSub, Nat.reduceMul, Nat.reduceLeDiff, Nat.reduceLT, Nat.reduceMod, Nat.reduceDiv, Int.reduceToNat, Int.reduceLT, Int.reduceLE, Int.reduceEq, Int.reduceAdd, Int.reduceSub, Int.reduceNeg, Int.reduceMul, Bool.and_self] | split)
      refine rk_loopS (fun (st : Nat × AHeap) e' H' => e' 2 = .ptr H.length 0 0 ∧ e' 6 = .fn (.func 59) [] [.ptr (H.length + 1) 0 0] ∧ e' 7 = int (a + 1 + cnts (m.kids.take st.1) : Nat) ∧ e' 8 = int k ∧ e' 28 = .sl 5 (ks.map ndR) ∧ e' 29 = int k ∧ e' 30 = int st.1 ∧ H' = H ++ (.box (ndR m) :: .box [int t] :: st.2) ∧ st.1 ≤ k) (fun st => k - st.1) (0, ext) ?_ ?_
      · exact ⟨h2, h6, by simp [up, cnts], rfl, rfl, rfl, rfl, rfl, Nat.zero_le _⟩
      rintro ⟨j2, ext⟩ e' H' ⟨h2, h6, h7, h8, h28, h29, h30, rfl, hj2⟩
      simp only at h7 h30 hj2
      by_cases hlt2 : j2 < k
      · obtain ⟨hq1, hq2, hq3⟩ := hki j2 hlt2
        have hgg : ∀ (a b x : HO), (H ++ a :: b :: (ext ++ [x]))[H.length + (ext.length + 1 + 1)]? = some x := fun a b x => by rw [get_add]; simp
        have hss : ∀ (a b x y : HO), (H ++ a :: b :: (ext ++ [x])).set (H.length + (ext.length + 1 + 1)) y = H ++ a :: b :: (ext ++ [y]) := fun a b x y => by rw [set_add]; simp
        repeat' (first | (refine And.intro (by omega) ?_) | (refine callF_pure (countT _ hq3 _) ?_) | (refine callQF_pure (countT _ hq3 _) (by first | rfl | simp -implicitDefEqProofs (disch := omega) only [h2, h6, h7, h8, h28, h29, h30, nd_drop4, nd_len, rows_getD, nd_take, nd_c1s, cells_agg, hgg, hss, splice, nd_clL, nd_drop5, List.append_nil, dT_lt, dF_lt, dT_le, dF_le, dT_eq, dF_eq, push_cast, ↓reduceIte, Nat.reduceEqDiff, reduceCtorEq, Nat.reduceAdd, Nat.reduceSub, Nat.reduceMul, Nat.reduceLeDiff, Nat.reduceLT, Nat.reduceMod, Nat.reduceDiv, Int.reduceToNat, Int.reduceLT, Int.reduceLE, Int.reduceEq, Int.reduceAdd, Int.reduceSub, Int.reduceNeg, Int.reduceMul, Bool.and_self]) ?_) | simp -implicitDefEqProofs (disch := omega) only [h2, h6, h7, h8, h28, h29, h30, nd_drop4, nd_len, rows_getD, nd_take, nd_c1s, cells_agg, hgg, hss, splice, nd_clL, nd_drop5, List.append_nil, dT_lt, dF_lt, dT_le, dF_le, dT_eq, dF_eq, push_cast, ↓reduceIte, Nat.reduceEqDiff, reduceCtorEq, Nat.reduceAdd, Nat.reduceSub, Nat.reduceMul, Nat.reduceLeDiff, Nat.reduceLT, Nat.reduceMod, Nat.reduceDiv, Int.reduceToNat, Int.reduceLT, Int.reduceLE, Int.reduceEq, Int.reduceAdd, Int.reduceSub, Int.reduceNeg, Int.reduceMul, Bool.and_self] | split)
        exact .mk (j2 + 1, _) ⟨h2, h6, intc rfl (by rw [hq1]; omega), h8, h28, h29, rfl, rfl, hlt2⟩ (by simp; omega)
      · have e : j2 = k := by omega
        subst e
        repeat' (first | (refine And.intro (by omega) ?_) | simp -implicitDefEqProofs (disch := omega) only [h2, h6, h7, h8, h28, h29, h30, nd_drop4, nd_len, rows_getD, nd_take, nd_c1s, nd_cellsV, cells_agg, splice, nd_clL, nd_drop5, List.append_nil, dT_lt, dF_lt, dT_le, dF_le, dT_eq, dF_eq, push_cast, ↓reduceIte, Nat.reduceEqDiff, reduceCtorEq, Nat.reduceAdd, Nat.reduceSub, Nat.reduceMul, Nat.reduceLeDiff, Nat.reduceLT, Nat.reduceMod, Nat.reduceDiv, Int.reduceToNat, Int.reduceLT, Int.reduceLE, Int.reduceEq, Int.reduceAdd, Int.reduceSub, Int.reduceNeg, Int.reduceMul, Bool.and_self] | split)
        exact .mk (m.kids.getD j2 default, a + 1 + cnts (m.kids.take j2), ext) ⟨h2, h6, h7, rfl, sml_kid hsm (getD_mem' hk), by simp only; omega, by rw [← hg]; simp only [Nat.add_assoc]⟩ (by simp only; have := cnt_kid (getD_mem' hk); omega)

theorem findR (n : Nd) (t : Int) : Sml n → ∀ H, Comp' 32 [.agg (ndR n), int t] H (numA (findO n t)) := by
  induction n using Nd.ind with
  | h n ih =>
  intro hs H
  refine ACall.drop (R := fun x => x = numA (findO n t)) ?_
  refine enter Try.func32 L32_ok (Nat.le_of_ble_eq_true rfl) ?_
  have hc := sml_cnt hs
  have hln := sml_len hs
  by_cases h1 : n.a ≤ t
  · by_cases h2 : t < n.e
    · have ho : findO n t = some (findI n t) := by unfold findO inF; simp [h1, h2]
      rw [ho]
      repeat' (first | (refine And.intro (by omega) ?_) | simp -implicitDefEqProofs (disch := omega) only [L32, cells_agg, nd_c1s, nd_len, nd_take, nd_cellsV, nd_drop2, nd_drop3, dT_lt, dF_lt, dT_le, dF_le, dT_eq, dF_eq, push_cast, ↓reduceIte, Nat.reduceEqDiff, reduceCtorEq, Nat.reduceAdd, Nat.reduceSub, Nat.reduceMul, Nat.reduceLeDiff, Nat.reduceLT, Nat.reduceMod, Nat.reduceDiv, Int.reduceToNat, Int.reduceLT, Int.reduceLE, Int.reduceEq, Int.reduceAdd, Int.reduceSub, Int.reduceNeg, Int.reduceMul, Bool.and_self] | split)
      refine rk_loopS (fun (j : Nat) e' H' => e' 1 = int t ∧ e' 2 = .ptr H.length 0 0 ∧ e' 6 = int (1 + cnts (n.kids.take j) : Nat) ∧ e' 7 = int j ∧ H' = H ++ [.box (ndR n)] ∧ j ≤ n.kids.length ∧ ∀ i, i < j → inF (n.kids.getD i default) t = false) (fun j => n.kids.length - j) 0 ?_ ?_
      · exact ⟨rfl, rfl, rfl, rfl, rfl, Nat.zero_le _, by simp⟩
      rintro j e' H' ⟨h1, h2, h6, h7, rfl, hj, hb⟩
      by_cases hlt : j < n.kids.length
      · have hk := getD_mem' hlt
        have hsk := sml_kid hs hk
        have hkc := kid_cnt hlt
        have hck := fun H => ih _ hk hsk H
        cases hin : inF (n.kids.getD j default) t
        · have hok : findO (n.kids.getD j default) t = none := by unfold findO; rw [hin]; rfl
          rw [hok] at hck
          simp only [numA] at hck
          repeat' (first | (refine And.intro (by omega) ?_) | (refine callF_pure (hck _) ?_) | (refine callF_pure (countR _ hsk _) ?_) | (refine callQF_pure (hck _) (by first | rfl | simp -implicitDefEqProofs (disch := omega) only [h1, h2, h6, h7, nd_drop4, nd_len, rows_getD, nd_take, nd_cellsV, dT_lt, dF_lt, dT_le, dF_le, dT_eq, dF_eq, push_cast, ↓reduceIte, Nat.reduceEqDiff, reduceCtorEq, Nat.reduceAdd, Nat.reduceSub, Nat.reduceMul, Nat.reduceLeDiff, Nat.reduceLT, Nat.reduceMod, Nat.reduceDiv, Int.reduceToNat, Int.reduceLT, Int.reduceLE, Int.reduceEq, Int.reduceAdd, Int.reduceSub, Int.reduceNeg, Int.reduceMul, Bool.and_self]) ?_) | (refine callQF_pure (countR _ hsk _) (by first | rfl | simp -implicitDefEqProofs (disch := omega) only [h1, h2, h6, h7, nd_drop4, nd_len, rows_getD, nd_take, nd_cellsV, dT_lt, dF_lt, dT_le, dF_le, dT_eq, dF_eq, push_cast, ↓reduceIte, Nat.reduceEqDiff, reduceCtorEq, Nat.reduceAdd, Nat.reduceSub, Nat.reduceMul, Nat.reduceLeDiff, Nat.reduceLT, Nat.reduceMod, Nat.reduceDiv, Int.reduceToNat, Int.reduceLT, Int.reduceLE, Int.reduceEq, Int.reduceAdd, Int.reduceSub, Int.reduceNeg, Int.reduceMul, Bool.and_self]) ?_) | simp -implicitDefEqProofs (disch := omega) only [h1, h2, h6, h7, nd_drop4, nd_len, rows_getD, nd_take, nd_cellsV, dT_lt, dF_lt, dT_le, dF_le, dT_eq, dF_eq, push_cast, ↓reduceIte, Nat.reduceEqDiff, reduceCtorEq, Nat.reduceAdd, Nat.reduceSub, Nat.reduceMul, Nat.reduceLeDiff, Nat.reduceLT, Nat.reduceMod, Nat.reduceDiv, Int.reduceToNat, Int.reduceLT, Int.reduceLE, Int.reduceEq, Int.reduceAdd, Int.reduceSub, Int.reduceNeg, Int.reduceMul, Bool.and_self] | split)
          exact .mk (j + 1) ⟨h1, h2, intc rfl (by rw [cnts_snoc hlt]; omega), rfl, rfl, hlt, upto_succ hb hin⟩ (by omega)
        · have hok : findO (n.kids.getD j default) t = some (findI (n.kids.getD j default) t) := by unfold findO; rw [hin]; rfl
          have hfi := findFs_at (find_some (p := fun m => inF m t) hlt hin hb)
          have hlt3 : findI (n.kids.getD j default) t < cnt (n.kids.getD j default) := findI_lt t _
          rw [hok] at hck
          simp only [numA] at hck
          repeat' (first | (refine And.intro (by omega) ?_) | (refine callF_pure (hck _) ?_) | (refine callF_pure (countR _ hsk _) ?_) | (refine callQF_pure (hck _) (by first | rfl | simp -implicitDefEqProofs (disch := omega) only [h1, h2, h6, h7, nd_drop4, nd_len, rows_getD, nd_take, nd_cellsV, dT_lt, dF_lt, dT_le, dF_le, dT_eq, dF_eq, push_cast, ↓reduceIte, Nat.reduceEqDiff, reduceCtorEq, Nat.reduceAdd, Nat.reduceSub, Nat.reduceMul, Nat.reduceLeDiff, Nat.reduceLT, Nat.reduceMod, Nat.reduceDiv, Int.reduceToNat, Int.reduceLT, Int.reduceLE, Int.reduceEq, Int.reduceAdd, Int.reduceSub, Int.reduceNeg, Int.reduceMul, Bool.and_self]) ?_) | (refine callQF_pure (countR _ hsk _) (by first | rfl | simp -implicitDefEqProofs (disch := omega) only [h1, h2, h6, h7, nd_drop4, nd_len, rows_getD, nd_take, nd_cellsV, dT_lt, dF_lt, dT_le, dF_le, dT_eq, dF_eq, push_cast, ↓reduceIte, Nat.reduceEqDiff, reduceCtorEq, Nat.reduceAdd, Nat.reduceSub, Nat.reduceMul, Nat.reduceLeDiff, Nat.reduceLT, Nat.reduceMod, Nat.reduceDiv, Int.reduceToNat, Int.reduceLT, Int.reduceLE, Int.reduceEq, Int.reduceAdd, Int.reduceSub, Int.reduceNeg, Int.reduceMul, Bool.and_self]) ?_) | simp -implicitDefEqProofs (disch := omega) only [h1, h2, h6, h7, nd_drop4, nd_len, rows_getD, nd_take, nd_cellsV, dT_lt, dF_lt, dT_le, dF_le, dT_eq, dF_eq, push_cast, ↓reduceIte, Nat.reduceEqDiff, reduceCtorEq, Nat.reduceAdd, Nat.reduceSub, Nat.reduceMul, Nat.reduceLeDiff, Nat.reduceLT, Nat.reduceMod, Nat.reduceDiv, Int.reduceToNat, Int.reduceLT, Int.reduceLE, Int.reduceEq, Int.reduceAdd, Int.reduceSub, Int.reduceNeg, Int.reduceMul, Bool.and_self] | split)
          refine ⟨?_, _, rfl⟩
          rw [findI_eq n, hfi]
          simp only [numA]
          push_cast
          simp only [Int.add_assoc]
      · have hnone : findFs n.kids t = none := findFs_none (find_none fun i hi => hb i (by omega))
        repeat' (first | (refine And.intro (by omega) ?_) | simp -implicitDefEqProofs (disch := omega) only [h1, h2, h6, h7, nd_drop4, nd_len, dT_lt, dF_lt, dT_le, dF_le, dT_eq, dF_eq, push_cast, ↓reduceIte, Nat.reduceEqDiff, reduceCtorEq, Nat.reduceAdd, Nat.reduceSub, Nat.reduceMul, Nat.reduceLeDiff, Nat.reduceLT, Nat.reduceMod, Nat.reduceDiv, Int.reduceToNat, Int.reduceLT, Int.reduceLE, Int.reduceEq, Int.reduceAdd, Int.reduceSub, Int.reduceNeg, Int.reduceMul, Bool.and_self] | split)
        refine ⟨?_, _, rfl⟩
        rw [findI_eq n, hnone]
        rfl
    · have ho : findO n t = none := by unfold findO inF; simp [h2]
      rw [ho]
      repeat' (first | (refine And.intro (by omega) ?_) | simp -implicitDefEqProofs (disch := omega) only [L32, cells_agg, nd_c1s, nd_len, nd_take, nd_cellsV, nd_drop2, nd_drop3, dT_lt, dF_lt, dT_le, dF_le, dT_eq, dF_eq, push_cast, ↓reduceIte, Nat.reduceEqDiff, reduceCtorEq, Nat.reduceAdd, Nat.reduceSub, Nat.reduceMul, Nat.reduceLeDiff, Nat.reduceLT, Nat.reduceMod, Nat.reduceDiv, Int.reduceToNat, Int.reduceLT, Int.reduceLE, Int.reduceEq, Int.reduceAdd, Int.reduceSub, Int.reduceNeg, Int.reduceMul, Bool.and_self] | split)
      exact ⟨rfl, _, rfl⟩
  · have ho : findO n t = none := by unfold findO inF; simp [h1]
    rw [ho]
    repeat' (first | (refine And.intro (by omega) ?_) | simp -implicitDefEqProofs (disch := omega) only [L32, cells_agg, nd_c1s, nd_len, nd_take, nd_cellsV, nd_drop2, nd_drop3, dT_lt, dF_lt, dT_le, dF_le, dT_eq, dF_eq, push_cast, ↓reduceIte, Nat.reduceEqDiff, reduceCtorEq, Nat.reduceAdd, Nat.reduceSub, Nat.reduceMul, Nat.reduceLeDiff, Nat.reduceLT, Nat.reduceMod, Nat.reduceDiv, Int.reduceToNat, Int.reduceLT, Int.reduceLE, Int.reduceEq, Int.reduceAdd, Int.reduceSub, Int.reduceNeg, Int.reduceMul, Bool.and_self] | split)
    exact ⟨rfl, _, rfl⟩
#print axioms findT
#print axioms findR
end Go.Proofs.Ytnbdogodcjhfiaa

/- The functions, lowered. Printed by a program (wip/tools/pl.py). -/
namespace Go.Proofs.Ytnbdogodcjhfiaa
open Go Go.Ax
set_option maxRecDepth 100000

/-- assessor_assessorref03.Bare -/
def L41z : LFn := ⟨26, [(.cell 2 true 5)], (.seq (.ops [⟨(some 1), none, (.box false (.t 0))⟩,
      ⟨(some 2), none, (.alloc [(.v (.int .i64 0)), (.v (.string (mkS []))), (.v (.int .i64 0)), (.v (.int .i64 0)), (.v (.slice none 0 0))])⟩])
    (.seq (.ops [⟨(some 4), none, (.load true 5 (.t 1))⟩,
      ⟨(some 5), none, (.call (.c (.fn (.func 63) [] [])) [(.t 4)])⟩,
      ⟨none, none, (.store 5 (.t 1) (.t 5))⟩])
    (.seq (.ops [⟨(some 6), none, (.faddr 2 (.t 1))⟩,
      ⟨none, none, (.store 1 (.t 6) (.c (.v (.int .i64 0))))⟩,
      ⟨(some 7), none, (.faddr 3 (.t 1))⟩,
      ⟨none, none, (.store 1 (.t 7) (.c (.v (.int .i64 0))))⟩])
    (.seq (.seq (.ops [⟨(some 3), none, (.mv (.c (.v (.int .i64 0))))⟩])
    (.block 0 (.loop (.seq (.seq (.ops [⟨(some 8), none, (.mv (.t 3))⟩,
      ⟨(some 9), none, (.faddr 4 (.t 1))⟩,
      ⟨(some 10), none, (.load false 1 (.t 9))⟩,
      ⟨(some 11), none, (.len .slc (.t 10))⟩,
      ⟨(some 12), none, (.bin .int .lss (.t 8) (.t 11))⟩])
    (.cond (.t 12)
    .skip
    (.exit 0)))
    (.seq (.block 1 (.draw [⟨(some 15), none, (.faddr 4 (.t 1))⟩,
      ⟨(some 16), none, (.load false 1 (.t 15))⟩,
      ⟨(some 17), none, (.mv (.t 3))⟩,
      ⟨(some 18), none, (.faddr 4 (.t 1))⟩,
      ⟨(some 19), none, (.load false 1 (.t 18))⟩,
      ⟨(some 20), none, (.mv (.t 3))⟩,
      ⟨(some 21), none, (.iaddr 5 (.t 19) (.t 20))⟩,
      ⟨(some 22), none, (.load true 5 (.t 21))⟩,
      ⟨(some 23), none, (.call (.c (.fn (.func 41) [] [])) [(.t 22)])⟩,
      ⟨(some 24), none, (.iaddr 5 (.t 16) (.t 17))⟩] [⟨none, none, (.store 5 (.t 24) (.t 23))⟩]))
    (.ops [⟨(some 13), none, (.mv (.t 3))⟩,
      ⟨(some 14), none, (.bin .int .add (.t 13) (.c (.v (.int .i64 1))))⟩,
      ⟨(some 3), none, (.mv (.t 14))⟩]))))))
    (.seq (.ops [⟨(some 25), none, (.load true 5 (.t 1))⟩,
      ⟨(some 25), none, (.frzf 5 4 (.t 25))⟩,
      ⟨none, none, (.store 5 (.t 2) (.t 25))⟩])
    .ret)))))⟩
theorem L41z_ok : lowFn Try.prog Try.f41 [⟨7, 1, (.pre 25 (.frzf 5 4 (.t 25)))⟩, ⟨6, 10, .tail⟩] = some L41z := by kernel_rfl

/-- assessor_tree.replace -/
def L61z : LFn := ⟨52, [(.cell 10 true 5)], (.seq (.ops [⟨(some 5), none, (.box false (.t 0))⟩,
      ⟨(some 10), none, (.alloc [(.v (.int .i64 0)), (.v (.string (mkS []))), (.v (.int .i64 0)), (.v (.int .i64 0)), (.v (.slice none 0 0))])⟩])
    (.seq (.seq (.ops [⟨(some 11), none, (.mv (.t 1))⟩,
      ⟨(some 12), none, (.len .slc (.t 11))⟩,
      ⟨(some 13), none, (.bin .int .eql (.t 12) (.c (.v (.int .i64 0))))⟩])
    (.cond (.t 13)
    (.seq (.draw [⟨(some 14), none, (.faddr 4 (.t 5))⟩,
      ⟨(some 15), none, (.load false 1 (.t 14))⟩,
      ⟨(some 16), none, (.mv (.t 2))⟩,
      ⟨(some 17), none, (.slice .slc 5 (.t 15) none (some (.t 16)))⟩,
      ⟨(some 18), none, (.mv (.t 4))⟩,
      ⟨(some 19), none, (.faddr 4 (.t 5))⟩,
      ⟨(some 20), none, (.load false 1 (.t 19))⟩,
      ⟨(some 21), none, (.mv (.t 3))⟩,
      ⟨(some 22), none, (.slice .slc 5 (.t 20) (some (.t 21)) none)⟩,
      ⟨(some 23), none, (.bsl true 1 3 [(.v (.slice none 0 0))] [(0, (.t 17)), (1, (.t 18)), (2, (.t 22))])⟩,
      ⟨(some 24), none, (.call (.c (.fn (.func 91) [] [])) [(.t 23)])⟩,
      ⟨(some 25), none, (.call (.c (.fn (.func 90) [] [])) [(.t 24)])⟩,
      ⟨(some 26), none, (.faddr 4 (.t 5))⟩] [⟨none, none, (.store 1 (.t 26) (.t 25))⟩])
    (.seq (.ops [⟨(some 27), none, (.load true 5 (.t 5))⟩,
      ⟨none, none, (.store 5 (.t 10) (.t 27))⟩])
    .ret))
    .skip))
    (.seq (.ops [⟨(some 28), none, (.faddr 4 (.t 5))⟩,
      ⟨(some 29), none, (.load false 1 (.t 28))⟩,
      ⟨(some 30), none, (.call (.c (.fn (.func 90) [] [])) [(.t 29)])⟩,
      ⟨(some 31), none, (.faddr 4 (.t 5))⟩,
      ⟨none, none, (.store 1 (.t 31) (.t 30))⟩])
    (.seq (.draw [⟨(some 32), none, (.faddr 4 (.t 5))⟩,
      ⟨(some 33), none, (.load false 1 (.t 32))⟩,
      ⟨(some 34), none, (.mv (.t 1))⟩,
      ⟨(some 35), none, (.iaddr 1 (.t 34) (.c (.v (.int .i64 0))))⟩,
      ⟨(some 36), none, (.load false 1 (.t 35))⟩,
      ⟨(some 37), none, (.faddr 4 (.t 5))⟩,
      ⟨(some 38), none, (.load false 1 (.t 37))⟩,
      ⟨(some 39), none, (.mv (.t 1))⟩,
      ⟨(some 40), none, (.iaddr 1 (.t 39) (.c (.v (.int .i64 0))))⟩,
      ⟨(some 41), none, (.load false 1 (.t 40))⟩,
      ⟨(some 42), none, (.iaddr 5 (.t 38) (.t 41))⟩,
      ⟨(some 43), none, (.load true 5 (.t 42))⟩,
      ⟨(some 44), none, (.mv (.t 1))⟩,
      ⟨(some 45), none, (.slice .slc 1 (.t 44) (some (.c (.v (.int .i64 1)))) none)⟩,
      ⟨(some 46), none, (.mv (.t 2))⟩,
      ⟨(some 47), none, (.mv (.t 3))⟩,
      ⟨(some 48), none, (.mv (.t 4))⟩,
      ⟨(some 49), none, (.call (.c (.fn (.func 61) [] [])) [(.t 43), (.t 45), (.t 46), (.t 47), (.t 48)])⟩,
      ⟨(some 50), none, (.iaddr 5 (.t 33) (.t 36))⟩] [⟨none, none, (.store 5 (.t 50) (.t 49))⟩])
    (.seq (.ops [⟨(some 51), none, (.load true 5 (.t 5))⟩,
      ⟨(some 51), none, (.frzf 5 4 (.t 51))⟩,
      ⟨none, none, (.store 5 (.t 10) (.t 51))⟩])
    .ret)))))⟩
theorem L61z_ok : lowFn Try.prog Try.f61 [⟨6, 1, (.pre 51 (.frzf 5 4 (.t 51)))⟩, ⟨2, 9, .imm⟩, ⟨2, 13, .tail⟩, ⟨5, 19, .tail⟩] = some L61z := by kernel_rfl

/-- assessor_assessorref03.change -/
def L62z : LFn := ⟨54, [(.cell 10 true 5)], (.seq (.ops [⟨(some 5), none, (.box false (.t 0))⟩,
      ⟨(some 10), none, (.alloc [(.v (.int .i64 0)), (.v (.string (mkS []))), (.v (.int .i64 0)), (.v (.int .i64 0)), (.v (.slice none 0 0))])⟩])
    (.seq (.ops [⟨(some 12), none, (.load true 5 (.t 5))⟩,
      ⟨(some 13), none, (.call (.c (.fn (.func 63) [] [])) [(.t 12)])⟩,
      ⟨none, none, (.store 5 (.t 5) (.t 13))⟩])
    (.seq (.seq (.ops [⟨(some 14), none, (.mv (.t 1))⟩,
      ⟨(some 15), none, (.len .slc (.t 14))⟩,
      ⟨(some 16), none, (.bin .int .gtr (.t 15) (.c (.v (.int .i64 0))))⟩])
    (.cond (.t 16)
    (.seq (.draw [⟨(some 17), none, (.faddr 4 (.t 5))⟩,
      ⟨(some 18), none, (.load false 1 (.t 17))⟩,
      ⟨(some 19), none, (.mv (.t 1))⟩,
      ⟨(some 20), none, (.iaddr 1 (.t 19) (.c (.v (.int .i64 0))))⟩,
      ⟨(some 21), none, (.load false 1 (.t 20))⟩,
      ⟨(some 22), none, (.faddr 4 (.t 5))⟩,
      ⟨(some 23), none, (.load false 1 (.t 22))⟩,
      ⟨(some 24), none, (.mv (.t 1))⟩,
      ⟨(some 25), none, (.iaddr 1 (.t 24) (.c (.v (.int .i64 0))))⟩,
      ⟨(some 26), none, (.load false 1 (.t 25))⟩,
      ⟨(some 27), none, (.iaddr 5 (.t 23) (.t 26))⟩,
      ⟨(some 28), none, (.load true 5 (.t 27))⟩,
      ⟨(some 29), none, (.mv (.t 1))⟩,
      ⟨(some 30), none, (.slice .slc 1 (.t 29) (some (.c (.v (.int .i64 1)))) none)⟩,
      ⟨(some 31), none, (.mv (.t 2))⟩,
      ⟨(some 32), none, (.mv (.t 3))⟩,
      ⟨(some 33), none, (.mv (.t 4))⟩,
      ⟨(some 34), none, (.call (.c (.fn (.func 62) [] [])) [(.t 28), (.t 30), (.t 31), (.t 32), (.t 33)])⟩,
      ⟨(some 35), none, (.iaddr 5 (.t 18) (.t 21))⟩] [⟨none, none, (.store 5 (.t 35) (.t 34))⟩])
    (.seq (.ops [⟨(some 36), none, (.load true 5 (.t 5))⟩,
      ⟨(some 36), none, (.frzf 5 4 (.t 36))⟩,
      ⟨none, none, (.store 5 (.t 10) (.t 36))⟩])
    .ret))
    .skip))
    (.seq (.ops [⟨(some 37), none, (.bsl false 5 0 [(.v (.int .i64 0)), (.v (.string (mkS []))), (.v (.int .i64 0)), (.v (.int .i64 0)), (.v (.slice none 0 0))] [])⟩,
      ⟨(some 38), none, (.faddr 4 (.t 5))⟩,
      ⟨(some 39), none, (.load false 1 (.t 38))⟩,
      ⟨(some 40), none, (.mv (.t 2))⟩,
      ⟨(some 41), none, (.slice .slc 5 (.t 39) none (some (.t 40)))⟩,
      ⟨(some 42), none, (.append 5 64 (.t 37) (.t 41))⟩,
      ⟨(some 11), none, (.mv (.t 42))⟩])
    (.seq (.ops [⟨(some 43), none, (.mv (.t 11))⟩,
      ⟨(some 44), none, (.mv (.t 4))⟩,
      ⟨(some 45), none, (.append 5 64 (.t 43) (.t 44))⟩,
      ⟨(some 11), none, (.mv (.t 45))⟩])
    (.seq (.ops [⟨(some 46), none, (.mv (.t 11))⟩,
      ⟨(some 47), none, (.faddr 4 (.t 5))⟩,
      ⟨(some 48), none, (.load false 1 (.t 47))⟩,
      ⟨(some 49), none, (.mv (.t 3))⟩,
      ⟨(some 50), none, (.slice .slc 5 (.t 48) (some (.t 49)) none)⟩,
      ⟨(some 51), none, (.append 5 64 (.t 46) (.t 50))⟩,
      ⟨(some 52), none, (.faddr 4 (.t 5))⟩,
      ⟨none, none, (.store 1 (.t 52) (.t 51))⟩])
    (.seq (.ops [⟨(some 53), none, (.load true 5 (.t 5))⟩,
      ⟨(some 53), none, (.frzf 5 4 (.t 53))⟩,
      ⟨none, none, (.store 5 (.t 10) (.t 53))⟩])
    .ret)))))))⟩
theorem L62z_ok : lowFn Try.prog Try.f62 [⟨4, 1, (.pre 36 (.frzf 5 4 (.t 36)))⟩, ⟨8, 1, (.pre 53 (.frzf 5 4 (.t 53)))⟩, ⟨3, 19, .tail⟩] = some L62z := by kernel_rfl

end Go.Proofs.Ytnbdogodcjhfiaa

/- Trees: without places; copies. -/
namespace Go.Proofs.Ytnbdogodcjhfiaa
open Go Go.Ax
set_option maxRecDepth 100000
set_option linter.unusedSimpArgs false
set_option linter.unusedVariables false

mutual
/-- The tree without places. -/
def bareF : Nd → Nd
  | .mk k t _ _ ks => .mk k t 0 0 (bareFs ks)
def bareFs : List Nd → List Nd
  | [] => []
  | x :: l => bareF x :: bareFs l
end
theorem bareFs_map : ∀ l : List Nd, bareFs l = l.map bareF
  | [] => rfl
  | x :: l => by simp [bareFs, bareFs_map l]
theorem bareF_R (n : Nd) : ndR (bareF n) = [int n.kind, str n.text, int 0, int 0, .sl 5 (n.kids.map fun m => ndR (bareF m))] := by
  cases n
  simp [bareF, bareFs_map, ndR_eq, Nd.kind, Nd.text, Nd.a, Nd.e, Nd.kids, Function.comp_def]

theorem bareT (n : Nd) : Sml n → ∀ H, Comp' 21 [.agg (ndR n)] H (.agg (ndR (bareF n))) := by
  induction n using Nd.ind with
  | h n ih =>
  intro hs H
  refine ACall.drop (R := fun x => x = .agg (ndR (bareF n))) ?_
  refine enter Try.func21 L21_ok (Nat.le_of_ble_eq_true rfl) ?_
  have hln := sml_len hs
  repeat' (first | (refine And.intro (by omega) ?_) | simp -implicitDefEqProofs (disch := omega) only [L21, cells_agg, nd_c1s, nd_len, nd_take, nd_cellsV, nd_drop1, nd_drop4, splice, dT_lt, dF_lt, dT_le, dF_le, dT_eq, dF_eq, push_cast, ↓reduceIte, Nat.reduceEqDiff, reduceCtorEq, Nat.reduceAdd, Nat.reduceSub, Nat.reduceMul, Nat.reduceLeDiff, Nat.reduceLT, Nat.reduceMod, Nat.reduceDiv, Int.reduceToNat, Int.reduceLT, Int.reduceLE, Int.reduceEq, Int.reduceAdd, Int.reduceSub, Int.reduceNeg, Int.reduceMul, Bool.and_self] | split)
  refine rk_loopS (fun (st : Nat × Option (Nat × HO × AHeap)) e' H' => e' 2 = .ptr (H.length + 1) 0 0 ∧ e' 3 = .ptr (H.length + 2) 0 0 ∧ e' 12 = .sl 5 (n.kids.map ndR) ∧ e' 13 = int n.kids.length ∧ e' 14 = int st.1 ∧ st.1 ≤ n.kids.length ∧ match st.2 with
    | none => st.1 = 0 ∧ H' = H ++ [.box (ndR n), .box zCs, .box [int n.kind, str n.text, int 0, int 0, nilS]]
    | some (v, x, rest) => H' = H ++ (.box (ndR n) :: .box zCs :: .box [int n.kind, str n.text, int 0, int 0, .os (H.length + 4) v 0 st.1] :: x :: .arr v 5 ((n.kids.take st.1).map fun m => ndR (bareF m)) :: rest)) (fun st => n.kids.length - st.1) (0, none) ?_ ?_
  · exact ⟨rfl, rfl, rfl, rfl, rfl, Nat.zero_le _, rfl, rfl⟩
  rintro ⟨j, st⟩ e' H' ⟨h2, h3, h12, h13, h14, hj, hst⟩
  simp only at h14 hj hst
  cases st with
  | none =>
    obtain ⟨rfl, rfl⟩ := hst
    by_cases hlt : 0 < n.kids.length
    · have hk := getD_mem' hlt
      have hsk := sml_kid hs hk
      repeat' (first | (refine And.intro (by omega) ?_) | (refine callF_pure (ih _ hk hsk _) ?_) | (refine callQF_pure (ih _ hk hsk _) (by first | rfl | simp -implicitDefEqProofs (disch := omega) only [h2, h3, h12, h13, h14, nd_drop4, nd_len, rows_getD, nd_take, nd_c1s, nd_clL, nd_cellsV, cells_agg, splice, dT_lt, dF_lt, dT_le, dF_le, dT_eq, dF_eq, push_cast, ↓reduceIte, Nat.reduceEqDiff, reduceCtorEq, Nat.reduceAdd, Nat.reduceSub, Nat.reduceMul, Nat.reduceLeDiff, Nat.reduceLT, Nat.reduceMod, Nat.reduceDiv, Int.reduceToNat, Int.reduceLT, Int.reduceLE, Int.reduceEq, Int.reduceAdd, Int.reduceSub, Int.reduceNeg, Int.reduceMul, Bool.and_self]) ?_) | simp -implicitDefEqProofs (disch := omega) only [h2, h3, h12, h13, h14, nd_drop4, nd_len, rows_getD, nd_take, nd_c1s, nd_clL, nd_cellsV, cells_agg, splice, dT_lt, dF_lt, dT_le, dF_le, dT_eq, dF_eq, push_cast, ↓reduceIte, Nat.reduceEqDiff, reduceCtorEq, Nat.reduceAdd, Nat.reduceSub, Nat.reduceMul, Nat.reduceLeDiff, Nat.reduceLT, Nat.reduceMod, Nat.reduceDiv, Int.reduceToNat, Int.reduceLT, Int.reduceLE, Int.reduceEq, Int.reduceAdd, Int.reduceSub, Int.reduceNeg, Int.reduceMul, Bool.and_self] | split)
      refine .mk (1, some (0, .box (ndR (n.kids.getD 0 default)), [])) ⟨h2, h3, h12, h13, rfl, hlt, ?_⟩ (by simp only; omega)
      rw [take_snoc hlt]
      simp
    · have e : n.kids = [] := by cases hk : n.kids with
        | nil => rfl
        | cons x l => rw [hk] at hlt; simp at hlt
      repeat' (first | (refine And.intro (by omega) ?_) | simp -implicitDefEqProofs (disch := omega) only [h2, h3, h12, h13, h14, e, nd_drop4, nd_len, rows_getD, nd_take, nd_c1s, nd_clL, nd_cellsV, cells_agg, splice, nd_drop5, List.append_nil, dT_lt, dF_lt, dT_le, dF_le, dT_eq, dF_eq, push_cast, ↓reduceIte, Nat.reduceEqDiff, reduceCtorEq, Nat.reduceAdd, Nat.reduceSub, Nat.reduceMul, Nat.reduceLeDiff, Nat.reduceLT, Nat.reduceMod, Nat.reduceDiv, Int.reduceToNat, Int.reduceLT, Int.reduceLE, Int.reduceEq, Int.reduceAdd, Int.reduceSub, Int.reduceNeg, Int.reduceMul, Bool.and_self] | split)
      exact ⟨by rw [bareF_R, e]; rfl, _, rfl⟩
  | some p =>
    obtain ⟨v, x, rest⟩ := p
    simp only at hst
    subst hst
    by_cases hlt : j < n.kids.length
    · have hk := getD_mem' hlt
      have hsk := sml_kid hs hk
      repeat' (first | (refine And.intro (by omega) ?_) | (refine callF_pure (ih _ hk hsk _) ?_) | (refine callQF_pure (ih _ hk hsk _) (by first | rfl | simp -implicitDefEqProofs (disch := omega) only [h2, h3, h12, h13, h14, nd_drop4, nd_len, rows_getD, nd_take, nd_c1s, nd_clL, nd_cellsV, cells_agg, splice, dT_lt, dF_lt, dT_le, dF_le, dT_eq, dF_eq, push_cast, ↓reduceIte, Nat.reduceEqDiff, reduceCtorEq, Nat.reduceAdd, Nat.reduceSub, Nat.reduceMul, Nat.reduceLeDiff, Nat.reduceLT, Nat.reduceMod, Nat.reduceDiv, Int.reduceToNat, Int.reduceLT, Int.reduceLE, Int.reduceEq, Int.reduceAdd, Int.reduceSub, Int.reduceNeg, Int.reduceMul, Bool.and_self]) ?_) | simp -implicitDefEqProofs (disch := omega) only [h2, h3, h12, h13, h14, nd_drop4, nd_len, rows_getD, nd_take, nd_c1s, nd_clL, nd_cellsV, cells_agg, splice, dT_lt, dF_lt, dT_le, dF_le, dT_eq, dF_eq, push_cast, ↓reduceIte, Nat.reduceEqDiff, reduceCtorEq, Nat.reduceAdd, Nat.reduceSub, Nat.reduceMul, Nat.reduceLeDiff, Nat.reduceLT, Nat.reduceMod, Nat.reduceDiv, Int.reduceToNat, Int.reduceLT, Int.reduceLE, Int.reduceEq, Int.reduceAdd, Int.reduceSub, Int.reduceNeg, Int.reduceMul, Bool.and_self] | split)
      have htl : (n.kids.take j).length = j := by rw [List.length_take]; omega
      refine And.intro ⟨by omega, by omega, by omega⟩ (.mk (j + 1, some (v + 1, x, rest ++ [.box (ndR (n.kids.getD j default))])) ⟨h2, h3, h12, h13, rfl, hlt, ?_⟩ (by simp only; omega))
      rw [all_take _ (by rw [List.length_map, htl]; exact Nat.le_refl _), take_snoc hlt]
      simp
    · repeat' (first | (refine And.intro (by omega) ?_) | simp -implicitDefEqProofs (disch := omega) only [h2, h3, h12, h13, h14, nd_drop4, nd_len, rows_getD, nd_take, nd_c1s, nd_clL, nd_cellsV, cells_agg, splice, nd_drop5, List.append_nil, dT_lt, dF_lt, dT_le, dF_le, dT_eq, dF_eq, push_cast, ↓reduceIte, Nat.reduceEqDiff, reduceCtorEq, Nat.reduceAdd, Nat.reduceSub, Nat.reduceMul, Nat.reduceLeDiff, Nat.reduceLT, Nat.reduceMod, Nat.reduceDiv, Int.reduceToNat, Int.reduceLT, Int.reduceLE, Int.reduceEq, Int.reduceAdd, Int.reduceSub, Int.reduceNeg, Int.reduceMul, Bool.and_self] | split)
      have htl : (n.kids.take j).length = j := by rw [List.length_take]; omega
      refine ⟨by omega, ?_, _, rfl⟩
      rw [bareF_R, all_take _ (by rw [List.length_map, htl]; exact Nat.le_refl _), List.take_of_length_le (by omega)]
#print axioms bareT

theorem copied0 (n : Nd) (hs : Sml n) (ih : ∀ k ∈ n.kids, ∀ H, Comp' 63 [.agg (ndR k)] H (.agg (ndR k))) (H : AHeap) : ACall Try.prog 63 [.agg (ndR n)] H fun x H' => ∃ v a b, x = .agg [int n.kind, str n.text, int n.a, int n.e, .os (H.length + 2) v 0 n.kids.length] ∧ H' = H ++ [.box a, .box b, .arr v 5 (n.kids.map ndR)] := by
  refine enter Try.func63 L63_ok (Nat.le_of_ble_eq_true rfl) ?_
  have hln := sml_len hs
  have hl4 : ∀ x, splice (ndR n) 4 [x] = [int n.kind, str n.text, int n.a, int n.e, x] := fun x => by rw [ndR_eq]; rfl
  have hl5 : ∀ a b c d e, splice zCs 0 [a, b, c, d, e] = [a, b, c, d, e] := fun _ _ _ _ _ => rfl
  repeat' (first | (refine And.intro (by omega) ?_) | simp -implicitDefEqProofs (disch := omega) only [L63, cells_agg, nd_c1s, nd_len, nd_take, nd_cellsV, dT_lt, dF_lt, dT_le, dF_le, dT_eq, dF_eq, push_cast, ↓reduceIte, Nat.reduceEqDiff, reduceCtorEq, Nat.reduceAdd, Nat.reduceSub, Nat.reduceMul, Nat.reduceLeDiff, Nat.reduceLT, Nat.reduceMod, Nat.reduceDiv, Int.reduceToNat, Int.reduceLT, Int.reduceLE, Int.reduceEq, Int.reduceAdd, Int.reduceSub, Int.reduceNeg, Int.reduceMul, Bool.and_self] | split)
  refine rk_loopS (fun (st : Nat × Nat) e' H' => e' 1 = .ptr H.length 0 0 ∧ e' 2 = .ptr (H.length + 1) 0 0 ∧ e' 3 = .os (H.length + 2) st.2 0 st.1 ∧ e' 4 = int st.1 ∧ st.1 ≤ n.kids.length ∧ H' = H ++ [.box (ndR n), .box zCs, .arr st.2 5 ((n.kids.take st.1).map ndR)]) (fun st => n.kids.length - st.1) (0, 0) ?_ ?_
  · exact ⟨rfl, rfl, rfl, rfl, Nat.zero_le _, rfl⟩
  rintro ⟨j, v⟩ e' H' ⟨h1, h2, h3, h4, hj, rfl⟩
  simp only at h3 h4 hj
  have htl : (n.kids.take j).length = j := by rw [List.length_take]; omega
  by_cases hlt : j < n.kids.length
  · have hk := getD_mem' hlt
    repeat' (first | (refine And.intro (by omega) ?_) | (refine callF_pure (ih _ hk _) ?_) | (refine callQF_pure (ih _ hk _) (by first | rfl | simp -implicitDefEqProofs (disch := omega) only [h1, h2, h3, h4, nd_drop4, nd_len, rows_getD, nd_take, nd_c1s, nd_clL, nd_cellsV, cells_agg, htl, dT_lt, dF_lt, dT_le, dF_le, dT_eq, dF_eq, push_cast, ↓reduceIte, Nat.reduceEqDiff, reduceCtorEq, Nat.reduceAdd, Nat.reduceSub, Nat.reduceMul, Nat.reduceLeDiff, Nat.reduceLT, Nat.reduceMod, Nat.reduceDiv, Int.reduceToNat, Int.reduceLT, Int.reduceLE, Int.reduceEq, Int.reduceAdd, Int.reduceSub, Int.reduceNeg, Int.reduceMul, Bool.and_self]) ?_) | simp -implicitDefEqProofs (disch := omega) only [h1, h2, h3, h4, nd_drop4, nd_len, rows_getD, nd_take, nd_c1s, nd_clL, nd_cellsV, cells_agg, htl, dT_lt, dF_lt, dT_le, dF_le, dT_eq, dF_eq, push_cast, ↓reduceIte, Nat.reduceEqDiff, reduceCtorEq, Nat.reduceAdd, Nat.reduceSub, Nat.reduceMul, Nat.reduceLeDiff, Nat.reduceLT, Nat.reduceMod, Nat.reduceDiv, Int.reduceToNat, Int.reduceLT, Int.reduceLE, Int.reduceEq, Int.reduceAdd, Int.reduceSub, Int.reduceNeg, Int.reduceMul, Bool.and_self] | split)
    refine .mk (j + 1, v + 1) ⟨h1, h2, rfl, rfl, hlt, ?_⟩ (by simp only; omega)
    rw [all_take _ (by rw [List.length_map, htl]; exact Nat.le_refl _), take_snoc hlt]
    simp
  · have e : j = n.kids.length := by omega
    subst e
    repeat' (first | (refine And.intro (by omega) ?_) | simp -implicitDefEqProofs (disch := omega) only [h1, h2, h3, h4, nd_drop4, nd_len, nd_take, nd_c1s, nd_clL, nd_cellsV, cells_agg, hl4, hl5, List.take_length, dT_lt, dF_lt, dT_le, dF_le, dT_eq, dF_eq, push_cast, ↓reduceIte, Nat.reduceEqDiff, reduceCtorEq, Nat.reduceAdd, Nat.reduceSub, Nat.reduceMul, Nat.reduceLeDiff, Nat.reduceLT, Nat.reduceMod, Nat.reduceDiv, Int.reduceToNat, Int.reduceLT, Int.reduceLE, Int.reduceEq, Int.reduceAdd, Int.reduceSub, Int.reduceNeg, Int.reduceMul, Bool.and_self] | split)
    exact ⟨_, _, _, rfl, rfl⟩
theorem copiedR (n : Nd) : Sml n → ∀ H, Comp' 63 [.agg (ndR n)] H (.agg (ndR n)) := by
  induction n using Nd.ind with
  | h n ih =>
  intro hs H
  have h0 := copied0 n hs (fun k hk H => ih k hk (sml_kid hs hk) H) H
  refine ACall.drop (R := fun x => x = .agg (ndR n)) ((h0.frzf 5 4 ?_).mono ?_)
  · rintro x H' ⟨v, a, b, rfl, rfl⟩
    simp -implicitDefEqProofs (disch := omega) only [List.getElem?_cons_succ, List.getElem?_cons_zero, List.length_map, Nat.zero_add, dT_lt, dF_lt, dT_le, dF_le, dT_eq, dF_eq, push_cast, ↓reduceIte, Nat.reduceEqDiff, reduceCtorEq, Nat.reduceAdd, Nat.reduceSub, Nat.reduceMul, Nat.reduceLeDiff, Nat.reduceLT, Nat.reduceMod, Nat.reduceDiv, Int.reduceToNat, Int.reduceLT, Int.reduceLE, Int.reduceEq, Int.reduceAdd, Int.reduceSub, Int.reduceNeg, Int.reduceMul, Bool.and_self]
    exact Nat.le_refl _
  · rintro x H' ⟨_, _, ⟨v, a, b, rfl, rfl⟩, rfl, rfl⟩
    simp -implicitDefEqProofs (disch := omega) only [List.getElem?_cons_succ, List.getElem?_cons_zero, dT_lt, dF_lt, dT_le, dF_le, dT_eq, dF_eq, push_cast, ↓reduceIte, Nat.reduceEqDiff, reduceCtorEq, Nat.reduceAdd, Nat.reduceSub, Nat.reduceMul, Nat.reduceLeDiff, Nat.reduceLT, Nat.reduceMod, Nat.reduceDiv, Int.reduceToNat, Int.reduceLT, Int.reduceLE, Int.reduceEq, Int.reduceAdd, Int.reduceSub, Int.reduceNeg, Int.reduceMul, Bool.and_self]
    exact ⟨by rw [ndR_eq], _, rfl⟩

theorem bareR (n : Nd) : Sml n → ∀ H, Comp' 41 [.agg (ndR n)] H (.agg (ndR (bareF n))) := by
  induction n using Nd.ind with
  | h n ih =>
  intro hs H
  refine ACall.drop (R := fun x => x = .agg (ndR (bareF n))) ?_
  refine enter Try.func41 L41z_ok (Nat.le_of_ble_eq_true rfl) ?_
  have hln := sml_len hs
  simp -implicitDefEqProofs (disch := omega) only [L41z, cells_agg, nd_c1s, nd_len, nd_take, nd_cellsV, dT_lt, dF_lt, dT_le, dF_le, dT_eq, dF_eq, push_cast, ↓reduceIte, Nat.reduceEqDiff, reduceCtorEq, Nat.reduceAdd, Nat.reduceSub, Nat.reduceMul, Nat.reduceLeDiff, Nat.reduceLT, Nat.reduceMod, Nat.reduceDiv, Int.reduceToNat, Int.reduceLT, Int.reduceLE, Int.reduceEq, Int.reduceAdd, Int.reduceSub, Int.reduceNeg, Int.reduceMul, Bool.and_self]
  refine callF_mono (copied0 n hs (fun k hk H => copiedR k (sml_kid hs hk) H) _) ?_
  rintro x H' ⟨v, a, b, rfl, rfl⟩
  have e22 : H.length + 2 + 2 = H.length + 4 := rfl
  repeat' (first | (refine And.intro (by omega) ?_) | simp -implicitDefEqProofs (disch := omega) only [cells_agg, nd_c1s, nd_len, nd_take, nd_cellsV, splice, nd_drop5, List.append_nil, e22, dT_lt, dF_lt, dT_le, dF_le, dT_eq, dF_eq, push_cast, ↓reduceIte, Nat.reduceEqDiff, reduceCtorEq, Nat.reduceAdd, Nat.reduceSub, Nat.reduceMul, Nat.reduceLeDiff, Nat.reduceLT, Nat.reduceMod, Nat.reduceDiv, Int.reduceToNat, Int.reduceLT, Int.reduceLE, Int.reduceEq, Int.reduceAdd, Int.reduceSub, Int.reduceNeg, Int.reduceMul, Bool.and_self] | split)
  refine rk_loopS (fun (j : Nat) e' H' => e' 1 = .ptr H.length 0 0 ∧ e' 2 = .ptr (H.length + 1) 0 0 ∧ e' 3 = int j ∧ j ≤ n.kids.length ∧ H' = H ++ [.box [int n.kind, str n.text, int 0, int 0, .os (H.length + 4) v 0 n.kids.length], .box zCs, .box a, .box b, .arr v 5 (((n.kids.take j).map bareF ++ n.kids.drop j).map ndR)]) (fun j => n.kids.length - j) 0 ?_ ?_
  · exact ⟨rfl, rfl, rfl, Nat.zero_le _, rfl⟩
  rintro j e' H' ⟨h1, h2, h3, hj, rfl⟩
  have htl : ((n.kids.take j).map bareF).length = j := by rw [List.length_map, List.length_take]; omega
  by_cases hlt : j < n.kids.length
  · have hk := getD_mem' hlt
    have hrow : (((n.kids.take j).map bareF ++ n.kids.drop j).map ndR).getD j [] = ndR (n.kids.getD j default) := by
      rw [rows_getD (by rw [List.length_append, htl, List.length_drop]; omega)]
      congr 1
      rw [drop_cons hlt, List.getD_eq_getElem?_getD, List.getElem?_append_right (by omega), htl]
      simp
    have hset : (((n.kids.take j).map bareF ++ n.kids.drop j).map ndR).set j (ndR (bareF (n.kids.getD j default))) = ((n.kids.take (j + 1)).map bareF ++ n.kids.drop (j + 1)).map ndR := by
      rw [take_snoc hlt, drop_cons hlt, List.map_append, List.set_append_right _ _ (by rw [List.length_map, htl]; omega), List.length_map, htl, Nat.sub_self]
      simp
    have hlen : (((n.kids.take j).map bareF ++ n.kids.drop j).map ndR).length = n.kids.length := by rw [List.length_map, List.length_append, htl, List.length_drop]; omega
    repeat' (first | (refine And.intro (by omega) ?_) | (refine callF_pure (ih _ hk (sml_kid hs hk) _) ?_) | (refine callQF_pure (ih _ hk (sml_kid hs hk) _) (by first | rfl | simp -implicitDefEqProofs (disch := omega) only [h1, h2, h3, cells_agg, nd_c1s, nd_clL, nd_len, nd_take, nd_cellsV, splice, nd_drop5, List.append_nil, hrow, hset, hlen, Nat.zero_add, dT_lt, dF_lt, dT_le, dF_le, dT_eq, dF_eq, push_cast, ↓reduceIte, Nat.reduceEqDiff, reduceCtorEq, Nat.reduceAdd, Nat.reduceSub, Nat.reduceMul, Nat.reduceLeDiff, Nat.reduceLT, Nat.reduceMod, Nat.reduceDiv, Int.reduceToNat, Int.reduceLT, Int.reduceLE, Int.reduceEq, Int.reduceAdd, Int.reduceSub, Int.reduceNeg, Int.reduceMul, Bool.and_self]) ?_) | simp -implicitDefEqProofs (disch := omega) only [h1, h2, h3, cells_agg, nd_c1s, nd_clL, nd_len, nd_take, nd_cellsV, splice, nd_drop5, List.append_nil, hrow, hset, hlen, Nat.zero_add, dT_lt, dF_lt, dT_le, dF_le, dT_eq, dF_eq, push_cast, ↓reduceIte, Nat.reduceEqDiff, reduceCtorEq, Nat.reduceAdd, Nat.reduceSub, Nat.reduceMul, Nat.reduceLeDiff, Nat.reduceLT, Nat.reduceMod, Nat.reduceDiv, Int.reduceToNat, Int.reduceLT, Int.reduceLE, Int.reduceEq, Int.reduceAdd, Int.reduceSub, Int.reduceNeg, Int.reduceMul, Bool.and_self] | split)
    exact .mk (j + 1) ⟨h1, h2, rfl, hlt, rfl⟩ (by omega)
  · have e : j = n.kids.length := by omega
    subst e
    repeat' (first | (refine And.intro (by omega) ?_) | simp -implicitDefEqProofs (disch := omega) only [h1, h2, h3, cells_agg, nd_c1s, nd_clL, nd_len, nd_take, nd_cellsV, splice, nd_drop5, List.append_nil, List.take_length, List.drop_length, dT_lt, dF_lt, dT_le, dF_le, dT_eq, dF_eq, push_cast, ↓reduceIte, Nat.reduceEqDiff, reduceCtorEq, Nat.reduceAdd, Nat.reduceSub, Nat.reduceMul, Nat.reduceLeDiff, Nat.reduceLT, Nat.reduceMod, Nat.reduceDiv, Int.reduceToNat, Int.reduceLT, Int.reduceLE, Int.reduceEq, Int.reduceAdd, Int.reduceSub, Int.reduceNeg, Int.reduceMul, Bool.and_self] | split)
    refine ⟨?_, _, rfl⟩
    rw [bareF_R, List.map_map, all_take _ (by simp)]
    rfl
#print axioms bareR
end Go.Proofs.Ytnbdogodcjhfiaa

/- Trees: the example; what each law asks last; TreeShapes. -/
namespace Go.Proofs.Ytnbdogodcjhfiaa
open Go Go.Ax
set_option maxRecDepth 100000
set_option linter.unusedSimpArgs false
set_option linter.unusedVariables false

theorem AVLe_sl {sz : Nat} {xs ys : List (List AV)} (hl : xs.length = ys.length) (h : ∀ (i : Nat) (x y : List AV), xs[i]? = some x → ys[i]? = some y → x.length = y.length ∧ ∀ (j : Nat) (a b : AV), x[j]? = some a → y[j]? = some b → AV.Le a b) : AV.Le (.sl sz xs) (.sl sz ys) := fun w M ρ n v hv => by
  have row : ∀ (i : Nat) (y : List AV), ys[i]? = some y → ∃ x, xs[i]? = some x ∧ x.length = y.length ∧ ∀ (j : Nat) (a b : AV), x[j]? = some a → y[j]? = some b → AV.Le a b := fun i y hy => by
    have hi : i < xs.length := by rw [hl]; exact (List.getElem?_eq_some_iff.1 hy).1
    exact ⟨xs[i], List.getElem?_eq_getElem hi, h i _ y (List.getElem?_eq_getElem hi) hy⟩
  cases hv with
  | slE =>
    match ys, hl with
    | [], _ => exact .slE _ _ _ _
  | slN _ _ _ b o cap c hm hb hcap hsz hcell hrep =>
    rw [hl]
    have cell : ∀ (i j : Nat) (y : List AV) (b' : AV), ys[i]? = some y → y[j]? = some b' → ∃ x a, xs[i]? = some x ∧ x[j]? = some a ∧ AV.Le a b' := fun i j y b' hy hb' => by
      obtain ⟨x, hx, hxl, hxx⟩ := row i y hy
      have hj : j < x.length := by rw [hxl]; exact (List.getElem?_eq_some_iff.1 hb').1
      exact ⟨x, x[j], hx, List.getElem?_eq_getElem hj, hxx j _ b' (List.getElem?_eq_getElem hj) hb'⟩
    refine .slN _ _ _ b o cap c hm hb (by omega) (fun y hy => ?_) (fun i j y b' hy hb' => ?_) (fun i j y b' hy hb' => ?_)
    · obtain ⟨i, hi, rfl⟩ := List.mem_iff_getElem.1 hy
      obtain ⟨x, hx, hxl, _⟩ := row i _ (List.getElem?_eq_getElem hi)
      rw [← hxl]
      exact hsz x (List.mem_of_getElem? hx)
    · obtain ⟨x, a, hx, ha, _⟩ := cell i j y b' hy hb'
      exact hcell i j x a hx ha
    · obtain ⟨x, a, hx, ha, hle⟩ := cell i j y b' hy hb'
      exact hle _ _ _ _ _ (hrep i j x a hx ha)

def ex0 : Nd := .mk 20 [120] 1 2 []
def ex1 : Nd := .mk 28 [45] 0 2 [ex0]
def ex2 : Nd := .mk 24 [49] 5 6 []
/-- The tree of the chapter's example. -/
def exN : Nd := .mk 29 [43] 0 6 [ex1, ex2]
theorem cell5 {p : AV → AV → Prop} {a0 a1 a2 a3 a4 b0 b1 b2 b3 b4 : AV} (h0 : p a0 b0) (h1 : p a1 b1) (h2 : p a2 b2) (h3 : p a3 b3) (h4 : p a4 b4) : ∀ (i : Nat) (x y : AV), [a0, a1, a2, a3, a4][i]? = some x → [b0, b1, b2, b3, b4][i]? = some y → p x y := by
  intro i x y hx hy
  match i with
  | 0 => cases hx; cases hy; exact h0
  | 1 => cases hx; cases hy; exact h1
  | 2 => cases hx; cases hy; exact h2
  | 3 => cases hx; cases hy; exact h3
  | 4 => cases hx; cases hy; exact h4
  | i + 5 => cases hx
/-- The same node, its list of kids nil where there is none. -/
inductive NdX : List AV → Nd → Prop
  | nil (k : Int) (t : List UInt8) (a e : Int) : NdX [int k, str t, int a, int e, nilS] (.mk k t a e [])
  | cons (k : Int) (t : List UInt8) (a e : Int) (xs : List (List AV)) (ks : List Nd) : xs.length = ks.length → (∀ (i : Nat) x m, xs[i]? = some x → ks[i]? = some m → NdX x m) → NdX [int k, str t, int a, int e, .sl 5 xs] (.mk k t a e ks)
theorem NdX.le {x : List AV} {n : Nd} (h : NdX x n) : x.length = 5 ∧ ∀ (i : Nat) (a b : AV), x[i]? = some a → (ndR n)[i]? = some b → AV.Le a b := by
  induction h with
  | nil k t a e =>
    refine ⟨rfl, ?_⟩
    have e : ndR (.mk k t a e []) = [int k, str t, int a, int e, .sl 5 []] := by simp [ndR, ndRs]
    rw [e]
    exact cell5 (AV.Le.refl _) (AV.Le.refl _) (AV.Le.refl _) (AV.Le.refl _) (AV.Le.nil 5)
  | cons k t a e xs ks hl h ih =>
    refine ⟨rfl, ?_⟩
    have e : ndR (.mk k t a e ks) = [int k, str t, int a, int e, .sl 5 (ks.map ndR)] := by simp [ndR, ndRs_map]
    rw [e]
    refine cell5 (AV.Le.refl _) (AV.Le.refl _) (AV.Le.refl _) (AV.Le.refl _) (AVLe_sl (by simpa using hl) fun i x y hx hy => ?_)
    rw [List.getElem?_map] at hy
    cases hm : ks[i]? with
    | none => rw [hm] at hy; cases hy
    | some m =>
      rw [hm] at hy
      obtain rfl : ndR m = y := by simpa using hy
      obtain ⟨h1, h2⟩ := ih i x m hx hm
      exact ⟨by rw [h1, nd_len], h2⟩
theorem NdX.agg {x : List AV} {n : Nd} (h : NdX x n) : AV.Le (.agg x) (.agg (ndR n)) := AV.Le.agg (by rw [h.le.1, nd_len]) h.le.2
def exX : List AV := [int 29, str [43], int 0, int 6, .sl 5 [[int 28, str [45], int 0, int 2, .sl 5 [[int 20, str [120], int 1, int 2, nilS]]], [int 24, str [49], int 5, int 6, nilS]]]
theorem exX_le : AV.Le (.agg exX) (.agg (ndR exN)) := by
  refine NdX.agg (.cons _ _ _ _ _ _ rfl fun i x m hx hm => ?_)
  match i with
  | 0 =>
    cases hx; cases hm
    refine .cons _ _ _ _ _ _ rfl fun i x m hx hm => ?_
    match i with
    | 0 => cases hx; cases hm; exact .nil _ _ _ _
    | i + 1 => cases hx
  | 1 => cases hx; cases hm; exact .nil _ _ _ _
  | i + 2 => cases hx

theorem exampleC (H : AHeap) : Comp' 49 [] H (.agg (ndR exN)) := by
  refine ACall.resTo (R := fun x H' => x = .agg exX ∧ H' = H) ?_ (fun x H' ⟨h1, h2⟩ => ⟨_, h1 ▸ exX_le, rfl, h2⟩)
  refine ACall.drop (R := fun x => x = .agg exX) ?_
  refine enter Try.func49 L49_ok (Nat.le_of_ble_eq_true rfl) ?_
  repeat' (first | (refine And.intro (by omega) ?_) | simp -implicitDefEqProofs (disch := omega) only [L49, splice, dT_lt, dF_lt, dT_le, dF_le, dT_eq, dF_eq, push_cast, ↓reduceIte, Nat.reduceEqDiff, reduceCtorEq, Nat.reduceAdd, Nat.reduceSub, Nat.reduceMul, Nat.reduceLeDiff, Nat.reduceLT, Nat.reduceMod, Nat.reduceDiv, Int.reduceToNat, Int.reduceLT, Int.reduceLE, Int.reduceEq, Int.reduceAdd, Int.reduceSub, Int.reduceNeg, Int.reduceMul, Bool.and_self] | split)
  exact ⟨rfl, _, rfl⟩

theorem exSml : Sml exN := by decide +kernel
theorem exBare : Sml (bareF exN) := by decide +kernel
theorem awakeC (H : AHeap) : Comp' 12 [] H (bool true) := by
  refine ACall.drop (R := fun x => x = bool true) ?_
  refine enter Try.func12 L12_ok (Nat.le_of_ble_eq_true rfl) ?_
  have c1 := fun H => pathT exN 2 exSml H
  rw [show pathO exN 2 = some [0, 0] by decide +kernel] at c1
  have c2 := fun H => numT exN [1] exSml (by decide) H
  rw [show numL exN [1] = some 3 by decide +kernel] at c2
  have c3 := fun H => findT exN 1 exSml H
  rw [show findO exN 1 = some 2 by decide +kernel] at c3
  have c4 := fun H => ExprT exN exSml H
  rw [show (isEx exN.kind && shapedF exN) = true by decide +kernel] at c4
  have c5 := fun H => ValidT exN exSml H
  rw [show (decide (exN.kind = 2) && shapedF exN) = false by decide +kernel] at c5
  have c6 := fun H => countT exN exSml H
  rw [show cnt exN = 4 by decide +kernel] at c6
  have c7 := fun H => levelsT exN exSml H
  rw [show lev exN = 3 by decide +kernel] at c7
  have c8 := fun H => intsC [0, 0] [0, 0] (by decide) H
  have c9 := fun H => ListT 11 H
  rw [show listF 11 = true by decide +kernel] at c9
  have c10 := fun H => bareT exN exSml H
  have c11 := fun H => sameT exN (bareF exN) exSml exBare H
  rw [show sameF exN (bareF exN) = true by decide +kernel] at c11
  simp only [pathA, numA, List.map_cons, List.map_nil, iR] at c1 c2 c3 c8
  repeat' (first | (refine And.intro (by omega) ?_) | (refine callF_pure (exampleC _) ?_) | (refine callF_pure (c1 _) ?_) | (refine callF_pure (c2 _) ?_) | (refine callF_pure (c3 _) ?_) | (refine callF_pure (c4 _) ?_) | (refine callF_pure (c5 _) ?_) | (refine callF_pure (c6 _) ?_) | (refine callF_pure (c7 _) ?_) | (refine callF_pure (c8 _) ?_) | (refine callF_pure (c9 _) ?_) | (refine callF_pure (c10 _) ?_) | (refine callF_pure (c11 _) ?_) | (refine callQF_pure (exampleC _) (by first | rfl | simp -implicitDefEqProofs (disch := omega) only [L12, cells_agg, nd_c1s, nd_len, nd_take, nd_cellsV, nd_clL, nd_drop5, List.append_nil, splice, dT_lt, dF_lt, dT_le, dF_le, dT_eq, dF_eq, push_cast, ↓reduceIte, Nat.reduceEqDiff, reduceCtorEq, Nat.reduceAdd, Nat.reduceSub, Nat.reduceMul, Nat.reduceLeDiff, Nat.reduceLT, Nat.reduceMod, Nat.reduceDiv, Int.reduceToNat, Int.reduceLT, Int.reduceLE, Int.reduceEq, Int.reduceAdd, Int.reduceSub, Int.reduceNeg, Int.reduceMul, Bool.and_self]) ?_) | (refine callQF_pure (c1 _) (by first | rfl | simp -implicitDefEqProofs (disch := omega) only [L12, cells_agg, nd_c1s, nd_len, nd_take, nd_cellsV, nd_clL, nd_drop5, List.append_nil, splice, dT_lt, dF_lt, dT_le, dF_le, dT_eq, dF_eq, push_cast, ↓reduceIte, Nat.reduceEqDiff, reduceCtorEq, Nat.reduceAdd, Nat.reduceSub, Nat.reduceMul, Nat.reduceLeDiff, Nat.reduceLT, Nat.reduceMod, Nat.reduceDiv, Int.reduceToNat, Int.reduceLT, Int.reduceLE, Int.reduceEq, Int.reduceAdd, Int.reduceSub, Int.reduceNeg, Int.reduceMul, Bool.and_self]) ?_) | (refine callQF_pure (c2 _) (by first | rfl | simp -implicitDefEqProofs (disch := omega) only [L12, cells_agg, nd_c1s, nd_len, nd_take, nd_cellsV, nd_clL, nd_drop5, List.append_nil, splice, dT_lt, dF_lt, dT_le, dF_le, dT_eq, dF_eq, push_cast, ↓reduceIte, Nat.reduceEqDiff, reduceCtorEq, Nat.reduceAdd, Nat.reduceSub, Nat.reduceMul, Nat.reduceLeDiff, Nat.reduceLT, Nat.reduceMod, Nat.reduceDiv, Int.reduceToNat, Int.reduceLT, Int.reduceLE, Int.reduceEq, Int.reduceAdd, Int.reduceSub, Int.reduceNeg, Int.reduceMul, Bool.and_self]) ?_) | (refine callQF_pure (c3 _) (by first | rfl | simp -implicitDefEqProofs (disch := omega) only [L12, cells_agg, nd_c1s, nd_len, nd_take, nd_cellsV, nd_clL, nd_drop5, List.append_nil, splice, dT_lt, dF_lt, dT_le, dF_le, dT_eq, dF_eq, push_cast, ↓reduceIte, Nat.reduceEqDiff, reduceCtorEq, Nat.reduceAdd, Nat.reduceSub, Nat.reduceMul, Nat.reduceLeDiff, Nat.reduceLT, Nat.reduceMod, Nat.reduceDiv, Int.reduceToNat, Int.reduceLT, Int.reduceLE, Int.reduceEq, Int.reduceAdd, Int.reduceSub, Int.reduceNeg, Int.reduceMul, Bool.and_self]) ?_) | (refine callQF_pure (c4 _) (by first | rfl | simp -implicitDefEqProofs (disch := omega) only [L12, cells_agg, nd_c1s, nd_len, nd_take, nd_cellsV, nd_clL, nd_drop5, List.append_nil, splice, dT_lt, dF_lt, dT_le, dF_le, dT_eq, dF_eq, push_cast, ↓reduceIte, Nat.reduceEqDiff, reduceCtorEq, Nat.reduceAdd, Nat.reduceSub, Nat.reduceMul, Nat.reduceLeDiff, Nat.reduceLT, Nat.reduceMod, Nat.reduceDiv, Int.reduceToNat, Int.reduceLT, Int.reduceLE, Int.reduceEq, Int.reduceAdd, Int.reduceSub, Int.reduceNeg, Int.reduceMul, Bool.and_self]) ?_) | (refine callQF_pure (c5 _) (by first | rfl | simp -implicitDefEqProofs (disch := omega) only [L12, cells_agg, nd_c1s, nd_len, nd_take, nd_cellsV, nd_clL, nd_drop5, List.append_nil, splice, dT_lt, dF_lt, dT_le, dF_le, dT_eq, dF_eq, push_cast, ↓reduceIte, Nat.reduceEqDiff, reduceCtorEq, Nat.reduceAdd, Nat.reduceSub, Nat.reduceMul, Nat.reduceLeDiff, Nat.reduceLT, Nat.reduceMod, Nat.reduceDiv, Int.reduceToNat, Int.reduceLT, Int.reduceLE, Int.reduceEq, Int.reduceAdd, Int.reduceSub, Int.reduceNeg, Int.reduceMul, Bool.and_self]) ?_) | (refine callQF_pure (c6 _) (by first | rfl | simp -implicitDefEqProofs (disch := omega) only [L12, cells_agg, nd_c1s, nd_len, nd_take, nd_cellsV, nd_clL, nd_drop5, List.append_nil, splice, dT_lt, dF_lt, dT_le, dF_le, dT_eq, dF_eq, push_cast, ↓reduceIte, Nat.reduceEqDiff, reduceCtorEq, Nat.reduceAdd, Nat.reduceSub, Nat.reduceMul, Nat.reduceLeDiff, Nat.reduceLT, Nat.reduceMod, Nat.reduceDiv, Int.reduceToNat, Int.reduceLT, Int.reduceLE, Int.reduceEq, Int.reduceAdd, Int.reduceSub, Int.reduceNeg, Int.reduceMul, Bool.and_self]) ?_) | (refine callQF_pure (c7 _) (by first | rfl | simp -implicitDefEqProofs (disch := omega) only [L12, cells_agg, nd_c1s, nd_len, nd_take, nd_cellsV, nd_clL, nd_drop5, List.append_nil, splice, dT_lt, dF_lt, dT_le, dF_le, dT_eq, dF_eq, push_cast, ↓reduceIte, Nat.reduceEqDiff, reduceCtorEq, Nat.reduceAdd, Nat.reduceSub, Nat.reduceMul, Nat.reduceLeDiff, Nat.reduceLT, Nat.reduceMod, Nat.reduceDiv, Int.reduceToNat, Int.reduceLT, Int.reduceLE, Int.reduceEq, Int.reduceAdd, Int.reduceSub, Int.reduceNeg, Int.reduceMul, Bool.and_self]) ?_) | (refine callQF_pure (c8 _) (by first | rfl | simp -implicitDefEqProofs (disch := omega) only [L12, cells_agg, nd_c1s, nd_len, nd_take, nd_cellsV, nd_clL, nd_drop5, List.append_nil, splice, dT_lt, dF_lt, dT_le, dF_le, dT_eq, dF_eq, push_cast, ↓reduceIte, Nat.reduceEqDiff, reduceCtorEq, Nat.reduceAdd, Nat.reduceSub, Nat.reduceMul, Nat.reduceLeDiff, Nat.reduceLT, Nat.reduceMod, Nat.reduceDiv, Int.reduceToNat, Int.reduceLT, Int.reduceLE, Int.reduceEq, Int.reduceAdd, Int.reduceSub, Int.reduceNeg, Int.reduceMul, Bool.and_self]) ?_) | (refine callQF_pure (c9 _) (by first | rfl | simp -implicitDefEqProofs (disch := omega) only [L12, cells_agg, nd_c1s, nd_len, nd_take, nd_cellsV, nd_clL, nd_drop5, List.append_nil, splice, dT_lt, dF_lt, dT_le, dF_le, dT_eq, dF_eq, push_cast, ↓reduceIte, Nat.reduceEqDiff, reduceCtorEq, Nat.reduceAdd, Nat.reduceSub, Nat.reduceMul, Nat.reduceLeDiff, Nat.reduceLT, Nat.reduceMod, Nat.reduceDiv, Int.reduceToNat, Int.reduceLT, Int.reduceLE, Int.reduceEq, Int.reduceAdd, Int.reduceSub, Int.reduceNeg, Int.reduceMul, Bool.and_self]) ?_) | (refine callQF_pure (c10 _) (by first | rfl | simp -implicitDefEqProofs (disch := omega) only [L12, cells_agg, nd_c1s, nd_len, nd_take, nd_cellsV, nd_clL, nd_drop5, List.append_nil, splice, dT_lt, dF_lt, dT_le, dF_le, dT_eq, dF_eq, push_cast, ↓reduceIte, Nat.reduceEqDiff, reduceCtorEq, Nat.reduceAdd, Nat.reduceSub, Nat.reduceMul, Nat.reduceLeDiff, Nat.reduceLT, Nat.reduceMod, Nat.reduceDiv, Int.reduceToNat, Int.reduceLT, Int.reduceLE, Int.reduceEq, Int.reduceAdd, Int.reduceSub, Int.reduceNeg, Int.reduceMul, Bool.and_self]) ?_) | (refine callQF_pure (c11 _) (by first | rfl | simp -implicitDefEqProofs (disch := omega) only [L12, cells_agg, nd_c1s, nd_len, nd_take, nd_cellsV, nd_clL, nd_drop5, List.append_nil, splice, dT_lt, dF_lt, dT_le, dF_le, dT_eq, dF_eq, push_cast, ↓reduceIte, Nat.reduceEqDiff, reduceCtorEq, Nat.reduceAdd, Nat.reduceSub, Nat.reduceMul, Nat.reduceLeDiff, Nat.reduceLT, Nat.reduceMod, Nat.reduceDiv, Int.reduceToNat, Int.reduceLT, Int.reduceLE, Int.reduceEq, Int.reduceAdd, Int.reduceSub, Int.reduceNeg, Int.reduceMul, Bool.and_self]) ?_) | simp -implicitDefEqProofs (disch := omega) only [L12, cells_agg, nd_c1s, nd_len, nd_take, nd_cellsV, nd_clL, nd_drop5, List.append_nil, splice, dT_lt, dF_lt, dT_le, dF_le, dT_eq, dF_eq, push_cast, ↓reduceIte, Nat.reduceEqDiff, reduceCtorEq, Nat.reduceAdd, Nat.reduceSub, Nat.reduceMul, Nat.reduceLeDiff, Nat.reduceLT, Nat.reduceMod, Nat.reduceDiv, Int.reduceToNat, Int.reduceLT, Int.reduceLE, Int.reduceEq, Int.reduceAdd, Int.reduceSub, Int.reduceNeg, Int.reduceMul, Bool.and_self] | split)
  exact ⟨_, rfl⟩
#print axioms awakeC

theorem small_cnt {n : Nd} {m : Int} (h : smallF n m = true) : (cnt n : Int) ≤ m := by
  unfold smallF at h
  simp only [Bool.and_eq_true, decide_eq_true_eq] at h
  exact h.2
theorem treeShapes (n : Nd) (k : Int) (hs : Sml n) (H : AHeap) : Comp' 3 [.agg (ndR n), int k] H (bool true) := by
  refine ACall.drop (R := fun x => x = bool true) ?_
  refine enter Try.func3 L3_ok (Nat.le_of_ble_eq_true rfl) ?_
  by_cases hf : smallF n 150 = true
  · have hc := small_cnt hf
    have hsh := shaped_ref (n := n) (by omega)
    have c1 := fun H => ValidT n hs H
    have c2 := fun H => ExprT n hs H
    have c3 := fun H => StatT n hs H
    rw [hsh] at c1 c2 c3
    repeat' (first | (refine And.intro (by omega) ?_) | (refine callF_pure (smallR n 150 hs _) ?_) | (refine callF_pure (c1 _) ?_) | (refine callF_pure (c2 _) ?_) | (refine callF_pure (c3 _) ?_) | (refine callF_pure (ValidTR n hs _) ?_) | (refine callF_pure (ExprTR n hs _) ?_) | (refine callF_pure (StatTR n hs _) ?_) | (refine callF_pure (ListT k _) ?_) | (refine callF_pure (ListR k _) ?_) | (refine callF_pure (awakeC _) ?_) | (refine callQF_pure (smallR n 150 hs _) (by first | rfl | simp -implicitDefEqProofs (disch := omega) only [L3, cells_agg, nd_c1s, nd_len, nd_take, nd_cellsV, nd_clL, hf, eq_self, dT_lt, dF_lt, dT_le, dF_le, dT_eq, dF_eq, push_cast, ↓reduceIte, Nat.reduceEqDiff, reduceCtorEq, Nat.reduceAdd, Nat.reduceSub, Nat.reduceMul, Nat.reduceLeDiff, Nat.reduceLT, Nat.reduceMod, Nat.reduceDiv, Int.reduceToNat, Int.reduceLT, Int.reduceLE, Int.reduceEq, Int.reduceAdd, Int.reduceSub, Int.reduceNeg, Int.reduceMul, Bool.and_self]) ?_) | (refine callQF_pure (c1 _) (by first | rfl | simp -implicitDefEqProofs (disch := omega) only [L3, cells_agg, nd_c1s, nd_len, nd_take, nd_cellsV, nd_clL, hf, eq_self, dT_lt, dF_lt, dT_le, dF_le, dT_eq, dF_eq, push_cast, ↓reduceIte, Nat.reduceEqDiff, reduceCtorEq, Nat.reduceAdd, Nat.reduceSub, Nat.reduceMul, Nat.reduceLeDiff, Nat.reduceLT, Nat.reduceMod, Nat.reduceDiv, Int.reduceToNat, Int.reduceLT, Int.reduceLE, Int.reduceEq, Int.reduceAdd, Int.reduceSub, Int.reduceNeg, Int.reduceMul, Bool.and_self]) ?_) | (refine callQF_pure (c2 _) (by first | rfl | simp -implicitDefEqProofs (disch := omega) only [L3, cells_agg, nd_c1s, nd_len, nd_take, nd_cellsV, nd_clL, hf, eq_self, dT_lt, dF_lt, dT_le, dF_le, dT_eq, dF_eq, push_cast, ↓reduceIte, Nat.reduceEqDiff, reduceCtorEq, Nat.reduceAdd, Nat.reduceSub, Nat.reduceMul, Nat.reduceLeDiff, Nat.reduceLT, Nat.reduceMod, Nat.reduceDiv, Int.reduceToNat, Int.reduceLT, Int.reduceLE, Int.reduceEq, Int.reduceAdd, Int.reduceSub, Int.reduceNeg, Int.reduceMul, Bool.and_self]) ?_) | (refine callQF_pure (c3 _) (by first | rfl | simp -implicitDefEqProofs (disch := omega) only [L3, cells_agg, nd_c1s, nd_len, nd_take, nd_cellsV, nd_clL, hf, eq_self, dT_lt, dF_lt, dT_le, dF_le, dT_eq, dF_eq, push_cast, ↓reduceIte, Nat.reduceEqDiff, reduceCtorEq, Nat.reduceAdd, Nat.reduceSub, Nat.reduceMul, Nat.reduceLeDiff, Nat.reduceLT, Nat.reduceMod, Nat.reduceDiv, Int.reduceToNat, Int.reduceLT, Int.reduceLE, Int.reduceEq, Int.reduceAdd, Int.reduceSub, Int.reduceNeg, Int.reduceMul, Bool.and_self]) ?_) | (refine callQF_pure (ValidTR n hs _) (by first | rfl | simp -implicitDefEqProofs (disch := omega) only [L3, cells_agg, nd_c1s, nd_len, nd_take, nd_cellsV, nd_clL, hf, eq_self, dT_lt, dF_lt, dT_le, dF_le, dT_eq, dF_eq, push_cast, ↓reduceIte, Nat.reduceEqDiff, reduceCtorEq, Nat.reduceAdd, Nat.reduceSub, Nat.reduceMul, Nat.reduceLeDiff, Nat.reduceLT, Nat.reduceMod, Nat.reduceDiv, Int.reduceToNat, Int.reduceLT, Int.reduceLE, Int.reduceEq, Int.reduceAdd, Int.reduceSub, Int.reduceNeg, Int.reduceMul, Bool.and_self]) ?_) | (refine callQF_pure (ExprTR n hs _) (by first | rfl | simp -implicitDefEqProofs (disch := omega) only [L3, cells_agg, nd_c1s, nd_len, nd_take, nd_cellsV, nd_clL, hf, eq_self, dT_lt, dF_lt, dT_le, dF_le, dT_eq, dF_eq, push_cast, ↓reduceIte, Nat.reduceEqDiff, reduceCtorEq, Nat.reduceAdd, Nat.reduceSub, Nat.reduceMul, Nat.reduceLeDiff, Nat.reduceLT, Nat.reduceMod, Nat.reduceDiv, Int.reduceToNat, Int.reduceLT, Int.reduceLE, Int.reduceEq, Int.reduceAdd, Int.reduceSub, Int.reduceNeg, Int.reduceMul, Bool.and_self]) ?_) | (refine callQF_pure (StatTR n hs _) (by first | rfl | simp -implicitDefEqProofs (disch := omega) only [L3, cells_agg, nd_c1s, nd_len, nd_take, nd_cellsV, nd_clL, hf, eq_self, dT_lt, dF_lt, dT_le, dF_le, dT_eq, dF_eq, push_cast, ↓reduceIte, Nat.reduceEqDiff, reduceCtorEq, Nat.reduceAdd, Nat.reduceSub, Nat.reduceMul, Nat.reduceLeDiff, Nat.reduceLT, Nat.reduceMod, Nat.reduceDiv, Int.reduceToNat, Int.reduceLT, Int.reduceLE, Int.reduceEq, Int.reduceAdd, Int.reduceSub, Int.reduceNeg, Int.reduceMul, Bool.and_self]) ?_) | (refine callQF_pure (ListT k _) (by first | rfl | simp -implicitDefEqProofs (disch := omega) only [L3, cells_agg, nd_c1s, nd_len, nd_take, nd_cellsV, nd_clL, hf, eq_self, dT_lt, dF_lt, dT_le, dF_le, dT_eq, dF_eq, push_cast, ↓reduceIte, Nat.reduceEqDiff, reduceCtorEq, Nat.reduceAdd, Nat.reduceSub, Nat.reduceMul, Nat.reduceLeDiff, Nat.reduceLT, Nat.reduceMod, Nat.reduceDiv, Int.reduceToNat, Int.reduceLT, Int.reduceLE, Int.reduceEq, Int.reduceAdd, Int.reduceSub, Int.reduceNeg, Int.reduceMul, Bool.and_self]) ?_) | (refine callQF_pure (ListR k _) (by first | rfl | simp -implicitDefEqProofs (disch := omega) only [L3, cells_agg, nd_c1s, nd_len, nd_take, nd_cellsV, nd_clL, hf, eq_self, dT_lt, dF_lt, dT_le, dF_le, dT_eq, dF_eq, push_cast, ↓reduceIte, Nat.reduceEqDiff, reduceCtorEq, Nat.reduceAdd, Nat.reduceSub, Nat.reduceMul, Nat.reduceLeDiff, Nat.reduceLT, Nat.reduceMod, Nat.reduceDiv, Int.reduceToNat, Int.reduceLT, Int.reduceLE, Int.reduceEq, Int.reduceAdd, Int.reduceSub, Int.reduceNeg, Int.reduceMul, Bool.and_self]) ?_) | (refine callQF_pure (awakeC _) (by first | rfl | simp -implicitDefEqProofs (disch := omega) only [L3, cells_agg, nd_c1s, nd_len, nd_take, nd_cellsV, nd_clL, hf, eq_self, dT_lt, dF_lt, dT_le, dF_le, dT_eq, dF_eq, push_cast, ↓reduceIte, Nat.reduceEqDiff, reduceCtorEq, Nat.reduceAdd, Nat.reduceSub, Nat.reduceMul, Nat.reduceLeDiff, Nat.reduceLT, Nat.reduceMod, Nat.reduceDiv, Int.reduceToNat, Int.reduceLT, Int.reduceLE, Int.reduceEq, Int.reduceAdd, Int.reduceSub, Int.reduceNeg, Int.reduceMul, Bool.and_self]) ?_) | simp -implicitDefEqProofs (disch := omega) only [L3, cells_agg, nd_c1s, nd_len, nd_take, nd_cellsV, nd_clL, hf, eq_self, dT_lt, dF_lt, dT_le, dF_le, dT_eq, dF_eq, push_cast, ↓reduceIte, Nat.reduceEqDiff, reduceCtorEq, Nat.reduceAdd, Nat.reduceSub, Nat.reduceMul, Nat.reduceLeDiff, Nat.reduceLT, Nat.reduceMod, Nat.reduceDiv, Int.reduceToNat, Int.reduceLT, Int.reduceLE, Int.reduceEq, Int.reduceAdd, Int.reduceSub, Int.reduceNeg, Int.reduceMul, Bool.and_self] | split)
    exact ⟨_, rfl⟩
  · have hf' := Bool.eq_false_iff.2 hf
    repeat' (first | (refine And.intro (by omega) ?_) | (refine callF_pure (smallR n 150 hs _) ?_) | (refine callF_pure (awakeC _) ?_) | (refine callQF_pure (smallR n 150 hs _) (by first | rfl | simp -implicitDefEqProofs (disch := omega) only [L3, cells_agg, nd_c1s, nd_len, nd_take, nd_cellsV, nd_clL, hf', dT_lt, dF_lt, dT_le, dF_le, dT_eq, dF_eq, push_cast, ↓reduceIte, Nat.reduceEqDiff, reduceCtorEq, Nat.reduceAdd, Nat.reduceSub, Nat.reduceMul, Nat.reduceLeDiff, Nat.reduceLT, Nat.reduceMod, Nat.reduceDiv, Int.reduceToNat, Int.reduceLT, Int.reduceLE, Int.reduceEq, Int.reduceAdd, Int.reduceSub, Int.reduceNeg, Int.reduceMul, Bool.and_self]) ?_) | (refine callQF_pure (awakeC _) (by first | rfl | simp -implicitDefEqProofs (disch := omega) only [L3, cells_agg, nd_c1s, nd_len, nd_take, nd_cellsV, nd_clL, hf', dT_lt, dF_lt, dT_le, dF_le, dT_eq, dF_eq, push_cast, ↓reduceIte, Nat.reduceEqDiff, reduceCtorEq, Nat.reduceAdd, Nat.reduceSub, Nat.reduceMul, Nat.reduceLeDiff, Nat.reduceLT, Nat.reduceMod, Nat.reduceDiv, Int.reduceToNat, Int.reduceLT, Int.reduceLE, Int.reduceEq, Int.reduceAdd, Int.reduceSub, Int.reduceNeg, Int.reduceMul, Bool.and_self]) ?_) | simp -implicitDefEqProofs (disch := omega) only [L3, cells_agg, nd_c1s, nd_len, nd_take, nd_cellsV, nd_clL, hf', dT_lt, dF_lt, dT_le, dF_le, dT_eq, dF_eq, push_cast, ↓reduceIte, Nat.reduceEqDiff, reduceCtorEq, Nat.reduceAdd, Nat.reduceSub, Nat.reduceMul, Nat.reduceLeDiff, Nat.reduceLT, Nat.reduceMod, Nat.reduceDiv, Int.reduceToNat, Int.reduceLT, Int.reduceLE, Int.reduceEq, Int.reduceAdd, Int.reduceSub, Int.reduceNeg, Int.reduceMul, Bool.and_self] | split)
    exact ⟨_, rfl⟩
#print axioms treeShapes
end Go.Proofs.Ytnbdogodcjhfiaa

/- Trees: plain laws: bare trees, paths and numbers, nodes found. -/
namespace Go.Proofs.Ytnbdogodcjhfiaa
open Go Go.Ax
set_option maxRecDepth 100000
set_option linter.unusedSimpArgs false
set_option linter.unusedVariables false

theorem bareF_kind (n : Nd) : (bareF n).kind = n.kind := by cases n; rfl
theorem bareF_text (n : Nd) : (bareF n).text = n.text := by cases n; rfl
theorem bareF_a (n : Nd) : (bareF n).a = 0 := by cases n; rfl
theorem bareF_e (n : Nd) : (bareF n).e = 0 := by cases n; rfl
theorem bareF_kids (n : Nd) : (bareF n).kids = n.kids.map bareF := by cases n; simp [bareF, bareFs_map, Nd.kids]
theorem bareF_default : bareF default = default := rfl
mutual
theorem bare_cnt : ∀ n : Nd, cnt (bareF n) = cnt n
  | .mk k t a e ks => by simp only [bareF, cnt, bares_cnt ks]
theorem bares_cnt : ∀ l : List Nd, cnts (bareFs l) = cnts l
  | [] => rfl
  | x :: l => by simp only [bareFs, cnts, bare_cnt x, bares_cnt l]
end
mutual
theorem bare_nds : ∀ n : Nd, nds (bareF n) = (nds n).map bareF
  | .mk k t a e ks => by simp only [bareF, nds, bares_nds ks, List.map_cons]
theorem bares_nds : ∀ l : List Nd, ndss (bareFs l) = (ndss l).map bareF
  | [] => rfl
  | x :: l => by simp only [bareFs, ndss, bare_nds x, bares_nds l, List.map_append]
end
theorem bulkRR_map {l : List Nd} {f : Nd → Nd} (h : ∀ m ∈ l, bulkR (ndR (f m)) = bulkR (ndR m)) : bulkRR ((l.map f).map ndR) = bulkRR (l.map ndR) := by
  induction l with
  | nil => rfl
  | cons x l ih =>
    simp only [List.map_cons, bulkRR]
    rw [h x (by simp), ih fun m hm => h m (by simp [hm])]
theorem bare_bulk (n : Nd) : bulkR (ndR (bareF n)) = bulkR (ndR n) := by
  induction n using Nd.ind with
  | h n ih => rw [bulk_nd, bulk_nd, bareF_text, bareF_kids, bulkRR_map ih]
theorem bare_sml {n : Nd} (h : Sml n) : Sml (bareF n) := by unfold Sml; rw [bare_bulk]; exact h
mutual
theorem bare_same : ∀ n : Nd, sameF n (bareF n) = true
  | .mk k t a e ks => by simp [sameF, bareF_kind, bareF_text, bareF, Nd.kind, Nd.text, Nd.kids, bares_same ks]
theorem bares_same : ∀ l : List Nd, sameFs l (bareFs l) = true
  | [] => rfl
  | x :: l => by simp [bareFs, sameFs, bare_same x, bares_same l]
end
mutual
theorem bare_same' : ∀ n : Nd, sameF (bareF n) n = true
  | .mk k t a e ks => by simp [sameF, bareF, Nd.kind, Nd.text, Nd.kids, bares_same' ks]
theorem bares_same' : ∀ l : List Nd, sameFs (bareFs l) l = true
  | [] => rfl
  | x :: l => by simp [bareFs, sameFs, bare_same' x, bares_same' l]
end
theorem bare_fits (sh : Sh) (n : Nd) : fitsF sh (bareF n) = fitsF sh n := by
  unfold fitsF
  rw [bareF_text, bareF_kids]
  cases sh.list with
  | none =>
    simp only [List.length_map]
    rw [List.zip_map_left, List.all_map]
    simp [Function.comp_def, bareF_kind]
  | some p =>
    simp only [List.length_map, List.all_map, Function.comp_def, bareF_kind]
theorem bare_loc (n : Nd) : locP (bareF n) = locP n := by
  unfold locP
  rw [bareF_kind]
  split
  · rfl
  · rw [bare_fits, bareF_kids]
    have e : ((n.kids.map bareF).getD 0 default).text = (n.kids.getD 0 default).text := by
      cases n.kids with
      | nil => rfl
      | cons x l => exact bareF_text x
    rw [e]
theorem bare_shaped (n : Nd) : shapedF (bareF n) = shapedF n := by
  unfold shapedF
  rw [bare_nds, List.all_map]
  simp [Function.comp_def, bare_loc]

/-! ### Paths and numbers -/
theorem cnts_split : ∀ {l : List Nd} {c : Nat}, c < cnts l → ∃ i j, i < l.length ∧ j < cnt (l.getD i default) ∧ c = cnts (l.take i) + j
  | [], c, h => by simp [cnts] at h
  | x :: l, c, h => by
    by_cases hx : c < cnt x
    · exact ⟨0, c, by simp, by simpa using hx, by simp [cnts]⟩
    · obtain ⟨i, j, h1, h2, h3⟩ := cnts_split (l := l) (c := c - cnt x) (by simp only [cnts] at h; omega)
      exact ⟨i + 1, j, by simpa using h1, by simpa using h2, by simp only [List.take_succ_cons, cnts]; omega⟩
theorem pathFs_at : ∀ {l : List Nd} {i j : Nat} (i0 : Nat), i < l.length → j < cnt (l.getD i default) → pathFs l i0 (cnts (l.take i) + j) = ((i0 + i : Nat) : Int) :: pathF (l.getD i default) j
  | [], i, j, i0, h, _ => by simp at h
  | x :: l, 0, j, i0, h, hj => by
    simp only [List.take_zero, cnts, Nat.zero_add, pathFs, List.getD_cons_zero] at hj ⊢
    rw [if_pos hj]
    rfl
  | x :: l, i + 1, j, i0, h, hj => by
    simp only [List.take_succ_cons, cnts, pathFs, List.getD_cons_succ] at hj ⊢
    rw [if_neg (by omega), show cnt x + cnts (l.take i) + j - cnt x = cnts (l.take i) + j by omega, pathFs_at (i0 + 1) (by simpa using h) hj, show i0 + 1 + i = i0 + (i + 1) by omega]
theorem pathF_at {n : Nd} {i j : Nat} (h : i < n.kids.length) (hj : j < cnt (n.kids.getD i default)) : pathF n (1 + cnts (n.kids.take i) + j) = (i : Int) :: pathF (n.kids.getD i default) j := by
  rw [show 1 + cnts (n.kids.take i) + j = cnts (n.kids.take i) + j + 1 by omega, pathF_succ, pathFs_at 0 h hj, Nat.zero_add]
theorem number_split {n : Nd} {k : Nat} (h : k < cnt n) (h0 : k ≠ 0) : ∃ i j, i < n.kids.length ∧ j < cnt (n.kids.getD i default) ∧ k = 1 + cnts (n.kids.take i) + j := by
  rw [cnt_eq] at h
  obtain ⟨i, j, h1, h2, h3⟩ := cnts_split (l := n.kids) (c := k - 1) (by omega)
  exact ⟨i, j, h1, h2, by omega⟩
theorem num_path (n : Nd) : ∀ k, k < cnt n → numL n (pathF n k) = some k := by
  induction n using Nd.ind with
  | h n ih =>
  intro k hk
  by_cases h0 : k = 0
  · subst h0; rw [pathF_0]; rfl
  · obtain ⟨i, j, h1, h2, rfl⟩ := number_split hk h0
    rw [pathF_at h1 h2]
    simp only [numL]
    rw [if_pos (by omega), Int.toNat_natCast, ih _ (getD_mem' h1) j h2]
    rfl
theorem path_len (n : Nd) : ∀ k, k < cnt n → (pathF n k).length + 1 ≤ lev n := by
  induction n using Nd.ind with
  | h n ih =>
  intro k hk
  rw [lev_eq]
  by_cases h0 : k = 0
  · subst h0; rw [pathF_0]; simp
  · obtain ⟨i, j, h1, h2, rfl⟩ := number_split hk h0
    rw [pathF_at h1 h2]
    have := ih _ (getD_mem' h1) j h2
    have h3 := levs_append (n.kids.take (i + 1)) (n.kids.drop (i + 1))
    rw [List.take_append_drop, levs_snoc h1] at h3
    simp only [List.length_cons]
    omega
theorem levs_at : ∀ {l : List Nd}, l ≠ [] → ∃ i, i < l.length ∧ lev (l.getD i default) = levs l
  | [], h => absurd rfl h
  | x :: l, _ => by
    by_cases hl : l = []
    · subst hl; exact ⟨0, by simp, by simp [levs]⟩
    · obtain ⟨i, h1, h2⟩ := levs_at hl
      by_cases hx : lev x ≤ levs l
      · exact ⟨i + 1, by simpa using h1, by simp only [List.getD_cons_succ, levs]; omega⟩
      · exact ⟨0, by simp, by simp only [List.getD_cons_zero, levs]; omega⟩
theorem path_deep (n : Nd) : ∃ k, k < cnt n ∧ (pathF n k).length + 1 = lev n := by
  induction n using Nd.ind with
  | h n ih =>
  by_cases hl : n.kids = []
  · refine ⟨0, cnt_pos n, ?_⟩
    rw [pathF_0, lev_eq, hl]
    simp [levs]
  · obtain ⟨i, h1, h2⟩ := levs_at hl
    obtain ⟨j, h3, h4⟩ := ih _ (getD_mem' h1)
    have hk := kid_cnt h1
    refine ⟨1 + cnts (n.kids.take i) + j, by omega, ?_⟩
    rw [pathF_at h1 h3, lev_eq, ← h2, ← h4]
    simp
/-- The greatest number of levels above the first k nodes. -/
def deepF (n : Nd) : Nat → Nat
  | 0 => 0
  | k + 1 => max (deepF n k) ((pathF n k).length + 1)
theorem deep_le (n : Nd) : ∀ k, k ≤ cnt n → deepF n k ≤ lev n
  | 0, _ => Nat.zero_le _
  | k + 1, h => by
    have := deep_le n k (by omega)
    have := path_len n k (by omega)
    simp only [deepF]
    omega
theorem deep_ge (n : Nd) : ∀ {k j}, j < k → (pathF n j).length + 1 ≤ deepF n k
  | 0, j, h => by omega
  | k + 1, j, h => by
    simp only [deepF]
    by_cases e : j = k
    · subst e; omega
    · have := deep_ge n (k := k) (j := j) (by omega); omega
theorem deep_eq (n : Nd) : deepF n (cnt n) = lev n := by
  obtain ⟨k, h1, h2⟩ := path_deep n
  have := deep_ge n h1
  have := deep_le n (cnt n) (Nat.le_refl _)
  omega
theorem get_path (n : Nd) (k : Nat) (h : k < cnt n) : ∃ x, getL n (pathF n k) = some x := by
  have h1 := numL_some (pathF n k) n
  rw [num_path n k h] at h1
  cases hx : getL n (pathF n k) with
  | none => rw [hx] at h1; cases h1
  | some x => exact ⟨x, rfl⟩
theorem getL_sml : ∀ {p : List Int} {n x : Nd}, Sml n → getL n p = some x → Sml x
  | [], n, x, hs, h => by cases h; exact hs
  | i :: p, n, x, hs, h => by
    simp only [getL] at h
    split at h
    · rename_i hi
      exact getL_sml (sml_kid hs (getD_mem' (by omega))) h
    · cases h

/-! ### What is found -/
theorem find_get (n : Nd) (t : Int) : inF n t = true → ∃ x, getL n (pathF n (findI n t)) = some x ∧ inF x t = true ∧ findFs x.kids t = none := by
  induction n using Nd.ind with
  | h n ih =>
  intro hin
  cases hx : n.kids.findIdx? (fun m => inF m t) with
  | none =>
    have hf := findFs_none hx
    refine ⟨n, ?_, hin, hf⟩
    rw [findI_eq, hf]
    simp only
    rw [pathF_0]
    rfl
  | some i =>
    have hf := findFs_at hx
    obtain ⟨h1, h2⟩ := find_lt hx
    obtain ⟨x, g1, g2, g3⟩ := ih _ (getD_mem' h1) h2
    refine ⟨x, ?_, g2, g3⟩
    rw [findI_eq, hf]
    simp only
    rw [← Nat.add_assoc, pathF_at h1 (findI_lt t _)]
    simp only [getL]
    rw [if_pos (by omega), Int.toNat_natCast]
    exact g1
theorem findFs_all : ∀ {l : List Nd} {t : Int}, findFs l t = none → ∀ m ∈ l, inF m t = false
  | [], t, _, m, hm => by simp at hm
  | x :: l, t, h, m, hm => by
    simp only [findFs] at h
    split at h
    · cases h
    · rename_i hx
      rcases List.mem_cons.1 hm with rfl | hm
      · simpa using hx
      · refine findFs_all ?_ m hm
        cases hh : findFs l t with
        | none => rfl
        | some j => rw [hh] at h; cases h
theorem getA_eq (o : Option Nd) : getA o = .tup [.agg (ndR (o.getD zNd)), bool o.isSome] := by cases o <;> rfl
theorem pathA_eq (o : Option (List Int)) : pathA o = .tup [.sl 1 ((o.getD []).map iR), bool o.isSome] := by cases o <;> rfl
theorem numA_eq (o : Option Nat) : numA o = .tup [int (o.getD 0 : Nat), bool o.isSome] := by cases o <;> rfl
theorem getL_zsml {n : Nd} {p : List Int} (hs : Sml n) : Sml ((getL n p).getD zNd) := by
  cases h : getL n p with
  | none => show Sml zNd; decide +kernel
  | some x => exact getL_sml hs h
theorem bulkRR_ints : ∀ p : List Int, bulkRR (p.map iR) = p.length
  | [] => rfl
  | i :: p => by simp only [List.map_cons, bulkRR, iR, bulkR, bulk_int, bulkRR_ints p, List.length_cons]; omega
end Go.Proofs.Ytnbdogodcjhfiaa
