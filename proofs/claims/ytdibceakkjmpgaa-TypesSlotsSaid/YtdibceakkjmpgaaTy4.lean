/- Types, part 4: the reference's scalars, sizes, equal lists. -/
import Derived.Test.YtdibceakkjmpgaaTy3
namespace Go.Proofs.Ytdibceakkjmpgaa
open Go Go.Ax
set_option maxRecDepth 100000
set_option linter.unusedSimpArgs false
set_option linter.unusedVariables false

theorem ite_scR (f : Fd) : (if f.ty.k = 2 then [int 2, int 0, str []] else [int 1, int 0, str []]) = scR f := by
  unfold scR scF
  split <;> rfl
theorem scalarsR (rs : List Rc) (l : List Ty) (H : AHeap) (hf : Few rs) (hl : l.length ≤ 20) : Comp' 27 [.sl 2 (rs.map rcR), .sl 3 (l.map tyR)] H (scalV rs l) := by
  refine ACall.drop (R := fun x => x = scalV rs l) ?_
  refine enter Try.func27 L27_ok (Nat.le_of_ble_eq_true rfl) ?_
  have hrl := hf.len
  repeat' (first | (refine And.intro (by omega) ?_) | simp -implicitDefEqProofs (disch := omega) only [L27, dT_lt, dF_lt, dT_le, dF_le, dT_eq, dF_eq, push_cast, ↓reduceIte, Nat.reduceEqDiff, reduceCtorEq, Nat.reduceAdd, Nat.reduceSub, Nat.reduceMul, Nat.reduceLeDiff, Nat.reduceLT, Nat.reduceMod, Nat.reduceDiv, Int.reduceToNat, Int.reduceLT, Int.reduceLE, Int.reduceEq, Int.reduceAdd, Int.reduceSub, Int.reduceNeg, Int.reduceMul, Bool.and_self] | split)
  refine rk_loopS (fun (p : Nat × Nat) e' H' => e' 0 = .sl 2 (rs.map rcR) ∧ e' 1 = .sl 3 (l.map tyR) ∧ e' 5 = .os H.length p.2 0 ((l.take p.1).flatMap (scal1 rs)).length ∧ e' 6 = int p.1 ∧ H' = H ++ [.arr p.2 3 (((l.take p.1).flatMap (scal1 rs)).map tyR)] ∧ p.1 ≤ l.length ∧ ∀ i, i < p.1 → validF (l.getD i default) rs = true) (fun p => l.length - p.1) (0, 0) ?_ ?_
  · exact ⟨rfl, rfl, rfl, rfl, rfl, Nat.zero_le _, by simp⟩
  rintro ⟨j, ver⟩ e' H' ⟨h0, h1, h5, h6, rfl, hj, hv⟩
  simp only at h0 h1 h5 h6 hj hv
  have hlen := flat_len hf (all_upto (p := fun t => validF t rs = true) hv hj)
  have hl0 : (l.take j).length = j := by simp; omega
  by_cases hlt : j < l.length
  · have hft := flat_take (rs := rs) hlt
    by_cases hvj : validF (l.getD j default) rs = true
    · have hlen1 := scal1_len hf hvj
      have hall := upto_succ (p := fun i => validF (l.getD i default) rs = true) hv hvj
      have hk := valid_kinds hvj
      generalize hte : l.getD j default = t at hft hvj hk hlen1
      obtain ⟨k, len, rc⟩ := t
      simp only at hk
      generalize hpre : (l.take j).flatMap (scal1 rs) = pre at h5 hlen hft ⊢
      rcases hk with rfl | rfl | ⟨rfl, hk1, hk2⟩ | ⟨rfl, i, hi⟩
      · have hz : len = 0 ∧ rc = [] := by simpa [validF] using hvj
        obtain ⟨rfl, rfl⟩ := hz
        have hs : (scal1 rs ⟨1, 0, []⟩).map tyR = [[int 1, int 0, str []]] := rfl
        rw [hs] at hft
        have hfl : pre.length + 1 = ((l.take (j + 1)).flatMap (scal1 rs)).length := by have := congrArg List.length hft; simpa using this
        repeat' (first | (refine And.intro (by omega) ?_) | (refine callF_pure (validR ⟨1, 0, []⟩ rs _ (by omega)) ?_) | (refine callQF_pure (validR ⟨1, 0, []⟩ rs _ (by omega)) rfl ?_) | simp -implicitDefEqProofs (disch := omega) only [h0, h1, h5, h6, rows_getD, hte, tyR, hvj, hft, dT_lt, dF_lt, dT_le, dF_le, dT_eq, dF_eq, push_cast, ↓reduceIte, Nat.reduceEqDiff, reduceCtorEq, Nat.reduceAdd, Nat.reduceSub, Nat.reduceMul, Nat.reduceLeDiff, Nat.reduceLT, Nat.reduceMod, Nat.reduceDiv, Int.reduceToNat, Int.reduceLT, Int.reduceLE, Int.reduceEq, Int.reduceAdd, Int.reduceSub, Int.reduceNeg, Int.reduceMul, Bool.and_self] | split)
        exact .mk (j + 1, ver + 1) ⟨h0, h1, by rw [← hfl]; rfl, rfl, rfl, hlt, hall⟩ (by simp only; omega)
      · have hz : len = 0 ∧ rc = [] := by simpa [validF] using hvj
        obtain ⟨rfl, rfl⟩ := hz
        have hs : (scal1 rs ⟨2, 0, []⟩).map tyR = [[int 2, int 0, str []]] := rfl
        rw [hs] at hft
        have hfl : pre.length + 1 = ((l.take (j + 1)).flatMap (scal1 rs)).length := by have := congrArg List.length hft; simpa using this
        repeat' (first | (refine And.intro (by omega) ?_) | (refine callF_pure (validR ⟨2, 0, []⟩ rs _ (by omega)) ?_) | (refine callQF_pure (validR ⟨2, 0, []⟩ rs _ (by omega)) rfl ?_) | simp -implicitDefEqProofs (disch := omega) only [h0, h1, h5, h6, rows_getD, hte, tyR, hvj, hft, dT_lt, dF_lt, dT_le, dF_le, dT_eq, dF_eq, push_cast, ↓reduceIte, Nat.reduceEqDiff, reduceCtorEq, Nat.reduceAdd, Nat.reduceSub, Nat.reduceMul, Nat.reduceLeDiff, Nat.reduceLT, Nat.reduceMod, Nat.reduceDiv, Int.reduceToNat, Int.reduceLT, Int.reduceLE, Int.reduceEq, Int.reduceAdd, Int.reduceSub, Int.reduceNeg, Int.reduceMul, Bool.and_self] | split)
        exact .mk (j + 1, ver + 1) ⟨h0, h1, by rw [← hfl]; rfl, rfl, rfl, hlt, hall⟩ (by simp only; omega)
      · obtain ⟨n, hn⟩ : ∃ n : Nat, len = n := ⟨len.toNat, by omega⟩
        subst hn
        have hs : (scal1 rs ⟨3, n, rc⟩).map tyR = List.replicate n (tyR tyI) := by simp [scal1]
        rw [hs] at hft
        have hfl : pre.length + n = ((l.take (j + 1)).flatMap (scal1 rs)).length := by have := congrArg List.length hft; simpa using this
        obtain ⟨row, hrow⟩ : ∃ row, row = tyR tyI := ⟨_, rfl⟩
        repeat' (first | (refine And.intro (by omega) ?_) | (refine callF_pure (validR ⟨3, n, rc⟩ rs _ (by omega)) ?_) | (refine callQF_pure (validR ⟨3, n, rc⟩ rs _ (by omega)) rfl ?_) | simp -implicitDefEqProofs (disch := omega) only [h0, h1, h5, h6, rows_getD, hte, tyR, hvj, dT_lt, dF_lt, dT_le, dF_le, dT_eq, dF_eq, push_cast, ↓reduceIte, Nat.reduceEqDiff, reduceCtorEq, Nat.reduceAdd, Nat.reduceSub, Nat.reduceMul, Nat.reduceLeDiff, Nat.reduceLT, Nat.reduceMod, Nat.reduceDiv, Int.reduceToNat, Int.reduceLT, Int.reduceLE, Int.reduceEq, Int.reduceAdd, Int.reduceSub, Int.reduceNeg, Int.reduceMul, Bool.and_self] | split)
        refine rk_loopS (fun (p : Nat × Nat) e' H' => e' 0 = .sl 2 (rs.map rcR) ∧ e' 1 = .sl 3 (l.map tyR) ∧ e' 5 = .os H.length p.2 0 (pre.length + p.1) ∧ e' 6 = int j ∧ e' 7 = int p.1 ∧ H' = H ++ [.arr p.2 3 (pre.map tyR ++ List.replicate p.1 row)] ∧ p.1 ≤ n) (fun p => n - p.1) (0, ver) ?_ ?_
        · exact ⟨h0, h1, h5, h6, rfl, by simp, Nat.zero_le _⟩
        rintro ⟨q, v2⟩ e2 H2 ⟨g0, g1, g5, g6, g7, rfl, hq⟩
        simp only at g0 g1 g5 g6 g7 hq
        have hrep : (pre.map tyR ++ List.replicate q row).take (pre.length + q) = pre.map tyR ++ List.replicate q row := all_take _ (by simp)
        by_cases hqn : q < n
        · repeat' (first | (refine And.intro (by omega) ?_) | simp -implicitDefEqProofs (disch := omega) only [g0, g1, g5, g6, g7, rows_getD, hte, tyR, hrep, List.length_replicate, dT_lt, dF_lt, dT_le, dF_le, dT_eq, dF_eq, push_cast, ↓reduceIte, Nat.reduceEqDiff, reduceCtorEq, Nat.reduceAdd, Nat.reduceSub, Nat.reduceMul, Nat.reduceLeDiff, Nat.reduceLT, Nat.reduceMod, Nat.reduceDiv, Int.reduceToNat, Int.reduceLT, Int.reduceLE, Int.reduceEq, Int.reduceAdd, Int.reduceSub, Int.reduceNeg, Int.reduceMul, Bool.and_self] | split)
          exact .mk (q + 1, v2 + 1) ⟨g0, g1, rfl, g6, rfl, by rw [List.replicate_succ', hrow]; rfl, hqn⟩ (by simp only; omega)
        · obtain rfl : q = n := by omega
          repeat' (first | (refine And.intro (by omega) ?_) | simp -implicitDefEqProofs (disch := omega) only [g0, g1, g5, g6, g7, rows_getD, hte, tyR, dT_lt, dF_lt, dT_le, dF_le, dT_eq, dF_eq, push_cast, ↓reduceIte, Nat.reduceEqDiff, reduceCtorEq, Nat.reduceAdd, Nat.reduceSub, Nat.reduceMul, Nat.reduceLeDiff, Nat.reduceLT, Nat.reduceMod, Nat.reduceDiv, Int.reduceToNat, Int.reduceLT, Int.reduceLE, Int.reduceEq, Int.reduceAdd, Int.reduceSub, Int.reduceNeg, Int.reduceMul, Bool.and_self] | split)
          exact .mk (j + 1, v2) ⟨g0, g1, by rw [← hfl]; exact g5, rfl, by rw [← hft, hrow], hlt, hall⟩ (by simp only; omega)
      · have hi' : idxF rs rc = some i := hi
        have hil := (find_lt hi).1
        have hs : (scal1 rs ⟨4, len, rc⟩).map tyR = (rs.getD i default).fields.map scR := by simp [scal1, hi', scR]
        have hb : (rs.getD i default).fields.length ≤ 20 := hf.fields _ (getD_mem' hil)
        rw [hs] at hft
        have hfl : pre.length + (rs.getD i default).fields.length = ((l.take (j + 1)).flatMap (scal1 rs)).length := by have := congrArg List.length hft; simpa using this
        repeat' (first | (refine And.intro (by omega) ?_) | (refine callF_pure (validR ⟨4, len, rc⟩ rs _ (by omega)) ?_) | (refine callF_pure (indexR _ _ _ (by omega)) ?_) | (refine callQF_pure (validR ⟨4, len, rc⟩ rs _ (by omega)) rfl ?_) | (refine callQF_pure (indexR _ _ _ (by omega)) rfl ?_) | simp -implicitDefEqProofs (disch := omega) only [h0, h1, h5, h6, rows_getD, hte, tyR, hvj, hi', idxI, rcR, dT_lt, dF_lt, dT_le, dF_le, dT_eq, dF_eq, push_cast, ↓reduceIte, Nat.reduceEqDiff, reduceCtorEq, Nat.reduceAdd, Nat.reduceSub, Nat.reduceMul, Nat.reduceLeDiff, Nat.reduceLT, Nat.reduceMod, Nat.reduceDiv, Int.reduceToNat, Int.reduceLT, Int.reduceLE, Int.reduceEq, Int.reduceAdd, Int.reduceSub, Int.reduceNeg, Int.reduceMul, Bool.and_self] | split)
        generalize (rs.getD i default).fields = fs at hft hfl hb ⊢
        refine rk_loopS (fun (p : Nat × Nat) e' H' => e' 0 = .sl 2 (rs.map rcR) ∧ e' 1 = .sl 3 (l.map tyR) ∧ e' 5 = .os H.length p.2 0 (pre.length + p.1) ∧ e' 6 = int j ∧ e' 8 = .sl 4 (fs.map fdR) ∧ e' 9 = int p.1 ∧ H' = H ++ [.arr p.2 3 (pre.map tyR ++ (fs.take p.1).map scR)] ∧ p.1 ≤ fs.length) (fun p => fs.length - p.1) (0, ver) ?_ ?_
        · exact ⟨h0, h1, h5, h6, rfl, rfl, by simp, Nat.zero_le _⟩
        rintro ⟨q, v2⟩ e2 H2 ⟨g0, g1, g5, g6, g8, g9, rfl, hq⟩
        simp only at g0 g1 g5 g6 g8 g9 hq
        have hrep : (pre.map tyR ++ (fs.take q).map scR).take (pre.length + q) = pre.map tyR ++ (fs.take q).map scR := all_take _ (by simp; omega)
        have hql : (fs.take q).length = q := by simp; omega
        by_cases hqn : q < fs.length
        · have hsn : (fs.take q).map scR ++ [scR (fs.getD q default)] = (fs.take (q + 1)).map scR := by rw [take_snoc hqn]; simp
          by_cases hb2 : (fs.getD q default).ty.k = 2
          · have hsc : scR (fs.getD q default) = [int 2, int 0, str []] := by unfold scR scF; rw [if_pos hb2]; rfl
            rw [hsc] at hsn
            repeat' (first | (refine And.intro (by omega) ?_) | simp -implicitDefEqProofs (disch := omega) only [g0, g1, g5, g6, g8, g9, rows_getD, fdR, hb2, hrep, hql, hsn, dT_lt, dF_lt, dT_le, dF_le, dT_eq, dF_eq, push_cast, ↓reduceIte, Nat.reduceEqDiff, reduceCtorEq, Nat.reduceAdd, Nat.reduceSub, Nat.reduceMul, Nat.reduceLeDiff, Nat.reduceLT, Nat.reduceMod, Nat.reduceDiv, Int.reduceToNat, Int.reduceLT, Int.reduceLE, Int.reduceEq, Int.reduceAdd, Int.reduceSub, Int.reduceNeg, Int.reduceMul, Bool.and_self] | split)
            exact .mk (q + 1, v2 + 1) ⟨g0, g1, rfl, g6, g8, rfl, rfl, hqn⟩ (by simp only; omega)
          · have hsc : scR (fs.getD q default) = [int 1, int 0, str []] := by unfold scR scF; rw [if_neg hb2]; rfl
            rw [hsc] at hsn
            repeat' (first | (refine And.intro (by omega) ?_) | simp -implicitDefEqProofs (disch := omega) only [g0, g1, g5, g6, g8, g9, rows_getD, fdR, hb2, hrep, hql, hsn, dT_lt, dF_lt, dT_le, dF_le, dT_eq, dF_eq, push_cast, ↓reduceIte, Nat.reduceEqDiff, reduceCtorEq, Nat.reduceAdd, Nat.reduceSub, Nat.reduceMul, Nat.reduceLeDiff, Nat.reduceLT, Nat.reduceMod, Nat.reduceDiv, Int.reduceToNat, Int.reduceLT, Int.reduceLE, Int.reduceEq, Int.reduceAdd, Int.reduceSub, Int.reduceNeg, Int.reduceMul, Bool.and_self] | split)
            exact .mk (q + 1, v2 + 1) ⟨g0, g1, rfl, g6, g8, rfl, rfl, hqn⟩ (by simp only; omega)
        · obtain rfl : q = fs.length := by omega
          repeat' (first | (refine And.intro (by omega) ?_) | simp -implicitDefEqProofs (disch := omega) only [g0, g1, g5, g6, g8, g9, dT_lt, dF_lt, dT_le, dF_le, dT_eq, dF_eq, push_cast, ↓reduceIte, Nat.reduceEqDiff, reduceCtorEq, Nat.reduceAdd, Nat.reduceSub, Nat.reduceMul, Nat.reduceLeDiff, Nat.reduceLT, Nat.reduceMod, Nat.reduceDiv, Int.reduceToNat, Int.reduceLT, Int.reduceLE, Int.reduceEq, Int.reduceAdd, Int.reduceSub, Int.reduceNeg, Int.reduceMul, Bool.and_self] | split)
          exact .mk (j + 1, v2) ⟨g0, g1, by rw [← hfl]; exact g5, rfl, by rw [← hft, all_take fs (Nat.le_refl _)], hlt, hall⟩ (by simp only; omega)
    · have hvj' := Bool.eq_false_iff.2 hvj
      rw [scalV_no hlt hvj']
      repeat' (first | (refine And.intro (by omega) ?_) | (refine callF_pure (validR (l.getD j default) rs _ (by omega)) ?_) | (refine callQF_pure (validR (l.getD j default) rs _ (by omega)) rfl ?_) | simp -implicitDefEqProofs (disch := omega) only [h0, h1, h5, h6, rows_getD, tyR, hvj', dT_lt, dF_lt, dT_le, dF_le, dT_eq, dF_eq, push_cast, ↓reduceIte, Nat.reduceEqDiff, reduceCtorEq, Nat.reduceAdd, Nat.reduceSub, Nat.reduceMul, Nat.reduceLeDiff, Nat.reduceLT, Nat.reduceMod, Nat.reduceDiv, Int.reduceToNat, Int.reduceLT, Int.reduceLE, Int.reduceEq, Int.reduceAdd, Int.reduceSub, Int.reduceNeg, Int.reduceMul, Bool.and_self] | split)
      exact ⟨_, rfl⟩
  · rw [scalV_yes fun i hi => hv i (by omega)]
    repeat' (first | (refine And.intro (by omega) ?_) | simp -implicitDefEqProofs (disch := omega) only [h0, h1, h5, h6, dT_lt, dF_lt, dT_le, dF_le, dT_eq, dF_eq, push_cast, ↓reduceIte, Nat.reduceEqDiff, reduceCtorEq, Nat.reduceAdd, Nat.reduceSub, Nat.reduceMul, Nat.reduceLeDiff, Nat.reduceLT, Nat.reduceMod, Nat.reduceDiv, Int.reduceToNat, Int.reduceLT, Int.reduceLE, Int.reduceEq, Int.reduceAdd, Int.reduceSub, Int.reduceNeg, Int.reduceMul, Bool.and_self] | split)
    exact ⟨by rw [all_take l (by omega)], _, rfl⟩

theorem scalV_len (rs : List Rc) (l : List Ty) : scalV rs l = nilS ∨ ∃ ts : List Ty, scalV rs l = .sl 3 (ts.map tyR) := by
  unfold scalV
  split
  · exact .inr ⟨_, rfl⟩
  · exact .inl rfl
def sizeF (rs : List Rc) (t : Ty) : Nat := if validF t rs = true then (scal1 rs t).length else 0
theorem sizeF_no {rs : List Rc} {t : Ty} (h : validF t rs = false) : sizeF rs t = 0 := by unfold sizeF; rw [h]; rfl
theorem sizeF_yes {rs : List Rc} {t : Ty} (h : validF t rs = true) : sizeF rs t = (scal1 rs t).length := by unfold sizeF; rw [h]; rfl
theorem scalV_1 {rs : List Rc} {t : Ty} (h : validF t rs = true) : scalV rs [t] = .sl 3 ((scal1 rs t).map tyR) := by simp [scalV, h]
theorem scalV_0 {rs : List Rc} {t : Ty} (h : validF t rs = false) : scalV rs [t] = nilS := by simp [scalV, h]
theorem size (t : Ty) (rs : List Rc) (H : AHeap) (hf : Few rs) : Comp' 23 [.agg (tyR t), .sl 2 (rs.map rcR)] H (int (sizeF rs t)) := by
  refine ACall.drop (R := fun x => x = int (sizeF rs t)) ?_
  refine enter Try.func23 L23_ok (Nat.le_of_ble_eq_true rfl) ?_
  cases hv : validF t rs with
  | true =>
    repeat' (first | (refine And.intro (by omega) ?_) | (refine callF_pure (scalars rs [t] _ hf (by simp)) ?_) | (refine callQF_pure (scalars rs [t] _ hf (by simp)) rfl ?_) | simp -implicitDefEqProofs (disch := omega) only [L23, tyR, scalV_1 hv, sizeF_yes hv, dT_lt, dF_lt, dT_le, dF_le, dT_eq, dF_eq, push_cast, ↓reduceIte, Nat.reduceEqDiff, reduceCtorEq, Nat.reduceAdd, Nat.reduceSub, Nat.reduceMul, Nat.reduceLeDiff, Nat.reduceLT, Nat.reduceMod, Nat.reduceDiv, Int.reduceToNat, Int.reduceLT, Int.reduceLE, Int.reduceEq, Int.reduceAdd, Int.reduceSub, Int.reduceNeg, Int.reduceMul, Bool.and_self] | split)
    exact ⟨_, rfl⟩
  | false =>
    repeat' (first | (refine And.intro (by omega) ?_) | (refine callF_pure (scalars rs [t] _ hf (by simp)) ?_) | (refine callQF_pure (scalars rs [t] _ hf (by simp)) rfl ?_) | simp -implicitDefEqProofs (disch := omega) only [L23, tyR, scalV_0 hv, sizeF_no hv, dT_lt, dF_lt, dT_le, dF_le, dT_eq, dF_eq, push_cast, ↓reduceIte, Nat.reduceEqDiff, reduceCtorEq, Nat.reduceAdd, Nat.reduceSub, Nat.reduceMul, Nat.reduceLeDiff, Nat.reduceLT, Nat.reduceMod, Nat.reduceDiv, Int.reduceToNat, Int.reduceLT, Int.reduceLE, Int.reduceEq, Int.reduceAdd, Int.reduceSub, Int.reduceNeg, Int.reduceMul, Bool.and_self] | split)
    exact ⟨_, rfl⟩
theorem sizeR (t : Ty) (rs : List Rc) (H : AHeap) (hf : Few rs) : Comp' 24 [.agg (tyR t), .sl 2 (rs.map rcR)] H (int (sizeF rs t)) := by
  refine ACall.drop (R := fun x => x = int (sizeF rs t)) ?_
  refine enter Try.func24 L24_ok (Nat.le_of_ble_eq_true rfl) ?_
  cases hv : validF t rs with
  | true =>
    repeat' (first | (refine And.intro (by omega) ?_) | (refine callF_pure (scalarsR rs [t] _ hf (by simp)) ?_) | (refine callQF_pure (scalarsR rs [t] _ hf (by simp)) rfl ?_) | simp -implicitDefEqProofs (disch := omega) only [L24, tyR, scalV_1 hv, sizeF_yes hv, dT_lt, dF_lt, dT_le, dF_le, dT_eq, dF_eq, push_cast, ↓reduceIte, Nat.reduceEqDiff, reduceCtorEq, Nat.reduceAdd, Nat.reduceSub, Nat.reduceMul, Nat.reduceLeDiff, Nat.reduceLT, Nat.reduceMod, Nat.reduceDiv, Int.reduceToNat, Int.reduceLT, Int.reduceLE, Int.reduceEq, Int.reduceAdd, Int.reduceSub, Int.reduceNeg, Int.reduceMul, Bool.and_self] | split)
    exact ⟨_, rfl⟩
  | false =>
    repeat' (first | (refine And.intro (by omega) ?_) | (refine callF_pure (scalarsR rs [t] _ hf (by simp)) ?_) | (refine callQF_pure (scalarsR rs [t] _ hf (by simp)) rfl ?_) | simp -implicitDefEqProofs (disch := omega) only [L24, tyR, scalV_0 hv, sizeF_no hv, dT_lt, dF_lt, dT_le, dF_le, dT_eq, dF_eq, push_cast, ↓reduceIte, Nat.reduceEqDiff, reduceCtorEq, Nat.reduceAdd, Nat.reduceSub, Nat.reduceMul, Nat.reduceLeDiff, Nat.reduceLT, Nat.reduceMod, Nat.reduceDiv, Int.reduceToNat, Int.reduceLT, Int.reduceLE, Int.reduceEq, Int.reduceAdd, Int.reduceSub, Int.reduceNeg, Int.reduceMul, Bool.and_self] | split)
    exact ⟨_, rfl⟩

theorem ty_ext {a b : Ty} : a = b ↔ a.k = b.k ∧ a.len = b.len ∧ a.rc = b.rc := by cases a; cases b; simp
theorem equalR (a b : List Ty) (H : AHeap) (ha : (a.length : Int) < 9223372036854775807) (hb : (b.length : Int) < 9223372036854775807) : Comp' 25 [.sl 3 (a.map tyR), .sl 3 (b.map tyR)] H (bool (decide (a = b))) := by
  refine enter Try.func25 L25_ok (Nat.le_of_ble_eq_true rfl) ?_
  by_cases hl : a.length = b.length
  · repeat' (first | (refine And.intro (by omega) ?_) | simp -implicitDefEqProofs (disch := omega) only [L25, dT_lt, dF_lt, dT_le, dF_le, dT_eq, dF_eq, push_cast, ↓reduceIte, Nat.reduceEqDiff, reduceCtorEq, Nat.reduceAdd, Nat.reduceSub, Nat.reduceMul, Nat.reduceLeDiff, Nat.reduceLT, Nat.reduceMod, Nat.reduceDiv, Int.reduceToNat, Int.reduceLT, Int.reduceLE, Int.reduceEq, Int.reduceAdd, Int.reduceSub, Int.reduceNeg, Int.reduceMul, Bool.and_self] | split)
    refine rk_loopS (fun (j : Nat) e' H' => e' 0 = .sl 3 (a.map tyR) ∧ e' 1 = .sl 3 (b.map tyR) ∧ e' 5 = int j ∧ H = H' ∧ j ≤ a.length ∧ a.take j = b.take j) (fun j => a.length - j) 0 ?_ ?_
    · exact ⟨rfl, rfl, rfl, rfl, Nat.zero_le _, rfl⟩
    rintro j e' H' ⟨h0, h1, h5, rfl, hj, hr⟩
    by_cases hlt : j < a.length
    · by_cases he : a.getD j default = b.getD j default
      · repeat' (first | (refine And.intro (by omega) ?_) | simp -implicitDefEqProofs (disch := omega) only [h0, h1, h5, rows_getD, he, tyR, kEqI, kEqS, dT_lt, dF_lt, dT_le, dF_le, dT_eq, dF_eq, push_cast, ↓reduceIte, Nat.reduceEqDiff, reduceCtorEq, Nat.reduceAdd, Nat.reduceSub, Nat.reduceMul, Nat.reduceLeDiff, Nat.reduceLT, Nat.reduceMod, Nat.reduceDiv, Int.reduceToNat, Int.reduceLT, Int.reduceLE, Int.reduceEq, Int.reduceAdd, Int.reduceSub, Int.reduceNeg, Int.reduceMul, Bool.and_self] | split)
        exact .mk (j + 1) ⟨h0, h1, rfl, rfl, hlt, ext_take hr hlt (by omega) he⟩ (by omega)
      · repeat' (first | (refine And.intro (by omega) ?_) | simp -implicitDefEqProofs (disch := omega) only [h0, h1, h5, rows_getD, tyR, kEqI, kEqS, dT_lt, dF_lt, dT_le, dF_le, dT_eq, dF_eq, push_cast, ↓reduceIte, Nat.reduceEqDiff, reduceCtorEq, Nat.reduceAdd, Nat.reduceSub, Nat.reduceMul, Nat.reduceLeDiff, Nat.reduceLT, Nat.reduceMod, Nat.reduceDiv, Int.reduceToNat, Int.reduceLT, Int.reduceLE, Int.reduceEq, Int.reduceAdd, Int.reduceSub, Int.reduceNeg, Int.reduceMul, Bool.and_self] | split)
        · rw [decide_eq_false]
          rintro rfl; exact he rfl
        · rename_i h
          exact absurd (ty_ext.2 (by simpa using h)) he
    · repeat' (first | (refine And.intro (by omega) ?_) | simp -implicitDefEqProofs (disch := omega) only [h0, h1, h5, dT_lt, dF_lt, dT_le, dF_le, dT_eq, dF_eq, push_cast, ↓reduceIte, Nat.reduceEqDiff, reduceCtorEq, Nat.reduceAdd, Nat.reduceSub, Nat.reduceMul, Nat.reduceLeDiff, Nat.reduceLT, Nat.reduceMod, Nat.reduceDiv, Int.reduceToNat, Int.reduceLT, Int.reduceLE, Int.reduceEq, Int.reduceAdd, Int.reduceSub, Int.reduceNeg, Int.reduceMul, Bool.and_self] | split)
      rw [all_take a (by omega), all_take b (by omega)] at hr
      rw [decide_eq_true hr]
  · repeat' (first | (refine And.intro (by omega) ?_) | simp -implicitDefEqProofs (disch := omega) only [L25, dT_lt, dF_lt, dT_le, dF_le, dT_eq, dF_eq, push_cast, ↓reduceIte, Nat.reduceEqDiff, reduceCtorEq, Nat.reduceAdd, Nat.reduceSub, Nat.reduceMul, Nat.reduceLeDiff, Nat.reduceLT, Nat.reduceMod, Nat.reduceDiv, Int.reduceToNat, Int.reduceLT, Int.reduceLE, Int.reduceEq, Int.reduceAdd, Int.reduceSub, Int.reduceNeg, Int.reduceMul, Bool.and_self] | split)
    rw [decide_eq_false]
    rintro rfl; exact hl rfl
theorem equalR_nil (H : AHeap) : Comp' 25 [nilS, nilS] H (bool true) := by
  refine enter Try.func25 L25_ok (Nat.le_of_ble_eq_true rfl) ?_
  repeat' (first | (refine And.intro (by omega) ?_) | simp -implicitDefEqProofs (disch := omega) only [L25, dT_lt, dF_lt, dT_le, dF_le, dT_eq, dF_eq, push_cast, ↓reduceIte, Nat.reduceEqDiff, reduceCtorEq, Nat.reduceAdd, Nat.reduceSub, Nat.reduceMul, Nat.reduceLeDiff, Nat.reduceLT, Nat.reduceMod, Nat.reduceDiv, Int.reduceToNat, Int.reduceLT, Int.reduceLE, Int.reduceEq, Int.reduceAdd, Int.reduceSub, Int.reduceNeg, Int.reduceMul, Bool.and_self] | split)
  refine rk_loopS (fun (j : Nat) e' H' => e' 0 = nilS ∧ e' 1 = nilS ∧ e' 5 = int j ∧ H = H' ∧ j = 0) (fun j => 0 - j) 0 ?_ ?_
  · exact ⟨rfl, rfl, rfl, rfl, rfl⟩
  rintro j e' H' ⟨h0, h1, h5, rfl, rfl⟩
  repeat' (first | (refine And.intro (by omega) ?_) | simp -implicitDefEqProofs (disch := omega) only [h0, h1, h5, dT_lt, dF_lt, dT_le, dF_le, dT_eq, dF_eq, push_cast, ↓reduceIte, Nat.reduceEqDiff, reduceCtorEq, Nat.reduceAdd, Nat.reduceSub, Nat.reduceMul, Nat.reduceLeDiff, Nat.reduceLT, Nat.reduceMod, Nat.reduceDiv, Int.reduceToNat, Int.reduceLT, Int.reduceLE, Int.reduceEq, Int.reduceAdd, Int.reduceSub, Int.reduceNeg, Int.reduceMul, Bool.and_self] | split)
end Go.Proofs.Ytdibceakkjmpgaa
