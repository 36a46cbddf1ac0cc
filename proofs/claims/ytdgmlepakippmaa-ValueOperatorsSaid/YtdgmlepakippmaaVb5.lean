/- Values: the reference's Wrap, Least, Greatest. -/
import Derived.Test.YtdgmlepakippmaaVb2
namespace Go.Proofs.Ytdgmlepakippmaa
open Go Go.Ax
set_option maxRecDepth 100000
set_option linter.unusedSimpArgs false
set_option linter.unusedVariables false

theorem widthR (w : Int) (H : AHeap) : Comp' 37 [int w] H (bool (decide (wOk w))) := by
  refine enter Try.func37 L37_ok (Nat.le_of_ble_eq_true rfl) ?_
  by_cases h1 : 2 ≤ w
  · by_cases h2 : w ≤ 8
    · repeat' (first | (refine And.intro (by omega) ?_) | simp -implicitDefEqProofs (disch := omega) only [L37, dT_lt, dF_lt, dT_le, dF_le, dT_eq, dF_eq, push_cast, ↓reduceIte, Nat.reduceEqDiff, reduceCtorEq, Nat.reduceAdd, Nat.reduceSub, Nat.reduceMul, Nat.reduceLeDiff, Nat.reduceLT, Nat.reduceMod, Nat.reduceDiv, Int.reduceToNat, Int.reduceLT, Int.reduceLE, Int.reduceEq, Int.reduceAdd, Int.reduceSub, Int.reduceNeg, Int.reduceMul, Bool.and_self] | split)
      simp [wOk, h1, h2]
    · repeat' (first | (refine And.intro (by omega) ?_) | simp -implicitDefEqProofs (disch := omega) only [L37, dT_lt, dF_lt, dT_le, dF_le, dT_eq, dF_eq, push_cast, ↓reduceIte, Nat.reduceEqDiff, reduceCtorEq, Nat.reduceAdd, Nat.reduceSub, Nat.reduceMul, Nat.reduceLeDiff, Nat.reduceLT, Nat.reduceMod, Nat.reduceDiv, Int.reduceToNat, Int.reduceLT, Int.reduceLE, Int.reduceEq, Int.reduceAdd, Int.reduceSub, Int.reduceNeg, Int.reduceMul, Bool.and_self] | split)
      simp [wOk, h1, h2]
  · repeat' (first | (refine And.intro (by omega) ?_) | simp -implicitDefEqProofs (disch := omega) only [L37, dT_lt, dF_lt, dT_le, dF_le, dT_eq, dF_eq, push_cast, ↓reduceIte, Nat.reduceEqDiff, reduceCtorEq, Nat.reduceAdd, Nat.reduceSub, Nat.reduceMul, Nat.reduceLeDiff, Nat.reduceLT, Nat.reduceMod, Nat.reduceDiv, Int.reduceToNat, Int.reduceLT, Int.reduceLE, Int.reduceEq, Int.reduceAdd, Int.reduceSub, Int.reduceNeg, Int.reduceMul, Bool.and_self] | split)
    simp [wOk, h1]

theorem powerR (n : Nat) (hn : n ≤ 8) (H : AHeap) : Comp' 42 [int n] H (int (2 ^ n)) := by
  refine enter Try.func42 L42_ok (Nat.le_of_ble_eq_true rfl) ?_
  repeat' (first | (refine And.intro (by omega) ?_) | simp -implicitDefEqProofs (disch := omega) only [L42, dT_lt, dF_lt, dT_le, dF_le, dT_eq, dF_eq, push_cast, ↓reduceIte, Nat.reduceEqDiff, reduceCtorEq, Nat.reduceAdd, Nat.reduceSub, Nat.reduceMul, Nat.reduceLeDiff, Nat.reduceLT, Nat.reduceMod, Nat.reduceDiv, Int.reduceToNat, Int.reduceLT, Int.reduceLE, Int.reduceEq, Int.reduceAdd, Int.reduceSub, Int.reduceNeg, Int.reduceMul, Bool.and_self] | split)
  refine rk_loopS (fun (j : Nat) e' H' => e' 0 = int n ∧ e' 3 = int (2 ^ j) ∧ e' 4 = int j ∧ H = H' ∧ j ≤ n) (fun j => n - j) 0 ?_ ?_
  · exact ⟨rfl, rfl, rfl, rfl, Nat.zero_le _⟩
  rintro j e' H' ⟨h0, h3, h4, rfl, hj⟩
  by_cases hlt : j < n
  · have hp : (2 : Int) ^ j ≤ 256 ∧ 0 < (2 : Int) ^ j := by
      have : j = 0 ∨ j = 1 ∨ j = 2 ∨ j = 3 ∨ j = 4 ∨ j = 5 ∨ j = 6 ∨ j = 7 := by omega
      rcases this with rfl | rfl | rfl | rfl | rfl | rfl | rfl | rfl <;> decide
    have hs : (2 : Int) ^ (j + 1) = 2 * 2 ^ j := by rw [Int.pow_succ]; omega
    repeat' (first | (refine And.intro (by omega) ?_) | simp -implicitDefEqProofs (disch := omega) only [h0, h3, h4, dT_lt, dF_lt, dT_le, dF_le, dT_eq, dF_eq, push_cast, ↓reduceIte, Nat.reduceEqDiff, reduceCtorEq, Nat.reduceAdd, Nat.reduceSub, Nat.reduceMul, Nat.reduceLeDiff, Nat.reduceLT, Nat.reduceMod, Nat.reduceDiv, Int.reduceToNat, Int.reduceLT, Int.reduceLE, Int.reduceEq, Int.reduceAdd, Int.reduceSub, Int.reduceNeg, Int.reduceMul, Bool.and_self] | split)
    exact .mk (j + 1) ⟨h0, by rw [hs]; rfl, rfl, rfl, hlt⟩ (by omega)
  · have e : j = n := by omega
    subst e
    repeat' (first | (refine And.intro (by omega) ?_) | simp -implicitDefEqProofs (disch := omega) only [h0, h3, h4, dT_lt, dF_lt, dT_le, dF_le, dT_eq, dF_eq, push_cast, ↓reduceIte, Nat.reduceEqDiff, reduceCtorEq, Nat.reduceAdd, Nat.reduceSub, Nat.reduceMul, Nat.reduceLeDiff, Nat.reduceLT, Nat.reduceMod, Nat.reduceDiv, Int.reduceToNat, Int.reduceLT, Int.reduceLE, Int.reduceEq, Int.reduceAdd, Int.reduceSub, Int.reduceNeg, Int.reduceMul, Bool.and_self] | split)
theorem hf_of {n : Nat} : hf ((n : Int) + 1) = 2 ^ n := by
  unfold hf
  rw [show ((n : Int) + 1).toNat - 1 = n by omega]
theorem leastR (w : Int) (H : AHeap) : Comp' 20 [int w] H (int (leF w)) := by
  refine enter Try.func20 L20_ok (Nat.le_of_ble_eq_true rfl) ?_
  by_cases h : wOk w
  · have hd : decide (wOk w) = true := by simp [h]
    have e : leF w = -hf w := by unfold leF; rw [if_pos h]
    have hp := hf_pos h
    rw [e]
    clear e
    unfold wOk at h
    obtain ⟨n, rfl⟩ : ∃ n : Nat, w = (n : Int) + 1 := ⟨(w - 1).toNat, by omega⟩
    have e1 : (n : Int) + 1 - 1 = n := by omega
    have p := fun H => powerR n (by omega) H
    rw [← hf_of] at p
    repeat' (first | (refine And.intro (by omega) ?_) | (refine callF_pure (widthR _ _) ?_) | (refine callF_pure (p _) ?_) | (refine callQF_pure (widthR _ _) rfl ?_) | (refine callQF_pure (p _) rfl ?_) | simp -implicitDefEqProofs (disch := omega) only [L20, hd, e1, dT_lt, dF_lt, dT_le, dF_le, dT_eq, dF_eq, push_cast, ↓reduceIte, Nat.reduceEqDiff, reduceCtorEq, Nat.reduceAdd, Nat.reduceSub, Nat.reduceMul, Nat.reduceLeDiff, Nat.reduceLT, Nat.reduceMod, Nat.reduceDiv, Int.reduceToNat, Int.reduceLT, Int.reduceLE, Int.reduceEq, Int.reduceAdd, Int.reduceSub, Int.reduceNeg, Int.reduceMul, Bool.and_self] | split)
    rw [Int.zero_sub]
  · have hd : decide (wOk w) = false := by simp [h]
    have e : leF w = 0 := by unfold leF; rw [if_neg h]
    repeat' (first | (refine And.intro (by omega) ?_) | (refine callF_pure (widthR _ _) ?_) | (refine callQF_pure (widthR _ _) rfl ?_) | simp -implicitDefEqProofs (disch := omega) only [L20, hd, e, dT_lt, dF_lt, dT_le, dF_le, dT_eq, dF_eq, push_cast, ↓reduceIte, Nat.reduceEqDiff, reduceCtorEq, Nat.reduceAdd, Nat.reduceSub, Nat.reduceMul, Nat.reduceLeDiff, Nat.reduceLT, Nat.reduceMod, Nat.reduceDiv, Int.reduceToNat, Int.reduceLT, Int.reduceLE, Int.reduceEq, Int.reduceAdd, Int.reduceSub, Int.reduceNeg, Int.reduceMul, Bool.and_self] | split)
theorem greatestR (w : Int) (H : AHeap) : Comp' 22 [int w] H (int (grF w)) := by
  refine enter Try.func22 L22_ok (Nat.le_of_ble_eq_true rfl) ?_
  by_cases h : wOk w
  · have hd : decide (wOk w) = true := by simp [h]
    have e : grF w = hf w - 1 := by unfold grF; rw [if_pos h]
    have hp := hf_pos h
    rw [e]
    clear e
    unfold wOk at h
    obtain ⟨n, rfl⟩ : ∃ n : Nat, w = (n : Int) + 1 := ⟨(w - 1).toNat, by omega⟩
    have e1 : (n : Int) + 1 - 1 = n := by omega
    have p := fun H => powerR n (by omega) H
    rw [← hf_of] at p
    repeat' (first | (refine And.intro (by omega) ?_) | (refine callF_pure (widthR _ _) ?_) | (refine callF_pure (p _) ?_) | (refine callQF_pure (widthR _ _) rfl ?_) | (refine callQF_pure (p _) rfl ?_) | simp -implicitDefEqProofs (disch := omega) only [L22, hd, e1, dT_lt, dF_lt, dT_le, dF_le, dT_eq, dF_eq, push_cast, ↓reduceIte, Nat.reduceEqDiff, reduceCtorEq, Nat.reduceAdd, Nat.reduceSub, Nat.reduceMul, Nat.reduceLeDiff, Nat.reduceLT, Nat.reduceMod, Nat.reduceDiv, Int.reduceToNat, Int.reduceLT, Int.reduceLE, Int.reduceEq, Int.reduceAdd, Int.reduceSub, Int.reduceNeg, Int.reduceMul, Bool.and_self] | split)
  · have hd : decide (wOk w) = false := by simp [h]
    have e : grF w = 0 := by unfold grF; rw [if_neg h]
    repeat' (first | (refine And.intro (by omega) ?_) | (refine callF_pure (widthR _ _) ?_) | (refine callQF_pure (widthR _ _) rfl ?_) | simp -implicitDefEqProofs (disch := omega) only [L22, hd, e, dT_lt, dF_lt, dT_le, dF_le, dT_eq, dF_eq, push_cast, ↓reduceIte, Nat.reduceEqDiff, reduceCtorEq, Nat.reduceAdd, Nat.reduceSub, Nat.reduceMul, Nat.reduceLeDiff, Nat.reduceLT, Nat.reduceMod, Nat.reduceDiv, Int.reduceToNat, Int.reduceLT, Int.reduceLE, Int.reduceEq, Int.reduceAdd, Int.reduceSub, Int.reduceNeg, Int.reduceMul, Bool.and_self] | split)
theorem wrF_by {w : Int} (hw : wOk w) {n t k : Int} (h : inI w t) (e : t = n + k * (2 * hf w)) : wrF w n = t := by
  rw [← wrF_id hw h, e]
  exact (wrF_congr hw (k := k) rfl).symm
theorem wrapR (w n : Int) (hn : i64R n) (H : AHeap) : Comp' 18 [int w, int n] H (int (wrF w n)) := by
  refine enter Try.func18 L18_ok (Nat.le_of_ble_eq_true rfl) ?_
  by_cases h : wOk w
  · have hd : decide (wOk w) = true := by simp [h]
    have hp := hf_pos h
    have el : leF w = -hf w := by unfold leF; rw [if_pos h]
    have eg : grF w = hf w - 1 := by unfold grF; rw [if_pos h]
    have p : ∀ H, Comp' 42 [int w] H (int (2 * hf w)) := by
      intro H
      have hw := h
      unfold wOk at hw
      obtain ⟨k, rfl⟩ : ∃ k : Nat, w = (k : Int) + 1 := ⟨(w - 1).toNat, by omega⟩
      have q := powerR (k + 1) (by omega) H
      rw [hf_of, show (2 : Int) * 2 ^ k = 2 ^ (k + 1) by rw [Int.pow_succ]; omega]
      exact q
    have h3 := Int.tdiv_mul_add_tmod n (2 * hf w)
    have h4 : (n.tmod (2 * hf w)).natAbs < (2 * hf w).natAbs := by rw [Int.natAbs_tmod]; exact Nat.mod_lt _ (by omega)
    have hk : ∀ c : Int, n.tmod (2 * hf w) + c * (2 * hf w) = n + (c - n.tdiv (2 * hf w)) * (2 * hf w) := by
      intro c
      rw [Int.sub_mul]
      omega
    generalize n.tdiv (2 * hf w) = d at *
    generalize hte : n.tmod (2 * hf w) = t at *
    by_cases c1 : t < -hf w
    · have e := wrF_by h (n := n) (t := t + 1 * (2 * hf w)) ((inI_iff h _).2 (by omega)) (hk 1)
      rw [e, Int.one_mul]
      repeat' (first | (refine And.intro (by omega) ?_) | (refine callF_pure (widthR _ _) ?_) | (refine callF_pure (p _) ?_) | (refine callF_pure (leastR _ _) ?_) | (refine callF_pure (greatestR _ _) ?_) | (refine callQF_pure (widthR _ _) rfl ?_) | (refine callQF_pure (p _) rfl ?_) | (refine callQF_pure (leastR _ _) rfl ?_) | (refine callQF_pure (greatestR _ _) rfl ?_) | simp -implicitDefEqProofs (disch := omega) only [L18, hd, hte, el, eg, dT_lt, dF_lt, dT_le, dF_le, dT_eq, dF_eq, push_cast, ↓reduceIte, Nat.reduceEqDiff, reduceCtorEq, Nat.reduceAdd, Nat.reduceSub, Nat.reduceMul, Nat.reduceLeDiff, Nat.reduceLT, Nat.reduceMod, Nat.reduceDiv, Int.reduceToNat, Int.reduceLT, Int.reduceLE, Int.reduceEq, Int.reduceAdd, Int.reduceSub, Int.reduceNeg, Int.reduceMul, Bool.and_self] | split)
    · by_cases c2 : hf w - 1 < t
      · have e := wrF_by h (n := n) (t := t + (-1) * (2 * hf w)) ((inI_iff h _).2 (by omega)) (hk (-1))
        rw [e, show t + -1 * (2 * hf w) = t - 2 * hf w by omega]
        repeat' (first | (refine And.intro (by omega) ?_) | (refine callF_pure (widthR _ _) ?_) | (refine callF_pure (p _) ?_) | (refine callF_pure (leastR _ _) ?_) | (refine callF_pure (greatestR _ _) ?_) | (refine callQF_pure (widthR _ _) rfl ?_) | (refine callQF_pure (p _) rfl ?_) | (refine callQF_pure (leastR _ _) rfl ?_) | (refine callQF_pure (greatestR _ _) rfl ?_) | simp -implicitDefEqProofs (disch := omega) only [L18, hd, hte, el, eg, dT_lt, dF_lt, dT_le, dF_le, dT_eq, dF_eq, push_cast, ↓reduceIte, Nat.reduceEqDiff, reduceCtorEq, Nat.reduceAdd, Nat.reduceSub, Nat.reduceMul, Nat.reduceLeDiff, Nat.reduceLT, Nat.reduceMod, Nat.reduceDiv, Int.reduceToNat, Int.reduceLT, Int.reduceLE, Int.reduceEq, Int.reduceAdd, Int.reduceSub, Int.reduceNeg, Int.reduceMul, Bool.and_self] | split)
      · have e := wrF_by h (n := n) (t := t) ((inI_iff h _).2 (by omega)) (by have := hk 0; rw [Int.zero_mul, Int.add_zero] at this; exact this)
        rw [e]
        repeat' (first | (refine And.intro (by omega) ?_) | (refine callF_pure (widthR _ _) ?_) | (refine callF_pure (p _) ?_) | (refine callF_pure (leastR _ _) ?_) | (refine callF_pure (greatestR _ _) ?_) | (refine callQF_pure (widthR _ _) rfl ?_) | (refine callQF_pure (p _) rfl ?_) | (refine callQF_pure (leastR _ _) rfl ?_) | (refine callQF_pure (greatestR _ _) rfl ?_) | simp -implicitDefEqProofs (disch := omega) only [L18, hd, hte, el, eg, dT_lt, dF_lt, dT_le, dF_le, dT_eq, dF_eq, push_cast, ↓reduceIte, Nat.reduceEqDiff, reduceCtorEq, Nat.reduceAdd, Nat.reduceSub, Nat.reduceMul, Nat.reduceLeDiff, Nat.reduceLT, Nat.reduceMod, Nat.reduceDiv, Int.reduceToNat, Int.reduceLT, Int.reduceLE, Int.reduceEq, Int.reduceAdd, Int.reduceSub, Int.reduceNeg, Int.reduceMul, Bool.and_self] | split)
  · have hd : decide (wOk w) = false := by simp [h]
    have e : wrF w n = 0 := by unfold wrF; rw [if_neg h]
    repeat' (first | (refine And.intro (by omega) ?_) | (refine callF_pure (widthR _ _) ?_) | (refine callQF_pure (widthR _ _) rfl ?_) | simp -implicitDefEqProofs (disch := omega) only [L18, hd, e, dT_lt, dF_lt, dT_le, dF_le, dT_eq, dF_eq, push_cast, ↓reduceIte, Nat.reduceEqDiff, reduceCtorEq, Nat.reduceAdd, Nat.reduceSub, Nat.reduceMul, Nat.reduceLeDiff, Nat.reduceLT, Nat.reduceMod, Nat.reduceDiv, Int.reduceToNat, Int.reduceLT, Int.reduceLE, Int.reduceEq, Int.reduceAdd, Int.reduceSub, Int.reduceNeg, Int.reduceMul, Bool.and_self] | split)
end Go.Proofs.Ytdgmlepakippmaa
