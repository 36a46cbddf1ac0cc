/- Values, part 1: widths, wrapping, the least and the greatest int, the operators' functions. -/
import Derived.Test.YtdgmlepakippmaaFv
import Derived.Test.YtdgmlepakippmaaVl1
import Derived.Test.YtdgmlepakippmaaTy3
namespace Go.Proofs.Ytdgmlepakippmaa
open Go Go.Ax
set_option maxRecDepth 100000
set_option linter.unusedSimpArgs false
set_option linter.unusedVariables false

def wOk (w : Int) : Prop := 2 ≤ w ∧ w ≤ 8
instance (w : Int) : Decidable (wOk w) := inferInstanceAs (Decidable (_ ∧ _))
def hf (w : Int) : Int := 2 ^ (w.toNat - 1)
def leF (w : Int) : Int := if wOk w then -hf w else 0
def grF (w : Int) : Int := if wOk w then hf w - 1 else 0
def wrF (w n : Int) : Int := if wOk w then (n + hf w) % (2 * hf w) - hf w else 0

theorem w_cases {w : Int} (h : wOk w) : w = 2 ∨ w = 3 ∨ w = 4 ∨ w = 5 ∨ w = 6 ∨ w = 7 ∨ w = 8 := by unfold wOk at h; omega

theorem isWidthC (w : Int) (H : AHeap) : Comp' 32 [int w] H (bool (decide (wOk w))) := by
  refine enter Try.func32 L32_ok (Nat.le_of_ble_eq_true rfl) ?_
  by_cases h1 : 2 ≤ w
  · by_cases h2 : w ≤ 8
    · repeat' (first | (refine And.intro (by omega) ?_) | simp -implicitDefEqProofs (disch := omega) only [L32, dT_lt, dF_lt, dT_le, dF_le, dT_eq, dF_eq, push_cast, ↓reduceIte, Nat.reduceEqDiff, reduceCtorEq, Nat.reduceAdd, Nat.reduceSub, Nat.reduceMul, Nat.reduceLeDiff, Nat.reduceLT, Nat.reduceMod, Nat.reduceDiv, Int.reduceToNat, Int.reduceLT, Int.reduceLE, Int.reduceEq, Int.reduceAdd, Int.reduceSub, Int.reduceNeg, Int.reduceMul, Bool.and_self] | split)
      simp [wOk, h1, h2]
    · repeat' (first | (refine And.intro (by omega) ?_) | simp -implicitDefEqProofs (disch := omega) only [L32, dT_lt, dF_lt, dT_le, dF_le, dT_eq, dF_eq, push_cast, ↓reduceIte, Nat.reduceEqDiff, reduceCtorEq, Nat.reduceAdd, Nat.reduceSub, Nat.reduceMul, Nat.reduceLeDiff, Nat.reduceLT, Nat.reduceMod, Nat.reduceDiv, Int.reduceToNat, Int.reduceLT, Int.reduceLE, Int.reduceEq, Int.reduceAdd, Int.reduceSub, Int.reduceNeg, Int.reduceMul, Bool.and_self] | split)
      simp [wOk, h1, h2]
  · repeat' (first | (refine And.intro (by omega) ?_) | simp -implicitDefEqProofs (disch := omega) only [L32, dT_lt, dF_lt, dT_le, dF_le, dT_eq, dF_eq, push_cast, ↓reduceIte, Nat.reduceEqDiff, reduceCtorEq, Nat.reduceAdd, Nat.reduceSub, Nat.reduceMul, Nat.reduceLeDiff, Nat.reduceLT, Nat.reduceMod, Nat.reduceDiv, Int.reduceToNat, Int.reduceLT, Int.reduceLE, Int.reduceEq, Int.reduceAdd, Int.reduceSub, Int.reduceNeg, Int.reduceMul, Bool.and_self] | split)
    simp [wOk, h1]

theorem wrap64 (n : Int) : IntKind.i64.wrap n = (n + 9223372036854775808) % 18446744073709551616 - 9223372036854775808 := by
  simp only [IntKind.wrap, IntKind.bits, IntKind.signed]
  simp
  split <;> omega

theorem wrapC (w n : Int) (hn : i64R n) (H : AHeap) : Comp' 13 [int w, int n] H (int (wrF w n)) := by
  refine enter Try.func13 L13_ok (Nat.le_of_ble_eq_true rfl) ?_
  by_cases h : wOk w
  · have hd : decide (wOk w) = true := by simp [h]
    have e : wrF w n = (n + hf w) % (2 * hf w) - hf w := by unfold wrF; rw [if_pos h]
    rw [e]
    clear e
    unfold i64R at hn
    rcases w_cases h with rfl | rfl | rfl | rfl | rfl | rfl | rfl
    all_goals
      repeat' (first | (refine And.intro (by omega) ?_) | (refine callF_pure (isWidthC _ _) ?_) | (refine callQF_pure (isWidthC _ _) rfl ?_) | simp -implicitDefEqProofs (disch := omega) only [L13, hd, dT_lt, dF_lt, dT_le, dF_le, dT_eq, dF_eq, push_cast, ↓reduceIte, Nat.reduceEqDiff, reduceCtorEq, Nat.reduceAdd, Nat.reduceSub, Nat.reduceMul, Nat.reduceLeDiff, Nat.reduceLT, Nat.reduceMod, Nat.reduceDiv, Int.reduceToNat, Int.reduceLT, Int.reduceLE, Int.reduceEq, Int.reduceAdd, Int.reduceSub, Int.reduceNeg, Int.reduceMul, Bool.and_self] | split)
      simp [hf, wrap64, IntKind.bits]
      rw [Int.fdiv_eq_ediv_of_nonneg _ (by decide)]
      omega
  · have hd : decide (wOk w) = false := by simp [h]
    have e : wrF w n = 0 := by unfold wrF; rw [if_neg h]
    repeat' (first | (refine And.intro (by omega) ?_) | (refine callF_pure (isWidthC _ _) ?_) | (refine callQF_pure (isWidthC _ _) rfl ?_) | simp -implicitDefEqProofs (disch := omega) only [L13, hd, e, dT_lt, dF_lt, dT_le, dF_le, dT_eq, dF_eq, push_cast, ↓reduceIte, Nat.reduceEqDiff, reduceCtorEq, Nat.reduceAdd, Nat.reduceSub, Nat.reduceMul, Nat.reduceLeDiff, Nat.reduceLT, Nat.reduceMod, Nat.reduceDiv, Int.reduceToNat, Int.reduceLT, Int.reduceLE, Int.reduceEq, Int.reduceAdd, Int.reduceSub, Int.reduceNeg, Int.reduceMul, Bool.and_self] | split)

theorem leastC (w : Int) (H : AHeap) : Comp' 19 [int w] H (int (leF w)) := by
  refine enter Try.func19 L19_ok (Nat.le_of_ble_eq_true rfl) ?_
  by_cases h : wOk w
  · have hd : decide (wOk w) = true := by simp [h]
    have e : leF w = -hf w := by unfold leF; rw [if_pos h]
    rw [e]
    clear e
    rcases w_cases h with rfl | rfl | rfl | rfl | rfl | rfl | rfl
    all_goals
      repeat' (first | (refine And.intro (by omega) ?_) | (refine callF_pure (isWidthC _ _) ?_) | (refine callQF_pure (isWidthC _ _) rfl ?_) | simp -implicitDefEqProofs (disch := omega) only [L19, hd, dT_lt, dF_lt, dT_le, dF_le, dT_eq, dF_eq, push_cast, ↓reduceIte, Nat.reduceEqDiff, reduceCtorEq, Nat.reduceAdd, Nat.reduceSub, Nat.reduceMul, Nat.reduceLeDiff, Nat.reduceLT, Nat.reduceMod, Nat.reduceDiv, Int.reduceToNat, Int.reduceLT, Int.reduceLE, Int.reduceEq, Int.reduceAdd, Int.reduceSub, Int.reduceNeg, Int.reduceMul, Bool.and_self] | split)
      simp [hf, wrap64, IntKind.bits]
  · have hd : decide (wOk w) = false := by simp [h]
    have e : leF w = 0 := by unfold leF; rw [if_neg h]
    repeat' (first | (refine And.intro (by omega) ?_) | (refine callF_pure (isWidthC _ _) ?_) | (refine callQF_pure (isWidthC _ _) rfl ?_) | simp -implicitDefEqProofs (disch := omega) only [L19, hd, e, dT_lt, dF_lt, dT_le, dF_le, dT_eq, dF_eq, push_cast, ↓reduceIte, Nat.reduceEqDiff, reduceCtorEq, Nat.reduceAdd, Nat.reduceSub, Nat.reduceMul, Nat.reduceLeDiff, Nat.reduceLT, Nat.reduceMod, Nat.reduceDiv, Int.reduceToNat, Int.reduceLT, Int.reduceLE, Int.reduceEq, Int.reduceAdd, Int.reduceSub, Int.reduceNeg, Int.reduceMul, Bool.and_self] | split)

theorem greatestC (w : Int) (H : AHeap) : Comp' 21 [int w] H (int (grF w)) := by
  refine enter Try.func21 L21_ok (Nat.le_of_ble_eq_true rfl) ?_
  by_cases h : wOk w
  · have hd : decide (wOk w) = true := by simp [h]
    have e : grF w = hf w - 1 := by unfold grF; rw [if_pos h]
    rw [e]
    clear e
    rcases w_cases h with rfl | rfl | rfl | rfl | rfl | rfl | rfl
    all_goals
      repeat' (first | (refine And.intro (by omega) ?_) | (refine callF_pure (isWidthC _ _) ?_) | (refine callQF_pure (isWidthC _ _) rfl ?_) | simp -implicitDefEqProofs (disch := omega) only [L21, hd, dT_lt, dF_lt, dT_le, dF_le, dT_eq, dF_eq, push_cast, ↓reduceIte, Nat.reduceEqDiff, reduceCtorEq, Nat.reduceAdd, Nat.reduceSub, Nat.reduceMul, Nat.reduceLeDiff, Nat.reduceLT, Nat.reduceMod, Nat.reduceDiv, Int.reduceToNat, Int.reduceLT, Int.reduceLE, Int.reduceEq, Int.reduceAdd, Int.reduceSub, Int.reduceNeg, Int.reduceMul, Bool.and_self] | split)
      simp [hf, wrap64, IntKind.bits]
  · have hd : decide (wOk w) = false := by simp [h]
    have e : grF w = 0 := by unfold grF; rw [if_neg h]
    repeat' (first | (refine And.intro (by omega) ?_) | (refine callF_pure (isWidthC _ _) ?_) | (refine callQF_pure (isWidthC _ _) rfl ?_) | simp -implicitDefEqProofs (disch := omega) only [L21, hd, e, dT_lt, dF_lt, dT_le, dF_le, dT_eq, dF_eq, push_cast, ↓reduceIte, Nat.reduceEqDiff, reduceCtorEq, Nat.reduceAdd, Nat.reduceSub, Nat.reduceMul, Nat.reduceLeDiff, Nat.reduceLT, Nat.reduceMod, Nat.reduceDiv, Int.reduceToNat, Int.reduceLT, Int.reduceLE, Int.reduceEq, Int.reduceAdd, Int.reduceSub, Int.reduceNeg, Int.reduceMul, Bool.and_self] | split)

theorem truthC (b : Bool) (H : AHeap) : Comp' 66 [bool b] H (int (if b = true then 1 else 0)) := by
  refine enter Try.func66 L66_ok (Nat.le_of_ble_eq_true rfl) ?_
  cases b
  · repeat' (first | (refine And.intro (by omega) ?_) | simp -implicitDefEqProofs (disch := omega) only [L66, dT_lt, dF_lt, dT_le, dF_le, dT_eq, dF_eq, push_cast, ↓reduceIte, Nat.reduceEqDiff, reduceCtorEq, Nat.reduceAdd, Nat.reduceSub, Nat.reduceMul, Nat.reduceLeDiff, Nat.reduceLT, Nat.reduceMod, Nat.reduceDiv, Int.reduceToNat, Int.reduceLT, Int.reduceLE, Int.reduceEq, Int.reduceAdd, Int.reduceSub, Int.reduceNeg, Int.reduceMul, Bool.and_self] | split)
  · repeat' (first | (refine And.intro (by omega) ?_) | simp -implicitDefEqProofs (disch := omega) only [L66, dT_lt, dF_lt, dT_le, dF_le, dT_eq, dF_eq, push_cast, ↓reduceIte, Nat.reduceEqDiff, reduceCtorEq, Nat.reduceAdd, Nat.reduceSub, Nat.reduceMul, Nat.reduceLeDiff, Nat.reduceLT, Nat.reduceMod, Nat.reduceDiv, Int.reduceToNat, Int.reduceLT, Int.reduceLE, Int.reduceEq, Int.reduceAdd, Int.reduceSub, Int.reduceNeg, Int.reduceMul, Bool.and_self] | split)

def inI (w n : Int) : Prop := leF w ≤ n ∧ n ≤ grF w
instance (w n : Int) : Decidable (inI w n) := inferInstanceAs (Decidable (_ ∧ _))
theorem isIntC (w n : Int) (H : AHeap) : Comp' 35 [int w, int n] H (bool (decide (inI w n))) := by
  refine enter Try.func35 L35_ok (Nat.le_of_ble_eq_true rfl) ?_
  by_cases h1 : leF w ≤ n
  · by_cases h2 : n ≤ grF w
    · repeat' (first | (refine And.intro (by omega) ?_) | (refine callF_pure (leastC _ _) ?_) | (refine callF_pure (greatestC _ _) ?_) | (refine callQF_pure (leastC _ _) rfl ?_) | (refine callQF_pure (greatestC _ _) rfl ?_) | simp -implicitDefEqProofs (disch := omega) only [L35, dT_lt, dF_lt, dT_le, dF_le, dT_eq, dF_eq, push_cast, ↓reduceIte, Nat.reduceEqDiff, reduceCtorEq, Nat.reduceAdd, Nat.reduceSub, Nat.reduceMul, Nat.reduceLeDiff, Nat.reduceLT, Nat.reduceMod, Nat.reduceDiv, Int.reduceToNat, Int.reduceLT, Int.reduceLE, Int.reduceEq, Int.reduceAdd, Int.reduceSub, Int.reduceNeg, Int.reduceMul, Bool.and_self] | split)
      simp [inI, h1, h2]
    · repeat' (first | (refine And.intro (by omega) ?_) | (refine callF_pure (leastC _ _) ?_) | (refine callF_pure (greatestC _ _) ?_) | (refine callQF_pure (leastC _ _) rfl ?_) | (refine callQF_pure (greatestC _ _) rfl ?_) | simp -implicitDefEqProofs (disch := omega) only [L35, dT_lt, dF_lt, dT_le, dF_le, dT_eq, dF_eq, push_cast, ↓reduceIte, Nat.reduceEqDiff, reduceCtorEq, Nat.reduceAdd, Nat.reduceSub, Nat.reduceMul, Nat.reduceLeDiff, Nat.reduceLT, Nat.reduceMod, Nat.reduceDiv, Int.reduceToNat, Int.reduceLT, Int.reduceLE, Int.reduceEq, Int.reduceAdd, Int.reduceSub, Int.reduceNeg, Int.reduceMul, Bool.and_self] | split)
      simp [inI, h1, h2]
  · repeat' (first | (refine And.intro (by omega) ?_) | (refine callF_pure (leastC _ _) ?_) | (refine callF_pure (greatestC _ _) ?_) | (refine callQF_pure (leastC _ _) rfl ?_) | (refine callQF_pure (greatestC _ _) rfl ?_) | simp -implicitDefEqProofs (disch := omega) only [L35, dT_lt, dF_lt, dT_le, dF_le, dT_eq, dF_eq, push_cast, ↓reduceIte, Nat.reduceEqDiff, reduceCtorEq, Nat.reduceAdd, Nat.reduceSub, Nat.reduceMul, Nat.reduceLeDiff, Nat.reduceLT, Nat.reduceMod, Nat.reduceDiv, Int.reduceToNat, Int.reduceLT, Int.reduceLE, Int.reduceEq, Int.reduceAdd, Int.reduceSub, Int.reduceNeg, Int.reduceMul, Bool.and_self] | split)
    simp [inI, h1]
def isB (n : Int) : Prop := n = 0 ∨ n = 1
instance (n : Int) : Decidable (isB n) := inferInstanceAs (Decidable (_ ∨ _))
theorem isBoolC (n : Int) (H : AHeap) : Comp' 34 [int n] H (bool (decide (isB n))) := by
  refine enter Try.func34 L34_ok (Nat.le_of_ble_eq_true rfl) ?_
  by_cases h1 : n = 0
  · repeat' (first | (refine And.intro (by omega) ?_) | simp -implicitDefEqProofs (disch := omega) only [L34, dT_lt, dF_lt, dT_le, dF_le, dT_eq, dF_eq, push_cast, ↓reduceIte, Nat.reduceEqDiff, reduceCtorEq, Nat.reduceAdd, Nat.reduceSub, Nat.reduceMul, Nat.reduceLeDiff, Nat.reduceLT, Nat.reduceMod, Nat.reduceDiv, Int.reduceToNat, Int.reduceLT, Int.reduceLE, Int.reduceEq, Int.reduceAdd, Int.reduceSub, Int.reduceNeg, Int.reduceMul, Bool.and_self] | split)
    simp [isB, h1]
  · by_cases h2 : n = 1
    · repeat' (first | (refine And.intro (by omega) ?_) | simp -implicitDefEqProofs (disch := omega) only [L34, dT_lt, dF_lt, dT_le, dF_le, dT_eq, dF_eq, push_cast, ↓reduceIte, Nat.reduceEqDiff, reduceCtorEq, Nat.reduceAdd, Nat.reduceSub, Nat.reduceMul, Nat.reduceLeDiff, Nat.reduceLT, Nat.reduceMod, Nat.reduceDiv, Int.reduceToNat, Int.reduceLT, Int.reduceLE, Int.reduceEq, Int.reduceAdd, Int.reduceSub, Int.reduceNeg, Int.reduceMul, Bool.and_self] | split)
      simp [isB, h2]
    · repeat' (first | (refine And.intro (by omega) ?_) | simp -implicitDefEqProofs (disch := omega) only [L34, dT_lt, dF_lt, dT_le, dF_le, dT_eq, dF_eq, push_cast, ↓reduceIte, Nat.reduceEqDiff, reduceCtorEq, Nat.reduceAdd, Nat.reduceSub, Nat.reduceMul, Nat.reduceLeDiff, Nat.reduceLT, Nat.reduceMod, Nat.reduceDiv, Int.reduceToNat, Int.reduceLT, Int.reduceLE, Int.reduceEq, Int.reduceAdd, Int.reduceSub, Int.reduceNeg, Int.reduceMul, Bool.and_self] | split)
      simp [isB, h1, h2]
end Go.Proofs.Ytdgmlepakippmaa
