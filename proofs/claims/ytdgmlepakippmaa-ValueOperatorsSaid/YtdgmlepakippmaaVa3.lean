/- Values, part 3: Binary. -/
import Derived.Test.YtdgmlepakippmaaVa2
namespace Go.Proofs.Ytdgmlepakippmaa
open Go Go.Ax
set_option maxRecDepth 100000
set_option linter.unusedSimpArgs false
set_option linter.unusedVariables false

abbrev andS : List UInt8 := [97, 110, 100]
abbrev orS : List UInt8 := [111, 114]
abbrev ariS : List UInt8 := [43, 45, 42, 47, 37]
def binA (n f e : Int) : AV := .tup [int n, int f, int e]

theorem bin_width (w a b : Int) (o : List UInt8) (H : AHeap) (h : ¬ wOk w) : Comp' 14 [int w, str o, int a, int b] H (binA 0 0 2) := by
  refine enter Try.func14 L14_ok (Nat.le_of_ble_eq_true rfl) ?_
  have hd : decide (wOk w) = false := by simp [h]
  repeat' (first | (refine And.intro (by omega) ?_) | (refine callF_pure (isWidthC _ _) ?_) | (refine callQF_pure (isWidthC _ _) rfl ?_) | simp -implicitDefEqProofs (disch := omega) only [L14, hd, dT_lt, dF_lt, dT_le, dF_le, dT_eq, dF_eq, push_cast, ↓reduceIte, Nat.reduceEqDiff, reduceCtorEq, Nat.reduceAdd, Nat.reduceSub, Nat.reduceMul, Nat.reduceLeDiff, Nat.reduceLT, Nat.reduceMod, Nat.reduceDiv, Int.reduceToNat, Int.reduceLT, Int.reduceLE, Int.reduceEq, Int.reduceAdd, Int.reduceSub, Int.reduceNeg, Int.reduceMul, Bool.and_self] | split)
  rfl

section
variable {w a b : Int} {o : List UInt8} {k : FuncId}
theorem bin_range (hw : wOk w) (hget : mget (.string (mkS o)) opsK opsX = some (.fn (.func k) [] [])) (h1 : ¬ o = andS) (h2 : ¬ o = orS) (H : AHeap) (h : ¬ inI w a ∨ ¬ inI w b) :
    Comp' 14 [int w, str o, int a, int b] H (binA 0 0 2) := by
  refine enter Try.func14 L14_ok (Nat.le_of_ble_eq_true rfl) ?_
  have hd : decide (wOk w) = true := by simp [hw]
  have e1 : decide (o = andS) = false := by simp [h1]
  have e2 : decide (o = orS) = false := by simp [h2]
  by_cases ha : inI w a
  · have hb : ¬ inI w b := by simpa [ha] using h
    have e3 : decide (inI w a) = true := by simp [ha]
    have e4 : decide (inI w b) = false := by simp [hb]
    repeat' (first | (refine And.intro (by omega) ?_) | (refine callF_pure (isWidthC _ _) ?_) | (refine callF_pure (operatorsC _) ?_) | (refine callF_pure (isIntC _ _ _) ?_) | (refine callQF_pure (isWidthC _ _) rfl ?_) | (refine callQF_pure (operatorsC _) rfl ?_) | (refine callQF_pure (isIntC _ _ _) rfl ?_) | simp -implicitDefEqProofs (disch := omega) only [L14, hd, ops_cmp, hget, e1, e2, e3, e4, dT_lt, dF_lt, dT_le, dF_le, dT_eq, dF_eq, push_cast, ↓reduceIte, Nat.reduceEqDiff, reduceCtorEq, Nat.reduceAdd, Nat.reduceSub, Nat.reduceMul, Nat.reduceLeDiff, Nat.reduceLT, Nat.reduceMod, Nat.reduceDiv, Int.reduceToNat, Int.reduceLT, Int.reduceLE, Int.reduceEq, Int.reduceAdd, Int.reduceSub, Int.reduceNeg, Int.reduceMul, Bool.and_self] | split)
    rfl
  · have e3 : decide (inI w a) = false := by simp [ha]
    repeat' (first | (refine And.intro (by omega) ?_) | (refine callF_pure (isWidthC _ _) ?_) | (refine callF_pure (operatorsC _) ?_) | (refine callF_pure (isIntC _ _ _) ?_) | (refine callQF_pure (isWidthC _ _) rfl ?_) | (refine callQF_pure (operatorsC _) rfl ?_) | (refine callQF_pure (isIntC _ _ _) rfl ?_) | simp -implicitDefEqProofs (disch := omega) only [L14, hd, ops_cmp, hget, e1, e2, e3, dT_lt, dF_lt, dT_le, dF_le, dT_eq, dF_eq, push_cast, ↓reduceIte, Nat.reduceEqDiff, reduceCtorEq, Nat.reduceAdd, Nat.reduceSub, Nat.reduceMul, Nat.reduceLeDiff, Nat.reduceLT, Nat.reduceMod, Nat.reduceDiv, Int.reduceToNat, Int.reduceLT, Int.reduceLE, Int.reduceEq, Int.reduceAdd, Int.reduceSub, Int.reduceNeg, Int.reduceMul, Bool.and_self] | split)
    rfl

theorem bin_op (hw : wOk w) (ho : ¬ o ∈ opL) (H : AHeap) : Comp' 14 [int w, str o, int a, int b] H (binA 0 0 1) := by
  refine enter Try.func14 L14_ok (Nat.le_of_ble_eq_true rfl) ?_
  have hd : decide (wOk w) = true := by simp [hw]
  repeat' (first | (refine And.intro (by omega) ?_) | (refine callF_pure (isWidthC _ _) ?_) | (refine callF_pure (operatorsC _) ?_) | (refine callQF_pure (isWidthC _ _) rfl ?_) | (refine callQF_pure (operatorsC _) rfl ?_) | simp -implicitDefEqProofs (disch := omega) only [L14, hd, ops_cmp, ops_no ho, dT_lt, dF_lt, dT_le, dF_le, dT_eq, dF_eq, push_cast, ↓reduceIte, Nat.reduceEqDiff, reduceCtorEq, Nat.reduceAdd, Nat.reduceSub, Nat.reduceMul, Nat.reduceLeDiff, Nat.reduceLT, Nat.reduceMod, Nat.reduceDiv, Int.reduceToNat, Int.reduceLT, Int.reduceLE, Int.reduceEq, Int.reduceAdd, Int.reduceSub, Int.reduceNeg, Int.reduceMul, Bool.and_self] | split)
  rfl

/-- An operator that is neither and nor or, of two ints: what its function says, wrapped where it is one of the first five. -/
theorem bin_go (hw : wOk w) (hget : mget (.string (mkS o)) opsK opsX = some (.fn (.func k) [] [])) (h1 : ¬ o = andS) (h2 : ¬ o = orS) (ha : inI w a) (hb : inI w b) (hz : b ≠ 0 ∨ (¬ o = [47] ∧ ¬ o = [37])) (f : Int)
    (hf : ∀ H, Comp' k [int a, int b] H (int f)) (hk : clL [int a, int b] = true) (hr : i64R f) (H : AHeap) :
    Comp' 14 [int w, str o, int a, int b] H (binA (if Lib.contains ariS o = true then wrF w f else f) 0 0) := by
  refine enter Try.func14 L14_ok (Nat.le_of_ble_eq_true rfl) ?_
  have hd : decide (wOk w) = true := by simp [hw]
  have e1 : decide (o = andS) = false := by simp [h1]
  have e2 : decide (o = orS) = false := by simp [h2]
  have e3 : decide (inI w a) = true := by simp [ha]
  have e4 : decide (inI w b) = true := by simp [hb]
  by_cases hb0 : b = 0
  · have h3 : ¬ o = [47] ∧ ¬ o = [37] := by simpa [hb0] using hz
    have e5 : decide (o = [47]) = false := by simp [h3.1]
    have e6 : decide (o = [37]) = false := by simp [h3.2]
    cases hc : Lib.contains ariS o
    · repeat' (first | (refine And.intro (by omega) ?_) | (refine callF_pure (isWidthC _ _) ?_) | (refine callF_pure (operatorsC _) ?_) | (refine callF_pure (isIntC _ _ _) ?_) | (refine callF_pure (hf _) ?_) | (refine callF_pure (containsC ariS o (by decide) _) ?_) | (refine callQF_pure (isWidthC _ _) rfl ?_) | (refine callQF_pure (operatorsC _) rfl ?_) | (refine callQF_pure (isIntC _ _ _) rfl ?_) | (refine callQF_pure (hf _) rfl ?_) | (refine callQF_pure (containsC ariS o (by decide) _) rfl ?_) | simp -implicitDefEqProofs (disch := omega) only [L14, hd, ops_cmp, hget, e1, e2, e3, e4, e5, e6, hc, dT_lt, dF_lt, dT_le, dF_le, dT_eq, dF_eq, push_cast, ↓reduceIte, Nat.reduceEqDiff, reduceCtorEq, Nat.reduceAdd, Nat.reduceSub, Nat.reduceMul, Nat.reduceLeDiff, Nat.reduceLT, Nat.reduceMod, Nat.reduceDiv, Int.reduceToNat, Int.reduceLT, Int.reduceLE, Int.reduceEq, Int.reduceAdd, Int.reduceSub, Int.reduceNeg, Int.reduceMul, Bool.and_self] | split)
      rfl
    · repeat' (first | (refine And.intro (by omega) ?_) | (refine callF_pure (isWidthC _ _) ?_) | (refine callF_pure (operatorsC _) ?_) | (refine callF_pure (isIntC _ _ _) ?_) | (refine callF_pure (hf _) ?_) | (refine callF_pure (containsC ariS o (by decide) _) ?_) | (refine callF_pure (wrapC w f hr _) ?_) | (refine callQF_pure (isWidthC _ _) rfl ?_) | (refine callQF_pure (operatorsC _) rfl ?_) | (refine callQF_pure (isIntC _ _ _) rfl ?_) | (refine callQF_pure (hf _) rfl ?_) | (refine callQF_pure (containsC ariS o (by decide) _) rfl ?_) | (refine callQF_pure (wrapC w f hr _) rfl ?_) | simp -implicitDefEqProofs (disch := omega) only [L14, hd, ops_cmp, hget, e1, e2, e3, e4, e5, e6, hc, dT_lt, dF_lt, dT_le, dF_le, dT_eq, dF_eq, push_cast, ↓reduceIte, Nat.reduceEqDiff, reduceCtorEq, Nat.reduceAdd, Nat.reduceSub, Nat.reduceMul, Nat.reduceLeDiff, Nat.reduceLT, Nat.reduceMod, Nat.reduceDiv, Int.reduceToNat, Int.reduceLT, Int.reduceLE, Int.reduceEq, Int.reduceAdd, Int.reduceSub, Int.reduceNeg, Int.reduceMul, Bool.and_self] | split)
      rfl
  · cases hc : Lib.contains ariS o
    · repeat' (first | (refine And.intro (by omega) ?_) | (refine callF_pure (isWidthC _ _) ?_) | (refine callF_pure (operatorsC _) ?_) | (refine callF_pure (isIntC _ _ _) ?_) | (refine callF_pure (hf _) ?_) | (refine callF_pure (containsC ariS o (by decide) _) ?_) | (refine callQF_pure (isWidthC _ _) rfl ?_) | (refine callQF_pure (operatorsC _) rfl ?_) | (refine callQF_pure (isIntC _ _ _) rfl ?_) | (refine callQF_pure (hf _) rfl ?_) | (refine callQF_pure (containsC ariS o (by decide) _) rfl ?_) | simp -implicitDefEqProofs (disch := omega) only [L14, hd, ops_cmp, hget, e1, e2, e3, e4, hc, dT_lt, dF_lt, dT_le, dF_le, dT_eq, dF_eq, push_cast, ↓reduceIte, Nat.reduceEqDiff, reduceCtorEq, Nat.reduceAdd, Nat.reduceSub, Nat.reduceMul, Nat.reduceLeDiff, Nat.reduceLT, Nat.reduceMod, Nat.reduceDiv, Int.reduceToNat, Int.reduceLT, Int.reduceLE, Int.reduceEq, Int.reduceAdd, Int.reduceSub, Int.reduceNeg, Int.reduceMul, Bool.and_self] | split)
      rfl
    · repeat' (first | (refine And.intro (by omega) ?_) | (refine callF_pure (isWidthC _ _) ?_) | (refine callF_pure (operatorsC _) ?_) | (refine callF_pure (isIntC _ _ _) ?_) | (refine callF_pure (hf _) ?_) | (refine callF_pure (containsC ariS o (by decide) _) ?_) | (refine callF_pure (wrapC w f hr _) ?_) | (refine callQF_pure (isWidthC _ _) rfl ?_) | (refine callQF_pure (operatorsC _) rfl ?_) | (refine callQF_pure (isIntC _ _ _) rfl ?_) | (refine callQF_pure (hf _) rfl ?_) | (refine callQF_pure (containsC ariS o (by decide) _) rfl ?_) | (refine callQF_pure (wrapC w f hr _) rfl ?_) | simp -implicitDefEqProofs (disch := omega) only [L14, hd, ops_cmp, hget, e1, e2, e3, e4, hc, dT_lt, dF_lt, dT_le, dF_le, dT_eq, dF_eq, push_cast, ↓reduceIte, Nat.reduceEqDiff, reduceCtorEq, Nat.reduceAdd, Nat.reduceSub, Nat.reduceMul, Nat.reduceLeDiff, Nat.reduceLT, Nat.reduceMod, Nat.reduceDiv, Int.reduceToNat, Int.reduceLT, Int.reduceLE, Int.reduceEq, Int.reduceAdd, Int.reduceSub, Int.reduceNeg, Int.reduceMul, Bool.and_self] | split)
      rfl

theorem bin_zero (hw : wOk w) (ho : o = [47] ∨ o = [37]) (ha : inI w a) (hb : inI w 0) (H : AHeap) : Comp' 14 [int w, str o, int a, int 0] H (binA 0 1 0) := by
  refine enter Try.func14 L14_ok (Nat.le_of_ble_eq_true rfl) ?_
  have hd : decide (wOk w) = true := by simp [hw]
  have e3 : decide (inI w a) = true := by simp [ha]
  have e4 : decide (inI w 0) = true := by simp [hb]
  rcases ho with rfl | rfl
  · repeat' (first | (refine And.intro (by omega) ?_) | (refine callF_pure (isWidthC _ _) ?_) | (refine callF_pure (operatorsC _) ?_) | (refine callF_pure (isIntC _ _ _) ?_) | (refine callQF_pure (isWidthC _ _) rfl ?_) | (refine callQF_pure (operatorsC _) rfl ?_) | (refine callQF_pure (isIntC _ _ _) rfl ?_) | simp -implicitDefEqProofs (disch := omega) only [L14, hd, ops_cmp, ops_quo, e3, e4, dT_lt, dF_lt, dT_le, dF_le, dT_eq, dF_eq, push_cast, ↓reduceIte, Nat.reduceEqDiff, reduceCtorEq, Nat.reduceAdd, Nat.reduceSub, Nat.reduceMul, Nat.reduceLeDiff, Nat.reduceLT, Nat.reduceMod, Nat.reduceDiv, Int.reduceToNat, Int.reduceLT, Int.reduceLE, Int.reduceEq, Int.reduceAdd, Int.reduceSub, Int.reduceNeg, Int.reduceMul, Bool.and_self] | split)
    rfl
  · repeat' (first | (refine And.intro (by omega) ?_) | (refine callF_pure (isWidthC _ _) ?_) | (refine callF_pure (operatorsC _) ?_) | (refine callF_pure (isIntC _ _ _) ?_) | (refine callQF_pure (isWidthC _ _) rfl ?_) | (refine callQF_pure (operatorsC _) rfl ?_) | (refine callQF_pure (isIntC _ _ _) rfl ?_) | simp -implicitDefEqProofs (disch := omega) only [L14, hd, ops_cmp, ops_rem, e3, e4, dT_lt, dF_lt, dT_le, dF_le, dT_eq, dF_eq, push_cast, ↓reduceIte, Nat.reduceEqDiff, reduceCtorEq, Nat.reduceAdd, Nat.reduceSub, Nat.reduceMul, Nat.reduceLeDiff, Nat.reduceLT, Nat.reduceMod, Nat.reduceDiv, Int.reduceToNat, Int.reduceLT, Int.reduceLE, Int.reduceEq, Int.reduceAdd, Int.reduceSub, Int.reduceNeg, Int.reduceMul, Bool.and_self] | split)
    all_goals first | rfl | (exfalso; rename_i h; revert h; decide)

theorem bin_log_no (hw : wOk w) (ho : o = andS ∨ o = orS) (h : ¬ isB a ∨ ¬ isB b) (H : AHeap) : Comp' 14 [int w, str o, int a, int b] H (binA 0 0 2) := by
  refine enter Try.func14 L14_ok (Nat.le_of_ble_eq_true rfl) ?_
  have hd : decide (wOk w) = true := by simp [hw]
  by_cases ha : isB a
  · have hb : ¬ isB b := by simpa [ha] using h
    have e3 : decide (isB a) = true := by simp [ha]
    have e4 : decide (isB b) = false := by simp [hb]
    rcases ho with rfl | rfl
    · repeat' (first | (refine And.intro (by omega) ?_) | (refine callF_pure (isWidthC _ _) ?_) | (refine callF_pure (operatorsC _) ?_) | (refine callF_pure (isBoolC _ _) ?_) | (refine callQF_pure (isWidthC _ _) rfl ?_) | (refine callQF_pure (operatorsC _) rfl ?_) | (refine callQF_pure (isBoolC _ _) rfl ?_) | simp -implicitDefEqProofs (disch := omega) only [L14, hd, ops_cmp, ops_and, e3, e4, dT_lt, dF_lt, dT_le, dF_le, dT_eq, dF_eq, push_cast, ↓reduceIte, Nat.reduceEqDiff, reduceCtorEq, Nat.reduceAdd, Nat.reduceSub, Nat.reduceMul, Nat.reduceLeDiff, Nat.reduceLT, Nat.reduceMod, Nat.reduceDiv, Int.reduceToNat, Int.reduceLT, Int.reduceLE, Int.reduceEq, Int.reduceAdd, Int.reduceSub, Int.reduceNeg, Int.reduceMul, Bool.and_self] | split)
      all_goals first | rfl | (exfalso; rename_i h; revert h; decide)
    · repeat' (first | (refine And.intro (by omega) ?_) | (refine callF_pure (isWidthC _ _) ?_) | (refine callF_pure (operatorsC _) ?_) | (refine callF_pure (isBoolC _ _) ?_) | (refine callQF_pure (isWidthC _ _) rfl ?_) | (refine callQF_pure (operatorsC _) rfl ?_) | (refine callQF_pure (isBoolC _ _) rfl ?_) | simp -implicitDefEqProofs (disch := omega) only [L14, hd, ops_cmp, ops_or, e3, e4, dT_lt, dF_lt, dT_le, dF_le, dT_eq, dF_eq, push_cast, ↓reduceIte, Nat.reduceEqDiff, reduceCtorEq, Nat.reduceAdd, Nat.reduceSub, Nat.reduceMul, Nat.reduceLeDiff, Nat.reduceLT, Nat.reduceMod, Nat.reduceDiv, Int.reduceToNat, Int.reduceLT, Int.reduceLE, Int.reduceEq, Int.reduceAdd, Int.reduceSub, Int.reduceNeg, Int.reduceMul, Bool.and_self] | split)
      all_goals first | rfl | (exfalso; rename_i h; revert h; decide)
  · have e3 : decide (isB a) = false := by simp [ha]
    rcases ho with rfl | rfl
    · repeat' (first | (refine And.intro (by omega) ?_) | (refine callF_pure (isWidthC _ _) ?_) | (refine callF_pure (operatorsC _) ?_) | (refine callF_pure (isBoolC _ _) ?_) | (refine callQF_pure (isWidthC _ _) rfl ?_) | (refine callQF_pure (operatorsC _) rfl ?_) | (refine callQF_pure (isBoolC _ _) rfl ?_) | simp -implicitDefEqProofs (disch := omega) only [L14, hd, ops_cmp, ops_and, e3, dT_lt, dF_lt, dT_le, dF_le, dT_eq, dF_eq, push_cast, ↓reduceIte, Nat.reduceEqDiff, reduceCtorEq, Nat.reduceAdd, Nat.reduceSub, Nat.reduceMul, Nat.reduceLeDiff, Nat.reduceLT, Nat.reduceMod, Nat.reduceDiv, Int.reduceToNat, Int.reduceLT, Int.reduceLE, Int.reduceEq, Int.reduceAdd, Int.reduceSub, Int.reduceNeg, Int.reduceMul, Bool.and_self] | split)
      all_goals first | rfl | (exfalso; rename_i h; revert h; decide)
    · repeat' (first | (refine And.intro (by omega) ?_) | (refine callF_pure (isWidthC _ _) ?_) | (refine callF_pure (operatorsC _) ?_) | (refine callF_pure (isBoolC _ _) ?_) | (refine callQF_pure (isWidthC _ _) rfl ?_) | (refine callQF_pure (operatorsC _) rfl ?_) | (refine callQF_pure (isBoolC _ _) rfl ?_) | simp -implicitDefEqProofs (disch := omega) only [L14, hd, ops_cmp, ops_or, e3, dT_lt, dF_lt, dT_le, dF_le, dT_eq, dF_eq, push_cast, ↓reduceIte, Nat.reduceEqDiff, reduceCtorEq, Nat.reduceAdd, Nat.reduceSub, Nat.reduceMul, Nat.reduceLeDiff, Nat.reduceLT, Nat.reduceMod, Nat.reduceDiv, Int.reduceToNat, Int.reduceLT, Int.reduceLE, Int.reduceEq, Int.reduceAdd, Int.reduceSub, Int.reduceNeg, Int.reduceMul, Bool.and_self] | split)
      all_goals first | rfl | (exfalso; rename_i h; revert h; decide)

theorem inI_isB (hw : wOk w) (h : isB a) : inI w a := by
  unfold inI leF grF
  rw [if_pos hw, if_pos hw]
  rcases h with rfl | rfl <;> rcases w_cases hw with rfl | rfl | rfl | rfl | rfl | rfl | rfl <;> simp [hf]

theorem bin_and (hw : wOk w) (ha : isB a) (hb : isB b) (H : AHeap) : Comp' 14 [int w, str andS, int a, int b] H (binA (min a b) 0 0) := by
  refine enter Try.func14 L14_ok (Nat.le_of_ble_eq_true rfl) ?_
  have hd : decide (wOk w) = true := by simp [hw]
  have e1 : decide (isB a) = true := by simp [ha]
  have e2 : decide (isB b) = true := by simp [hb]
  have e3 : decide (inI w a) = true := by simp [inI_isB hw ha]
  have e4 : decide (inI w b) = true := by simp [inI_isB hw hb]
  have hc : Lib.contains ariS andS = false := by decide
  repeat' (first | (refine And.intro (by omega) ?_) | (refine callF_pure (isWidthC _ _) ?_) | (refine callF_pure (operatorsC _) ?_) | (refine callF_pure (isBoolC _ _) ?_) | (refine callF_pure (isIntC _ _ _) ?_) | (refine callF_pure (op_and _ _ _) ?_) | (refine callF_pure (containsC ariS andS (by decide) _) ?_) | (refine callQF_pure (isWidthC _ _) rfl ?_) | (refine callQF_pure (operatorsC _) rfl ?_) | (refine callQF_pure (isBoolC _ _) rfl ?_) | (refine callQF_pure (isIntC _ _ _) rfl ?_) | (refine callQF_pure (op_and _ _ _) rfl ?_) | (refine callQF_pure (containsC ariS andS (by decide) _) rfl ?_) | simp -implicitDefEqProofs (disch := omega) only [L14, hd, ops_cmp, ops_and, e1, e2, e3, e4, hc, dT_lt, dF_lt, dT_le, dF_le, dT_eq, dF_eq, push_cast, ↓reduceIte, Nat.reduceEqDiff, reduceCtorEq, Nat.reduceAdd, Nat.reduceSub, Nat.reduceMul, Nat.reduceLeDiff, Nat.reduceLT, Nat.reduceMod, Nat.reduceDiv, Int.reduceToNat, Int.reduceLT, Int.reduceLE, Int.reduceEq, Int.reduceAdd, Int.reduceSub, Int.reduceNeg, Int.reduceMul, Bool.and_self] | split)
  all_goals first | rfl | (exfalso; rename_i h; revert h; decide)
theorem bin_or (hw : wOk w) (ha : isB a) (hb : isB b) (H : AHeap) : Comp' 14 [int w, str orS, int a, int b] H (binA (max a b) 0 0) := by
  refine enter Try.func14 L14_ok (Nat.le_of_ble_eq_true rfl) ?_
  have hd : decide (wOk w) = true := by simp [hw]
  have e1 : decide (isB a) = true := by simp [ha]
  have e2 : decide (isB b) = true := by simp [hb]
  have e3 : decide (inI w a) = true := by simp [inI_isB hw ha]
  have e4 : decide (inI w b) = true := by simp [inI_isB hw hb]
  have hc : Lib.contains ariS orS = false := by decide
  repeat' (first | (refine And.intro (by omega) ?_) | (refine callF_pure (isWidthC _ _) ?_) | (refine callF_pure (operatorsC _) ?_) | (refine callF_pure (isBoolC _ _) ?_) | (refine callF_pure (isIntC _ _ _) ?_) | (refine callF_pure (op_or _ _ _) ?_) | (refine callF_pure (containsC ariS orS (by decide) _) ?_) | (refine callQF_pure (isWidthC _ _) rfl ?_) | (refine callQF_pure (operatorsC _) rfl ?_) | (refine callQF_pure (isBoolC _ _) rfl ?_) | (refine callQF_pure (isIntC _ _ _) rfl ?_) | (refine callQF_pure (op_or _ _ _) rfl ?_) | (refine callQF_pure (containsC ariS orS (by decide) _) rfl ?_) | simp -implicitDefEqProofs (disch := omega) only [L14, hd, ops_cmp, ops_or, e1, e2, e3, e4, hc, dT_lt, dF_lt, dT_le, dF_le, dT_eq, dF_eq, push_cast, ↓reduceIte, Nat.reduceEqDiff, reduceCtorEq, Nat.reduceAdd, Nat.reduceSub, Nat.reduceMul, Nat.reduceLeDiff, Nat.reduceLT, Nat.reduceMod, Nat.reduceDiv, Int.reduceToNat, Int.reduceLT, Int.reduceLE, Int.reduceEq, Int.reduceAdd, Int.reduceSub, Int.reduceNeg, Int.reduceMul, Bool.and_self] | split)
  all_goals first | rfl | (exfalso; rename_i h; revert h; decide)
end
end Go.Proofs.Ytdgmlepakippmaa
