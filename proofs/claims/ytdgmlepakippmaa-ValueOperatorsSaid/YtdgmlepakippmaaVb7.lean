/- Values: the reference's Unary. -/
import Derived.Test.YtdgmlepakippmaaVb6
namespace Go.Proofs.Ytdgmlepakippmaa
open Go Go.Ax
set_option maxRecDepth 100000
set_option linter.unusedSimpArgs false
set_option linter.unusedVariables false

section
variable {w a : Int} {o : List UInt8}
theorem unR_width (h : ¬ wOk w) (H : AHeap) : Comp' 17 [int w, str o, int a] H (unA 0 2) := by
  refine enter Try.func17 L17_ok (Nat.le_of_ble_eq_true rfl) ?_
  have hd : decide (wOk w) = false := by simp [h]
  repeat' (first | (refine And.intro (by omega) ?_) | (refine callF_pure (widthR _ _) ?_) | (refine callQF_pure (widthR _ _) rfl ?_) | simp -implicitDefEqProofs (disch := omega) only [L17, hd, dT_lt, dF_lt, dT_le, dF_le, dT_eq, dF_eq, push_cast, ↓reduceIte, Nat.reduceEqDiff, reduceCtorEq, Nat.reduceAdd, Nat.reduceSub, Nat.reduceMul, Nat.reduceLeDiff, Nat.reduceLT, Nat.reduceMod, Nat.reduceDiv, Int.reduceToNat, Int.reduceLT, Int.reduceLE, Int.reduceEq, Int.reduceAdd, Int.reduceSub, Int.reduceNeg, Int.reduceMul, Bool.and_self] | split)
  rfl
theorem unR_op (hw : wOk w) (h1 : ¬ o = [45]) (h2 : ¬ o = notS) (H : AHeap) : Comp' 17 [int w, str o, int a] H (unA 0 1) := by
  refine enter Try.func17 L17_ok (Nat.le_of_ble_eq_true rfl) ?_
  have hd : decide (wOk w) = true := by simp [hw]
  have e1 : decide (o = [45]) = false := by simp [h1]
  have e2 : decide (o = notS) = false := by simp [h2]
  repeat' (first | (refine And.intro (by omega) ?_) | (refine callF_pure (widthR _ _) ?_) | (refine callQF_pure (widthR _ _) rfl ?_) | simp -implicitDefEqProofs (disch := omega) only [L17, hd, e1, e2, dT_lt, dF_lt, dT_le, dF_le, dT_eq, dF_eq, push_cast, ↓reduceIte, Nat.reduceEqDiff, reduceCtorEq, Nat.reduceAdd, Nat.reduceSub, Nat.reduceMul, Nat.reduceLeDiff, Nat.reduceLT, Nat.reduceMod, Nat.reduceDiv, Int.reduceToNat, Int.reduceLT, Int.reduceLE, Int.reduceEq, Int.reduceAdd, Int.reduceSub, Int.reduceNeg, Int.reduceMul, Bool.and_self] | split)
  rfl
theorem unR_not_no (hw : wOk w) (h : ¬ isB a) (H : AHeap) : Comp' 17 [int w, str notS, int a] H (unA 0 2) := by
  refine enter Try.func17 L17_ok (Nat.le_of_ble_eq_true rfl) ?_
  have hd : decide (wOk w) = true := by simp [hw]
  have e3 : decide (isB a) = false := by simp [h]
  repeat' (first | (refine And.intro (by omega) ?_) | (refine callF_pure (widthR _ _) ?_) | (refine callF_pure (isBitR _ _) ?_) | (refine callQF_pure (widthR _ _) rfl ?_) | (refine callQF_pure (isBitR _ _) rfl ?_) | simp -implicitDefEqProofs (disch := omega) only [L17, hd, e3, dT_lt, dF_lt, dT_le, dF_le, dT_eq, dF_eq, push_cast, ↓reduceIte, Nat.reduceEqDiff, reduceCtorEq, Nat.reduceAdd, Nat.reduceSub, Nat.reduceMul, Nat.reduceLeDiff, Nat.reduceLT, Nat.reduceMod, Nat.reduceDiv, Int.reduceToNat, Int.reduceLT, Int.reduceLE, Int.reduceEq, Int.reduceAdd, Int.reduceSub, Int.reduceNeg, Int.reduceMul, Bool.and_self] | split)
  all_goals first | rfl | (exfalso; rename_i h; revert h; decide)
theorem unR_not (hw : wOk w) (h : isB a) (H : AHeap) : Comp' 17 [int w, str notS, int a] H (unA (1 - a) 0) := by
  refine enter Try.func17 L17_ok (Nat.le_of_ble_eq_true rfl) ?_
  have hd : decide (wOk w) = true := by simp [hw]
  have e3 : decide (isB a) = true := by simp [h]
  have e5 : IntKind.i64.wrap (1 - a) = 1 - a := wrap64_of _ (by rcases h with rfl | rfl <;> decide) (by rcases h with rfl | rfl <;> decide)
  repeat' (first | (refine And.intro (by omega) ?_) | (refine callF_pure (widthR _ _) ?_) | (refine callF_pure (isBitR _ _) ?_) | (refine callQF_pure (widthR _ _) rfl ?_) | (refine callQF_pure (isBitR _ _) rfl ?_) | simp -implicitDefEqProofs (disch := omega) only [L17, hd, e3, e5, dT_lt, dF_lt, dT_le, dF_le, dT_eq, dF_eq, push_cast, ↓reduceIte, Nat.reduceEqDiff, reduceCtorEq, Nat.reduceAdd, Nat.reduceSub, Nat.reduceMul, Nat.reduceLeDiff, Nat.reduceLT, Nat.reduceMod, Nat.reduceDiv, Int.reduceToNat, Int.reduceLT, Int.reduceLE, Int.reduceEq, Int.reduceAdd, Int.reduceSub, Int.reduceNeg, Int.reduceMul, Bool.and_self] | split)
  all_goals first | rfl | (exfalso; rename_i h; revert h; decide)
theorem unR_neg_no (hw : wOk w) (h : ¬ inI w a) (H : AHeap) : Comp' 17 [int w, str [45], int a] H (unA 0 2) := by
  refine enter Try.func17 L17_ok (Nat.le_of_ble_eq_true rfl) ?_
  have hd : decide (wOk w) = true := by simp [hw]
  have e4 : decide (inI w a) = false := by simp [h]
  repeat' (first | (refine And.intro (by omega) ?_) | (refine callF_pure (widthR _ _) ?_) | (refine callF_pure (isIntR _ _ _) ?_) | (refine callQF_pure (widthR _ _) rfl ?_) | (refine callQF_pure (isIntR _ _ _) rfl ?_) | simp -implicitDefEqProofs (disch := omega) only [L17, hd, e4, dT_lt, dF_lt, dT_le, dF_le, dT_eq, dF_eq, push_cast, ↓reduceIte, Nat.reduceEqDiff, reduceCtorEq, Nat.reduceAdd, Nat.reduceSub, Nat.reduceMul, Nat.reduceLeDiff, Nat.reduceLT, Nat.reduceMod, Nat.reduceDiv, Int.reduceToNat, Int.reduceLT, Int.reduceLE, Int.reduceEq, Int.reduceAdd, Int.reduceSub, Int.reduceNeg, Int.reduceMul, Bool.and_self] | split)
  all_goals first | rfl | (exfalso; rename_i h; revert h; decide)
theorem unR_neg (hw : wOk w) (h : inI w a) (H : AHeap) : Comp' 17 [int w, str [45], int a] H (unA (wrF w (-a)) 0) := by
  refine enter Try.func17 L17_ok (Nat.le_of_ble_eq_true rfl) ?_
  have hd : decide (wOk w) = true := by simp [hw]
  have e4 : decide (inI w a) = true := by simp [h]
  have h1 := inI_lt hw h
  have e5 : 0 - a = -a := by omega
  have hr : i64R (-a) := by unfold i64R; omega
  repeat' (first | (refine And.intro (by omega) ?_) | (refine callF_pure (widthR _ _) ?_) | (refine callF_pure (isIntR _ _ _) ?_) | (refine callF_pure (wrapR w (-a) hr _) ?_) | (refine callQF_pure (widthR _ _) rfl ?_) | (refine callQF_pure (isIntR _ _ _) rfl ?_) | (refine callQF_pure (wrapR w (-a) hr _) rfl ?_) | simp -implicitDefEqProofs (disch := omega) only [L17, hd, e4, e5, dT_lt, dF_lt, dT_le, dF_le, dT_eq, dF_eq, push_cast, ↓reduceIte, Nat.reduceEqDiff, reduceCtorEq, Nat.reduceAdd, Nat.reduceSub, Nat.reduceMul, Nat.reduceLeDiff, Nat.reduceLT, Nat.reduceMod, Nat.reduceDiv, Int.reduceToNat, Int.reduceLT, Int.reduceLE, Int.reduceEq, Int.reduceAdd, Int.reduceSub, Int.reduceNeg, Int.reduceMul, Bool.and_self] | split)
  all_goals first | rfl | (exfalso; rename_i h; revert h; decide)
end
end Go.Proofs.Ytdgmlepakippmaa
