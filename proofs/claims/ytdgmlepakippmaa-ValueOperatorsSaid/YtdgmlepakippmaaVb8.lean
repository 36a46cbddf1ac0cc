/- Values: the reference's Binary; both Binaries as one function. -/
import Derived.Test.YtdgmlepakippmaaVb7
import Derived.Test.YtdgmlepakippmaaVb3
import Derived.Test.YtdgmlepakippmaaLx2
namespace Go.Proofs.Ytdgmlepakippmaa
open Go Go.Ax
set_option maxRecDepth 100000
set_option linter.unusedSimpArgs false
set_option linter.unusedVariables false

theorem u8lit {a b : UInt8} : (a = b) = (a.toNat = b.toNat) := by rw [UInt8.toNat_inj]
section
variable {w a b : Int} {o : List UInt8}
theorem binR_width (h : ¬ wOk w) (H : AHeap) : Comp' 15 [int w, str o, int a, int b] H (binA 0 0 2) := by
  refine enter Try.func15 L15_ok (Nat.le_of_ble_eq_true rfl) ?_
  have hd : decide (wOk w) = false := by simp [h]
  repeat' (first | (refine And.intro (by omega) ?_) | (refine callF_pure (widthR _ _) ?_) | (refine callQF_pure (widthR _ _) rfl ?_) | simp -implicitDefEqProofs (disch := omega) only [L15, hd, dT_lt, dF_lt, dT_le, dF_le, dT_eq, dF_eq, push_cast, ↓reduceIte, Nat.reduceEqDiff, reduceCtorEq, Nat.reduceAdd, Nat.reduceSub, Nat.reduceMul, Nat.reduceLeDiff, Nat.reduceLT, Nat.reduceMod, Nat.reduceDiv, Int.reduceToNat, Int.reduceLT, Int.reduceLE, Int.reduceEq, Int.reduceAdd, Int.reduceSub, Int.reduceNeg, Int.reduceMul, Bool.and_self] | split)
  rfl
theorem hasOp (H : AHeap) : Comp 38 [.sl 1 (strs opL), str o] H (bool (decide (o ∈ opL))) := hasR opL o H (by decide)
theorem binR_op (hw : wOk w) (h : ¬ o ∈ opL) (H : AHeap) : Comp' 15 [int w, str o, int a, int b] H (binA 0 0 1) := by
  refine enter Try.func15 L15_ok (Nat.le_of_ble_eq_true rfl) ?_
  have hd : decide (wOk w) = true := by simp [hw]
  have ho : decide (o ∈ opL) = false := by simp [h]
  repeat' (first | (refine And.intro (by omega) ?_) | (refine callF_pure (widthR _ _) ?_) | (refine callF_pure (hasOp _) ?_) | (refine callQF_pure (widthR _ _) rfl ?_) | (refine callQF_pure (hasOp _) rfl ?_) | simp -implicitDefEqProofs (disch := omega) only [L15, hd, ho, dT_lt, dF_lt, dT_le, dF_le, dT_eq, dF_eq, push_cast, ↓reduceIte, Nat.reduceEqDiff, reduceCtorEq, Nat.reduceAdd, Nat.reduceSub, Nat.reduceMul, Nat.reduceLeDiff, Nat.reduceLT, Nat.reduceMod, Nat.reduceDiv, Int.reduceToNat, Int.reduceLT, Int.reduceLE, Int.reduceEq, Int.reduceAdd, Int.reduceSub, Int.reduceNeg, Int.reduceMul, Bool.and_self] | split)
  rfl
theorem binR_range (hw : wOk w) (h : o ∈ opL) (h1 : ¬ o = andS) (h2 : ¬ o = orS) (hh : ¬ inI w a ∨ ¬ inI w b) (H : AHeap) : Comp' 15 [int w, str o, int a, int b] H (binA 0 0 2) := by
  refine enter Try.func15 L15_ok (Nat.le_of_ble_eq_true rfl) ?_
  have hd : decide (wOk w) = true := by simp [hw]
  have ho : decide (o ∈ opL) = true := by simp [h]
  have e1 : decide (o = andS) = false := by simp [h1]
  have e2 : decide (o = orS) = false := by simp [h2]
  by_cases ha : inI w a
  · have hb : ¬ inI w b := by simpa [ha] using hh
    have e3 : decide (inI w a) = true := by simp [ha]
    have e4 : decide (inI w b) = false := by simp [hb]
    repeat' (first | (refine And.intro (by omega) ?_) | (refine callF_pure (widthR _ _) ?_) | (refine callF_pure (hasOp _) ?_) | (refine callF_pure (isIntR _ _ _) ?_) | (refine callQF_pure (widthR _ _) rfl ?_) | (refine callQF_pure (hasOp _) rfl ?_) | (refine callQF_pure (isIntR _ _ _) rfl ?_) | simp -implicitDefEqProofs (disch := omega) only [L15, hd, ho, e1, e2, e3, e4, dT_lt, dF_lt, dT_le, dF_le, dT_eq, dF_eq, push_cast, ↓reduceIte, Nat.reduceEqDiff, reduceCtorEq, Nat.reduceAdd, Nat.reduceSub, Nat.reduceMul, Nat.reduceLeDiff, Nat.reduceLT, Nat.reduceMod, Nat.reduceDiv, Int.reduceToNat, Int.reduceLT, Int.reduceLE, Int.reduceEq, Int.reduceAdd, Int.reduceSub, Int.reduceNeg, Int.reduceMul, Bool.and_self] | split)
    rfl
  · have e3 : decide (inI w a) = false := by simp [ha]
    repeat' (first | (refine And.intro (by omega) ?_) | (refine callF_pure (widthR _ _) ?_) | (refine callF_pure (hasOp _) ?_) | (refine callF_pure (isIntR _ _ _) ?_) | (refine callQF_pure (widthR _ _) rfl ?_) | (refine callQF_pure (hasOp _) rfl ?_) | (refine callQF_pure (isIntR _ _ _) rfl ?_) | simp -implicitDefEqProofs (disch := omega) only [L15, hd, ho, e1, e2, e3, dT_lt, dF_lt, dT_le, dF_le, dT_eq, dF_eq, push_cast, ↓reduceIte, Nat.reduceEqDiff, reduceCtorEq, Nat.reduceAdd, Nat.reduceSub, Nat.reduceMul, Nat.reduceLeDiff, Nat.reduceLT, Nat.reduceMod, Nat.reduceDiv, Int.reduceToNat, Int.reduceLT, Int.reduceLE, Int.reduceEq, Int.reduceAdd, Int.reduceSub, Int.reduceNeg, Int.reduceMul, Bool.and_self] | split)
    rfl
theorem binR_add (hw : wOk w) (ha : inI w a) (hb : inI w b) (H : AHeap) : Comp' 15 [int w, str [43], int a, int b] H (binA (wrF w (a + b)) 0 0) := by
  refine enter Try.func15 L15_ok (Nat.le_of_ble_eq_true rfl) ?_
  have hd : decide (wOk w) = true := by simp [hw]
  have ho : decide ([43] ∈ opL) = true := by decide
  have e3 : decide (inI w a) = true := by simp [ha]
  have e4 : decide (inI w b) = true := by simp [hb]
  have h1 := inI_lt hw ha
  have h2 := inI_lt hw hb
  have hr : i64R (a + b) := by unfold i64R; omega
  have ew : IntKind.i64.wrap (a + b) = a + b := wrap64_of _ (by omega) (by omega)
  repeat' (first | (refine And.intro (by omega) ?_) | (refine callF_pure (widthR _ _) ?_) | (refine callF_pure (hasOp _) ?_) | (refine callF_pure (isIntR _ _ _) ?_) | (refine callF_pure (wrapR w (a + b) hr _) ?_) | (refine callQF_pure (widthR _ _) rfl ?_) | (refine callQF_pure (hasOp _) rfl ?_) | (refine callQF_pure (isIntR _ _ _) rfl ?_) | (refine callQF_pure (wrapR w (a + b) hr _) rfl ?_) | simp -implicitDefEqProofs (disch := omega) only [L15, hd, ho, e3, e4, ew, List.cons.injEq, u8lit, UInt8.reduceToNat, List.nil_eq, dT_lt, dF_lt, dT_le, dF_le, dT_eq, dF_eq, push_cast, ↓reduceIte, Nat.reduceEqDiff, reduceCtorEq, Nat.reduceAdd, Nat.reduceSub, Nat.reduceMul, Nat.reduceLeDiff, Nat.reduceLT, Nat.reduceMod, Nat.reduceDiv, Int.reduceToNat, Int.reduceLT, Int.reduceLE, Int.reduceEq, Int.reduceAdd, Int.reduceSub, Int.reduceNeg, Int.reduceMul, Bool.and_self] | split)
  rfl
theorem binR_sub (hw : wOk w) (ha : inI w a) (hb : inI w b) (H : AHeap) : Comp' 15 [int w, str [45], int a, int b] H (binA (wrF w (a - b)) 0 0) := by
  refine enter Try.func15 L15_ok (Nat.le_of_ble_eq_true rfl) ?_
  have hd : decide (wOk w) = true := by simp [hw]
  have ho : decide ([45] ∈ opL) = true := by decide
  have e3 : decide (inI w a) = true := by simp [ha]
  have e4 : decide (inI w b) = true := by simp [hb]
  have h1 := inI_lt hw ha
  have h2 := inI_lt hw hb
  have hr : i64R (a - b) := by unfold i64R; omega
  have ew : IntKind.i64.wrap (a - b) = a - b := wrap64_of _ (by omega) (by omega)
  repeat' (first | (refine And.intro (by omega) ?_) | (refine callF_pure (widthR _ _) ?_) | (refine callF_pure (hasOp _) ?_) | (refine callF_pure (isIntR _ _ _) ?_) | (refine callF_pure (wrapR w (a - b) hr _) ?_) | (refine callQF_pure (widthR _ _) rfl ?_) | (refine callQF_pure (hasOp _) rfl ?_) | (refine callQF_pure (isIntR _ _ _) rfl ?_) | (refine callQF_pure (wrapR w (a - b) hr _) rfl ?_) | simp -implicitDefEqProofs (disch := omega) only [L15, hd, ho, e3, e4, ew, List.cons.injEq, u8lit, UInt8.reduceToNat, List.nil_eq, dT_lt, dF_lt, dT_le, dF_le, dT_eq, dF_eq, push_cast, ↓reduceIte, Nat.reduceEqDiff, reduceCtorEq, Nat.reduceAdd, Nat.reduceSub, Nat.reduceMul, Nat.reduceLeDiff, Nat.reduceLT, Nat.reduceMod, Nat.reduceDiv, Int.reduceToNat, Int.reduceLT, Int.reduceLE, Int.reduceEq, Int.reduceAdd, Int.reduceSub, Int.reduceNeg, Int.reduceMul, Bool.and_self] | split)
  rfl
theorem binR_mul (hw : wOk w) (ha : inI w a) (hb : inI w b) (H : AHeap) : Comp' 15 [int w, str [42], int a, int b] H (binA (wrF w (a * b)) 0 0) := by
  refine enter Try.func15 L15_ok (Nat.le_of_ble_eq_true rfl) ?_
  have hd : decide (wOk w) = true := by simp [hw]
  have ho : decide ([42] ∈ opL) = true := by decide
  have e3 : decide (inI w a) = true := by simp [ha]
  have e4 : decide (inI w b) = true := by simp [hb]
  have h1 := inI_lt hw ha
  have h2 := inI_lt hw hb
  have h3 := mul_small (a := a) (b := b) (by omega) (by omega) (by omega) (by omega)
  have hr : i64R (a * b) := by unfold i64R; omega
  have ew : IntKind.i64.wrap (a * b) = a * b := wrap64_of _ (by omega) (by omega)
  repeat' (first | (refine And.intro (by omega) ?_) | (refine callF_pure (widthR _ _) ?_) | (refine callF_pure (hasOp _) ?_) | (refine callF_pure (isIntR _ _ _) ?_) | (refine callF_pure (wrapR w (a * b) hr _) ?_) | (refine callQF_pure (widthR _ _) rfl ?_) | (refine callQF_pure (hasOp _) rfl ?_) | (refine callQF_pure (isIntR _ _ _) rfl ?_) | (refine callQF_pure (wrapR w (a * b) hr _) rfl ?_) | simp -implicitDefEqProofs (disch := omega) only [L15, hd, ho, e3, e4, ew, List.cons.injEq, u8lit, UInt8.reduceToNat, List.nil_eq, dT_lt, dF_lt, dT_le, dF_le, dT_eq, dF_eq, push_cast, ↓reduceIte, Nat.reduceEqDiff, reduceCtorEq, Nat.reduceAdd, Nat.reduceSub, Nat.reduceMul, Nat.reduceLeDiff, Nat.reduceLT, Nat.reduceMod, Nat.reduceDiv, Int.reduceToNat, Int.reduceLT, Int.reduceLE, Int.reduceEq, Int.reduceAdd, Int.reduceSub, Int.reduceNeg, Int.reduceMul, Bool.and_self] | split)
  rfl
theorem binR_eq (hw : wOk w) (ha : inI w a) (hb : inI w b) (H : AHeap) : Comp' 15 [int w, str [61, 61], int a, int b] H (binA (if a = b then 1 else 0) 0 0) := by
  refine enter Try.func15 L15_ok (Nat.le_of_ble_eq_true rfl) ?_
  have hd : decide (wOk w) = true := by simp [hw]
  have ho : decide ([61, 61] ∈ opL) = true := by decide
  have e3 : decide (inI w a) = true := by simp [ha]
  have e4 : decide (inI w b) = true := by simp [hb]
  by_cases hc : a = b
  · rw [if_pos hc]
    repeat' (first | (refine And.intro (by omega) ?_) | (refine callF_pure (widthR _ _) ?_) | (refine callF_pure (hasOp _) ?_) | (refine callF_pure (isIntR _ _ _) ?_) | (refine callF_pure (bitR _ _) ?_) | (refine callQF_pure (widthR _ _) rfl ?_) | (refine callQF_pure (hasOp _) rfl ?_) | (refine callQF_pure (isIntR _ _ _) rfl ?_) | (refine callQF_pure (bitR _ _) rfl ?_) | simp -implicitDefEqProofs (disch := omega) only [L15, hd, ho, e3, e4, List.cons.injEq, u8lit, UInt8.reduceToNat, List.nil_eq, dT_lt, dF_lt, dT_le, dF_le, dT_eq, dF_eq, push_cast, ↓reduceIte, Nat.reduceEqDiff, reduceCtorEq, Nat.reduceAdd, Nat.reduceSub, Nat.reduceMul, Nat.reduceLeDiff, Nat.reduceLT, Nat.reduceMod, Nat.reduceDiv, Int.reduceToNat, Int.reduceLT, Int.reduceLE, Int.reduceEq, Int.reduceAdd, Int.reduceSub, Int.reduceNeg, Int.reduceMul, Bool.and_self] | split)
    rfl
  · rw [if_neg hc]
    repeat' (first | (refine And.intro (by omega) ?_) | (refine callF_pure (widthR _ _) ?_) | (refine callF_pure (hasOp _) ?_) | (refine callF_pure (isIntR _ _ _) ?_) | (refine callF_pure (bitR _ _) ?_) | (refine callQF_pure (widthR _ _) rfl ?_) | (refine callQF_pure (hasOp _) rfl ?_) | (refine callQF_pure (isIntR _ _ _) rfl ?_) | (refine callQF_pure (bitR _ _) rfl ?_) | simp -implicitDefEqProofs (disch := omega) only [L15, hd, ho, e3, e4, List.cons.injEq, u8lit, UInt8.reduceToNat, List.nil_eq, dT_lt, dF_lt, dT_le, dF_le, dT_eq, dF_eq, push_cast, ↓reduceIte, Nat.reduceEqDiff, reduceCtorEq, Nat.reduceAdd, Nat.reduceSub, Nat.reduceMul, Nat.reduceLeDiff, Nat.reduceLT, Nat.reduceMod, Nat.reduceDiv, Int.reduceToNat, Int.reduceLT, Int.reduceLE, Int.reduceEq, Int.reduceAdd, Int.reduceSub, Int.reduceNeg, Int.reduceMul, Bool.and_self] | split)
    rfl
theorem binR_ne (hw : wOk w) (ha : inI w a) (hb : inI w b) (H : AHeap) : Comp' 15 [int w, str [33, 61], int a, int b] H (binA (if a = b then 0 else 1) 0 0) := by
  refine enter Try.func15 L15_ok (Nat.le_of_ble_eq_true rfl) ?_
  have hd : decide (wOk w) = true := by simp [hw]
  have ho : decide ([33, 61] ∈ opL) = true := by decide
  have e3 : decide (inI w a) = true := by simp [ha]
  have e4 : decide (inI w b) = true := by simp [hb]
  by_cases hc : a = b
  · rw [if_pos hc]
    repeat' (first | (refine And.intro (by omega) ?_) | (refine callF_pure (widthR _ _) ?_) | (refine callF_pure (hasOp _) ?_) | (refine callF_pure (isIntR _ _ _) ?_) | (refine callF_pure (bitR _ _) ?_) | (refine callQF_pure (widthR _ _) rfl ?_) | (refine callQF_pure (hasOp _) rfl ?_) | (refine callQF_pure (isIntR _ _ _) rfl ?_) | (refine callQF_pure (bitR _ _) rfl ?_) | simp -implicitDefEqProofs (disch := omega) only [L15, hd, ho, e3, e4, List.cons.injEq, u8lit, UInt8.reduceToNat, List.nil_eq, dT_lt, dF_lt, dT_le, dF_le, dT_eq, dF_eq, push_cast, ↓reduceIte, Nat.reduceEqDiff, reduceCtorEq, Nat.reduceAdd, Nat.reduceSub, Nat.reduceMul, Nat.reduceLeDiff, Nat.reduceLT, Nat.reduceMod, Nat.reduceDiv, Int.reduceToNat, Int.reduceLT, Int.reduceLE, Int.reduceEq, Int.reduceAdd, Int.reduceSub, Int.reduceNeg, Int.reduceMul, Bool.and_self] | split)
    rfl
  · rw [if_neg hc]
    repeat' (first | (refine And.intro (by omega) ?_) | (refine callF_pure (widthR _ _) ?_) | (refine callF_pure (hasOp _) ?_) | (refine callF_pure (isIntR _ _ _) ?_) | (refine callF_pure (bitR _ _) ?_) | (refine callQF_pure (widthR _ _) rfl ?_) | (refine callQF_pure (hasOp _) rfl ?_) | (refine callQF_pure (isIntR _ _ _) rfl ?_) | (refine callQF_pure (bitR _ _) rfl ?_) | simp -implicitDefEqProofs (disch := omega) only [L15, hd, ho, e3, e4, List.cons.injEq, u8lit, UInt8.reduceToNat, List.nil_eq, dT_lt, dF_lt, dT_le, dF_le, dT_eq, dF_eq, push_cast, ↓reduceIte, Nat.reduceEqDiff, reduceCtorEq, Nat.reduceAdd, Nat.reduceSub, Nat.reduceMul, Nat.reduceLeDiff, Nat.reduceLT, Nat.reduceMod, Nat.reduceDiv, Int.reduceToNat, Int.reduceLT, Int.reduceLE, Int.reduceEq, Int.reduceAdd, Int.reduceSub, Int.reduceNeg, Int.reduceMul, Bool.and_self] | split)
    rfl
theorem binR_lt (hw : wOk w) (ha : inI w a) (hb : inI w b) (H : AHeap) : Comp' 15 [int w, str [60], int a, int b] H (binA (if a < b then 1 else 0) 0 0) := by
  refine enter Try.func15 L15_ok (Nat.le_of_ble_eq_true rfl) ?_
  have hd : decide (wOk w) = true := by simp [hw]
  have ho : decide ([60] ∈ opL) = true := by decide
  have e3 : decide (inI w a) = true := by simp [ha]
  have e4 : decide (inI w b) = true := by simp [hb]
  by_cases hc : a < b
  · rw [if_pos hc]
    repeat' (first | (refine And.intro (by omega) ?_) | (refine callF_pure (widthR _ _) ?_) | (refine callF_pure (hasOp _) ?_) | (refine callF_pure (isIntR _ _ _) ?_) | (refine callF_pure (bitR _ _) ?_) | (refine callQF_pure (widthR _ _) rfl ?_) | (refine callQF_pure (hasOp _) rfl ?_) | (refine callQF_pure (isIntR _ _ _) rfl ?_) | (refine callQF_pure (bitR _ _) rfl ?_) | simp -implicitDefEqProofs (disch := omega) only [L15, hd, ho, e3, e4, List.cons.injEq, u8lit, UInt8.reduceToNat, List.nil_eq, dT_lt, dF_lt, dT_le, dF_le, dT_eq, dF_eq, push_cast, ↓reduceIte, Nat.reduceEqDiff, reduceCtorEq, Nat.reduceAdd, Nat.reduceSub, Nat.reduceMul, Nat.reduceLeDiff, Nat.reduceLT, Nat.reduceMod, Nat.reduceDiv, Int.reduceToNat, Int.reduceLT, Int.reduceLE, Int.reduceEq, Int.reduceAdd, Int.reduceSub, Int.reduceNeg, Int.reduceMul, Bool.and_self] | split)
    rfl
  · rw [if_neg hc]
    repeat' (first | (refine And.intro (by omega) ?_) | (refine callF_pure (widthR _ _) ?_) | (refine callF_pure (hasOp _) ?_) | (refine callF_pure (isIntR _ _ _) ?_) | (refine callF_pure (bitR _ _) ?_) | (refine callQF_pure (widthR _ _) rfl ?_) | (refine callQF_pure (hasOp _) rfl ?_) | (refine callQF_pure (isIntR _ _ _) rfl ?_) | (refine callQF_pure (bitR _ _) rfl ?_) | simp -implicitDefEqProofs (disch := omega) only [L15, hd, ho, e3, e4, List.cons.injEq, u8lit, UInt8.reduceToNat, List.nil_eq, dT_lt, dF_lt, dT_le, dF_le, dT_eq, dF_eq, push_cast, ↓reduceIte, Nat.reduceEqDiff, reduceCtorEq, Nat.reduceAdd, Nat.reduceSub, Nat.reduceMul, Nat.reduceLeDiff, Nat.reduceLT, Nat.reduceMod, Nat.reduceDiv, Int.reduceToNat, Int.reduceLT, Int.reduceLE, Int.reduceEq, Int.reduceAdd, Int.reduceSub, Int.reduceNeg, Int.reduceMul, Bool.and_self] | split)
    rfl
theorem binR_le (hw : wOk w) (ha : inI w a) (hb : inI w b) (H : AHeap) : Comp' 15 [int w, str [60, 61], int a, int b] H (binA (if a ≤ b then 1 else 0) 0 0) := by
  refine enter Try.func15 L15_ok (Nat.le_of_ble_eq_true rfl) ?_
  have hd : decide (wOk w) = true := by simp [hw]
  have ho : decide ([60, 61] ∈ opL) = true := by decide
  have e3 : decide (inI w a) = true := by simp [ha]
  have e4 : decide (inI w b) = true := by simp [hb]
  by_cases hc : a ≤ b
  · rw [if_pos hc]
    repeat' (first | (refine And.intro (by omega) ?_) | (refine callF_pure (widthR _ _) ?_) | (refine callF_pure (hasOp _) ?_) | (refine callF_pure (isIntR _ _ _) ?_) | (refine callF_pure (bitR _ _) ?_) | (refine callQF_pure (widthR _ _) rfl ?_) | (refine callQF_pure (hasOp _) rfl ?_) | (refine callQF_pure (isIntR _ _ _) rfl ?_) | (refine callQF_pure (bitR _ _) rfl ?_) | simp -implicitDefEqProofs (disch := omega) only [L15, hd, ho, e3, e4, List.cons.injEq, u8lit, UInt8.reduceToNat, List.nil_eq, dT_lt, dF_lt, dT_le, dF_le, dT_eq, dF_eq, push_cast, ↓reduceIte, Nat.reduceEqDiff, reduceCtorEq, Nat.reduceAdd, Nat.reduceSub, Nat.reduceMul, Nat.reduceLeDiff, Nat.reduceLT, Nat.reduceMod, Nat.reduceDiv, Int.reduceToNat, Int.reduceLT, Int.reduceLE, Int.reduceEq, Int.reduceAdd, Int.reduceSub, Int.reduceNeg, Int.reduceMul, Bool.and_self] | split)
    rfl
  · rw [if_neg hc]
    repeat' (first | (refine And.intro (by omega) ?_) | (refine callF_pure (widthR _ _) ?_) | (refine callF_pure (hasOp _) ?_) | (refine callF_pure (isIntR _ _ _) ?_) | (refine callF_pure (bitR _ _) ?_) | (refine callQF_pure (widthR _ _) rfl ?_) | (refine callQF_pure (hasOp _) rfl ?_) | (refine callQF_pure (isIntR _ _ _) rfl ?_) | (refine callQF_pure (bitR _ _) rfl ?_) | simp -implicitDefEqProofs (disch := omega) only [L15, hd, ho, e3, e4, List.cons.injEq, u8lit, UInt8.reduceToNat, List.nil_eq, dT_lt, dF_lt, dT_le, dF_le, dT_eq, dF_eq, push_cast, ↓reduceIte, Nat.reduceEqDiff, reduceCtorEq, Nat.reduceAdd, Nat.reduceSub, Nat.reduceMul, Nat.reduceLeDiff, Nat.reduceLT, Nat.reduceMod, Nat.reduceDiv, Int.reduceToNat, Int.reduceLT, Int.reduceLE, Int.reduceEq, Int.reduceAdd, Int.reduceSub, Int.reduceNeg, Int.reduceMul, Bool.and_self] | split)
    rfl
theorem binR_gt (hw : wOk w) (ha : inI w a) (hb : inI w b) (H : AHeap) : Comp' 15 [int w, str [62], int a, int b] H (binA (if b < a then 1 else 0) 0 0) := by
  refine enter Try.func15 L15_ok (Nat.le_of_ble_eq_true rfl) ?_
  have hd : decide (wOk w) = true := by simp [hw]
  have ho : decide ([62] ∈ opL) = true := by decide
  have e3 : decide (inI w a) = true := by simp [ha]
  have e4 : decide (inI w b) = true := by simp [hb]
  by_cases hc : b < a
  · rw [if_pos hc]
    repeat' (first | (refine And.intro (by omega) ?_) | (refine callF_pure (widthR _ _) ?_) | (refine callF_pure (hasOp _) ?_) | (refine callF_pure (isIntR _ _ _) ?_) | (refine callF_pure (bitR _ _) ?_) | (refine callQF_pure (widthR _ _) rfl ?_) | (refine callQF_pure (hasOp _) rfl ?_) | (refine callQF_pure (isIntR _ _ _) rfl ?_) | (refine callQF_pure (bitR _ _) rfl ?_) | simp -implicitDefEqProofs (disch := omega) only [L15, hd, ho, e3, e4, List.cons.injEq, u8lit, UInt8.reduceToNat, List.nil_eq, dT_lt, dF_lt, dT_le, dF_le, dT_eq, dF_eq, push_cast, ↓reduceIte, Nat.reduceEqDiff, reduceCtorEq, Nat.reduceAdd, Nat.reduceSub, Nat.reduceMul, Nat.reduceLeDiff, Nat.reduceLT, Nat.reduceMod, Nat.reduceDiv, Int.reduceToNat, Int.reduceLT, Int.reduceLE, Int.reduceEq, Int.reduceAdd, Int.reduceSub, Int.reduceNeg, Int.reduceMul, Bool.and_self] | split)
    rfl
  · rw [if_neg hc]
    repeat' (first | (refine And.intro (by omega) ?_) | (refine callF_pure (widthR _ _) ?_) | (refine callF_pure (hasOp _) ?_) | (refine callF_pure (isIntR _ _ _) ?_) | (refine callF_pure (bitR _ _) ?_) | (refine callQF_pure (widthR _ _) rfl ?_) | (refine callQF_pure (hasOp _) rfl ?_) | (refine callQF_pure (isIntR _ _ _) rfl ?_) | (refine callQF_pure (bitR _ _) rfl ?_) | simp -implicitDefEqProofs (disch := omega) only [L15, hd, ho, e3, e4, List.cons.injEq, u8lit, UInt8.reduceToNat, List.nil_eq, dT_lt, dF_lt, dT_le, dF_le, dT_eq, dF_eq, push_cast, ↓reduceIte, Nat.reduceEqDiff, reduceCtorEq, Nat.reduceAdd, Nat.reduceSub, Nat.reduceMul, Nat.reduceLeDiff, Nat.reduceLT, Nat.reduceMod, Nat.reduceDiv, Int.reduceToNat, Int.reduceLT, Int.reduceLE, Int.reduceEq, Int.reduceAdd, Int.reduceSub, Int.reduceNeg, Int.reduceMul, Bool.and_self] | split)
    rfl
theorem binR_ge (hw : wOk w) (ha : inI w a) (hb : inI w b) (H : AHeap) : Comp' 15 [int w, str [62, 61], int a, int b] H (binA (if b ≤ a then 1 else 0) 0 0) := by
  refine enter Try.func15 L15_ok (Nat.le_of_ble_eq_true rfl) ?_
  have hd : decide (wOk w) = true := by simp [hw]
  have ho : decide ([62, 61] ∈ opL) = true := by decide
  have e3 : decide (inI w a) = true := by simp [ha]
  have e4 : decide (inI w b) = true := by simp [hb]
  by_cases hc : b ≤ a
  · rw [if_pos hc]
    repeat' (first | (refine And.intro (by omega) ?_) | (refine callF_pure (widthR _ _) ?_) | (refine callF_pure (hasOp _) ?_) | (refine callF_pure (isIntR _ _ _) ?_) | (refine callF_pure (bitR _ _) ?_) | (refine callQF_pure (widthR _ _) rfl ?_) | (refine callQF_pure (hasOp _) rfl ?_) | (refine callQF_pure (isIntR _ _ _) rfl ?_) | (refine callQF_pure (bitR _ _) rfl ?_) | simp -implicitDefEqProofs (disch := omega) only [L15, hd, ho, e3, e4, List.cons.injEq, u8lit, UInt8.reduceToNat, List.nil_eq, dT_lt, dF_lt, dT_le, dF_le, dT_eq, dF_eq, push_cast, ↓reduceIte, Nat.reduceEqDiff, reduceCtorEq, Nat.reduceAdd, Nat.reduceSub, Nat.reduceMul, Nat.reduceLeDiff, Nat.reduceLT, Nat.reduceMod, Nat.reduceDiv, Int.reduceToNat, Int.reduceLT, Int.reduceLE, Int.reduceEq, Int.reduceAdd, Int.reduceSub, Int.reduceNeg, Int.reduceMul, Bool.and_self] | split)
    rfl
  · rw [if_neg hc]
    repeat' (first | (refine And.intro (by omega) ?_) | (refine callF_pure (widthR _ _) ?_) | (refine callF_pure (hasOp _) ?_) | (refine callF_pure (isIntR _ _ _) ?_) | (refine callF_pure (bitR _ _) ?_) | (refine callQF_pure (widthR _ _) rfl ?_) | (refine callQF_pure (hasOp _) rfl ?_) | (refine callQF_pure (isIntR _ _ _) rfl ?_) | (refine callQF_pure (bitR _ _) rfl ?_) | simp -implicitDefEqProofs (disch := omega) only [L15, hd, ho, e3, e4, List.cons.injEq, u8lit, UInt8.reduceToNat, List.nil_eq, dT_lt, dF_lt, dT_le, dF_le, dT_eq, dF_eq, push_cast, ↓reduceIte, Nat.reduceEqDiff, reduceCtorEq, Nat.reduceAdd, Nat.reduceSub, Nat.reduceMul, Nat.reduceLeDiff, Nat.reduceLT, Nat.reduceMod, Nat.reduceDiv, Int.reduceToNat, Int.reduceLT, Int.reduceLE, Int.reduceEq, Int.reduceAdd, Int.reduceSub, Int.reduceNeg, Int.reduceMul, Bool.and_self] | split)
    rfl
theorem binR_quo (hw : wOk w) (ha : inI w a) (hb : inI w b) (hz : b ≠ 0) (H : AHeap) : Comp' 15 [int w, str [47], int a, int b] H (binA (wrF w (a.tdiv b)) 0 0) := by
  refine enter Try.func15 L15_ok (Nat.le_of_ble_eq_true rfl) ?_
  have hd : decide (wOk w) = true := by simp [hw]
  have ho : decide ([47] ∈ opL) = true := by decide
  have e3 : decide (inI w a) = true := by simp [ha]
  have e4 : decide (inI w b) = true := by simp [hb]
  have h1 := inI_lt hw ha
  have h2 : (a.tdiv b).natAbs ≤ a.natAbs := by rw [Int.natAbs_tdiv]; exact Nat.div_le_self _ _
  have hr : i64R (a.tdiv b) := by unfold i64R; omega
  have ew : IntKind.i64.wrap (a.tdiv b) = a.tdiv b := wrap64_of _ (by omega) (by omega)
  repeat' (first | (refine And.intro (by omega) ?_) | (refine callF_pure (widthR _ _) ?_) | (refine callF_pure (hasOp _) ?_) | (refine callF_pure (isIntR _ _ _) ?_) | (refine callF_pure (wrapR w (a.tdiv b) hr _) ?_) | (refine callQF_pure (widthR _ _) rfl ?_) | (refine callQF_pure (hasOp _) rfl ?_) | (refine callQF_pure (isIntR _ _ _) rfl ?_) | (refine callQF_pure (wrapR w (a.tdiv b) hr _) rfl ?_) | simp -implicitDefEqProofs (disch := omega) only [L15, hd, ho, e3, e4, ew, List.cons.injEq, u8lit, UInt8.reduceToNat, List.nil_eq, dT_lt, dF_lt, dT_le, dF_le, dT_eq, dF_eq, push_cast, ↓reduceIte, Nat.reduceEqDiff, reduceCtorEq, Nat.reduceAdd, Nat.reduceSub, Nat.reduceMul, Nat.reduceLeDiff, Nat.reduceLT, Nat.reduceMod, Nat.reduceDiv, Int.reduceToNat, Int.reduceLT, Int.reduceLE, Int.reduceEq, Int.reduceAdd, Int.reduceSub, Int.reduceNeg, Int.reduceMul, Bool.and_self] | split)
  rfl
theorem binR_rem (hw : wOk w) (ha : inI w a) (hb : inI w b) (hz : b ≠ 0) (H : AHeap) : Comp' 15 [int w, str [37], int a, int b] H (binA (a.tmod b) 0 0) := by
  refine enter Try.func15 L15_ok (Nat.le_of_ble_eq_true rfl) ?_
  have hd : decide (wOk w) = true := by simp [hw]
  have ho : decide ([37] ∈ opL) = true := by decide
  have e3 : decide (inI w a) = true := by simp [ha]
  have e4 : decide (inI w b) = true := by simp [hb]
  repeat' (first | (refine And.intro (by omega) ?_) | (refine callF_pure (widthR _ _) ?_) | (refine callF_pure (hasOp _) ?_) | (refine callF_pure (isIntR _ _ _) ?_) | (refine callQF_pure (widthR _ _) rfl ?_) | (refine callQF_pure (hasOp _) rfl ?_) | (refine callQF_pure (isIntR _ _ _) rfl ?_) | simp -implicitDefEqProofs (disch := omega) only [L15, hd, ho, e3, e4, List.cons.injEq, u8lit, UInt8.reduceToNat, List.nil_eq, dT_lt, dF_lt, dT_le, dF_le, dT_eq, dF_eq, push_cast, ↓reduceIte, Nat.reduceEqDiff, reduceCtorEq, Nat.reduceAdd, Nat.reduceSub, Nat.reduceMul, Nat.reduceLeDiff, Nat.reduceLT, Nat.reduceMod, Nat.reduceDiv, Int.reduceToNat, Int.reduceLT, Int.reduceLE, Int.reduceEq, Int.reduceAdd, Int.reduceSub, Int.reduceNeg, Int.reduceMul, Bool.and_self] | split)
  rfl
theorem binR_zero (hw : wOk w) (ho : o = [47] ∨ o = [37]) (ha : inI w a) (hb : inI w 0) (H : AHeap) : Comp' 15 [int w, str o, int a, int 0] H (binA 0 1 0) := by
  refine enter Try.func15 L15_ok (Nat.le_of_ble_eq_true rfl) ?_
  have hd : decide (wOk w) = true := by simp [hw]
  have ho1 : decide ([47] ∈ opL) = true := by decide
  have ho2 : decide ([37] ∈ opL) = true := by decide
  have e3 : decide (inI w a) = true := by simp [ha]
  have e4 : decide (inI w 0) = true := by simp [hb]
  rcases ho with rfl | rfl
  · repeat' (first | (refine And.intro (by omega) ?_) | (refine callF_pure (widthR _ _) ?_) | (refine callF_pure (hasOp _) ?_) | (refine callF_pure (isIntR _ _ _) ?_) | (refine callQF_pure (widthR _ _) rfl ?_) | (refine callQF_pure (hasOp _) rfl ?_) | (refine callQF_pure (isIntR _ _ _) rfl ?_) | simp -implicitDefEqProofs (disch := omega) only [L15, hd, ho1, e3, e4, List.cons.injEq, u8lit, UInt8.reduceToNat, List.nil_eq, dT_lt, dF_lt, dT_le, dF_le, dT_eq, dF_eq, push_cast, ↓reduceIte, Nat.reduceEqDiff, reduceCtorEq, Nat.reduceAdd, Nat.reduceSub, Nat.reduceMul, Nat.reduceLeDiff, Nat.reduceLT, Nat.reduceMod, Nat.reduceDiv, Int.reduceToNat, Int.reduceLT, Int.reduceLE, Int.reduceEq, Int.reduceAdd, Int.reduceSub, Int.reduceNeg, Int.reduceMul, Bool.and_self] | split)
    rfl
  · repeat' (first | (refine And.intro (by omega) ?_) | (refine callF_pure (widthR _ _) ?_) | (refine callF_pure (hasOp _) ?_) | (refine callF_pure (isIntR _ _ _) ?_) | (refine callQF_pure (widthR _ _) rfl ?_) | (refine callQF_pure (hasOp _) rfl ?_) | (refine callQF_pure (isIntR _ _ _) rfl ?_) | simp -implicitDefEqProofs (disch := omega) only [L15, hd, ho2, e3, e4, List.cons.injEq, u8lit, UInt8.reduceToNat, List.nil_eq, dT_lt, dF_lt, dT_le, dF_le, dT_eq, dF_eq, push_cast, ↓reduceIte, Nat.reduceEqDiff, reduceCtorEq, Nat.reduceAdd, Nat.reduceSub, Nat.reduceMul, Nat.reduceLeDiff, Nat.reduceLT, Nat.reduceMod, Nat.reduceDiv, Int.reduceToNat, Int.reduceLT, Int.reduceLE, Int.reduceEq, Int.reduceAdd, Int.reduceSub, Int.reduceNeg, Int.reduceMul, Bool.and_self] | split)
    rfl
theorem binR_and (hw : wOk w) (ha : isB a) (hb : isB b) (H : AHeap) : Comp' 15 [int w, str andS, int a, int b] H (binA (min a b) 0 0) := by
  refine enter Try.func15 L15_ok (Nat.le_of_ble_eq_true rfl) ?_
  have hd : decide (wOk w) = true := by simp [hw]
  have ho : decide (andS ∈ opL) = true := by decide
  have e1 : decide (isB a) = true := by simp [ha]
  have e2 : decide (isB b) = true := by simp [hb]
  have e3 : decide (inI w a) = true := by simp [inI_isB hw ha]
  have e4 : decide (inI w b) = true := by simp [inI_isB hw hb]
  by_cases hc : b < a
  · have em : min a b = b := Int.min_eq_right (by omega)
    rw [em]
    repeat' (first | (refine And.intro (by omega) ?_) | (refine callF_pure (widthR _ _) ?_) | (refine callF_pure (hasOp _) ?_) | (refine callF_pure (isBitR _ _) ?_) | (refine callF_pure (isIntR _ _ _) ?_) | (refine callQF_pure (widthR _ _) rfl ?_) | (refine callQF_pure (hasOp _) rfl ?_) | (refine callQF_pure (isBitR _ _) rfl ?_) | (refine callQF_pure (isIntR _ _ _) rfl ?_) | simp -implicitDefEqProofs (disch := omega) only [L15, hd, ho, e1, e2, e3, e4, List.cons.injEq, u8lit, UInt8.reduceToNat, List.nil_eq, dT_lt, dF_lt, dT_le, dF_le, dT_eq, dF_eq, push_cast, ↓reduceIte, Nat.reduceEqDiff, reduceCtorEq, Nat.reduceAdd, Nat.reduceSub, Nat.reduceMul, Nat.reduceLeDiff, Nat.reduceLT, Nat.reduceMod, Nat.reduceDiv, Int.reduceToNat, Int.reduceLT, Int.reduceLE, Int.reduceEq, Int.reduceAdd, Int.reduceSub, Int.reduceNeg, Int.reduceMul, Bool.and_self] | split)
    all_goals first | rfl | (exfalso; omega) | (have hab : a = b := (by omega); subst hab; rfl)
  · have em : min a b = a := Int.min_eq_left (by omega)
    rw [em]
    repeat' (first | (refine And.intro (by omega) ?_) | (refine callF_pure (widthR _ _) ?_) | (refine callF_pure (hasOp _) ?_) | (refine callF_pure (isBitR _ _) ?_) | (refine callF_pure (isIntR _ _ _) ?_) | (refine callQF_pure (widthR _ _) rfl ?_) | (refine callQF_pure (hasOp _) rfl ?_) | (refine callQF_pure (isBitR _ _) rfl ?_) | (refine callQF_pure (isIntR _ _ _) rfl ?_) | simp -implicitDefEqProofs (disch := omega) only [L15, hd, ho, e1, e2, e3, e4, List.cons.injEq, u8lit, UInt8.reduceToNat, List.nil_eq, dT_lt, dF_lt, dT_le, dF_le, dT_eq, dF_eq, push_cast, ↓reduceIte, Nat.reduceEqDiff, reduceCtorEq, Nat.reduceAdd, Nat.reduceSub, Nat.reduceMul, Nat.reduceLeDiff, Nat.reduceLT, Nat.reduceMod, Nat.reduceDiv, Int.reduceToNat, Int.reduceLT, Int.reduceLE, Int.reduceEq, Int.reduceAdd, Int.reduceSub, Int.reduceNeg, Int.reduceMul, Bool.and_self] | split)
    all_goals first | rfl | (exfalso; omega) | (have hab : a = b := (by omega); subst hab; rfl)
theorem binR_or (hw : wOk w) (ha : isB a) (hb : isB b) (H : AHeap) : Comp' 15 [int w, str orS, int a, int b] H (binA (max a b) 0 0) := by
  refine enter Try.func15 L15_ok (Nat.le_of_ble_eq_true rfl) ?_
  have hd : decide (wOk w) = true := by simp [hw]
  have ho : decide (orS ∈ opL) = true := by decide
  have e1 : decide (isB a) = true := by simp [ha]
  have e2 : decide (isB b) = true := by simp [hb]
  have e3 : decide (inI w a) = true := by simp [inI_isB hw ha]
  have e4 : decide (inI w b) = true := by simp [inI_isB hw hb]
  by_cases hc : b < a
  · have em : max a b = a := Int.max_eq_left (by omega)
    rw [em]
    repeat' (first | (refine And.intro (by omega) ?_) | (refine callF_pure (widthR _ _) ?_) | (refine callF_pure (hasOp _) ?_) | (refine callF_pure (isBitR _ _) ?_) | (refine callF_pure (isIntR _ _ _) ?_) | (refine callQF_pure (widthR _ _) rfl ?_) | (refine callQF_pure (hasOp _) rfl ?_) | (refine callQF_pure (isBitR _ _) rfl ?_) | (refine callQF_pure (isIntR _ _ _) rfl ?_) | simp -implicitDefEqProofs (disch := omega) only [L15, hd, ho, e1, e2, e3, e4, List.cons.injEq, u8lit, UInt8.reduceToNat, List.nil_eq, dT_lt, dF_lt, dT_le, dF_le, dT_eq, dF_eq, push_cast, ↓reduceIte, Nat.reduceEqDiff, reduceCtorEq, Nat.reduceAdd, Nat.reduceSub, Nat.reduceMul, Nat.reduceLeDiff, Nat.reduceLT, Nat.reduceMod, Nat.reduceDiv, Int.reduceToNat, Int.reduceLT, Int.reduceLE, Int.reduceEq, Int.reduceAdd, Int.reduceSub, Int.reduceNeg, Int.reduceMul, Bool.and_self] | split)
    all_goals first | rfl | (exfalso; omega) | (have hab : a = b := (by omega); subst hab; rfl)
  · have em : max a b = b := Int.max_eq_right (by omega)
    rw [em]
    repeat' (first | (refine And.intro (by omega) ?_) | (refine callF_pure (widthR _ _) ?_) | (refine callF_pure (hasOp _) ?_) | (refine callF_pure (isBitR _ _) ?_) | (refine callF_pure (isIntR _ _ _) ?_) | (refine callQF_pure (widthR _ _) rfl ?_) | (refine callQF_pure (hasOp _) rfl ?_) | (refine callQF_pure (isBitR _ _) rfl ?_) | (refine callQF_pure (isIntR _ _ _) rfl ?_) | simp -implicitDefEqProofs (disch := omega) only [L15, hd, ho, e1, e2, e3, e4, List.cons.injEq, u8lit, UInt8.reduceToNat, List.nil_eq, dT_lt, dF_lt, dT_le, dF_le, dT_eq, dF_eq, push_cast, ↓reduceIte, Nat.reduceEqDiff, reduceCtorEq, Nat.reduceAdd, Nat.reduceSub, Nat.reduceMul, Nat.reduceLeDiff, Nat.reduceLT, Nat.reduceMod, Nat.reduceDiv, Int.reduceToNat, Int.reduceLT, Int.reduceLE, Int.reduceEq, Int.reduceAdd, Int.reduceSub, Int.reduceNeg, Int.reduceMul, Bool.and_self] | split)
    all_goals first | rfl | (exfalso; omega) | (have hab : a = b := (by omega); subst hab; rfl)
theorem binR_log_no (hw : wOk w) (ho : o = andS ∨ o = orS) (h : ¬ isB a ∨ ¬ isB b) (H : AHeap) : Comp' 15 [int w, str o, int a, int b] H (binA 0 0 2) := by
  refine enter Try.func15 L15_ok (Nat.le_of_ble_eq_true rfl) ?_
  have hd : decide (wOk w) = true := by simp [hw]
  have ho1 : decide (andS ∈ opL) = true := by decide
  have ho2 : decide (orS ∈ opL) = true := by decide
  by_cases ha : isB a
  · have hb : ¬ isB b := by simpa [ha] using h
    have e3 : decide (isB a) = true := by simp [ha]
    have e4 : decide (isB b) = false := by simp [hb]
    rcases ho with rfl | rfl
    · repeat' (first | (refine And.intro (by omega) ?_) | (refine callF_pure (widthR _ _) ?_) | (refine callF_pure (hasOp _) ?_) | (refine callF_pure (isBitR _ _) ?_) | (refine callQF_pure (widthR _ _) rfl ?_) | (refine callQF_pure (hasOp _) rfl ?_) | (refine callQF_pure (isBitR _ _) rfl ?_) | simp -implicitDefEqProofs (disch := omega) only [L15, hd, ho1, e3, e4, List.cons.injEq, u8lit, UInt8.reduceToNat, List.nil_eq, dT_lt, dF_lt, dT_le, dF_le, dT_eq, dF_eq, push_cast, ↓reduceIte, Nat.reduceEqDiff, reduceCtorEq, Nat.reduceAdd, Nat.reduceSub, Nat.reduceMul, Nat.reduceLeDiff, Nat.reduceLT, Nat.reduceMod, Nat.reduceDiv, Int.reduceToNat, Int.reduceLT, Int.reduceLE, Int.reduceEq, Int.reduceAdd, Int.reduceSub, Int.reduceNeg, Int.reduceMul, Bool.and_self] | split)
      rfl
    · repeat' (first | (refine And.intro (by omega) ?_) | (refine callF_pure (widthR _ _) ?_) | (refine callF_pure (hasOp _) ?_) | (refine callF_pure (isBitR _ _) ?_) | (refine callQF_pure (widthR _ _) rfl ?_) | (refine callQF_pure (hasOp _) rfl ?_) | (refine callQF_pure (isBitR _ _) rfl ?_) | simp -implicitDefEqProofs (disch := omega) only [L15, hd, ho2, e3, e4, List.cons.injEq, u8lit, UInt8.reduceToNat, List.nil_eq, dT_lt, dF_lt, dT_le, dF_le, dT_eq, dF_eq, push_cast, ↓reduceIte, Nat.reduceEqDiff, reduceCtorEq, Nat.reduceAdd, Nat.reduceSub, Nat.reduceMul, Nat.reduceLeDiff, Nat.reduceLT, Nat.reduceMod, Nat.reduceDiv, Int.reduceToNat, Int.reduceLT, Int.reduceLE, Int.reduceEq, Int.reduceAdd, Int.reduceSub, Int.reduceNeg, Int.reduceMul, Bool.and_self] | split)
      rfl
  · have e3 : decide (isB a) = false := by simp [ha]
    rcases ho with rfl | rfl
    · repeat' (first | (refine And.intro (by omega) ?_) | (refine callF_pure (widthR _ _) ?_) | (refine callF_pure (hasOp _) ?_) | (refine callF_pure (isBitR _ _) ?_) | (refine callQF_pure (widthR _ _) rfl ?_) | (refine callQF_pure (hasOp _) rfl ?_) | (refine callQF_pure (isBitR _ _) rfl ?_) | simp -implicitDefEqProofs (disch := omega) only [L15, hd, ho1, e3, List.cons.injEq, u8lit, UInt8.reduceToNat, List.nil_eq, dT_lt, dF_lt, dT_le, dF_le, dT_eq, dF_eq, push_cast, ↓reduceIte, Nat.reduceEqDiff, reduceCtorEq, Nat.reduceAdd, Nat.reduceSub, Nat.reduceMul, Nat.reduceLeDiff, Nat.reduceLT, Nat.reduceMod, Nat.reduceDiv, Int.reduceToNat, Int.reduceLT, Int.reduceLE, Int.reduceEq, Int.reduceAdd, Int.reduceSub, Int.reduceNeg, Int.reduceMul, Bool.and_self] | split)
      rfl
    · repeat' (first | (refine And.intro (by omega) ?_) | (refine callF_pure (widthR _ _) ?_) | (refine callF_pure (hasOp _) ?_) | (refine callF_pure (isBitR _ _) ?_) | (refine callQF_pure (widthR _ _) rfl ?_) | (refine callQF_pure (hasOp _) rfl ?_) | (refine callQF_pure (isBitR _ _) rfl ?_) | simp -implicitDefEqProofs (disch := omega) only [L15, hd, ho2, e3, List.cons.injEq, u8lit, UInt8.reduceToNat, List.nil_eq, dT_lt, dF_lt, dT_le, dF_le, dT_eq, dF_eq, push_cast, ↓reduceIte, Nat.reduceEqDiff, reduceCtorEq, Nat.reduceAdd, Nat.reduceSub, Nat.reduceMul, Nat.reduceLeDiff, Nat.reduceLT, Nat.reduceMod, Nat.reduceDiv, Int.reduceToNat, Int.reduceLT, Int.reduceLE, Int.reduceEq, Int.reduceAdd, Int.reduceSub, Int.reduceNeg, Int.reduceMul, Bool.and_self] | split)
      rfl
end
end Go.Proofs.Ytdgmlepakippmaa
