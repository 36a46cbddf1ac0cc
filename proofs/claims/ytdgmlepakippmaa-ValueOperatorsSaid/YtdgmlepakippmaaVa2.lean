/- Values, part 2: the functions of the operators, and their map. -/
import Derived.Test.YtdgmlepakippmaaVa1
namespace Go.Proofs.Ytdgmlepakippmaa
open Go Go.Ax
set_option maxRecDepth 100000
set_option linter.unusedSimpArgs false
set_option linter.unusedVariables false

theorem op_add (a b : Int) (H : AHeap) : Comp' 60 [int a, int b] H (int (IntKind.i64.wrap (a + b))) := by
  refine enter Try.func60 L60_ok (Nat.le_of_ble_eq_true rfl) ?_
  repeat' (first | (refine And.intro (by omega) ?_) | simp -implicitDefEqProofs (disch := omega) only [L60, dT_lt, dF_lt, dT_le, dF_le, dT_eq, dF_eq, push_cast, ↓reduceIte, Nat.reduceEqDiff, reduceCtorEq, Nat.reduceAdd, Nat.reduceSub, Nat.reduceMul, Nat.reduceLeDiff, Nat.reduceLT, Nat.reduceMod, Nat.reduceDiv, Int.reduceToNat, Int.reduceLT, Int.reduceLE, Int.reduceEq, Int.reduceAdd, Int.reduceSub, Int.reduceNeg, Int.reduceMul, Bool.and_self] | split)
theorem op_sub (a b : Int) (H : AHeap) : Comp' 61 [int a, int b] H (int (IntKind.i64.wrap (a - b))) := by
  refine enter Try.func61 L61_ok (Nat.le_of_ble_eq_true rfl) ?_
  repeat' (first | (refine And.intro (by omega) ?_) | simp -implicitDefEqProofs (disch := omega) only [L61, dT_lt, dF_lt, dT_le, dF_le, dT_eq, dF_eq, push_cast, ↓reduceIte, Nat.reduceEqDiff, reduceCtorEq, Nat.reduceAdd, Nat.reduceSub, Nat.reduceMul, Nat.reduceLeDiff, Nat.reduceLT, Nat.reduceMod, Nat.reduceDiv, Int.reduceToNat, Int.reduceLT, Int.reduceLE, Int.reduceEq, Int.reduceAdd, Int.reduceSub, Int.reduceNeg, Int.reduceMul, Bool.and_self] | split)
theorem op_mul (a b : Int) (H : AHeap) : Comp' 62 [int a, int b] H (int (IntKind.i64.wrap (a * b))) := by
  refine enter Try.func62 L62_ok (Nat.le_of_ble_eq_true rfl) ?_
  repeat' (first | (refine And.intro (by omega) ?_) | simp -implicitDefEqProofs (disch := omega) only [L62, dT_lt, dF_lt, dT_le, dF_le, dT_eq, dF_eq, push_cast, ↓reduceIte, Nat.reduceEqDiff, reduceCtorEq, Nat.reduceAdd, Nat.reduceSub, Nat.reduceMul, Nat.reduceLeDiff, Nat.reduceLT, Nat.reduceMod, Nat.reduceDiv, Int.reduceToNat, Int.reduceLT, Int.reduceLE, Int.reduceEq, Int.reduceAdd, Int.reduceSub, Int.reduceNeg, Int.reduceMul, Bool.and_self] | split)
theorem op_quo (a b : Int) (hb : b ≠ 0) (H : AHeap) : Comp' 63 [int a, int b] H (int (IntKind.i64.wrap (a.tdiv b))) := by
  refine enter Try.func63 L63_ok (Nat.le_of_ble_eq_true rfl) ?_
  repeat' (first | (refine And.intro (by omega) ?_) | simp -implicitDefEqProofs (disch := omega) only [L63, dT_lt, dF_lt, dT_le, dF_le, dT_eq, dF_eq, push_cast, ↓reduceIte, Nat.reduceEqDiff, reduceCtorEq, Nat.reduceAdd, Nat.reduceSub, Nat.reduceMul, Nat.reduceLeDiff, Nat.reduceLT, Nat.reduceMod, Nat.reduceDiv, Int.reduceToNat, Int.reduceLT, Int.reduceLE, Int.reduceEq, Int.reduceAdd, Int.reduceSub, Int.reduceNeg, Int.reduceMul, Bool.and_self] | split)
  exact hb
theorem op_rem (a b : Int) (hb : b ≠ 0) (H : AHeap) : Comp' 64 [int a, int b] H (int (a.tmod b)) := by
  refine enter Try.func64 L64_ok (Nat.le_of_ble_eq_true rfl) ?_
  repeat' (first | (refine And.intro (by omega) ?_) | simp -implicitDefEqProofs (disch := omega) only [L64, dT_lt, dF_lt, dT_le, dF_le, dT_eq, dF_eq, push_cast, ↓reduceIte, Nat.reduceEqDiff, reduceCtorEq, Nat.reduceAdd, Nat.reduceSub, Nat.reduceMul, Nat.reduceLeDiff, Nat.reduceLT, Nat.reduceMod, Nat.reduceDiv, Int.reduceToNat, Int.reduceLT, Int.reduceLE, Int.reduceEq, Int.reduceAdd, Int.reduceSub, Int.reduceNeg, Int.reduceMul, Bool.and_self] | split)
  exact hb
theorem op_eq (a b : Int) (H : AHeap) : Comp' 65 [int a, int b] H (int ((if a = b then 1 else 0))) := by
  refine enter Try.func65 L65_ok (Nat.le_of_ble_eq_true rfl) ?_
  repeat' (first | (refine And.intro (by omega) ?_) | (refine callF_pure (truthC _ _) ?_) | (refine callQF_pure (truthC _ _) rfl ?_) | simp -implicitDefEqProofs (disch := omega) only [L65, dT_lt, dF_lt, dT_le, dF_le, dT_eq, dF_eq, push_cast, ↓reduceIte, Nat.reduceEqDiff, reduceCtorEq, Nat.reduceAdd, Nat.reduceSub, Nat.reduceMul, Nat.reduceLeDiff, Nat.reduceLT, Nat.reduceMod, Nat.reduceDiv, Int.reduceToNat, Int.reduceLT, Int.reduceLE, Int.reduceEq, Int.reduceAdd, Int.reduceSub, Int.reduceNeg, Int.reduceMul, Bool.and_self] | split)
theorem op_ne (a b : Int) (H : AHeap) : Comp' 67 [int a, int b] H (int ((if a = b then 0 else 1))) := by
  refine enter Try.func67 L67_ok (Nat.le_of_ble_eq_true rfl) ?_
  repeat' (first | (refine And.intro (by omega) ?_) | (refine callF_pure (truthC _ _) ?_) | (refine callQF_pure (truthC _ _) rfl ?_) | simp -implicitDefEqProofs (disch := omega) only [L67, dT_lt, dF_lt, dT_le, dF_le, dT_eq, dF_eq, push_cast, ↓reduceIte, Nat.reduceEqDiff, reduceCtorEq, Nat.reduceAdd, Nat.reduceSub, Nat.reduceMul, Nat.reduceLeDiff, Nat.reduceLT, Nat.reduceMod, Nat.reduceDiv, Int.reduceToNat, Int.reduceLT, Int.reduceLE, Int.reduceEq, Int.reduceAdd, Int.reduceSub, Int.reduceNeg, Int.reduceMul, Bool.and_self] | split)
theorem op_lt (a b : Int) (H : AHeap) : Comp' 68 [int a, int b] H (int ((if a < b then 1 else 0))) := by
  refine enter Try.func68 L68_ok (Nat.le_of_ble_eq_true rfl) ?_
  repeat' (first | (refine And.intro (by omega) ?_) | (refine callF_pure (truthC _ _) ?_) | (refine callQF_pure (truthC _ _) rfl ?_) | simp -implicitDefEqProofs (disch := omega) only [L68, dT_lt, dF_lt, dT_le, dF_le, dT_eq, dF_eq, push_cast, ↓reduceIte, Nat.reduceEqDiff, reduceCtorEq, Nat.reduceAdd, Nat.reduceSub, Nat.reduceMul, Nat.reduceLeDiff, Nat.reduceLT, Nat.reduceMod, Nat.reduceDiv, Int.reduceToNat, Int.reduceLT, Int.reduceLE, Int.reduceEq, Int.reduceAdd, Int.reduceSub, Int.reduceNeg, Int.reduceMul, Bool.and_self] | split)
theorem op_le (a b : Int) (H : AHeap) : Comp' 69 [int a, int b] H (int ((if a ≤ b then 1 else 0))) := by
  refine enter Try.func69 L69_ok (Nat.le_of_ble_eq_true rfl) ?_
  repeat' (first | (refine And.intro (by omega) ?_) | (refine callF_pure (truthC _ _) ?_) | (refine callQF_pure (truthC _ _) rfl ?_) | simp -implicitDefEqProofs (disch := omega) only [L69, dT_lt, dF_lt, dT_le, dF_le, dT_eq, dF_eq, push_cast, ↓reduceIte, Nat.reduceEqDiff, reduceCtorEq, Nat.reduceAdd, Nat.reduceSub, Nat.reduceMul, Nat.reduceLeDiff, Nat.reduceLT, Nat.reduceMod, Nat.reduceDiv, Int.reduceToNat, Int.reduceLT, Int.reduceLE, Int.reduceEq, Int.reduceAdd, Int.reduceSub, Int.reduceNeg, Int.reduceMul, Bool.and_self] | split)
theorem op_gt (a b : Int) (H : AHeap) : Comp' 70 [int a, int b] H (int ((if b < a then 1 else 0))) := by
  refine enter Try.func70 L70_ok (Nat.le_of_ble_eq_true rfl) ?_
  repeat' (first | (refine And.intro (by omega) ?_) | (refine callF_pure (truthC _ _) ?_) | (refine callQF_pure (truthC _ _) rfl ?_) | simp -implicitDefEqProofs (disch := omega) only [L70, dT_lt, dF_lt, dT_le, dF_le, dT_eq, dF_eq, push_cast, ↓reduceIte, Nat.reduceEqDiff, reduceCtorEq, Nat.reduceAdd, Nat.reduceSub, Nat.reduceMul, Nat.reduceLeDiff, Nat.reduceLT, Nat.reduceMod, Nat.reduceDiv, Int.reduceToNat, Int.reduceLT, Int.reduceLE, Int.reduceEq, Int.reduceAdd, Int.reduceSub, Int.reduceNeg, Int.reduceMul, Bool.and_self] | split)
theorem op_ge (a b : Int) (H : AHeap) : Comp' 71 [int a, int b] H (int ((if b ≤ a then 1 else 0))) := by
  refine enter Try.func71 L71_ok (Nat.le_of_ble_eq_true rfl) ?_
  repeat' (first | (refine And.intro (by omega) ?_) | (refine callF_pure (truthC _ _) ?_) | (refine callQF_pure (truthC _ _) rfl ?_) | simp -implicitDefEqProofs (disch := omega) only [L71, dT_lt, dF_lt, dT_le, dF_le, dT_eq, dF_eq, push_cast, ↓reduceIte, Nat.reduceEqDiff, reduceCtorEq, Nat.reduceAdd, Nat.reduceSub, Nat.reduceMul, Nat.reduceLeDiff, Nat.reduceLT, Nat.reduceMod, Nat.reduceDiv, Int.reduceToNat, Int.reduceLT, Int.reduceLE, Int.reduceEq, Int.reduceAdd, Int.reduceSub, Int.reduceNeg, Int.reduceMul, Bool.and_self] | split)
theorem op_and (a b : Int) (H : AHeap) : Comp' 72 [int a, int b] H (int (min a b)) := by
  refine enter Try.func72 L72_ok (Nat.le_of_ble_eq_true rfl) ?_
  repeat' (first | (refine And.intro (by omega) ?_) | simp -implicitDefEqProofs (disch := omega) only [L72, dT_lt, dF_lt, dT_le, dF_le, dT_eq, dF_eq, push_cast, ↓reduceIte, Nat.reduceEqDiff, reduceCtorEq, Nat.reduceAdd, Nat.reduceSub, Nat.reduceMul, Nat.reduceLeDiff, Nat.reduceLT, Nat.reduceMod, Nat.reduceDiv, Int.reduceToNat, Int.reduceLT, Int.reduceLE, Int.reduceEq, Int.reduceAdd, Int.reduceSub, Int.reduceNeg, Int.reduceMul, Bool.and_self] | split)
  · rw [Int.min_eq_right (by omega)]
  · rw [Int.min_eq_left (by omega)]
theorem op_or (a b : Int) (H : AHeap) : Comp' 73 [int a, int b] H (int (max a b)) := by
  refine enter Try.func73 L73_ok (Nat.le_of_ble_eq_true rfl) ?_
  repeat' (first | (refine And.intro (by omega) ?_) | simp -implicitDefEqProofs (disch := omega) only [L73, dT_lt, dF_lt, dT_le, dF_le, dT_eq, dF_eq, push_cast, ↓reduceIte, Nat.reduceEqDiff, reduceCtorEq, Nat.reduceAdd, Nat.reduceSub, Nat.reduceMul, Nat.reduceLeDiff, Nat.reduceLT, Nat.reduceMod, Nat.reduceDiv, Int.reduceToNat, Int.reduceLT, Int.reduceLE, Int.reduceEq, Int.reduceAdd, Int.reduceSub, Int.reduceNeg, Int.reduceMul, Bool.and_self] | split)
  · rw [Int.max_eq_right (by omega)]
  · rw [Int.max_eq_left (by omega)]

def opsK : List Value := [.string (mkS [43]), .string (mkS [45]), .string (mkS [42]), .string (mkS [47]), .string (mkS [37]), .string (mkS [61, 61]), .string (mkS [33, 61]), .string (mkS [60]), .string (mkS [60, 61]), .string (mkS [62]), .string (mkS [62, 61]), .string (mkS [97, 110, 100]), .string (mkS [111, 114])]
def opsX : List AV := [.fn (.func 60) [] [], .fn (.func 61) [] [], .fn (.func 62) [] [], .fn (.func 63) [] [], .fn (.func 64) [] [], .fn (.func 65) [] [], .fn (.func 67) [] [], .fn (.func 68) [] [], .fn (.func 69) [] [], .fn (.func 70) [] [], .fn (.func 71) [] [], .fn (.func 72) [] [], .fn (.func 73) [] []]
theorem operatorsC (H : AHeap) : Comp' 33 [] H (.mp opsK opsX) := by
  refine ACall.drop (R := fun x => x = .mp opsK opsX) ?_
  refine enter Try.func33 L33_ok (Nat.le_of_ble_eq_true rfl) ?_
  repeat' (first | (refine And.intro (by omega) ?_) | simp -implicitDefEqProofs (disch := omega) only [L33, dT_lt, dF_lt, dT_le, dF_le, dT_eq, dF_eq, push_cast, ↓reduceIte, Nat.reduceEqDiff, reduceCtorEq, Nat.reduceAdd, Nat.reduceSub, Nat.reduceMul, Nat.reduceLeDiff, Nat.reduceLT, Nat.reduceMod, Nat.reduceDiv, Int.reduceToNat, Int.reduceLT, Int.reduceLE, Int.reduceEq, Int.reduceAdd, Int.reduceSub, Int.reduceNeg, Int.reduceMul, Bool.and_self] | split)
  simp [kEq, opsK, opsX, bs, mkS]
theorem ops_cmp (o : List UInt8) : (∀ k' ∈ opsK, kCmp (.string (mkS o)) k' = true) = True := by simp [opsK, kCmp]
def opL : List (List UInt8) := [[43], [45], [42], [47], [37], [61, 61], [33, 61], [60], [60, 61], [62], [62, 61], [97, 110, 100], [111, 114]]
theorem ops_add : mget (.string (mkS [43])) opsK opsX = some (.fn (.func 60) [] []) := rfl
theorem ops_sub : mget (.string (mkS [45])) opsK opsX = some (.fn (.func 61) [] []) := rfl
theorem ops_mul : mget (.string (mkS [42])) opsK opsX = some (.fn (.func 62) [] []) := rfl
theorem ops_quo : mget (.string (mkS [47])) opsK opsX = some (.fn (.func 63) [] []) := rfl
theorem ops_rem : mget (.string (mkS [37])) opsK opsX = some (.fn (.func 64) [] []) := rfl
theorem ops_eq : mget (.string (mkS [61, 61])) opsK opsX = some (.fn (.func 65) [] []) := rfl
theorem ops_ne : mget (.string (mkS [33, 61])) opsK opsX = some (.fn (.func 67) [] []) := rfl
theorem ops_lt : mget (.string (mkS [60])) opsK opsX = some (.fn (.func 68) [] []) := rfl
theorem ops_le : mget (.string (mkS [60, 61])) opsK opsX = some (.fn (.func 69) [] []) := rfl
theorem ops_gt : mget (.string (mkS [62])) opsK opsX = some (.fn (.func 70) [] []) := rfl
theorem ops_ge : mget (.string (mkS [62, 61])) opsK opsX = some (.fn (.func 71) [] []) := rfl
theorem ops_and : mget (.string (mkS [97, 110, 100])) opsK opsX = some (.fn (.func 72) [] []) := rfl
theorem ops_or : mget (.string (mkS [111, 114])) opsK opsX = some (.fn (.func 73) [] []) := rfl
theorem ops_no {o : List UInt8} (h : ¬ o ∈ opL) : mget (.string (mkS o)) opsK opsX = none := by
  simp [opL] at h
  simp [mget, opsK, opsX, kEq, mkS, bs, h]
end Go.Proofs.Ytdgmlepakippmaa
