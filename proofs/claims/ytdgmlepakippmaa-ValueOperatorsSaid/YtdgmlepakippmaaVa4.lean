/- Values, part 4: Unary, the reference's equality of lists, decimals. -/
import Derived.Test.YtdgmlepakippmaaVa3
import Derived.Test.YtdgmlepakippmaaTy5
namespace Go.Proofs.Ytdgmlepakippmaa
open Go Go.Ax
set_option maxRecDepth 100000
set_option linter.unusedSimpArgs false
set_option linter.unusedVariables false

section
variable {w a : Int} {o : List UInt8}
abbrev notS : List UInt8 := [110, 111, 116]
def unA (n e : Int) : AV := .tup [int n, int e]
theorem un_width (h : ¬ wOk w) (H : AHeap) : Comp' 16 [int w, str o, int a] H (unA 0 2) := by
  refine enter Try.func16 L16_ok (Nat.le_of_ble_eq_true rfl) ?_
  have hd : decide (wOk w) = false := by simp [h]
  repeat' (first | (refine And.intro (by omega) ?_) | (refine callF_pure (isWidthC _ _) ?_) | (refine callQF_pure (isWidthC _ _) rfl ?_) | simp -implicitDefEqProofs (disch := omega) only [L16, hd, dT_lt, dF_lt, dT_le, dF_le, dT_eq, dF_eq, push_cast, ↓reduceIte, Nat.reduceEqDiff, reduceCtorEq, Nat.reduceAdd, Nat.reduceSub, Nat.reduceMul, Nat.reduceLeDiff, Nat.reduceLT, Nat.reduceMod, Nat.reduceDiv, Int.reduceToNat, Int.reduceLT, Int.reduceLE, Int.reduceEq, Int.reduceAdd, Int.reduceSub, Int.reduceNeg, Int.reduceMul, Bool.and_self] | split)
  rfl
theorem un_op (hw : wOk w) (h1 : ¬ o = [45]) (h2 : ¬ o = notS) (H : AHeap) : Comp' 16 [int w, str o, int a] H (unA 0 1) := by
  refine enter Try.func16 L16_ok (Nat.le_of_ble_eq_true rfl) ?_
  have hd : decide (wOk w) = true := by simp [hw]
  have e1 : decide (o = [45]) = false := by simp [h1]
  have e2 : decide (o = notS) = false := by simp [h2]
  repeat' (first | (refine And.intro (by omega) ?_) | (refine callF_pure (isWidthC _ _) ?_) | (refine callQF_pure (isWidthC _ _) rfl ?_) | simp -implicitDefEqProofs (disch := omega) only [L16, hd, e1, e2, dT_lt, dF_lt, dT_le, dF_le, dT_eq, dF_eq, push_cast, ↓reduceIte, Nat.reduceEqDiff, reduceCtorEq, Nat.reduceAdd, Nat.reduceSub, Nat.reduceMul, Nat.reduceLeDiff, Nat.reduceLT, Nat.reduceMod, Nat.reduceDiv, Int.reduceToNat, Int.reduceLT, Int.reduceLE, Int.reduceEq, Int.reduceAdd, Int.reduceSub, Int.reduceNeg, Int.reduceMul, Bool.and_self] | split)
  rfl
theorem un_not_no (hw : wOk w) (h : ¬ isB a) (H : AHeap) : Comp' 16 [int w, str notS, int a] H (unA 0 2) := by
  refine enter Try.func16 L16_ok (Nat.le_of_ble_eq_true rfl) ?_
  have hd : decide (wOk w) = true := by simp [hw]
  have e3 : decide (isB a) = false := by simp [h]
  repeat' (first | (refine And.intro (by omega) ?_) | (refine callF_pure (isWidthC _ _) ?_) | (refine callF_pure (isBoolC _ _) ?_) | (refine callQF_pure (isWidthC _ _) rfl ?_) | (refine callQF_pure (isBoolC _ _) rfl ?_) | simp -implicitDefEqProofs (disch := omega) only [L16, hd, e3, dT_lt, dF_lt, dT_le, dF_le, dT_eq, dF_eq, push_cast, ↓reduceIte, Nat.reduceEqDiff, reduceCtorEq, Nat.reduceAdd, Nat.reduceSub, Nat.reduceMul, Nat.reduceLeDiff, Nat.reduceLT, Nat.reduceMod, Nat.reduceDiv, Int.reduceToNat, Int.reduceLT, Int.reduceLE, Int.reduceEq, Int.reduceAdd, Int.reduceSub, Int.reduceNeg, Int.reduceMul, Bool.and_self] | split)
  all_goals first | rfl | (exfalso; rename_i h; revert h; decide)
theorem un_not (hw : wOk w) (h : isB a) (H : AHeap) : Comp' 16 [int w, str notS, int a] H (unA (1 - a) 0) := by
  refine enter Try.func16 L16_ok (Nat.le_of_ble_eq_true rfl) ?_
  have hd : decide (wOk w) = true := by simp [hw]
  have e3 : decide (isB a) = true := by simp [h]
  have e4 : decide (inI w a) = true := by simp [inI_isB hw h]
  have e5 : IntKind.i64.wrap (1 - a) = 1 - a := wrap64_of _ (by rcases h with rfl | rfl <;> decide) (by rcases h with rfl | rfl <;> decide)
  repeat' (first | (refine And.intro (by omega) ?_) | (refine callF_pure (isWidthC _ _) ?_) | (refine callF_pure (isBoolC _ _) ?_) | (refine callF_pure (isIntC _ _ _) ?_) | (refine callQF_pure (isWidthC _ _) rfl ?_) | (refine callQF_pure (isBoolC _ _) rfl ?_) | (refine callQF_pure (isIntC _ _ _) rfl ?_) | simp -implicitDefEqProofs (disch := omega) only [L16, hd, e3, e4, e5, dT_lt, dF_lt, dT_le, dF_le, dT_eq, dF_eq, push_cast, ↓reduceIte, Nat.reduceEqDiff, reduceCtorEq, Nat.reduceAdd, Nat.reduceSub, Nat.reduceMul, Nat.reduceLeDiff, Nat.reduceLT, Nat.reduceMod, Nat.reduceDiv, Int.reduceToNat, Int.reduceLT, Int.reduceLE, Int.reduceEq, Int.reduceAdd, Int.reduceSub, Int.reduceNeg, Int.reduceMul, Bool.and_self] | split)
  all_goals first | rfl | (exfalso; rename_i h; revert h; decide)
theorem un_neg_no (hw : wOk w) (h : ¬ inI w a) (H : AHeap) : Comp' 16 [int w, str [45], int a] H (unA 0 2) := by
  refine enter Try.func16 L16_ok (Nat.le_of_ble_eq_true rfl) ?_
  have hd : decide (wOk w) = true := by simp [hw]
  have e4 : decide (inI w a) = false := by simp [h]
  repeat' (first | (refine And.intro (by omega) ?_) | (refine callF_pure (isWidthC _ _) ?_) | (refine callF_pure (isIntC _ _ _) ?_) | (refine callQF_pure (isWidthC _ _) rfl ?_) | (refine callQF_pure (isIntC _ _ _) rfl ?_) | simp -implicitDefEqProofs (disch := omega) only [L16, hd, e4, dT_lt, dF_lt, dT_le, dF_le, dT_eq, dF_eq, push_cast, ↓reduceIte, Nat.reduceEqDiff, reduceCtorEq, Nat.reduceAdd, Nat.reduceSub, Nat.reduceMul, Nat.reduceLeDiff, Nat.reduceLT, Nat.reduceMod, Nat.reduceDiv, Int.reduceToNat, Int.reduceLT, Int.reduceLE, Int.reduceEq, Int.reduceAdd, Int.reduceSub, Int.reduceNeg, Int.reduceMul, Bool.and_self] | split)
  all_goals first | rfl | (exfalso; rename_i h; revert h; decide)
theorem inI_lt (hw : wOk w) (h : inI w a) : -128 ≤ a ∧ a ≤ 127 := by
  unfold inI leF grF at h
  rw [if_pos hw, if_pos hw] at h
  rcases w_cases hw with rfl | rfl | rfl | rfl | rfl | rfl | rfl <;> simp [hf] at h <;> omega
theorem un_neg (hw : wOk w) (h : inI w a) (H : AHeap) : Comp' 16 [int w, str [45], int a] H (unA (wrF w (-a)) 0) := by
  refine enter Try.func16 L16_ok (Nat.le_of_ble_eq_true rfl) ?_
  have hd : decide (wOk w) = true := by simp [hw]
  have e4 : decide (inI w a) = true := by simp [h]
  have h1 := inI_lt hw h
  have e5 : 0 - a = -a := by omega
  have hr : i64R (-a) := by unfold i64R; omega
  repeat' (first | (refine And.intro (by omega) ?_) | (refine callF_pure (isWidthC _ _) ?_) | (refine callF_pure (isIntC _ _ _) ?_) | (refine callF_pure (wrapC w (-a) hr _) ?_) | (refine callQF_pure (isWidthC _ _) rfl ?_) | (refine callQF_pure (isIntC _ _ _) rfl ?_) | (refine callQF_pure (wrapC w (-a) hr _) rfl ?_) | simp -implicitDefEqProofs (disch := omega) only [L16, hd, e4, e5, dT_lt, dF_lt, dT_le, dF_le, dT_eq, dF_eq, push_cast, ↓reduceIte, Nat.reduceEqDiff, reduceCtorEq, Nat.reduceAdd, Nat.reduceSub, Nat.reduceMul, Nat.reduceLeDiff, Nat.reduceLT, Nat.reduceMod, Nat.reduceDiv, Int.reduceToNat, Int.reduceLT, Int.reduceLE, Int.reduceEq, Int.reduceAdd, Int.reduceSub, Int.reduceNeg, Int.reduceMul, Bool.and_self] | split)
  all_goals first | rfl | (exfalso; rename_i h; revert h; decide)
end

/-- A number as a row. -/
def iR (n : Int) : List AV := [int n]
theorem iR_len (n : Int) : (iR n).length = 1 := rfl

theorem intsC (l m : List Int) (hl : big l.length) (H : AHeap) : Comp' 12 [.sl 1 (l.map iR), .sl 1 (m.map iR)] H (bool (decide (l = m))) := by
  refine enter Try.func12 L12_ok (Nat.le_of_ble_eq_true rfl) ?_
  unfold big at hl
  by_cases hlen : l.length = m.length
  · repeat' (first | (refine And.intro (by omega) ?_) | simp -implicitDefEqProofs (disch := omega) only [L12, dT_lt, dF_lt, dT_le, dF_le, dT_eq, dF_eq, push_cast, ↓reduceIte, Nat.reduceEqDiff, reduceCtorEq, Nat.reduceAdd, Nat.reduceSub, Nat.reduceMul, Nat.reduceLeDiff, Nat.reduceLT, Nat.reduceMod, Nat.reduceDiv, Int.reduceToNat, Int.reduceLT, Int.reduceLE, Int.reduceEq, Int.reduceAdd, Int.reduceSub, Int.reduceNeg, Int.reduceMul, Bool.and_self] | split)
    refine rk_loopS (fun (j : Nat) e' H' => e' 0 = .sl 1 (l.map iR) ∧ e' 1 = .sl 1 (m.map iR) ∧ e' 5 = int j ∧ H = H' ∧ j ≤ l.length ∧ l.take j = m.take j) (fun j => l.length - j) 0 ?_ ?_
    · exact ⟨rfl, rfl, rfl, rfl, Nat.zero_le _, rfl⟩
    rintro j e' H' ⟨h0, h1, h5, rfl, hj, ht⟩
    by_cases hlt : j < l.length
    · by_cases he : l.getD j default = m.getD j default
      · repeat' (first | (refine And.intro (by omega) ?_) | simp -implicitDefEqProofs (disch := omega) only [h0, h1, h5, rows_getD, iR, he, dT_lt, dF_lt, dT_le, dF_le, dT_eq, dF_eq, push_cast, ↓reduceIte, Nat.reduceEqDiff, reduceCtorEq, Nat.reduceAdd, Nat.reduceSub, Nat.reduceMul, Nat.reduceLeDiff, Nat.reduceLT, Nat.reduceMod, Nat.reduceDiv, Int.reduceToNat, Int.reduceLT, Int.reduceLE, Int.reduceEq, Int.reduceAdd, Int.reduceSub, Int.reduceNeg, Int.reduceMul, Bool.and_self] | split)
        refine .mk (j + 1) ⟨h0, h1, rfl, rfl, hlt, ?_⟩ (by omega)
        rw [take_snoc hlt, take_snoc (by omega), ht, he]
      · have hd : decide (l = m) = false := by
          simp only [decide_eq_false_iff_not]
          intro h; exact he (by rw [h])
        repeat' (first | (refine And.intro (by omega) ?_) | simp -implicitDefEqProofs (disch := omega) only [h0, h1, h5, rows_getD, iR, dT_lt, dF_lt, dT_le, dF_le, dT_eq, dF_eq, push_cast, ↓reduceIte, Nat.reduceEqDiff, reduceCtorEq, Nat.reduceAdd, Nat.reduceSub, Nat.reduceMul, Nat.reduceLeDiff, Nat.reduceLT, Nat.reduceMod, Nat.reduceDiv, Int.reduceToNat, Int.reduceLT, Int.reduceLE, Int.reduceEq, Int.reduceAdd, Int.reduceSub, Int.reduceNeg, Int.reduceMul, Bool.and_self] | split)
        rw [hd]
    · have hd : decide (l = m) = true := by
        simp only [decide_eq_true_eq]
        have := ht
        rwa [List.take_of_length_le (by omega), List.take_of_length_le (by omega)] at this
      repeat' (first | (refine And.intro (by omega) ?_) | simp -implicitDefEqProofs (disch := omega) only [h0, h1, h5, dT_lt, dF_lt, dT_le, dF_le, dT_eq, dF_eq, push_cast, ↓reduceIte, Nat.reduceEqDiff, reduceCtorEq, Nat.reduceAdd, Nat.reduceSub, Nat.reduceMul, Nat.reduceLeDiff, Nat.reduceLT, Nat.reduceMod, Nat.reduceDiv, Int.reduceToNat, Int.reduceLT, Int.reduceLE, Int.reduceEq, Int.reduceAdd, Int.reduceSub, Int.reduceNeg, Int.reduceMul, Bool.and_self] | split)
      rw [hd]
  · have hd : decide (l = m) = false := by
      simp only [decide_eq_false_iff_not]
      intro h; exact hlen (by rw [h])
    repeat' (first | (refine And.intro (by omega) ?_) | simp -implicitDefEqProofs (disch := omega) only [L12, dT_lt, dF_lt, dT_le, dF_le, dT_eq, dF_eq, push_cast, ↓reduceIte, Nat.reduceEqDiff, reduceCtorEq, Nat.reduceAdd, Nat.reduceSub, Nat.reduceMul, Nat.reduceLeDiff, Nat.reduceLT, Nat.reduceMod, Nat.reduceDiv, Int.reduceToNat, Int.reduceLT, Int.reduceLE, Int.reduceEq, Int.reduceAdd, Int.reduceSub, Int.reduceNeg, Int.reduceMul, Bool.and_self] | split)
    rw [hd]
theorem intsC_nil (H : AHeap) : Comp' 12 [nilS, nilS] H (bool true) := by
  refine enter Try.func12 L12_ok (Nat.le_of_ble_eq_true rfl) ?_
  repeat' (first | (refine And.intro (by omega) ?_) | simp -implicitDefEqProofs (disch := omega) only [L12, dT_lt, dF_lt, dT_le, dF_le, dT_eq, dF_eq, push_cast, ↓reduceIte, Nat.reduceEqDiff, reduceCtorEq, Nat.reduceAdd, Nat.reduceSub, Nat.reduceMul, Nat.reduceLeDiff, Nat.reduceLT, Nat.reduceMod, Nat.reduceDiv, Int.reduceToNat, Int.reduceLT, Int.reduceLE, Int.reduceEq, Int.reduceAdd, Int.reduceSub, Int.reduceNeg, Int.reduceMul, Bool.and_self] | split)
  refine rk_loopS (fun (j : Nat) e' H' => e' 0 = nilS ∧ e' 1 = nilS ∧ e' 5 = int 0 ∧ H = H') (fun j => 0) 0 ?_ ?_
  · exact ⟨rfl, rfl, rfl, rfl⟩
  rintro j e' H' ⟨h0, h1, h5, rfl⟩
  repeat' (first | (refine And.intro (by omega) ?_) | simp -implicitDefEqProofs (disch := omega) only [h0, h1, h5, dT_lt, dF_lt, dT_le, dF_le, dT_eq, dF_eq, push_cast, ↓reduceIte, Nat.reduceEqDiff, reduceCtorEq, Nat.reduceAdd, Nat.reduceSub, Nat.reduceMul, Nat.reduceLeDiff, Nat.reduceLT, Nat.reduceMod, Nat.reduceDiv, Int.reduceToNat, Int.reduceLT, Int.reduceLE, Int.reduceEq, Int.reduceAdd, Int.reduceSub, Int.reduceNeg, Int.reduceMul, Bool.and_self] | split)

theorem wrapu64_of' (n : Int) (h : 0 ≤ n) (h' : n < 18446744073709551616) : IntKind.u64.wrap n = n := by
  simp [IntKind.wrap, IntKind.bits, IntKind.signed]
  omega
theorem wrap32_of' (n : Int) (h : 0 ≤ n) (h' : n < 2147483648) : IntKind.i32.wrap n = n := wrap32_of n (by omega) (by omega)
abbrev u64I (n : Int) : AV := .v (.int .u64 n)
theorem digitsV (n : Nat) (hn : n ≤ 9223372036854775808) (H : AHeap) : Comp' 81 [u64I n] H (str (decF n)) := by
  induction n using Nat.strongRecOn generalizing H with
  | _ n ih =>
    refine enter Try.func81 L81_ok (Nat.le_of_ble_eq_true rfl) ?_
    by_cases h : n < 10
    · have hw : IntKind.u64.wrap (48 + (n : Int)) = 48 + (n : Int) := wrapu64_of' _ (by omega) (by omega)
      have hv : IntKind.i32.wrap (48 + (n : Int)) = 48 + (n : Int) := wrap32_of' _ (by omega) (by omega)
      repeat' (first | (refine And.intro (by omega) ?_) | simp -implicitDefEqProofs (disch := omega) only [L81, hw, hv, utf8_digit h, decF_small h, dT_lt, dF_lt, dT_le, dF_le, dT_eq, dF_eq, push_cast, ↓reduceIte, Nat.reduceEqDiff, reduceCtorEq, Nat.reduceAdd, Nat.reduceSub, Nat.reduceMul, Nat.reduceLeDiff, Nat.reduceLT, Nat.reduceMod, Nat.reduceDiv, Int.reduceToNat, Int.reduceLT, Int.reduceLE, Int.reduceEq, Int.reduceAdd, Int.reduceSub, Int.reduceNeg, Int.reduceMul, Bool.and_self] | split)
    · have h1 := decF_19 (n := n / 10) (by omega)
      have h2 := decF_19 (n := n % 10) (by omega)
      have hw : IntKind.u64.wrap ((n / 10 : Nat) : Int) = ((n / 10 : Nat) : Int) := wrapu64_of' _ (by omega) (by omega)
      repeat' (first | (refine And.intro (by omega) ?_) | (refine callF_pure (ih (n / 10) (by omega) (by omega) _) ?_) | (refine callF_pure (ih (n % 10) (by omega) (by omega) _) ?_) | (refine callQF_pure (ih (n / 10) (by omega) (by omega) _) rfl ?_) | (refine callQF_pure (ih (n % 10) (by omega) (by omega) _) rfl ?_) | simp -implicitDefEqProofs (disch := omega) only [L81, tdiv10, tmod10, hw, decF_big h, dT_lt, dF_lt, dT_le, dF_le, dT_eq, dF_eq, push_cast, ↓reduceIte, Nat.reduceEqDiff, reduceCtorEq, Nat.reduceAdd, Nat.reduceSub, Nat.reduceMul, Nat.reduceLeDiff, Nat.reduceLT, Nat.reduceMod, Nat.reduceDiv, Int.reduceToNat, Int.reduceLT, Int.reduceLE, Int.reduceEq, Int.reduceAdd, Int.reduceSub, Int.reduceNeg, Int.reduceMul, Bool.and_self] | split)
      rw [decF_small (n := n % 10) (by omega)]

/-- A number in decimal. -/
def decZ (n : Int) : List UInt8 := if n < 0 then 45 :: decF n.natAbs else decF n.natAbs
theorem decF_20 {n : Nat} (h : n ≤ 9223372036854775808) : (decF n).length ≤ 20 := decF_len 19 n (by omega)
theorem decimalV (n : Int) (hn : i64R n) (H : AHeap) : Comp' 49 [int n] H (str (decZ n)) := by
  refine enter Try.func49 L49_ok (Nat.le_of_ble_eq_true rfl) ?_
  unfold i64R at hn
  by_cases h : n < 0
  · obtain ⟨m, hm⟩ : ∃ m : Nat, n = -(m : Int) := ⟨n.natAbs, by omega⟩
    have e : decZ n = 45 :: decF m := by unfold decZ; rw [if_pos h, show n.natAbs = m by omega]
    have e1 : 0 - (n + 1) + 1 = (m : Int) := by omega
    have hl := decF_20 (n := m) (by omega)
    repeat' (first | (refine And.intro (by omega) ?_) | (refine callF_pure (digitsV m (by omega) _) ?_) | (refine callQF_pure (digitsV m (by omega) _) rfl ?_) | simp -implicitDefEqProofs (disch := omega) only [L49, e1, e, dT_lt, dF_lt, dT_le, dF_le, dT_eq, dF_eq, push_cast, ↓reduceIte, Nat.reduceEqDiff, reduceCtorEq, Nat.reduceAdd, Nat.reduceSub, Nat.reduceMul, Nat.reduceLeDiff, Nat.reduceLT, Nat.reduceMod, Nat.reduceDiv, Int.reduceToNat, Int.reduceLT, Int.reduceLE, Int.reduceEq, Int.reduceAdd, Int.reduceSub, Int.reduceNeg, Int.reduceMul, Bool.and_self] | split)
    omega
  · obtain ⟨m, hm⟩ : ∃ m : Nat, n = (m : Int) := ⟨n.natAbs, by omega⟩
    have e : decZ n = decF m := by unfold decZ; rw [if_neg h, show n.natAbs = m by omega]
    subst hm
    have e3 : IntKind.u64.wrap (m : Int) = (m : Int) := wrapu64_of' _ (by omega) (by omega)
    repeat' (first | (refine And.intro (by omega) ?_) | (refine callF_pure (digitsV m (by omega) _) ?_) | (refine callQF_pure (digitsV m (by omega) _) rfl ?_) | simp -implicitDefEqProofs (disch := omega) only [L49, e3, e, dT_lt, dF_lt, dT_le, dF_le, dT_eq, dF_eq, push_cast, ↓reduceIte, Nat.reduceEqDiff, reduceCtorEq, Nat.reduceAdd, Nat.reduceSub, Nat.reduceMul, Nat.reduceLeDiff, Nat.reduceLT, Nat.reduceMod, Nat.reduceDiv, Int.reduceToNat, Int.reduceLT, Int.reduceLE, Int.reduceEq, Int.reduceAdd, Int.reduceSub, Int.reduceNeg, Int.reduceMul, Bool.and_self] | split)
end Go.Proofs.Ytdgmlepakippmaa
