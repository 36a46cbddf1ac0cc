/- Types, part 5: the text of a type. -/
import Derived.Test.YtdibceakkjmpgaaTy4
namespace Go.Proofs.Ytdibceakkjmpgaa
open Go Go.Ax
set_option maxRecDepth 100000
set_option linter.unusedSimpArgs false
set_option linter.unusedVariables false

/-- A number in decimal. -/
def decN : Nat → Nat → List UInt8
  | 0, _ => []
  | f + 1, n => if n < 10 then [UInt8.ofNat (48 + n)] else decN f (n / 10) ++ [UInt8.ofNat (48 + n % 10)]
def decF (n : Nat) : List UInt8 := decN (n + 1) n
theorem decN_fuel : ∀ (f g n : Nat), n < f → n < g → decN f n = decN g n
  | 0, _, _, h, _ => by omega
  | _, 0, _, _, h => by omega
  | f + 1, g + 1, n, h, h' => by
    unfold decN
    split
    · rfl
    · rw [decN_fuel f g (n / 10) (by omega) (by omega)]
theorem decF_small {n : Nat} (h : n < 10) : decF n = [UInt8.ofNat (48 + n)] := by unfold decF decN; rw [if_pos h]
theorem decF_big {n : Nat} (h : ¬ n < 10) : decF n = decF (n / 10) ++ [UInt8.ofNat (48 + n % 10)] := by
  have e : decF n = decN n (n / 10) ++ [UInt8.ofNat (48 + n % 10)] := by
    conv => lhs; unfold decF decN
    rw [if_neg h]
  rw [e, decN_fuel n (n / 10 + 1) (n / 10) (by omega) (by omega)]
  rfl
theorem decF_len : ∀ (k n : Nat), n < 10 ^ (k + 1) → (decF n).length ≤ k + 1
  | 0, n, h => by rw [decF_small (by simpa using h)]; simp
  | k + 1, n, h => by
    by_cases h10 : n < 10
    · rw [decF_small h10]; simp
    · rw [decF_big h10]
      have := decF_len k (n / 10) (by rw [Nat.pow_succ] at h; omega)
      simp; omega
theorem decF_19 {n : Nat} (h : n ≤ 9223372036854775807) : (decF n).length ≤ 19 := by
  have h2 : (10 : Nat) ^ (18 + 1) = 10000000000000000000 := by simp
  exact decF_len 18 n (by omega)
theorem utf8_digit {n : Nat} (h : n < 10) : Utf8.encode (48 + (n : Int)) = mkS [UInt8.ofNat (48 + n)] := by
  have hn : n = 0 ∨ n = 1 ∨ n = 2 ∨ n = 3 ∨ n = 4 ∨ n = 5 ∨ n = 6 ∨ n = 7 ∨ n = 8 ∨ n = 9 := by omega
  rcases hn with rfl | rfl | rfl | rfl | rfl | rfl | rfl | rfl | rfl | rfl <;> decide +kernel
theorem tdivN (n k : Nat) : (n : Int).tdiv k = ((n / k : Nat) : Int) := rfl
theorem tdiv10 (n : Nat) : (n : Int).tdiv 10 = ((n / 10 : Nat) : Int) := rfl
theorem tmod10 (n : Nat) : (n : Int).tmod 10 = ((n % 10 : Nat) : Int) := rfl

theorem digits (n : Nat) (hn : n ≤ 9223372036854775807) (H : AHeap) : Comp' 50 [int n] H (str (decF n)) := by
  induction n using Nat.strongRecOn generalizing H with
  | _ n ih =>
    refine enter Try.func50 L50_ok (Nat.le_of_ble_eq_true rfl) ?_
    by_cases h : n < 10
    · repeat' (first | (refine And.intro (by omega) ?_) | simp -implicitDefEqProofs (disch := omega) only [L50, utf8_digit h, decF_small h, dT_lt, dF_lt, dT_le, dF_le, dT_eq, dF_eq, push_cast, ↓reduceIte, Nat.reduceEqDiff, reduceCtorEq, Nat.reduceAdd, Nat.reduceSub, Nat.reduceMul, Nat.reduceLeDiff, Nat.reduceLT, Nat.reduceMod, Nat.reduceDiv, Int.reduceToNat, Int.reduceLT, Int.reduceLE, Int.reduceEq, Int.reduceAdd, Int.reduceSub, Int.reduceNeg, Int.reduceMul, Bool.and_self] | split)
    · have h1 := decF_19 (n := n / 10) (by omega)
      have h2 := decF_19 (n := n % 10) (by omega)
      have hw : IntKind.i64.wrap ((n / 10 : Nat) : Int) = ((n / 10 : Nat) : Int) := wrap64_of _ (by omega) (by omega)
      repeat' (first | (refine And.intro (by omega) ?_) | (refine callF_pure (ih (n / 10) (by omega) (by omega) _) ?_) | (refine callF_pure (ih (n % 10) (by omega) (by omega) _) ?_) | (refine callQF_pure (ih (n / 10) (by omega) (by omega) _) rfl ?_) | (refine callQF_pure (ih (n % 10) (by omega) (by omega) _) rfl ?_) | simp -implicitDefEqProofs (disch := omega) only [L50, tdiv10, tmod10, hw, decF_big h, dT_lt, dF_lt, dT_le, dF_le, dT_eq, dF_eq, push_cast, ↓reduceIte, Nat.reduceEqDiff, reduceCtorEq, Nat.reduceAdd, Nat.reduceSub, Nat.reduceMul, Nat.reduceLeDiff, Nat.reduceLT, Nat.reduceMod, Nat.reduceDiv, Int.reduceToNat, Int.reduceLT, Int.reduceLE, Int.reduceEq, Int.reduceAdd, Int.reduceSub, Int.reduceNeg, Int.reduceMul, Bool.and_self] | split)
      rw [decF_small (n := n % 10) (by omega)]
theorem decimal (n : Nat) (hn : n ≤ 9223372036854775807) (H : AHeap) : Comp' 51 [int n] H (str (decF n)) := by
  induction n using Nat.strongRecOn generalizing H with
  | _ n ih =>
    refine ACall.drop (R := fun x => x = str (decF n)) ?_
    refine enter Try.func51 L51_ok (Nat.le_of_ble_eq_true rfl) ?_
    have hw : IntKind.i64.wrap ((n / 10 : Nat) : Int) = ((n / 10 : Nat) : Int) := wrap64_of _ (by omega) (by omega)
    have hu : IntKind.u8.wrap (48 + ((n % 10 : Nat) : Int)) = 48 + ((n % 10 : Nat) : Int) := wrap8_of _ (by omega) (by omega)
    have ht : (48 + (n : Int) % 10).toNat = 48 + n % 10 := by omega
    by_cases h : n < 10
    · repeat' (first | (refine And.intro (by omega) ?_) | simp -implicitDefEqProofs (disch := omega) only [L51, tdiv10, tmod10, hw, hu, decF_small h, osRows_eq, osRowsO_if, Nat.le_refl, Nat.zero_add, rowBytes_nil, rowBytes_cons, dT_lt, dF_lt, dT_le, dF_le, dT_eq, dF_eq, push_cast, ↓reduceIte, Nat.reduceEqDiff, reduceCtorEq, Nat.reduceAdd, Nat.reduceSub, Nat.reduceMul, Nat.reduceLeDiff, Nat.reduceLT, Nat.reduceMod, Nat.reduceDiv, Int.reduceToNat, Int.reduceLT, Int.reduceLE, Int.reduceEq, Int.reduceAdd, Int.reduceSub, Int.reduceNeg, Int.reduceMul, Bool.and_self] | split)
      exact ⟨by rw [ht, Nat.mod_eq_of_lt h], _, rfl⟩
    · have h1 := decF_19 (n := n / 10) (by omega)
      repeat' (first | (refine And.intro (by omega) ?_) | (refine callF_pure (ih (n / 10) (by omega) (by omega) _) ?_) | (refine callQF_pure (ih (n / 10) (by omega) (by omega) _) rfl ?_) | simp -implicitDefEqProofs (disch := omega) only [L51, tdiv10, tmod10, hw, hu, decF_big h, osRows_eq, osRowsO_if, Nat.le_refl, Nat.zero_add, rowBytes_nil, rowBytes_cons, dT_lt, dF_lt, dT_le, dF_le, dT_eq, dF_eq, push_cast, ↓reduceIte, Nat.reduceEqDiff, reduceCtorEq, Nat.reduceAdd, Nat.reduceSub, Nat.reduceMul, Nat.reduceLeDiff, Nat.reduceLT, Nat.reduceMod, Nat.reduceDiv, Int.reduceToNat, Int.reduceLT, Int.reduceLE, Int.reduceEq, Int.reduceAdd, Int.reduceSub, Int.reduceNeg, Int.reduceMul, Bool.and_self] | split)
      exact ⟨by rw [ht], _, rfl⟩

/-- The text of a type. -/
def formatF (t : Ty) : List UInt8 :=
  if t.k = 1 then [105, 110, 116] else if t.k = 2 then [98, 111, 111, 108]
  else if t.k = 3 then (if 0 ≤ t.len then [105, 110, 116, 91] ++ decF t.len.toNat ++ [93] else [])
  else if t.k = 4 then t.rc else if t.k = 5 then [97, 114, 114, 97, 121] else if t.k = 6 then [105, 110, 116, 32, 111, 114, 32, 98, 111, 111, 108] else []
theorem format (t : Ty) (hl : t.len ≤ 9223372036854775807) (H : AHeap) : Comp' 21 [.agg (tyR t)] H (str (formatF t)) := by
  refine ACall.drop (R := fun x => x = str (formatF t)) ?_
  refine enter Try.func21 L21_ok (Nat.le_of_ble_eq_true rfl) ?_
  obtain ⟨k, len, rc⟩ := t
  have hk : k = 1 ∨ k = 2 ∨ k = 3 ∨ k = 4 ∨ k = 5 ∨ k = 6 ∨ (k ≠ 1 ∧ k ≠ 2 ∧ k ≠ 3 ∧ k ≠ 4 ∧ k ≠ 5 ∧ k ≠ 6) := by omega
  rcases hk with rfl | rfl | rfl | rfl | rfl | rfl | ⟨n1, n2, n3, n4, n5, n6⟩
  · repeat' (first | (refine And.intro (by omega) ?_) | simp -implicitDefEqProofs (disch := omega) only [L21, tyR, dT_lt, dF_lt, dT_le, dF_le, dT_eq, dF_eq, push_cast, ↓reduceIte, Nat.reduceEqDiff, reduceCtorEq, Nat.reduceAdd, Nat.reduceSub, Nat.reduceMul, Nat.reduceLeDiff, Nat.reduceLT, Nat.reduceMod, Nat.reduceDiv, Int.reduceToNat, Int.reduceLT, Int.reduceLE, Int.reduceEq, Int.reduceAdd, Int.reduceSub, Int.reduceNeg, Int.reduceMul, Bool.and_self] | split)
    exact ⟨rfl, _, rfl⟩
  · repeat' (first | (refine And.intro (by omega) ?_) | simp -implicitDefEqProofs (disch := omega) only [L21, tyR, dT_lt, dF_lt, dT_le, dF_le, dT_eq, dF_eq, push_cast, ↓reduceIte, Nat.reduceEqDiff, reduceCtorEq, Nat.reduceAdd, Nat.reduceSub, Nat.reduceMul, Nat.reduceLeDiff, Nat.reduceLT, Nat.reduceMod, Nat.reduceDiv, Int.reduceToNat, Int.reduceLT, Int.reduceLE, Int.reduceEq, Int.reduceAdd, Int.reduceSub, Int.reduceNeg, Int.reduceMul, Bool.and_self] | split)
    exact ⟨rfl, _, rfl⟩
  · by_cases h : 0 ≤ len
    · obtain ⟨n, rfl⟩ : ∃ n : Nat, len = n := ⟨len.toNat, by omega⟩
      have hn : n ≤ 9223372036854775807 := by have hl' : (n : Int) ≤ 9223372036854775807 := hl; omega
      have h1 := decF_19 hn
      repeat' (first | (refine And.intro (by omega) ?_) | (refine callF_pure (digits n hn _) ?_) | (refine callQF_pure (digits n hn _) rfl ?_) | simp -implicitDefEqProofs (disch := omega) only [L21, tyR, dT_lt, dF_lt, dT_le, dF_le, dT_eq, dF_eq, push_cast, ↓reduceIte, Nat.reduceEqDiff, reduceCtorEq, Nat.reduceAdd, Nat.reduceSub, Nat.reduceMul, Nat.reduceLeDiff, Nat.reduceLT, Nat.reduceMod, Nat.reduceDiv, Int.reduceToNat, Int.reduceLT, Int.reduceLE, Int.reduceEq, Int.reduceAdd, Int.reduceSub, Int.reduceNeg, Int.reduceMul, Bool.and_self] | split)
      exact ⟨rfl, _, rfl⟩
    · repeat' (first | (refine And.intro (by omega) ?_) | simp -implicitDefEqProofs (disch := omega) only [L21, tyR, dT_lt, dF_lt, dT_le, dF_le, dT_eq, dF_eq, push_cast, ↓reduceIte, Nat.reduceEqDiff, reduceCtorEq, Nat.reduceAdd, Nat.reduceSub, Nat.reduceMul, Nat.reduceLeDiff, Nat.reduceLT, Nat.reduceMod, Nat.reduceDiv, Int.reduceToNat, Int.reduceLT, Int.reduceLE, Int.reduceEq, Int.reduceAdd, Int.reduceSub, Int.reduceNeg, Int.reduceMul, Bool.and_self] | split)
      exact ⟨by simp [formatF, h], _, rfl⟩
  · repeat' (first | (refine And.intro (by omega) ?_) | simp -implicitDefEqProofs (disch := omega) only [L21, tyR, dT_lt, dF_lt, dT_le, dF_le, dT_eq, dF_eq, push_cast, ↓reduceIte, Nat.reduceEqDiff, reduceCtorEq, Nat.reduceAdd, Nat.reduceSub, Nat.reduceMul, Nat.reduceLeDiff, Nat.reduceLT, Nat.reduceMod, Nat.reduceDiv, Int.reduceToNat, Int.reduceLT, Int.reduceLE, Int.reduceEq, Int.reduceAdd, Int.reduceSub, Int.reduceNeg, Int.reduceMul, Bool.and_self] | split)
    exact ⟨rfl, _, rfl⟩
  · repeat' (first | (refine And.intro (by omega) ?_) | simp -implicitDefEqProofs (disch := omega) only [L21, tyR, dT_lt, dF_lt, dT_le, dF_le, dT_eq, dF_eq, push_cast, ↓reduceIte, Nat.reduceEqDiff, reduceCtorEq, Nat.reduceAdd, Nat.reduceSub, Nat.reduceMul, Nat.reduceLeDiff, Nat.reduceLT, Nat.reduceMod, Nat.reduceDiv, Int.reduceToNat, Int.reduceLT, Int.reduceLE, Int.reduceEq, Int.reduceAdd, Int.reduceSub, Int.reduceNeg, Int.reduceMul, Bool.and_self] | split)
    exact ⟨rfl, _, rfl⟩
  · repeat' (first | (refine And.intro (by omega) ?_) | simp -implicitDefEqProofs (disch := omega) only [L21, tyR, dT_lt, dF_lt, dT_le, dF_le, dT_eq, dF_eq, push_cast, ↓reduceIte, Nat.reduceEqDiff, reduceCtorEq, Nat.reduceAdd, Nat.reduceSub, Nat.reduceMul, Nat.reduceLeDiff, Nat.reduceLT, Nat.reduceMod, Nat.reduceDiv, Int.reduceToNat, Int.reduceLT, Int.reduceLE, Int.reduceEq, Int.reduceAdd, Int.reduceSub, Int.reduceNeg, Int.reduceMul, Bool.and_self] | split)
    exact ⟨rfl, _, rfl⟩
  · repeat' (first | (refine And.intro (by omega) ?_) | simp -implicitDefEqProofs (disch := omega) only [L21, tyR, n1, n2, n3, n4, n5, n6, dT_lt, dF_lt, dT_le, dF_le, dT_eq, dF_eq, push_cast, ↓reduceIte, Nat.reduceEqDiff, reduceCtorEq, Nat.reduceAdd, Nat.reduceSub, Nat.reduceMul, Nat.reduceLeDiff, Nat.reduceLT, Nat.reduceMod, Nat.reduceDiv, Int.reduceToNat, Int.reduceLT, Int.reduceLE, Int.reduceEq, Int.reduceAdd, Int.reduceSub, Int.reduceNeg, Int.reduceMul, Bool.and_self] | split)
    exact ⟨by simp [formatF, n1, n2, n3, n4, n5, n6], _, rfl⟩
theorem formatR (t : Ty) (hl : t.len ≤ 9223372036854775807) (H : AHeap) : Comp' 22 [.agg (tyR t)] H (str (formatF t)) := by
  refine ACall.drop (R := fun x => x = str (formatF t)) ?_
  refine enter Try.func22 L22_ok (Nat.le_of_ble_eq_true rfl) ?_
  obtain ⟨k, len, rc⟩ := t
  have hk : k = 1 ∨ k = 2 ∨ k = 3 ∨ k = 4 ∨ k = 5 ∨ k = 6 ∨ (k ≠ 1 ∧ k ≠ 2 ∧ k ≠ 3 ∧ k ≠ 4 ∧ k ≠ 5 ∧ k ≠ 6) := by omega
  rcases hk with rfl | rfl | rfl | rfl | rfl | rfl | ⟨n1, n2, n3, n4, n5, n6⟩
  · repeat' (first | (refine And.intro (by omega) ?_) | simp -implicitDefEqProofs (disch := omega) only [L22, tyR, dT_lt, dF_lt, dT_le, dF_le, dT_eq, dF_eq, push_cast, ↓reduceIte, Nat.reduceEqDiff, reduceCtorEq, Nat.reduceAdd, Nat.reduceSub, Nat.reduceMul, Nat.reduceLeDiff, Nat.reduceLT, Nat.reduceMod, Nat.reduceDiv, Int.reduceToNat, Int.reduceLT, Int.reduceLE, Int.reduceEq, Int.reduceAdd, Int.reduceSub, Int.reduceNeg, Int.reduceMul, Bool.and_self] | split)
    exact ⟨rfl, _, rfl⟩
  · repeat' (first | (refine And.intro (by omega) ?_) | simp -implicitDefEqProofs (disch := omega) only [L22, tyR, dT_lt, dF_lt, dT_le, dF_le, dT_eq, dF_eq, push_cast, ↓reduceIte, Nat.reduceEqDiff, reduceCtorEq, Nat.reduceAdd, Nat.reduceSub, Nat.reduceMul, Nat.reduceLeDiff, Nat.reduceLT, Nat.reduceMod, Nat.reduceDiv, Int.reduceToNat, Int.reduceLT, Int.reduceLE, Int.reduceEq, Int.reduceAdd, Int.reduceSub, Int.reduceNeg, Int.reduceMul, Bool.and_self] | split)
    exact ⟨rfl, _, rfl⟩
  · by_cases h : 0 ≤ len
    · obtain ⟨n, rfl⟩ : ∃ n : Nat, len = n := ⟨len.toNat, by omega⟩
      have hn : n ≤ 9223372036854775807 := by have hl' : (n : Int) ≤ 9223372036854775807 := hl; omega
      have h1 := decF_19 hn
      repeat' (first | (refine And.intro (by omega) ?_) | (refine callF_pure (decimal n hn _) ?_) | (refine callQF_pure (decimal n hn _) rfl ?_) | simp -implicitDefEqProofs (disch := omega) only [L22, tyR, dT_lt, dF_lt, dT_le, dF_le, dT_eq, dF_eq, push_cast, ↓reduceIte, Nat.reduceEqDiff, reduceCtorEq, Nat.reduceAdd, Nat.reduceSub, Nat.reduceMul, Nat.reduceLeDiff, Nat.reduceLT, Nat.reduceMod, Nat.reduceDiv, Int.reduceToNat, Int.reduceLT, Int.reduceLE, Int.reduceEq, Int.reduceAdd, Int.reduceSub, Int.reduceNeg, Int.reduceMul, Bool.and_self] | split)
      exact ⟨rfl, _, rfl⟩
    · repeat' (first | (refine And.intro (by omega) ?_) | simp -implicitDefEqProofs (disch := omega) only [L22, tyR, dT_lt, dF_lt, dT_le, dF_le, dT_eq, dF_eq, push_cast, ↓reduceIte, Nat.reduceEqDiff, reduceCtorEq, Nat.reduceAdd, Nat.reduceSub, Nat.reduceMul, Nat.reduceLeDiff, Nat.reduceLT, Nat.reduceMod, Nat.reduceDiv, Int.reduceToNat, Int.reduceLT, Int.reduceLE, Int.reduceEq, Int.reduceAdd, Int.reduceSub, Int.reduceNeg, Int.reduceMul, Bool.and_self] | split)
      exact ⟨by simp [formatF, h], _, rfl⟩
  · repeat' (first | (refine And.intro (by omega) ?_) | simp -implicitDefEqProofs (disch := omega) only [L22, tyR, dT_lt, dF_lt, dT_le, dF_le, dT_eq, dF_eq, push_cast, ↓reduceIte, Nat.reduceEqDiff, reduceCtorEq, Nat.reduceAdd, Nat.reduceSub, Nat.reduceMul, Nat.reduceLeDiff, Nat.reduceLT, Nat.reduceMod, Nat.reduceDiv, Int.reduceToNat, Int.reduceLT, Int.reduceLE, Int.reduceEq, Int.reduceAdd, Int.reduceSub, Int.reduceNeg, Int.reduceMul, Bool.and_self] | split)
    exact ⟨rfl, _, rfl⟩
  · repeat' (first | (refine And.intro (by omega) ?_) | simp -implicitDefEqProofs (disch := omega) only [L22, tyR, dT_lt, dF_lt, dT_le, dF_le, dT_eq, dF_eq, push_cast, ↓reduceIte, Nat.reduceEqDiff, reduceCtorEq, Nat.reduceAdd, Nat.reduceSub, Nat.reduceMul, Nat.reduceLeDiff, Nat.reduceLT, Nat.reduceMod, Nat.reduceDiv, Int.reduceToNat, Int.reduceLT, Int.reduceLE, Int.reduceEq, Int.reduceAdd, Int.reduceSub, Int.reduceNeg, Int.reduceMul, Bool.and_self] | split)
    exact ⟨rfl, _, rfl⟩
  · repeat' (first | (refine And.intro (by omega) ?_) | simp -implicitDefEqProofs (disch := omega) only [L22, tyR, dT_lt, dF_lt, dT_le, dF_le, dT_eq, dF_eq, push_cast, ↓reduceIte, Nat.reduceEqDiff, reduceCtorEq, Nat.reduceAdd, Nat.reduceSub, Nat.reduceMul, Nat.reduceLeDiff, Nat.reduceLT, Nat.reduceMod, Nat.reduceDiv, Int.reduceToNat, Int.reduceLT, Int.reduceLE, Int.reduceEq, Int.reduceAdd, Int.reduceSub, Int.reduceNeg, Int.reduceMul, Bool.and_self] | split)
    exact ⟨rfl, _, rfl⟩
  · repeat' (first | (refine And.intro (by omega) ?_) | simp -implicitDefEqProofs (disch := omega) only [L22, tyR, n1, n2, n3, n4, n5, n6, dT_lt, dF_lt, dT_le, dF_le, dT_eq, dF_eq, push_cast, ↓reduceIte, Nat.reduceEqDiff, reduceCtorEq, Nat.reduceAdd, Nat.reduceSub, Nat.reduceMul, Nat.reduceLeDiff, Nat.reduceLT, Nat.reduceMod, Nat.reduceDiv, Int.reduceToNat, Int.reduceLT, Int.reduceLE, Int.reduceEq, Int.reduceAdd, Int.reduceSub, Int.reduceNeg, Int.reduceMul, Bool.and_self] | split)
    exact ⟨by simp [formatF, n1, n2, n3, n4, n5, n6], _, rfl⟩
end Go.Proofs.Ytdibceakkjmpgaa
