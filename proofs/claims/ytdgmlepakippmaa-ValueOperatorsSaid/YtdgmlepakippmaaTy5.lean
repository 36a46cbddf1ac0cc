/- Types, part 5: the text of a type. -/
import Derived.Test.YtdgmlepakippmaaTy4
namespace Go.Proofs.Ytdgmlepakippmaa
open Go Go.Ax
set_option maxRecDepth 100000
set_option linter.unusedSimpArgs false
set_option linter.unusedVariables false

/-- A number in decimal. -/
def decN : Nat → Nat → List UInt8
  | 0, _ => []
  | f + 1, n => if n < 10 then [UInt8.ofNat (48 + n)] else decN f (n / 10) ++ [UInt8.ofNat (48 + n % 10)]
def decF (n : Nat) : List UInt8 := decN (n + 1) n
theorem decN_fuel : ∀ (f g n : Nat), n < f → n < g → decN f n = decN g n
  | 0, _, _, h, _ => by omega
  | _, 0, _, _, h => by omega
  | f + 1, g + 1, n, h, h' => by
    unfold decN
    split
    · rfl
    · rw [decN_fuel f g (n / 10) (by omega) (by omega)]
theorem decF_small {n : Nat} (h : n < 10) : decF n = [UInt8.ofNat (48 + n)] := by unfold decF decN; rw [if_pos h]
theorem decF_big {n : Nat} (h : ¬ n < 10) : decF n = decF (n / 10) ++ [UInt8.ofNat (48 + n % 10)] := by
  have e : decF n = decN n (n / 10) ++ [UInt8.ofNat (48 + n % 10)] := by
    conv => lhs; unfold decF decN
    rw [if_neg h]
  rw [e, decN_fuel n (n / 10 + 1) (n / 10) (by omega) (by omega)]
  rfl
theorem decF_len : ∀ (k n : Nat), n < 10 ^ (k + 1) → (decF n).length ≤ k + 1
  | 0, n, h => by rw [decF_small (by simpa using h)]; simp
  | k + 1, n, h => by
    by_cases h10 : n < 10
    · rw [decF_small h10]; simp
    · rw [decF_big h10]
      have := decF_len k (n / 10) (by rw [Nat.pow_succ] at h; omega)
      simp; omega
theorem decF_19 {n : Nat} (h : n ≤ 9223372036854775807) : (decF n).length ≤ 19 := by
  have h2 : (10 : Nat) ^ (18 + 1) = 10000000000000000000 := by simp
  exact decF_len 18 n (by omega)
theorem utf8_digit {n : Nat} (h : n < 10) : Utf8.encode (48 + (n : Int)) = mkS [UInt8.ofNat (48 + n)] := by
  have hn : n = 0 ∨ n = 1 ∨ n = 2 ∨ n = 3 ∨ n = 4 ∨ n = 5 ∨ n = 6 ∨ n = 7 ∨ n = 8 ∨ n = 9 := by omega
  rcases hn with rfl | rfl | rfl | rfl | rfl | rfl | rfl | rfl | rfl | rfl <;> decide +kernel
theorem tdivN (n k : Nat) : (n : Int).tdiv k = ((n / k : Nat) : Int) := rfl
theorem tdiv10 (n : Nat) : (n : Int).tdiv 10 = ((n / 10 : Nat) : Int) := rfl
theorem tmod10 (n : Nat) : (n : Int).tmod 10 = ((n % 10 : Nat) : Int) := rfl

/-- The text of a type. -/
def formatF (t : Ty) : List UInt8 :=
  if t.k = 1 then [105, 110, 116] else if t.k = 2 then [98, 111, 111, 108]
  else if t.k = 3 then (if 0 ≤ t.len then [105, 110, 116, 91] ++ decF t.len.toNat ++ [93] else [])
  else if t.k = 4 then t.rc else if t.k = 5 then [97, 114, 114, 97, 121] else if t.k = 6 then [105, 110, 116, 32, 111, 114, 32, 98, 111, 111, 108] else []
end Go.Proofs.Ytdgmlepakippmaa
