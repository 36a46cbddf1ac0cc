/- Values: plain laws of wrapping; Binary at +, -, * and <. -/
import Derived.Test.YtdgmlepakippmaaVa7
namespace Go.Proofs.Ytdgmlepakippmaa
open Go Go.Ax
set_option maxRecDepth 100000
set_option linter.unusedSimpArgs false
set_option linter.unusedVariables false

section
variable {w : Int}
theorem hf_pos (hw : wOk w) : 2 ≤ hf w ∧ hf w ≤ 128 := by
  rcases w_cases hw with rfl | rfl | rfl | rfl | rfl | rfl | rfl <;> simp [hf]
theorem inI_iff (hw : wOk w) (n : Int) : inI w n ↔ -hf w ≤ n ∧ n < hf w := by
  unfold inI leF grF
  rw [if_pos hw, if_pos hw]
  omega
theorem wrF_in (hw : wOk w) (n : Int) : inI w (wrF w n) := by
  rw [inI_iff hw]
  unfold wrF
  rw [if_pos hw]
  have h := hf_pos hw
  have h1 := Int.emod_nonneg (n + hf w) (b := 2 * hf w) (by omega)
  have h2 := Int.emod_lt_of_pos (n + hf w) (b := 2 * hf w) (by omega)
  omega
theorem wrF_mod (hw : wOk w) (n : Int) : ∃ k, wrF w n = n + k * (2 * hf w) := by
  unfold wrF
  rw [if_pos hw]
  refine ⟨-((n + hf w) / (2 * hf w)), ?_⟩
  have := Int.emod_add_mul_ediv (n + hf w) (2 * hf w)
  rw [Int.neg_mul, Int.mul_comm ((n + hf w) / (2 * hf w))]
  omega
theorem in_eq (hw : wOk w) {x y k : Int} (hx : inI w x) (hy : inI w y) (h : x = y + k * (2 * hf w)) : x = y := by
  rw [inI_iff hw] at hx hy
  have hp := hf_pos hw
  have hk : k = 0 := by
    rcases Int.lt_trichotomy k 0 with h1 | h1 | h1
    · have : k * (2 * hf w) ≤ (-1) * (2 * hf w) := Int.mul_le_mul_of_nonneg_right (by omega) (by omega)
      omega
    · exact h1
    · have : 1 * (2 * hf w) ≤ k * (2 * hf w) := Int.mul_le_mul_of_nonneg_right (by omega) (by omega)
      omega
  subst hk
  omega
theorem wrF_id (hw : wOk w) {n : Int} (h : inI w n) : wrF w n = n := by
  obtain ⟨k, hk⟩ := wrF_mod hw n
  exact in_eq hw (wrF_in hw n) h hk

/-- Numbers alike up to a multiple wrap to the same. -/
theorem wrF_congr (hw : wOk w) {x y k : Int} (h : x = y + k * (2 * hf w)) : wrF w x = wrF w y := by
  obtain ⟨a, ha⟩ := wrF_mod hw x
  obtain ⟨b, hb⟩ := wrF_mod hw y
  refine in_eq hw (k := a + k - b) (wrF_in hw x) (wrF_in hw y) ?_
  rw [ha, hb, h, Int.sub_mul, Int.add_mul]
  omega

theorem mul_small {a b : Int} (h1 : -128 ≤ a) (h2 : a ≤ 128) (h3 : -128 ≤ b) (h4 : b ≤ 128) : -16384 ≤ a * b ∧ a * b ≤ 16384 := by
  have h5 : (a * b).natAbs ≤ 128 * 128 := by
    rw [Int.natAbs_mul]
    exact Nat.mul_le_mul (by omega) (by omega)
  omega

variable {a b : Int}
theorem bin_add (hw : wOk w) (ha : inI w a) (hb : inI w b) (H : AHeap) : Comp' 14 [int w, str [43], int a, int b] H (binA (wrF w (a + b)) 0 0) := by
  have h1 := inI_lt hw ha
  have h2 := inI_lt hw hb
  have e : IntKind.i64.wrap (a + b) = a + b := wrap64_of _ (by omega) (by omega)
  exact bin_go hw ops_add (by decide) (by decide) ha hb (.inr (by decide)) (a + b) (fun H => by have := op_add a b H; rwa [e] at this) rfl (by unfold i64R; omega) H
theorem bin_sub (hw : wOk w) (ha : inI w a) (hb : inI w b) (H : AHeap) : Comp' 14 [int w, str [45], int a, int b] H (binA (wrF w (a - b)) 0 0) := by
  have h1 := inI_lt hw ha
  have h2 := inI_lt hw hb
  have e : IntKind.i64.wrap (a - b) = a - b := wrap64_of _ (by omega) (by omega)
  exact bin_go hw ops_sub (by decide) (by decide) ha hb (.inr (by decide)) (a - b) (fun H => by have := op_sub a b H; rwa [e] at this) rfl (by unfold i64R; omega) H
theorem bin_mul (hw : wOk w) (ha : inI w a) (hb : inI w b) (H : AHeap) : Comp' 14 [int w, str [42], int a, int b] H (binA (wrF w (a * b)) 0 0) := by
  have h1 := inI_lt hw ha
  have h2 := inI_lt hw hb
  have h3 := mul_small (a := a) (b := b) (by omega) (by omega) (by omega) (by omega)
  have e : IntKind.i64.wrap (a * b) = a * b := wrap64_of _ (by omega) (by omega)
  exact bin_go hw ops_mul (by decide) (by decide) ha hb (.inr (by decide)) (a * b) (fun H => by have := op_mul a b H; rwa [e] at this) rfl (by unfold i64R; omega) H
theorem bin_lt (hw : wOk w) (ha : inI w a) (hb : inI w b) (H : AHeap) : Comp' 14 [int w, str [60], int a, int b] H (binA (if a < b then 1 else 0) 0 0) := by
  have := bin_go hw ops_lt (by decide) (by decide) ha hb (.inr (by decide)) (if a < b then 1 else 0) (fun H => op_lt a b H) rfl (by unfold i64R; split <;> omega) H
  exact this

theorem wOk_iff (w : Int) : wOk w ↔ ¬ w < 2 ∧ ¬ 8 < w := by unfold wOk; omega

theorem div_back (hw : wOk w) (x y : Int) (hx : inI w x) (hy : inI w y) : wrF w (wrF w (wrF w (x.tdiv y) * y) + x.tmod y) = x := by
  obtain ⟨k1, h1⟩ := wrF_mod hw (x.tdiv y)
  obtain ⟨k2, h2⟩ := wrF_mod hw (wrF w (x.tdiv y) * y)
  have h3 := Int.tdiv_mul_add_tmod x y
  have h4 : wrF w (wrF w (x.tdiv y) * y) + x.tmod y = x + (k1 * y + k2) * (2 * hf w) := by
    rw [h2, h1, Int.add_mul, Int.add_mul, Int.mul_assoc k1 (2 * hf w) y, Int.mul_assoc k1 y, Int.mul_comm (2 * hf w) y]
    omega
  rw [wrF_congr hw h4, wrF_id hw hx]
theorem tmod_in (hw : wOk w) {x y : Int} (hx : inI w x) : inI w (x.tmod y) := by
  rw [inI_iff hw] at *
  have hp := hf_pos hw
  have h3 : (x.tmod y).natAbs ≤ x.natAbs := by rw [Int.natAbs_tmod]; exact Nat.mod_le _ _
  by_cases h : 0 ≤ x
  · have := Int.tmod_nonneg y h
    omega
  · have : x.tmod y ≤ 0 := by
      have := Int.tmod_nonneg y (a := -x) (by omega)
      rw [Int.neg_tmod] at this
      omega
    omega
end
end Go.Proofs.Ytdgmlepakippmaa
