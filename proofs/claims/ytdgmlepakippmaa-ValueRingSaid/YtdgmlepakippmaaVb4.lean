/- Values: the law ValueRing. -/
import Derived.Test.YtdgmlepakippmaaVb2
namespace Go.Proofs.Ytdgmlepakippmaa
open Go Go.Ax
set_option maxRecDepth 100000
set_option linter.unusedSimpArgs false
set_option linter.unusedVariables false

section
variable {w : Int}
theorem ring_add (hw : wOk w) (a b : Int) : wrF w (wrF w a + wrF w b) = wrF w (a + b) := by
  obtain ⟨k, hk⟩ := wrF_mod hw a
  obtain ⟨m, hm⟩ := wrF_mod hw b
  refine wrF_congr hw (k := k + m) ?_
  rw [hk, hm, Int.add_mul]
  omega
theorem ring_mul (hw : wOk w) (a b : Int) : wrF w (wrF w a * wrF w b) = wrF w (a * b) := by
  obtain ⟨k, hk⟩ := wrF_mod hw a
  obtain ⟨m, hm⟩ := wrF_mod hw b
  refine wrF_congr hw (k := a * m + k * b + k * (2 * hf w) * m) ?_
  rw [hk, hm]
  generalize 2 * hf w = z
  simp only [Int.add_mul, Int.mul_add, Int.mul_assoc]
  have e1 : k * (z * b) = k * (b * z) := by rw [Int.mul_comm z b]
  have e2 : k * (z * (m * z)) = k * (z * (m * z)) := rfl
  rw [e1]
  omega
theorem ring_neg (hw : wOk w) (x y : Int) : wrF w (x + wrF w (-y)) = wrF w (x - y) := by
  obtain ⟨k, hk⟩ := wrF_mod hw (-y)
  refine wrF_congr hw (k := k) ?_
  rw [hk]
  omega
theorem ring_mod (hw : wOk w) (a : Int) : (a - wrF w a).tmod (2 * hf w) = 0 := by
  obtain ⟨k, hk⟩ := wrF_mod hw a
  have e : a - wrF w a = (-k) * (2 * hf w) := by rw [hk, Int.neg_mul]; omega
  rw [e]
  exact Int.mul_tmod_left _ _
end

theorem valueRing (w a b : Int) (ha : i64R a) (hb : i64R b) (H : AHeap) : Comp' 6 [int w, int a, int b] H (bool true) := by
  refine enter Try.func6 L6_ok (Nat.le_of_ble_eq_true rfl) ?_
  have wmin : IntKind.i64.wrap (0 - -9223372036854775808) = -9223372036854775808 := by decide
  have wmin2 : IntKind.i64.wrap 9223372036854775808 = -9223372036854775808 := by decide
  by_cases hw : wOk w
  · have c1 := fun H => wrapC w a ha H
    have c2 := fun H => wrapC w b hb H
    unfold i64R at ha hb
    by_cases ga : -1048576 ≤ a ∧ a ≤ 1048576
    · by_cases gb : -1048576 ≤ b ∧ b ≤ 1048576
      · have hx := wrF_in hw a
        have hy := wrF_in hw b
        have f1 := ring_add hw a b
        have f2 := ring_mul hw a b
        have f4 := ring_mod hw a
        have hab : -1099511627776 ≤ a * b ∧ a * b ≤ 1099511627776 := by
          have h5 : (a * b).natAbs ≤ 1048576 * 1048576 := by
            rw [Int.natAbs_mul]
            exact Nat.mul_le_mul (by omega) (by omega)
          omega
        have ra : i64R (a + b) := by unfold i64R; omega
        have rm : i64R (a * b) := by unfold i64R; omega
        have c3 := fun H => wrapC w (a + b) ra H
        have c4 := fun H => wrapC w (a * b) rm H
        rw [← f1] at c3
        rw [← f2] at c4
        generalize wrF w a = x at *
        generalize wrF w b = y at *
        have f3 := ring_neg hw x y
        have hxl := inI_lt hw hx
        have hyl := inI_lt hw hy
        have b1 := fun H => bin_add hw hx hy H
        have b2 := fun H => bin_mul hw hx hy H
        have b3 := fun H => un_neg hw hy H
        have b4 := fun H => bin_sub hw hx hy H
        have b5 := fun H => bin_add hw hx (wrF_in hw (-y)) H
        have b6 := fun H => bin_lt hw hx hy H
        rw [f3] at b5
        simp only [binA, unA] at b1 b2 b3 b4 b5 b6
        have l1 := fun H => leastC w H
        have l2 := fun H => greatestC w H
        have hin := hx
        unfold inI at hin
        have wm : IntKind.i64.wrap (a * b) = a * b := wrap64_of _ (by omega) (by omega)
        have hsh : IntKind.i64.wrap (1 * 2 ^ min w.toNat IntKind.i64.bits) = 2 * hf w := by
          rcases w_cases hw with rfl | rfl | rfl | rfl | rfl | rfl | rfl <;> simp [hf, wrap64, IntKind.bits]
        have hfp := hf_pos hw
        have hw' := hw
        unfold wOk at hw'
        by_cases hlt : x < y
        · simp only [if_pos hlt] at b6
          repeat' (first | (refine And.intro (by omega) ?_) | (refine callF_pure (c1 _) ?_) | (refine callF_pure (c2 _) ?_) | (refine callF_pure (c3 _) ?_) | (refine callF_pure (c4 _) ?_) | (refine callF_pure (b1 _) ?_) | (refine callF_pure (b2 _) ?_) | (refine callF_pure (b3 _) ?_) | (refine callF_pure (b4 _) ?_) | (refine callF_pure (b5 _) ?_) | (refine callF_pure (b6 _) ?_) | (refine callF_pure (l1 _) ?_) | (refine callF_pure (l2 _) ?_) | (refine callF_pure (awakeV _) ?_) | (refine callQF_pure (c1 _) rfl ?_) | (refine callQF_pure (c2 _) rfl ?_) | (refine callQF_pure (c3 _) rfl ?_) | (refine callQF_pure (c4 _) rfl ?_) | (refine callQF_pure (b1 _) rfl ?_) | (refine callQF_pure (b2 _) rfl ?_) | (refine callQF_pure (b3 _) rfl ?_) | (refine callQF_pure (b4 _) rfl ?_) | (refine callQF_pure (b5 _) rfl ?_) | (refine callQF_pure (b6 _) rfl ?_) | (refine callQF_pure (l1 _) rfl ?_) | (refine callQF_pure (l2 _) rfl ?_) | (refine callQF_pure (awakeV _) rfl ?_) | simp -implicitDefEqProofs (disch := omega) only [L6, wm, hsh, f4, dT_lt, dF_lt, dT_le, dF_le, dT_eq, dF_eq, push_cast, ↓reduceIte, Nat.reduceEqDiff, reduceCtorEq, Nat.reduceAdd, Nat.reduceSub, Nat.reduceMul, Nat.reduceLeDiff, Nat.reduceLT, Nat.reduceMod, Nat.reduceDiv, Int.reduceToNat, Int.reduceLT, Int.reduceLE, Int.reduceEq, Int.reduceAdd, Int.reduceSub, Int.reduceNeg, Int.reduceMul, Bool.and_self] | split)
        · simp only [if_neg hlt] at b6
          repeat' (first | (refine And.intro (by omega) ?_) | (refine callF_pure (c1 _) ?_) | (refine callF_pure (c2 _) ?_) | (refine callF_pure (c3 _) ?_) | (refine callF_pure (c4 _) ?_) | (refine callF_pure (b1 _) ?_) | (refine callF_pure (b2 _) ?_) | (refine callF_pure (b3 _) ?_) | (refine callF_pure (b4 _) ?_) | (refine callF_pure (b5 _) ?_) | (refine callF_pure (b6 _) ?_) | (refine callF_pure (l1 _) ?_) | (refine callF_pure (l2 _) ?_) | (refine callF_pure (awakeV _) ?_) | (refine callQF_pure (c1 _) rfl ?_) | (refine callQF_pure (c2 _) rfl ?_) | (refine callQF_pure (c3 _) rfl ?_) | (refine callQF_pure (c4 _) rfl ?_) | (refine callQF_pure (b1 _) rfl ?_) | (refine callQF_pure (b2 _) rfl ?_) | (refine callQF_pure (b3 _) rfl ?_) | (refine callQF_pure (b4 _) rfl ?_) | (refine callQF_pure (b5 _) rfl ?_) | (refine callQF_pure (b6 _) rfl ?_) | (refine callQF_pure (l1 _) rfl ?_) | (refine callQF_pure (l2 _) rfl ?_) | (refine callQF_pure (awakeV _) rfl ?_) | simp -implicitDefEqProofs (disch := omega) only [L6, wm, hsh, f4, dT_lt, dF_lt, dT_le, dF_le, dT_eq, dF_eq, push_cast, ↓reduceIte, Nat.reduceEqDiff, reduceCtorEq, Nat.reduceAdd, Nat.reduceSub, Nat.reduceMul, Nat.reduceLeDiff, Nat.reduceLT, Nat.reduceMod, Nat.reduceDiv, Int.reduceToNat, Int.reduceLT, Int.reduceLE, Int.reduceEq, Int.reduceAdd, Int.reduceSub, Int.reduceNeg, Int.reduceMul, Bool.and_self] | split)
      · unfold wOk at hw
        by_cases hm : b = -9223372036854775808
        · subst hm
          repeat' (first | (refine And.intro (by omega) ?_) | (refine callF_pure (awakeV _) ?_) | (refine callQF_pure (awakeV _) rfl ?_) | simp -implicitDefEqProofs (disch := omega) only [L6, wmin, wmin2, dT_lt, dF_lt, dT_le, dF_le, dT_eq, dF_eq, push_cast, ↓reduceIte, Nat.reduceEqDiff, reduceCtorEq, Nat.reduceAdd, Nat.reduceSub, Nat.reduceMul, Nat.reduceLeDiff, Nat.reduceLT, Nat.reduceMod, Nat.reduceDiv, Int.reduceToNat, Int.reduceLT, Int.reduceLE, Int.reduceEq, Int.reduceAdd, Int.reduceSub, Int.reduceNeg, Int.reduceMul, Bool.and_self] | split)
        · have wb : IntKind.i64.wrap (0 - b) = 0 - b := wrap64_of _ (by omega) (by omega)
          by_cases hs : b < 0
          · repeat' (first | (refine And.intro (by omega) ?_) | (refine callF_pure (awakeV _) ?_) | (refine callQF_pure (awakeV _) rfl ?_) | simp -implicitDefEqProofs (disch := omega) only [L6, wb, dT_lt, dF_lt, dT_le, dF_le, dT_eq, dF_eq, push_cast, ↓reduceIte, Nat.reduceEqDiff, reduceCtorEq, Nat.reduceAdd, Nat.reduceSub, Nat.reduceMul, Nat.reduceLeDiff, Nat.reduceLT, Nat.reduceMod, Nat.reduceDiv, Int.reduceToNat, Int.reduceLT, Int.reduceLE, Int.reduceEq, Int.reduceAdd, Int.reduceSub, Int.reduceNeg, Int.reduceMul, Bool.and_self] | split)
          · repeat' (first | (refine And.intro (by omega) ?_) | (refine callF_pure (awakeV _) ?_) | (refine callQF_pure (awakeV _) rfl ?_) | simp -implicitDefEqProofs (disch := omega) only [L6, wb, dT_lt, dF_lt, dT_le, dF_le, dT_eq, dF_eq, push_cast, ↓reduceIte, Nat.reduceEqDiff, reduceCtorEq, Nat.reduceAdd, Nat.reduceSub, Nat.reduceMul, Nat.reduceLeDiff, Nat.reduceLT, Nat.reduceMod, Nat.reduceDiv, Int.reduceToNat, Int.reduceLT, Int.reduceLE, Int.reduceEq, Int.reduceAdd, Int.reduceSub, Int.reduceNeg, Int.reduceMul, Bool.and_self] | split)
    · unfold wOk at hw
      by_cases hm : a = -9223372036854775808
      · subst hm
        repeat' (first | (refine And.intro (by omega) ?_) | (refine callF_pure (awakeV _) ?_) | (refine callQF_pure (awakeV _) rfl ?_) | simp -implicitDefEqProofs (disch := omega) only [L6, wmin, wmin2, dT_lt, dF_lt, dT_le, dF_le, dT_eq, dF_eq, push_cast, ↓reduceIte, Nat.reduceEqDiff, reduceCtorEq, Nat.reduceAdd, Nat.reduceSub, Nat.reduceMul, Nat.reduceLeDiff, Nat.reduceLT, Nat.reduceMod, Nat.reduceDiv, Int.reduceToNat, Int.reduceLT, Int.reduceLE, Int.reduceEq, Int.reduceAdd, Int.reduceSub, Int.reduceNeg, Int.reduceMul, Bool.and_self] | split)
      · have wb : IntKind.i64.wrap (0 - a) = 0 - a := wrap64_of _ (by omega) (by omega)
        by_cases hs : a < 0
        · repeat' (first | (refine And.intro (by omega) ?_) | (refine callF_pure (awakeV _) ?_) | (refine callQF_pure (awakeV _) rfl ?_) | simp -implicitDefEqProofs (disch := omega) only [L6, wb, dT_lt, dF_lt, dT_le, dF_le, dT_eq, dF_eq, push_cast, ↓reduceIte, Nat.reduceEqDiff, reduceCtorEq, Nat.reduceAdd, Nat.reduceSub, Nat.reduceMul, Nat.reduceLeDiff, Nat.reduceLT, Nat.reduceMod, Nat.reduceDiv, Int.reduceToNat, Int.reduceLT, Int.reduceLE, Int.reduceEq, Int.reduceAdd, Int.reduceSub, Int.reduceNeg, Int.reduceMul, Bool.and_self] | split)
        · repeat' (first | (refine And.intro (by omega) ?_) | (refine callF_pure (awakeV _) ?_) | (refine callQF_pure (awakeV _) rfl ?_) | simp -implicitDefEqProofs (disch := omega) only [L6, wb, dT_lt, dF_lt, dT_le, dF_le, dT_eq, dF_eq, push_cast, ↓reduceIte, Nat.reduceEqDiff, reduceCtorEq, Nat.reduceAdd, Nat.reduceSub, Nat.reduceMul, Nat.reduceLeDiff, Nat.reduceLT, Nat.reduceMod, Nat.reduceDiv, Int.reduceToNat, Int.reduceLT, Int.reduceLE, Int.reduceEq, Int.reduceAdd, Int.reduceSub, Int.reduceNeg, Int.reduceMul, Bool.and_self] | split)
  · by_cases h2 : w < 2
    · repeat' (first | (refine And.intro (by omega) ?_) | (refine callF_pure (awakeV _) ?_) | (refine callQF_pure (awakeV _) rfl ?_) | simp -implicitDefEqProofs (disch := omega) only [L6, dT_lt, dF_lt, dT_le, dF_le, dT_eq, dF_eq, push_cast, ↓reduceIte, Nat.reduceEqDiff, reduceCtorEq, Nat.reduceAdd, Nat.reduceSub, Nat.reduceMul, Nat.reduceLeDiff, Nat.reduceLT, Nat.reduceMod, Nat.reduceDiv, Int.reduceToNat, Int.reduceLT, Int.reduceLE, Int.reduceEq, Int.reduceAdd, Int.reduceSub, Int.reduceNeg, Int.reduceMul, Bool.and_self] | split)
    · have h3 : 8 < w := by unfold wOk at hw; omega
      repeat' (first | (refine And.intro (by omega) ?_) | (refine callF_pure (awakeV _) ?_) | (refine callQF_pure (awakeV _) rfl ?_) | simp -implicitDefEqProofs (disch := omega) only [L6, dT_lt, dF_lt, dT_le, dF_le, dT_eq, dF_eq, push_cast, ↓reduceIte, Nat.reduceEqDiff, reduceCtorEq, Nat.reduceAdd, Nat.reduceSub, Nat.reduceMul, Nat.reduceLeDiff, Nat.reduceLT, Nat.reduceMod, Nat.reduceDiv, Int.reduceToNat, Int.reduceLT, Int.reduceLE, Int.reduceEq, Int.reduceAdd, Int.reduceSub, Int.reduceNeg, Int.reduceMul, Bool.and_self] | split)
end Go.Proofs.Ytdgmlepakippmaa
