/- Values: the law ValueDivides. -/
import Derived.Test.YtdgmlepakippmaaVb2
namespace Go.Proofs.Ytdgmlepakippmaa
open Go Go.Ax
set_option maxRecDepth 100000
set_option linter.unusedSimpArgs false
set_option linter.unusedVariables false

theorem valueDivides (w a b : Int) (ha : i64R a) (hb : i64R b) (H : AHeap) : Comp' 4 [int w, int a, int b] H (bool true) := by
  refine enter Try.func4 L4_ok (Nat.le_of_ble_eq_true rfl) ?_
  by_cases hw : wOk w
  · have c1 := fun H => wrapC w a ha H
    have c2 := fun H => wrapC w b hb H
    have hx := wrF_in hw a
    have hy := wrF_in hw b
    generalize wrF w a = x at *
    generalize wrF w b = y at *
    have hxl := inI_lt hw hx
    have hyl := inI_lt hw hy
    by_cases hy0 : y = 0
    · subst hy0
      have z1 := fun H => bin_zero hw (.inl rfl) hx hy H
      have z2 := fun H => bin_zero hw (.inr rfl) hx hy H
      simp only [binA] at z1 z2
      unfold wOk at hw
      repeat' (first | (refine And.intro (by omega) ?_) | (refine callF_pure (c1 _) ?_) | (refine callF_pure (c2 _) ?_) | (refine callF_pure (z1 _) ?_) | (refine callF_pure (z2 _) ?_) | (refine callF_pure (awakeV _) ?_) | (refine callQF_pure (c1 _) rfl ?_) | (refine callQF_pure (c2 _) rfl ?_) | (refine callQF_pure (z1 _) rfl ?_) | (refine callQF_pure (z2 _) rfl ?_) | (refine callQF_pure (awakeV _) rfl ?_) | simp -implicitDefEqProofs (disch := omega) only [L4, dT_lt, dF_lt, dT_le, dF_le, dT_eq, dF_eq, push_cast, ↓reduceIte, Nat.reduceEqDiff, reduceCtorEq, Nat.reduceAdd, Nat.reduceSub, Nat.reduceMul, Nat.reduceLeDiff, Nat.reduceLT, Nat.reduceMod, Nat.reduceDiv, Int.reduceToNat, Int.reduceLT, Int.reduceLE, Int.reduceEq, Int.reduceAdd, Int.reduceSub, Int.reduceNeg, Int.reduceMul, Bool.and_self] | split)
    · have b1 := fun H => bin_quo hw hx hy hy0 H
      have b2 := fun H => bin_rem hw hx hy hy0 H
      have hq := wrF_in hw (x.tdiv y)
      have hri := tmod_in (y := y) hw hx
      rw [wrF_id hw hri] at b2
      have b3 := fun H => bin_mul hw hq hy H
      have hp := wrF_in hw (wrF w (x.tdiv y) * y)
      have b4 := fun H => bin_add hw hp hri H
      rw [div_back hw x y hx hy] at b4
      have hrl := inI_lt hw hri
      have hr1 : (x.tmod y).natAbs < y.natAbs := by rw [Int.natAbs_tmod]; exact Nat.mod_lt _ (by omega)
      have hr2 : x.tmod y = 0 ∨ (x.tmod y < 0 ∧ x < 0) ∨ (0 < x.tmod y ∧ 0 ≤ x) := by
        by_cases h : 0 ≤ x
        · have := Int.tmod_nonneg y h
          omega
        · have := Int.tmod_nonneg y (a := -x) (by omega)
          rw [Int.neg_tmod] at this
          omega
      generalize x.tmod y = r at *
      generalize wrF w (wrF w (x.tdiv y) * y) = p at *
      generalize wrF w (x.tdiv y) = q at *
      simp only [binA] at b1 b2 b3 b4
      unfold wOk at hw
      rcases hr2 with rfl | ⟨h1, h2⟩ | ⟨h1, h2⟩
      · repeat' (first | (refine And.intro (by omega) ?_) | (refine callF_pure (c1 _) ?_) | (refine callF_pure (c2 _) ?_) | (refine callF_pure (b1 _) ?_) | (refine callF_pure (b2 _) ?_) | (refine callF_pure (b3 _) ?_) | (refine callF_pure (b4 _) ?_) | (refine callF_pure (awakeV _) ?_) | (refine callQF_pure (c1 _) rfl ?_) | (refine callQF_pure (c2 _) rfl ?_) | (refine callQF_pure (b1 _) rfl ?_) | (refine callQF_pure (b2 _) rfl ?_) | (refine callQF_pure (b3 _) rfl ?_) | (refine callQF_pure (b4 _) rfl ?_) | (refine callQF_pure (awakeV _) rfl ?_) | simp -implicitDefEqProofs (disch := omega) only [L4, dT_lt, dF_lt, dT_le, dF_le, dT_eq, dF_eq, push_cast, ↓reduceIte, Nat.reduceEqDiff, reduceCtorEq, Nat.reduceAdd, Nat.reduceSub, Nat.reduceMul, Nat.reduceLeDiff, Nat.reduceLT, Nat.reduceMod, Nat.reduceDiv, Int.reduceToNat, Int.reduceLT, Int.reduceLE, Int.reduceEq, Int.reduceAdd, Int.reduceSub, Int.reduceNeg, Int.reduceMul, Bool.and_self] | split)
      · repeat' (first | (refine And.intro (by omega) ?_) | (refine callF_pure (c1 _) ?_) | (refine callF_pure (c2 _) ?_) | (refine callF_pure (b1 _) ?_) | (refine callF_pure (b2 _) ?_) | (refine callF_pure (b3 _) ?_) | (refine callF_pure (b4 _) ?_) | (refine callF_pure (awakeV _) ?_) | (refine callQF_pure (c1 _) rfl ?_) | (refine callQF_pure (c2 _) rfl ?_) | (refine callQF_pure (b1 _) rfl ?_) | (refine callQF_pure (b2 _) rfl ?_) | (refine callQF_pure (b3 _) rfl ?_) | (refine callQF_pure (b4 _) rfl ?_) | (refine callQF_pure (awakeV _) rfl ?_) | simp -implicitDefEqProofs (disch := omega) only [L4, dT_lt, dF_lt, dT_le, dF_le, dT_eq, dF_eq, push_cast, ↓reduceIte, Nat.reduceEqDiff, reduceCtorEq, Nat.reduceAdd, Nat.reduceSub, Nat.reduceMul, Nat.reduceLeDiff, Nat.reduceLT, Nat.reduceMod, Nat.reduceDiv, Int.reduceToNat, Int.reduceLT, Int.reduceLE, Int.reduceEq, Int.reduceAdd, Int.reduceSub, Int.reduceNeg, Int.reduceMul, Bool.and_self] | split)
      · repeat' (first | (refine And.intro (by omega) ?_) | (refine callF_pure (c1 _) ?_) | (refine callF_pure (c2 _) ?_) | (refine callF_pure (b1 _) ?_) | (refine callF_pure (b2 _) ?_) | (refine callF_pure (b3 _) ?_) | (refine callF_pure (b4 _) ?_) | (refine callF_pure (awakeV _) ?_) | (refine callQF_pure (c1 _) rfl ?_) | (refine callQF_pure (c2 _) rfl ?_) | (refine callQF_pure (b1 _) rfl ?_) | (refine callQF_pure (b2 _) rfl ?_) | (refine callQF_pure (b3 _) rfl ?_) | (refine callQF_pure (b4 _) rfl ?_) | (refine callQF_pure (awakeV _) rfl ?_) | simp -implicitDefEqProofs (disch := omega) only [L4, dT_lt, dF_lt, dT_le, dF_le, dT_eq, dF_eq, push_cast, ↓reduceIte, Nat.reduceEqDiff, reduceCtorEq, Nat.reduceAdd, Nat.reduceSub, Nat.reduceMul, Nat.reduceLeDiff, Nat.reduceLT, Nat.reduceMod, Nat.reduceDiv, Int.reduceToNat, Int.reduceLT, Int.reduceLE, Int.reduceEq, Int.reduceAdd, Int.reduceSub, Int.reduceNeg, Int.reduceMul, Bool.and_self] | split)
  · by_cases h2 : w < 2
    · repeat' (first | (refine And.intro (by omega) ?_) | (refine callF_pure (awakeV _) ?_) | (refine callQF_pure (awakeV _) rfl ?_) | simp -implicitDefEqProofs (disch := omega) only [L4, dT_lt, dF_lt, dT_le, dF_le, dT_eq, dF_eq, push_cast, ↓reduceIte, Nat.reduceEqDiff, reduceCtorEq, Nat.reduceAdd, Nat.reduceSub, Nat.reduceMul, Nat.reduceLeDiff, Nat.reduceLT, Nat.reduceMod, Nat.reduceDiv, Int.reduceToNat, Int.reduceLT, Int.reduceLE, Int.reduceEq, Int.reduceAdd, Int.reduceSub, Int.reduceNeg, Int.reduceMul, Bool.and_self] | split)
    · have h3 : 8 < w := by unfold wOk at hw; omega
      repeat' (first | (refine And.intro (by omega) ?_) | (refine callF_pure (awakeV _) ?_) | (refine callQF_pure (awakeV _) rfl ?_) | simp -implicitDefEqProofs (disch := omega) only [L4, dT_lt, dF_lt, dT_le, dF_le, dT_eq, dF_eq, push_cast, ↓reduceIte, Nat.reduceEqDiff, reduceCtorEq, Nat.reduceAdd, Nat.reduceSub, Nat.reduceMul, Nat.reduceLeDiff, Nat.reduceLT, Nat.reduceMod, Nat.reduceDiv, Int.reduceToNat, Int.reduceLT, Int.reduceLE, Int.reduceEq, Int.reduceAdd, Int.reduceSub, Int.reduceNeg, Int.reduceMul, Bool.and_self] | split)
end Go.Proofs.Ytdgmlepakippmaa
