/- Values: the law ValueOperators. -/
import Derived.Test.YtdgmlepakippmaaVb8
namespace Go.Proofs.Ytdgmlepakippmaa
open Go Go.Ax
set_option maxRecDepth 100000
set_option linter.unusedSimpArgs false
set_option linter.unusedVariables false

section
variable {w a b : Int} {o : List UInt8}
theorem bin_both (w a b : Int) (o : List UInt8) : ∃ n f e, (∀ H, Comp' 14 [int w, str o, int a, int b] H (binA n f e)) ∧ (∀ H, Comp' 15 [int w, str o, int a, int b] H (binA n f e)) := by
  by_cases hw : wOk w
  · by_cases ho : o ∈ opL
    · by_cases hl : o = andS ∨ o = orS
      · by_cases hb : ¬ isB a ∨ ¬ isB b
        · exact ⟨_, _, _, bin_log_no hw hl hb, binR_log_no hw hl hb⟩
        · have ha : isB a := by false_or_by_contra; exact hb (.inl (by assumption))
          have hb : isB b := by false_or_by_contra; exact hb (.inr (by assumption))
          rcases hl with rfl | rfl
          · exact ⟨_, _, _, bin_and hw ha hb, binR_and hw ha hb⟩
          · exact ⟨_, _, _, bin_or hw ha hb, binR_or hw ha hb⟩
      · have h1 : ¬ o = andS := fun h => hl (.inl h)
        have h2 : ¬ o = orS := fun h => hl (.inr h)
        by_cases hr : ¬ inI w a ∨ ¬ inI w b
        · have hq := binR_range hw ho h1 h2 hr
          simp only [opL, List.mem_cons, List.not_mem_nil, or_false] at ho
          rcases ho with rfl | rfl | rfl | rfl | rfl | rfl | rfl | rfl | rfl | rfl | rfl | rfl | rfl
          · exact ⟨_, _, _, fun H => bin_range hw ops_add h1 h2 H hr, hq⟩
          · exact ⟨_, _, _, fun H => bin_range hw ops_sub h1 h2 H hr, hq⟩
          · exact ⟨_, _, _, fun H => bin_range hw ops_mul h1 h2 H hr, hq⟩
          · exact ⟨_, _, _, fun H => bin_range hw ops_quo h1 h2 H hr, hq⟩
          · exact ⟨_, _, _, fun H => bin_range hw ops_rem h1 h2 H hr, hq⟩
          · exact ⟨_, _, _, fun H => bin_range hw ops_eq h1 h2 H hr, hq⟩
          · exact ⟨_, _, _, fun H => bin_range hw ops_ne h1 h2 H hr, hq⟩
          · exact ⟨_, _, _, fun H => bin_range hw ops_lt h1 h2 H hr, hq⟩
          · exact ⟨_, _, _, fun H => bin_range hw ops_le h1 h2 H hr, hq⟩
          · exact ⟨_, _, _, fun H => bin_range hw ops_gt h1 h2 H hr, hq⟩
          · exact ⟨_, _, _, fun H => bin_range hw ops_ge h1 h2 H hr, hq⟩
          · exact absurd rfl h1
          · exact absurd rfl h2
        · have ha : inI w a := by false_or_by_contra; exact hr (.inl (by assumption))
          have hb : inI w b := by false_or_by_contra; exact hr (.inr (by assumption))
          simp only [opL, List.mem_cons, List.not_mem_nil, or_false] at ho
          rcases ho with rfl | rfl | rfl | rfl | rfl | rfl | rfl | rfl | rfl | rfl | rfl | rfl | rfl
          · exact ⟨_, _, _, bin_add hw ha hb, binR_add hw ha hb⟩
          · exact ⟨_, _, _, bin_sub hw ha hb, binR_sub hw ha hb⟩
          · exact ⟨_, _, _, bin_mul hw ha hb, binR_mul hw ha hb⟩
          · by_cases hz : b = 0
            · subst hz
              exact ⟨_, _, _, bin_zero hw (.inl rfl) ha hb, binR_zero hw (.inl rfl) ha hb⟩
            · exact ⟨_, _, _, bin_quo hw ha hb hz, binR_quo hw ha hb hz⟩
          · by_cases hz : b = 0
            · subst hz
              exact ⟨_, _, _, bin_zero hw (.inr rfl) ha hb, binR_zero hw (.inr rfl) ha hb⟩
            · have h := bin_rem hw ha hb hz
              rw [wrF_id hw (tmod_in hw ha)] at h
              exact ⟨_, _, _, h, binR_rem hw ha hb hz⟩
          · exact ⟨_, _, _, fun H => bin_go hw ops_eq h1 h2 ha hb (.inr (by decide)) _ (op_eq a b) rfl (by unfold i64R; split <;> omega) H, binR_eq hw ha hb⟩
          · exact ⟨_, _, _, fun H => bin_go hw ops_ne h1 h2 ha hb (.inr (by decide)) _ (op_ne a b) rfl (by unfold i64R; split <;> omega) H, binR_ne hw ha hb⟩
          · exact ⟨_, _, _, fun H => bin_go hw ops_lt h1 h2 ha hb (.inr (by decide)) _ (op_lt a b) rfl (by unfold i64R; split <;> omega) H, binR_lt hw ha hb⟩
          · exact ⟨_, _, _, fun H => bin_go hw ops_le h1 h2 ha hb (.inr (by decide)) _ (op_le a b) rfl (by unfold i64R; split <;> omega) H, binR_le hw ha hb⟩
          · exact ⟨_, _, _, fun H => bin_go hw ops_gt h1 h2 ha hb (.inr (by decide)) _ (op_gt a b) rfl (by unfold i64R; split <;> omega) H, binR_gt hw ha hb⟩
          · exact ⟨_, _, _, fun H => bin_go hw ops_ge h1 h2 ha hb (.inr (by decide)) _ (op_ge a b) rfl (by unfold i64R; split <;> omega) H, binR_ge hw ha hb⟩
          · exact absurd rfl h1
          · exact absurd rfl h2
    · exact ⟨_, _, _, bin_op hw ho, binR_op hw ho⟩
  · exact ⟨_, _, _, fun H => bin_width w a b o H hw, binR_width hw⟩

theorem un_both (w a : Int) (o : List UInt8) : ∃ n e, (∀ H, Comp' 16 [int w, str o, int a] H (unA n e)) ∧ (∀ H, Comp' 17 [int w, str o, int a] H (unA n e)) := by
  by_cases hw : wOk w
  · by_cases h1 : o = [45]
    · subst h1
      by_cases ha : inI w a
      · exact ⟨_, _, un_neg hw ha, unR_neg hw ha⟩
      · exact ⟨_, _, un_neg_no hw ha, unR_neg_no hw ha⟩
    · by_cases h2 : o = notS
      · subst h2
        by_cases ha : isB a
        · exact ⟨_, _, un_not hw ha, unR_not hw ha⟩
        · exact ⟨_, _, un_not_no hw ha, unR_not_no hw ha⟩
      · exact ⟨_, _, un_op hw h1 h2, unR_op hw h1 h2⟩
  · exact ⟨_, _, un_width hw, unR_width hw⟩

theorem valueOperators (w a b : Int) (o : List UInt8) (ha : i64R a) (H : AHeap) : Comp' 5 [int w, str o, int a, int b] H (bool true) := by
  refine enter Try.func5 L5_ok (Nat.le_of_ble_eq_true rfl) ?_
  obtain ⟨n, f, e, c1, c2⟩ := bin_both w a b o
  obtain ⟨m, g, c3, c4⟩ := un_both w a o
  have c5 := fun H => wrapC w a ha H
  have c6 := fun H => wrapR w a ha H
  simp only [binA, unA] at c1 c2 c3 c4
  repeat' (first | (refine And.intro (by omega) ?_) | (refine callF_pure (c1 _) ?_) | (refine callF_pure (c2 _) ?_) | (refine callF_pure (c3 _) ?_) | (refine callF_pure (c4 _) ?_) | (refine callF_pure (c5 _) ?_) | (refine callF_pure (c6 _) ?_) | (refine callF_pure (leastC _ _) ?_) | (refine callF_pure (greatestC _ _) ?_) | (refine callF_pure (leastR _ _) ?_) | (refine callF_pure (greatestR _ _) ?_) | (refine callF_pure (awakeV _) ?_) | (refine callQF_pure (c1 _) rfl ?_) | (refine callQF_pure (c2 _) rfl ?_) | (refine callQF_pure (c3 _) rfl ?_) | (refine callQF_pure (c4 _) rfl ?_) | (refine callQF_pure (c5 _) rfl ?_) | (refine callQF_pure (c6 _) rfl ?_) | (refine callQF_pure (leastC _ _) rfl ?_) | (refine callQF_pure (greatestC _ _) rfl ?_) | (refine callQF_pure (leastR _ _) rfl ?_) | (refine callQF_pure (greatestR _ _) rfl ?_) | (refine callQF_pure (awakeV _) rfl ?_) | simp -implicitDefEqProofs (disch := omega) only [L5, dT_lt, dF_lt, dT_le, dF_le, dT_eq, dF_eq, push_cast, ↓reduceIte, Nat.reduceEqDiff, reduceCtorEq, Nat.reduceAdd, Nat.reduceSub, Nat.reduceMul, Nat.reduceLeDiff, Nat.reduceLT, Nat.reduceMod, Nat.reduceDiv, Int.reduceToNat, Int.reduceLT, Int.reduceLE, Int.reduceEq, Int.reduceAdd, Int.reduceSub, Int.reduceNeg, Int.reduceMul, Bool.and_self] | split)
end
end Go.Proofs.Ytdgmlepakippmaa
