/- Parts, merged by a program (wip/tools/merge.py): Tb7 Tb8 Tb9 Tb10. -/
import Derived.Test.YtiibbkbcebccnaaM3
/- Texts: the examples; the law TextTurns. -/
namespace Go.Proofs.Ytiibbkbcebccnaa
open Go Go.Ax Go.RowKit
set_option maxRecDepth 100000
set_option linter.unusedSimpArgs false
set_option linter.unusedVariables false

theorem awakeC (H : AHeap) : Comp' 9 [] H (bool true) := by
  refine enter Try.func9 L9_ok (Nat.le_of_ble_eq_true rfl) ?_
  have c1 := fun H => posT [97, 98, 10, 99, 100] 4 (by decide) H
  rw [show posF [97, 98, 10, 99, 100] 4 = (2, 2) by decide +kernel] at c1
  have fw : Fewr [⟨1, 2, [120, 121]⟩, ⟨3, 3, [122]⟩] := ⟨by decide, by simp⟩
  have c2 := fun H => appT [97, 98, 10, 99, 100] [⟨1, 2, [120, 121]⟩, ⟨3, 3, [122]⟩] (by decide) fw H
  rw [show appF [97, 98, 10, 99, 100] [⟨1, 2, [120, 121]⟩, ⟨3, 3, [122]⟩] = [97, 120, 121, 10, 122, 99, 100] by decide +kernel, show fitsF (([97, 98, 10, 99, 100] : List UInt8).length : Nat) [⟨1, 2, [120, 121]⟩, ⟨3, 3, [122]⟩] = 0 by decide +kernel] at c2
  have c3 := fun H => linesT [97, 98, 10, 99, 100] (by decide) H
  rw [show linG [97, 98, 10, 99, 100] ([97, 98, 10, 99, 100] : List UInt8).length = [0, 3] by decide +kernel] at c3
  have c4 := fun H => intsC [0, 3] [0, 3] (by decide) H
  have c5 := fun H => movT [⟨1, 2, [120, 121]⟩, ⟨3, 3, [122]⟩] 3 fw H
  rw [show movF [⟨1, 2, [120, 121]⟩, ⟨3, 3, [122]⟩] 3 = 5 by decide +kernel] at c5
  have c6 := fun H => difT [97, 98, 99] [97, 88, 99] (by decide) (by decide) H
  rw [show difF [97, 98, 99] [97, 88, 99] = ⟨1, 2, [88]⟩ by rfl] at c6
  simp only [List.map, reR, iR] at c1 c2 c3 c4 c5 c6
  repeat' (first | (refine And.intro (by omega) ?_) | (refine callF_pure (c1 _) ?_) | (refine callF_pure (c2 _) ?_) | (refine callF_pure (c3 _) ?_) | (refine callF_pure (c4 _) ?_) | (refine callF_pure (c5 _) ?_) | (refine callF_pure (c6 _) ?_) | (refine callQF_pure (c1 _) (by first | rfl | simp -implicitDefEqProofs (disch := omega) only [L9, dT_lt, dF_lt, dT_le, dF_le, dT_eq, dF_eq, push_cast, ↓reduceIte, Nat.reduceEqDiff, reduceCtorEq, Nat.reduceAdd, Nat.reduceSub, Nat.reduceMul, Nat.reduceLeDiff, Nat.reduceLT, Nat.reduceMod, Nat.reduceDiv, Int.reduceToNat, Int.reduceLT, Int.reduceLE, Int.reduceEq, Int.reduceAdd, Int.reduceSub, Int.reduceNeg, Int.reduceMul, Bool.and_self]) ?_) | (refine callQF_pure (c2 _) (by first | rfl | simp -implicitDefEqProofs (disch := omega) only [L9, dT_lt, dF_lt, dT_le, dF_le, dT_eq, dF_eq, push_cast, ↓reduceIte, Nat.reduceEqDiff, reduceCtorEq, Nat.reduceAdd, Nat.reduceSub, Nat.reduceMul, Nat.reduceLeDiff, Nat.reduceLT, Nat.reduceMod, Nat.reduceDiv, Int.reduceToNat, Int.reduceLT, Int.reduceLE, Int.reduceEq, Int.reduceAdd, Int.reduceSub, Int.reduceNeg, Int.reduceMul, Bool.and_self]) ?_) | (refine callQF_pure (c3 _) (by first | rfl | simp -implicitDefEqProofs (disch := omega) only [L9, dT_lt, dF_lt, dT_le, dF_le, dT_eq, dF_eq, push_cast, ↓reduceIte, Nat.reduceEqDiff, reduceCtorEq, Nat.reduceAdd, Nat.reduceSub, Nat.reduceMul, Nat.reduceLeDiff, Nat.reduceLT, Nat.reduceMod, Nat.reduceDiv, Int.reduceToNat, Int.reduceLT, Int.reduceLE, Int.reduceEq, Int.reduceAdd, Int.reduceSub, Int.reduceNeg, Int.reduceMul, Bool.and_self]) ?_) | (refine callQF_pure (c4 _) (by first | rfl | simp -implicitDefEqProofs (disch := omega) only [L9, dT_lt, dF_lt, dT_le, dF_le, dT_eq, dF_eq, push_cast, ↓reduceIte, Nat.reduceEqDiff, reduceCtorEq, Nat.reduceAdd, Nat.reduceSub, Nat.reduceMul, Nat.reduceLeDiff, Nat.reduceLT, Nat.reduceMod, Nat.reduceDiv, Int.reduceToNat, Int.reduceLT, Int.reduceLE, Int.reduceEq, Int.reduceAdd, Int.reduceSub, Int.reduceNeg, Int.reduceMul, Bool.and_self]) ?_) | (refine callQF_pure (c5 _) (by first | rfl | simp -implicitDefEqProofs (disch := omega) only [L9, dT_lt, dF_lt, dT_le, dF_le, dT_eq, dF_eq, push_cast, ↓reduceIte, Nat.reduceEqDiff, reduceCtorEq, Nat.reduceAdd, Nat.reduceSub, Nat.reduceMul, Nat.reduceLeDiff, Nat.reduceLT, Nat.reduceMod, Nat.reduceDiv, Int.reduceToNat, Int.reduceLT, Int.reduceLE, Int.reduceEq, Int.reduceAdd, Int.reduceSub, Int.reduceNeg, Int.reduceMul, Bool.and_self]) ?_) | (refine callQF_pure (c6 _) (by first | rfl | simp -implicitDefEqProofs (disch := omega) only [L9, dT_lt, dF_lt, dT_le, dF_le, dT_eq, dF_eq, push_cast, ↓reduceIte, Nat.reduceEqDiff, reduceCtorEq, Nat.reduceAdd, Nat.reduceSub, Nat.reduceMul, Nat.reduceLeDiff, Nat.reduceLT, Nat.reduceMod, Nat.reduceDiv, Int.reduceToNat, Int.reduceLT, Int.reduceLE, Int.reduceEq, Int.reduceAdd, Int.reduceSub, Int.reduceNeg, Int.reduceMul, Bool.and_self]) ?_) | simp -implicitDefEqProofs (disch := omega) only [L9, dT_lt, dF_lt, dT_le, dF_le, dT_eq, dF_eq, push_cast, ↓reduceIte, Nat.reduceEqDiff, reduceCtorEq, Nat.reduceAdd, Nat.reduceSub, Nat.reduceMul, Nat.reduceLeDiff, Nat.reduceLT, Nat.reduceMod, Nat.reduceDiv, Int.reduceToNat, Int.reduceLT, Int.reduceLE, Int.reduceEq, Int.reduceAdd, Int.reduceSub, Int.reduceNeg, Int.reduceMul, Bool.and_self] | split)
  rfl
#print axioms awakeC

theorem textTurns (a b : List UInt8) (H : AHeap) : Comp' 3 [str a, str b] H (bool true) := by
  refine ACall.drop (R := fun x => x = bool true) ?_
  refine enter Try.func3 L3_ok (Nat.le_of_ble_eq_true rfl) ?_
  by_cases ha : a.length ≤ 300
  · by_cases hb : b.length ≤ 300
    · have c1 := fun H => difT a b (by omega) (by omega) H
      have c2 := fun H => difR a b (by omega) (by omega) H
      have c3 := fun H => appT a [difF a b] (by omega) (fewr1 a b hb) H
      have hA : appF a [difF a b] = b := by unfold appF; rw [if_pos (dif_fits a b hb), dif_apply]
      rw [dif_fits a b hb, hA] at c3
      generalize difF a b = d at *
      obtain ⟨x, y, z⟩ := d
      simp only [List.map, reR] at c1 c2 c3
      have hgg : ∀ x : HO, (H ++ [x])[H.length]? = some x := fun x => by simp
      repeat' (first | (refine And.intro (by omega) ?_) | (refine callF_pure (c1 _) ?_) | (refine callF_pure (c2 _) ?_) | (refine callF_pure (c3 _) ?_) | (refine callF_pure (awakeC _) ?_) | (refine callQF_pure (c1 _) (by first | rfl | simp -implicitDefEqProofs (disch := omega) only [L3, splice, hgg, dT_lt, dF_lt, dT_le, dF_le, dT_eq, dF_eq, push_cast, ↓reduceIte, Nat.reduceEqDiff, reduceCtorEq, Nat.reduceAdd, Nat.reduceSub, Nat.reduceMul, Nat.reduceLeDiff, Nat.reduceLT, Nat.reduceMod, Nat.reduceDiv, Int.reduceToNat, Int.reduceLT, Int.reduceLE, Int.reduceEq, Int.reduceAdd, Int.reduceSub, Int.reduceNeg, Int.reduceMul, Bool.and_self]) ?_) | (refine callQF_pure (c2 _) (by first | rfl | simp -implicitDefEqProofs (disch := omega) only [L3, splice, hgg, dT_lt, dF_lt, dT_le, dF_le, dT_eq, dF_eq, push_cast, ↓reduceIte, Nat.reduceEqDiff, reduceCtorEq, Nat.reduceAdd, Nat.reduceSub, Nat.reduceMul, Nat.reduceLeDiff, Nat.reduceLT, Nat.reduceMod, Nat.reduceDiv, Int.reduceToNat, Int.reduceLT, Int.reduceLE, Int.reduceEq, Int.reduceAdd, Int.reduceSub, Int.reduceNeg, Int.reduceMul, Bool.and_self]) ?_) | (refine callQF_pure (c3 _) (by first | rfl | simp -implicitDefEqProofs (disch := omega) only [L3, splice, hgg, dT_lt, dF_lt, dT_le, dF_le, dT_eq, dF_eq, push_cast, ↓reduceIte, Nat.reduceEqDiff, reduceCtorEq, Nat.reduceAdd, Nat.reduceSub, Nat.reduceMul, Nat.reduceLeDiff, Nat.reduceLT, Nat.reduceMod, Nat.reduceDiv, Int.reduceToNat, Int.reduceLT, Int.reduceLE, Int.reduceEq, Int.reduceAdd, Int.reduceSub, Int.reduceNeg, Int.reduceMul, Bool.and_self]) ?_) | (refine callQF_pure (awakeC _) (by first | rfl | simp -implicitDefEqProofs (disch := omega) only [L3, splice, hgg, dT_lt, dF_lt, dT_le, dF_le, dT_eq, dF_eq, push_cast, ↓reduceIte, Nat.reduceEqDiff, reduceCtorEq, Nat.reduceAdd, Nat.reduceSub, Nat.reduceMul, Nat.reduceLeDiff, Nat.reduceLT, Nat.reduceMod, Nat.reduceDiv, Int.reduceToNat, Int.reduceLT, Int.reduceLE, Int.reduceEq, Int.reduceAdd, Int.reduceSub, Int.reduceNeg, Int.reduceMul, Bool.and_self]) ?_) | simp -implicitDefEqProofs (disch := omega) only [L3, splice, hgg, dT_lt, dF_lt, dT_le, dF_le, dT_eq, dF_eq, push_cast, ↓reduceIte, Nat.reduceEqDiff, reduceCtorEq, Nat.reduceAdd, Nat.reduceSub, Nat.reduceMul, Nat.reduceLeDiff, Nat.reduceLT, Nat.reduceMod, Nat.reduceDiv, Int.reduceToNat, Int.reduceLT, Int.reduceLE, Int.reduceEq, Int.reduceAdd, Int.reduceSub, Int.reduceNeg, Int.reduceMul, Bool.and_self] | split)
      all_goals first | exact ⟨_, rfl⟩ | (rename_i h; exact absurd (by simp [kEq]) h)
    · repeat' (first | (refine And.intro (by omega) ?_) | (refine callF_pure (awakeC _) ?_) | (refine callQF_pure (awakeC _) (by first | rfl | simp -implicitDefEqProofs (disch := omega) only [L3, dT_lt, dF_lt, dT_le, dF_le, dT_eq, dF_eq, push_cast, ↓reduceIte, Nat.reduceEqDiff, reduceCtorEq, Nat.reduceAdd, Nat.reduceSub, Nat.reduceMul, Nat.reduceLeDiff, Nat.reduceLT, Nat.reduceMod, Nat.reduceDiv, Int.reduceToNat, Int.reduceLT, Int.reduceLE, Int.reduceEq, Int.reduceAdd, Int.reduceSub, Int.reduceNeg, Int.reduceMul, Bool.and_self]) ?_) | simp -implicitDefEqProofs (disch := omega) only [L3, dT_lt, dF_lt, dT_le, dF_le, dT_eq, dF_eq, push_cast, ↓reduceIte, Nat.reduceEqDiff, reduceCtorEq, Nat.reduceAdd, Nat.reduceSub, Nat.reduceMul, Nat.reduceLeDiff, Nat.reduceLT, Nat.reduceMod, Nat.reduceDiv, Int.reduceToNat, Int.reduceLT, Int.reduceLE, Int.reduceEq, Int.reduceAdd, Int.reduceSub, Int.reduceNeg, Int.reduceMul, Bool.and_self] | split)
      exact ⟨[], by simp⟩
  · repeat' (first | (refine And.intro (by omega) ?_) | (refine callF_pure (awakeC _) ?_) | (refine callQF_pure (awakeC _) (by first | rfl | simp -implicitDefEqProofs (disch := omega) only [L3, dT_lt, dF_lt, dT_le, dF_le, dT_eq, dF_eq, push_cast, ↓reduceIte, Nat.reduceEqDiff, reduceCtorEq, Nat.reduceAdd, Nat.reduceSub, Nat.reduceMul, Nat.reduceLeDiff, Nat.reduceLT, Nat.reduceMod, Nat.reduceDiv, Int.reduceToNat, Int.reduceLT, Int.reduceLE, Int.reduceEq, Int.reduceAdd, Int.reduceSub, Int.reduceNeg, Int.reduceMul, Bool.and_self]) ?_) | simp -implicitDefEqProofs (disch := omega) only [L3, dT_lt, dF_lt, dT_le, dF_le, dT_eq, dF_eq, push_cast, ↓reduceIte, Nat.reduceEqDiff, reduceCtorEq, Nat.reduceAdd, Nat.reduceSub, Nat.reduceMul, Nat.reduceLeDiff, Nat.reduceLT, Nat.reduceMod, Nat.reduceDiv, Int.reduceToNat, Int.reduceLT, Int.reduceLE, Int.reduceEq, Int.reduceAdd, Int.reduceSub, Int.reduceNeg, Int.reduceMul, Bool.and_self] | split)
    exact ⟨[], by simp⟩
#print axioms textTurns
end Go.Proofs.Ytiibbkbcebccnaa

/- Texts: Few; where offsets move, in plain Lean. -/
namespace Go.Proofs.Ytiibbkbcebccnaa
open Go Go.Ax Go.RowKit
set_option maxRecDepth 100000
set_option linter.unusedSimpArgs false
set_option linter.unusedVariables false

def shortF (l : List Re) : Bool := l.all fun x => decide (x.x.length ≤ 60)
def fewF (l : List Re) : Bool := shortF l && decide (l.length ≤ 10)
theorem shortF_snoc {l : List Re} {j : Nat} (h : j < l.length) : shortF (l.take (j + 1)) = (shortF (l.take j) && decide ((l.getD j default).x.length ≤ 60)) := by
  rw [take_snoc h]; simp [shortF]
theorem shortF_false {l : List Re} {j : Nat} (h : j < l.length) (hx : ¬ (l.getD j default).x.length ≤ 60) : shortF l = false := by
  simp only [shortF, List.all_eq_false, decide_eq_true_eq]
  exact ⟨_, getD_mem' h, hx⟩
theorem fewF_Fewr {l : List Re} (h : fewF l = true) : Fewr l ∧ ∀ x ∈ l, x.x.length ≤ 60 := by
  simp only [fewF, shortF, Bool.and_eq_true, decide_eq_true_eq, List.all_eq_true] at h
  exact ⟨⟨h.2, fun x hx => by have := h.1 x hx; omega⟩, h.1⟩
theorem fewC (l : List Re) (hl : l.length ≤ 9223372036854775807) (H : AHeap) : Comp' 13 [.sl 3 (l.map reR)] H (bool (fewF l)) := by
  refine enter Try.func13 L13_ok (Nat.le_of_ble_eq_true rfl) ?_
  repeat' (first | (refine And.intro (by omega) ?_) | simp -implicitDefEqProofs (disch := omega) only [L13, dT_lt, dF_lt, dT_le, dF_le, dT_eq, dF_eq, push_cast, ↓reduceIte, Nat.reduceEqDiff, reduceCtorEq, Nat.reduceAdd, Nat.reduceSub, Nat.reduceMul, Nat.reduceLeDiff, Nat.reduceLT, Nat.reduceMod, Nat.reduceDiv, Int.reduceToNat, Int.reduceLT, Int.reduceLE, Int.reduceEq, Int.reduceAdd, Int.reduceSub, Int.reduceNeg, Int.reduceMul, Bool.and_self] | split)
  refine rk_loopS (fun (j : Nat) e' H' => e' 0 = .sl 3 (l.map reR) ∧ e' 3 = int j ∧ H = H' ∧ j ≤ l.length ∧ shortF (l.take j) = true) (fun j => l.length - j) 0 ?_ ?_
  · exact ⟨rfl, rfl, rfl, Nat.zero_le _, rfl⟩
  rintro j e' H' ⟨h0, h3, rfl, hj, hs⟩
  by_cases hlt : j < l.length
  · by_cases hx : (l.getD j default).x.length ≤ 60
    · repeat' (first | (refine And.intro (by omega) ?_) | simp -implicitDefEqProofs (disch := omega) only [h0, h3, rows_getD, re_len, re_take, re_drop1, re_drop2, re_drop3, re_c1s, re_cl, re_cells, re_agg, dT_lt, dF_lt, dT_le, dF_le, dT_eq, dF_eq, push_cast, ↓reduceIte, Nat.reduceEqDiff, reduceCtorEq, Nat.reduceAdd, Nat.reduceSub, Nat.reduceMul, Nat.reduceLeDiff, Nat.reduceLT, Nat.reduceMod, Nat.reduceDiv, Int.reduceToNat, Int.reduceLT, Int.reduceLE, Int.reduceEq, Int.reduceAdd, Int.reduceSub, Int.reduceNeg, Int.reduceMul, Bool.and_self] | split)
      exact .mk (j + 1) ⟨h0, rfl, rfl, hlt, by rw [shortF_snoc hlt, hs, decide_eq_true hx]; rfl⟩ (by omega)
    · have hF : fewF l = false := by unfold fewF; rw [shortF_false hlt hx]; rfl
      rw [hF]
      repeat' (first | (refine And.intro (by omega) ?_) | simp -implicitDefEqProofs (disch := omega) only [h0, h3, rows_getD, re_len, re_take, re_drop1, re_drop2, re_drop3, re_c1s, re_cl, re_cells, re_agg, dT_lt, dF_lt, dT_le, dF_le, dT_eq, dF_eq, push_cast, ↓reduceIte, Nat.reduceEqDiff, reduceCtorEq, Nat.reduceAdd, Nat.reduceSub, Nat.reduceMul, Nat.reduceLeDiff, Nat.reduceLT, Nat.reduceMod, Nat.reduceDiv, Int.reduceToNat, Int.reduceLT, Int.reduceLE, Int.reduceEq, Int.reduceAdd, Int.reduceSub, Int.reduceNeg, Int.reduceMul, Bool.and_self] | split)
      omega
  · rw [List.take_of_length_le (by omega)] at hs
    by_cases h10 : l.length ≤ 10
    · have hF : fewF l = true := by unfold fewF; rw [hs]; simp [h10]
      rw [hF]
      repeat' (first | (refine And.intro (by omega) ?_) | simp -implicitDefEqProofs (disch := omega) only [h0, h3, dT_lt, dF_lt, dT_le, dF_le, dT_eq, dF_eq, push_cast, ↓reduceIte, Nat.reduceEqDiff, reduceCtorEq, Nat.reduceAdd, Nat.reduceSub, Nat.reduceMul, Nat.reduceLeDiff, Nat.reduceLT, Nat.reduceMod, Nat.reduceDiv, Int.reduceToNat, Int.reduceLT, Int.reduceLE, Int.reduceEq, Int.reduceAdd, Int.reduceSub, Int.reduceNeg, Int.reduceMul, Bool.and_self] | split)
    · have hF : fewF l = false := by unfold fewF; rw [hs]; simp [h10]
      rw [hF]
      repeat' (first | (refine And.intro (by omega) ?_) | simp -implicitDefEqProofs (disch := omega) only [h0, h3, dT_lt, dF_lt, dT_le, dF_le, dT_eq, dF_eq, push_cast, ↓reduceIte, Nat.reduceEqDiff, reduceCtorEq, Nat.reduceAdd, Nat.reduceSub, Nat.reduceMul, Nat.reduceLeDiff, Nat.reduceLT, Nat.reduceMod, Nat.reduceDiv, Int.reduceToNat, Int.reduceLT, Int.reduceLE, Int.reduceEq, Int.reduceAdd, Int.reduceSub, Int.reduceNeg, Int.reduceMul, Bool.and_self] | split)
#print axioms fewC

/-- An offset lies in a span. -/
def insF (i : Int) (l : List Re) : Bool := l.any fun x => decide (x.a ≤ i) && decide (i < x.e)
theorem insF_cons {i : Int} {x : Re} {l : List Re} : insF i (x :: l) = ((decide (x.a ≤ i) && decide (i < x.e)) || insF i l) := rfl
theorem insF_snoc {i : Int} {l : List Re} {j : Nat} (h : j < l.length) : insF i (l.take (j + 1)) = (insF i (l.take j) || (decide ((l.getD j default).a ≤ i) && decide (i < (l.getD j default).e))) := by
  rw [take_snoc h]; simp [insF]
/-- In order, from c on, within n. -/
def Ord (n : Int) : Int → List Re → Prop
  | _, [] => True
  | c, x :: l => c ≤ x.a ∧ x.a ≤ x.e ∧ x.e ≤ n ∧ Ord n x.e l
theorem ord_of_fits {n : Int} : ∀ {l : List Re} {c : Int}, fitsG n c l = 0 → Ord n c l
  | [], _, _ => trivial
  | x :: l, c, h => by
    simp only [fitsG] at h
    split at h
    · omega
    · split at h
      · omega
      · exact ⟨by omega, by omega, by omega, ord_of_fits h⟩
theorem ord_mono {n : Int} {l : List Re} {c d : Int} (h : Ord n c l) (hd : d ≤ c) : Ord n d l := by
  cases l with
  | nil => trivial
  | cons x l => exact ⟨by have := h.1; omega, h.2⟩
theorem ord_ok {n : Int} (hn : n ≤ 16384) : ∀ {l : List Re} {c : Int}, Ord n c l → movOk c l = true
  | [], _, _ => rfl
  | x :: l, c, h => by
    obtain ⟨h1, h2, h3, h4⟩ := h
    simp only [movOk, Bool.and_eq_true, decide_eq_true_eq]
    exact ⟨h1, h2, by omega, ord_ok hn h4⟩
theorem movG_before {n i : Int} : ∀ {l : List Re} {c sh : Int}, Ord n c l → i < c → movG i sh l = i + sh
  | [], _, _, _, _ => rfl
  | x :: l, c, sh, h, hi => by
    obtain ⟨h1, h2, h3, h4⟩ := h
    simp only [movG]
    rw [if_neg (by omega), if_neg (by omega)]
    exact movG_before h4 (by omega)
theorem movG_in {s : List UInt8} {i : Nat} (hi : i < s.length) : ∀ {l : List Re} {c : Nat} {sh : Int}, Ord s.length c l → c ≤ i → insF i l = false → ∃ k : Nat, movG i sh l = sh + c + k ∧ k < (appG s c l).length ∧ (appG s c l).getD k 0 = s.getD i 0
  | [], c, sh, _, hc, _ => ⟨i - c, by simp only [movG]; omega, by simp only [appG, List.length_drop]; omega, by
      simp only [appG, List.getD_eq_getElem?_getD, List.getElem?_drop]
      rw [show c + (i - c) = i by omega]⟩
  | x :: l, c, sh, h, hc, hin => by
    obtain ⟨h1, h2, h3, h4⟩ := h
    rw [insF_cons, Bool.or_eq_false_iff] at hin
    obtain ⟨hx, hin⟩ := hin
    obtain ⟨a, ha⟩ : ∃ a : Nat, x.a = a := ⟨x.a.toNat, by omega⟩
    obtain ⟨e, he⟩ : ∃ e : Nat, x.e = e := ⟨x.e.toNat, by omega⟩
    simp only [movG, appG, ha, he, Int.toNat_natCast] at *
    have hl1 : ((s.take a).drop c).length = a - c := by rw [List.length_drop, List.length_take]; omega
    by_cases hlt : i < a
    · rw [if_neg (by omega), if_neg (by omega), movG_before h4 (by omega)]
      refine ⟨i - c, by omega, by rw [List.length_append]; omega, ?_⟩
      rw [List.getD_eq_getElem?_getD, List.getElem?_append_left (by omega), List.getElem?_drop, List.getElem?_take, show c + (i - c) = i by omega, if_pos hlt, List.getD_eq_getElem?_getD]
    · have hie : e ≤ i := by
        simp only [Bool.and_eq_false_iff, decide_eq_false_iff_not] at hx
        omega
      rw [if_neg (by omega), if_pos (by omega)]
      obtain ⟨k, k1, k2, k3⟩ := movG_in (sh := sh + ((x.x.length : Int) - ((e : Int) - a))) hi h4 hie hin
      refine ⟨(a - c) + (x.x.length + k), by rw [k1]; omega, by simp only [List.length_append]; omega, ?_⟩
      rw [List.getD_eq_getElem?_getD, List.getElem?_append_right (by omega), hl1, Nat.add_sub_cancel_left, List.getElem?_append_right (by omega), Nat.add_sub_cancel_left, ← List.getD_eq_getElem?_getD]
      exact k3
theorem movG_end {s : List UInt8} : ∀ {l : List Re} {c : Nat} {sh : Int}, Ord s.length c l → c ≤ s.length → movG s.length sh l = sh + c + (appG s c l).length
  | [], c, sh, _, hc => by simp only [movG, appG, List.length_drop]; omega
  | x :: l, c, sh, h, hc => by
    obtain ⟨h1, h2, h3, h4⟩ := h
    obtain ⟨a, ha⟩ : ∃ a : Nat, x.a = a := ⟨x.a.toNat, by omega⟩
    obtain ⟨e, he⟩ : ∃ e : Nat, x.e = e := ⟨x.e.toNat, by omega⟩
    simp only [movG, appG, ha, he, Int.toNat_natCast] at *
    rw [if_neg (by omega), if_pos (by omega), movG_end h4 (by omega)]
    simp only [List.length_append, List.length_drop, List.length_take]
    omega
theorem movG_lt {s : List UInt8} {i k : Nat} (hk : k < s.length) (hik : i < k) : ∀ {l : List Re} {c : Nat} {sh : Int}, Ord s.length c l → insF i l = false → insF k l = false → movG i sh l < movG k sh l
  | [], c, sh, _, _, _ => by simp only [movG]; omega
  | x :: l, c, sh, h, h1, h2 => by
    obtain ⟨g1, g2, g3, g4⟩ := h
    rw [insF_cons, Bool.or_eq_false_iff] at h1 h2
    obtain ⟨hx, h1⟩ := h1
    obtain ⟨hy, h2⟩ := h2
    simp only [Bool.and_eq_false_iff, decide_eq_false_iff_not] at hx hy
    obtain ⟨a, ha⟩ : ∃ a : Nat, x.a = a := ⟨x.a.toNat, by omega⟩
    obtain ⟨e, he⟩ : ∃ e : Nat, x.e = e := ⟨x.e.toNat, by omega⟩
    simp only [movG, ha, he] at *
    by_cases c1 : i < a
    · rw [if_neg (by omega), if_neg (by omega), movG_before g4 (by omega)]
      by_cases c2 : k < a
      · rw [if_neg (by omega), if_neg (by omega), movG_before g4 (by omega)]
        omega
      · rw [if_neg (by omega), if_pos (by omega)]
        obtain ⟨m, m1, _, _⟩ := movG_in (sh := sh + ((x.x.length : Int) - ((e : Int) - a))) hk g4 (by omega) h2
        rw [m1]
        omega
    · rw [if_neg (by omega), if_pos (by omega), if_neg (by omega), if_pos (by omega)]
      exact movG_lt hk hik g4 h1 h2
end Go.Proofs.Ytiibbkbcebccnaa

/- Texts: the law TextMoves. -/
namespace Go.Proofs.Ytiibbkbcebccnaa
open Go Go.Ax Go.RowKit
set_option maxRecDepth 100000
set_option linter.unusedSimpArgs false
set_option linter.unusedVariables false

theorem textMoves (s : List UInt8) (l : List Re) (hll : l.length ≤ 9223372036854775807) (H : AHeap) : Comp' 4 [str s, .sl 3 (l.map reR)] H (bool true) := by
  refine ACall.drop (R := fun x => x = bool true) ?_
  refine enter Try.func4 L4_ok (Nat.le_of_ble_eq_true rfl) ?_
  have c0 := fun H => fewC l hll H
  by_cases ha : s.length ≤ 300
  · by_cases hb : fewF l = true
    · rw [hb] at c0
      obtain ⟨hfw, hsh⟩ := fewF_Fewr hb
      have c1 := fun H => appT s l (by omega) hfw H
      by_cases hf : fitsF s.length l = 0
      · have z0 : fitsG s.length 0 l = 0 := by
          unfold fitsF at hf
          split at hf <;> omega
        have hO := ord_of_fits z0
        have hok := ord_ok (by omega) hO
        have hA : appF s l = appG s 0 l := by unfold appF; rw [if_pos hf]
        have hm : ∀ t : Int, 0 ≤ t → t ≤ 300 → movF l t = movG t 0 l := fun t h0 h1 => by unfold movF; rw [if_neg (by omega), if_pos hok]
        have hend := movG_end (sh := 0) hO (Nat.zero_le _)
        rw [hf, hA] at c1
        have c2 := fun t H => movT l t hfw H
        have hin : ∀ i : Nat, i < s.length → insF i l = false → ∃ k : Nat, movF l i = k ∧ k < (appG s 0 l).length ∧ (appG s 0 l).getD k 0 = s.getD i 0 := fun i hi h => by
          obtain ⟨k, k1, k2, k3⟩ := movG_in (sh := 0) hi hO (Nat.zero_le _) h
          exact ⟨k, by rw [hm i (by omega) (by omega), k1]; simp, k2, k3⟩
        have hinc : ∀ i k : Nat, i < k → k < s.length → insF i l = false → insF k l = false → movF l i < movF l k := fun i k h h1 h2 h3 => by
          rw [hm i (by omega) (by omega), hm k (by omega) (by omega)]
          exact movG_lt h1 h hO h2 h3
        have hE : movF l s.length = ((appG s 0 l).length : Nat) := by rw [hm _ (by omega) (by omega), hend]; simp
        obtain ⟨hl1, hl2⟩ := hfw
        generalize appG s 0 l = t at *
        repeat' (first | (refine And.intro (by omega) ?_) | (refine callF_pure (c0 _) ?_) | (refine callF_pure (c1 _) ?_) | (refine callQF_pure (c0 _) (by first | rfl | simp -implicitDefEqProofs (disch := omega) only [L4, dT_lt, dF_lt, dT_le, dF_le, dT_eq, dF_eq, push_cast, ↓reduceIte, Nat.reduceEqDiff, reduceCtorEq, Nat.reduceAdd, Nat.reduceSub, Nat.reduceMul, Nat.reduceLeDiff, Nat.reduceLT, Nat.reduceMod, Nat.reduceDiv, Int.reduceToNat, Int.reduceLT, Int.reduceLE, Int.reduceEq, Int.reduceAdd, Int.reduceSub, Int.reduceNeg, Int.reduceMul, Bool.and_self]) ?_) | (refine callQF_pure (c1 _) (by first | rfl | simp -implicitDefEqProofs (disch := omega) only [L4, dT_lt, dF_lt, dT_le, dF_le, dT_eq, dF_eq, push_cast, ↓reduceIte, Nat.reduceEqDiff, reduceCtorEq, Nat.reduceAdd, Nat.reduceSub, Nat.reduceMul, Nat.reduceLeDiff, Nat.reduceLT, Nat.reduceMod, Nat.reduceDiv, Int.reduceToNat, Int.reduceLT, Int.reduceLE, Int.reduceEq, Int.reduceAdd, Int.reduceSub, Int.reduceNeg, Int.reduceMul, Bool.and_self]) ?_) | simp -implicitDefEqProofs (disch := omega) only [L4, dT_lt, dF_lt, dT_le, dF_le, dT_eq, dF_eq, push_cast, ↓reduceIte, Nat.reduceEqDiff, reduceCtorEq, Nat.reduceAdd, Nat.reduceSub, Nat.reduceMul, Nat.reduceLeDiff, Nat.reduceLT, Nat.reduceMod, Nat.reduceDiv, Int.reduceToNat, Int.reduceLT, Int.reduceLE, Int.reduceEq, Int.reduceAdd, Int.reduceSub, Int.reduceNeg, Int.reduceMul, Bool.and_self] | split)
        refine rk_loopS (fun (st : Nat × Int × AHeap) e' H' => e' 0 = str s ∧ e' 1 = .sl 3 (l.map reR) ∧ e' 5 = str t ∧ e' 7 = int st.2.1 ∧ e' 32 = int s.length ∧ e' 33 = int st.1 ∧ H' = H ++ st.2.2 ∧ st.1 ≤ s.length ∧ -1 ≤ st.2.1 ∧ st.2.1 < t.length ∧ ∀ i : Nat, st.1 ≤ i → i < s.length → insF i l = false → st.2.1 < movF l i) (fun st => s.length - st.1) (0, -1, []) ?_ ?_
        · refine ⟨rfl, rfl, rfl, rfl, rfl, rfl, by simp, Nat.zero_le _, by simp, by simp only; omega, fun i _ hi hn => ?_⟩
          obtain ⟨k, k1, _⟩ := hin i hi hn
          rw [k1]
          simp only
          omega
        rintro ⟨i, last, ext⟩ e' H' ⟨h0, h1, h5, h7, h32, h33, rfl, hi, hl0, hlt0, hnx⟩
        simp only at h7 h33 hi hl0 hlt0 hnx
        by_cases hlt : i < s.length
        · repeat' (first | (refine And.intro (by omega) ?_) | simp -implicitDefEqProofs (disch := omega) only [h0, h1, h5, h7, h32, h33, dT_lt, dF_lt, dT_le, dF_le, dT_eq, dF_eq, push_cast, ↓reduceIte, Nat.reduceEqDiff, reduceCtorEq, Nat.reduceAdd, Nat.reduceSub, Nat.reduceMul, Nat.reduceLeDiff, Nat.reduceLT, Nat.reduceMod, Nat.reduceDiv, Int.reduceToNat, Int.reduceLT, Int.reduceLE, Int.reduceEq, Int.reduceAdd, Int.reduceSub, Int.reduceNeg, Int.reduceMul, Bool.and_self] | split)
          refine rk_loopS (fun (st : Nat × AHeap) e' H' => e' 0 = str s ∧ e' 1 = .sl 3 (l.map reR) ∧ e' 5 = str t ∧ e' 7 = int last ∧ e' 32 = int s.length ∧ e' 33 = int i ∧ e' 8 = int i ∧ e' 9 = bool (insF i (l.take st.1)) ∧ e' 36 = .sl 3 (l.map reR) ∧ e' 37 = int l.length ∧ e' 38 = int st.1 ∧ H' = H ++ st.2 ∧ st.1 ≤ l.length) (fun st => l.length - st.1) (0, ext) ?_ ?_
          · exact ⟨h0, h1, h5, h7, h32, h33, rfl, rfl, rfl, rfl, rfl, rfl, Nat.zero_le _⟩
          clear h0 h1 h5 h7 h32 h33 e'
          rintro ⟨j, ext⟩ e' H' ⟨h0, h1, h5, h7, h32, h33, h8, h9, h36, h37, h38, rfl, hj⟩
          simp only at h9 h38 hj
          by_cases hjl : j < l.length
          · have hgg : ∀ x : HO, (H ++ (ext ++ [x]))[H.length + ext.length]? = some x := fun x => by rw [get_add]; simp
            have hss : ∀ x y : HO, (H ++ (ext ++ [x])).set (H.length + ext.length) y = H ++ (ext ++ [y]) := fun x y => by rw [set_add]; simp
            have hsn := insF_snoc (i := i) hjl
            by_cases d0 : insF i (l.take j) = true
            · rw [d0] at h9
              repeat' (first | (refine And.intro (by omega) ?_) | simp -implicitDefEqProofs (disch := omega) only [h0, h1, h5, h7, h32, h33, h8, h9, h36, h37, h38, rows_getD, re_len, re_take, re_drop1, re_drop2, re_drop3, re_c1s, re_cl, re_cells, re_agg, splice, List.append_nil, hgg, hss, dT_lt, dF_lt, dT_le, dF_le, dT_eq, dF_eq, push_cast, ↓reduceIte, Nat.reduceEqDiff, reduceCtorEq, Nat.reduceAdd, Nat.reduceSub, Nat.reduceMul, Nat.reduceLeDiff, Nat.reduceLT, Nat.reduceMod, Nat.reduceDiv, Int.reduceToNat, Int.reduceLT, Int.reduceLE, Int.reduceEq, Int.reduceAdd, Int.reduceSub, Int.reduceNeg, Int.reduceMul, Bool.and_self] | split)
              exact .mk (j + 1, _) ⟨h0, h1, h5, h7, h32, h33, h8, by rw [hsn, d0]; rfl, h36, h37, rfl, rfl, hjl⟩ (by simp only; omega)
            · rw [Bool.not_eq_true] at d0
              rw [d0] at h9
              by_cases d1 : (l.getD j default).a ≤ i
              · by_cases d2 : (i : Int) < (l.getD j default).e
                · repeat' (first | (refine And.intro (by omega) ?_) | simp -implicitDefEqProofs (disch := omega) only [h0, h1, h5, h7, h32, h33, h8, h9, h36, h37, h38, rows_getD, re_len, re_take, re_drop1, re_drop2, re_drop3, re_c1s, re_cl, re_cells, re_agg, splice, List.append_nil, hgg, hss, dT_lt, dF_lt, dT_le, dF_le, dT_eq, dF_eq, push_cast, ↓reduceIte, Nat.reduceEqDiff, reduceCtorEq, Nat.reduceAdd, Nat.reduceSub, Nat.reduceMul, Nat.reduceLeDiff, Nat.reduceLT, Nat.reduceMod, Nat.reduceDiv, Int.reduceToNat, Int.reduceLT, Int.reduceLE, Int.reduceEq, Int.reduceAdd, Int.reduceSub, Int.reduceNeg, Int.reduceMul, Bool.and_self] | split)
                  exact .mk (j + 1, _) ⟨h0, h1, h5, h7, h32, h33, h8, by rw [hsn, d0, decide_eq_true d1, decide_eq_true d2]; rfl, h36, h37, rfl, rfl, hjl⟩ (by simp only; omega)
                · repeat' (first | (refine And.intro (by omega) ?_) | simp -implicitDefEqProofs (disch := omega) only [h0, h1, h5, h7, h32, h33, h8, h9, h36, h37, h38, rows_getD, re_len, re_take, re_drop1, re_drop2, re_drop3, re_c1s, re_cl, re_cells, re_agg, splice, List.append_nil, hgg, hss, dT_lt, dF_lt, dT_le, dF_le, dT_eq, dF_eq, push_cast, ↓reduceIte, Nat.reduceEqDiff, reduceCtorEq, Nat.reduceAdd, Nat.reduceSub, Nat.reduceMul, Nat.reduceLeDiff, Nat.reduceLT, Nat.reduceMod, Nat.reduceDiv, Int.reduceToNat, Int.reduceLT, Int.reduceLE, Int.reduceEq, Int.reduceAdd, Int.reduceSub, Int.reduceNeg, Int.reduceMul, Bool.and_self] | split)
                  exact .mk (j + 1, _) ⟨h0, h1, h5, h7, h32, h33, h8, by rw [hsn, d0, decide_eq_true d1, decide_eq_false d2]; rfl, h36, h37, rfl, rfl, hjl⟩ (by simp only; omega)
              · repeat' (first | (refine And.intro (by omega) ?_) | simp -implicitDefEqProofs (disch := omega) only [h0, h1, h5, h7, h32, h33, h8, h9, h36, h37, h38, rows_getD, re_len, re_take, re_drop1, re_drop2, re_drop3, re_c1s, re_cl, re_cells, re_agg, splice, List.append_nil, hgg, hss, dT_lt, dF_lt, dT_le, dF_le, dT_eq, dF_eq, push_cast, ↓reduceIte, Nat.reduceEqDiff, reduceCtorEq, Nat.reduceAdd, Nat.reduceSub, Nat.reduceMul, Nat.reduceLeDiff, Nat.reduceLT, Nat.reduceMod, Nat.reduceDiv, Int.reduceToNat, Int.reduceLT, Int.reduceLE, Int.reduceEq, Int.reduceAdd, Int.reduceSub, Int.reduceNeg, Int.reduceMul, Bool.and_self] | split)
                exact .mk (j + 1, _) ⟨h0, h1, h5, h7, h32, h33, h8, by rw [hsn, d0, decide_eq_false d1]; rfl, h36, h37, rfl, rfl, hjl⟩ (by simp only; omega)
          · have e : j = l.length := by omega
            subst e
            rw [List.take_length] at h9
            by_cases d0 : insF i l = true
            · rw [d0] at h9
              repeat' (first | (refine And.intro (by omega) ?_) | simp -implicitDefEqProofs (disch := omega) only [h0, h1, h5, h7, h32, h33, h8, h9, h36, h37, h38, dT_lt, dF_lt, dT_le, dF_le, dT_eq, dF_eq, push_cast, ↓reduceIte, Nat.reduceEqDiff, reduceCtorEq, Nat.reduceAdd, Nat.reduceSub, Nat.reduceMul, Nat.reduceLeDiff, Nat.reduceLT, Nat.reduceMod, Nat.reduceDiv, Int.reduceToNat, Int.reduceLT, Int.reduceLE, Int.reduceEq, Int.reduceAdd, Int.reduceSub, Int.reduceNeg, Int.reduceMul, Bool.and_self] | split)
              exact .mk (i + 1, last, ext) ⟨h0, h1, h5, h7, h32, rfl, rfl, hlt, hl0, hlt0, fun k hk => hnx k (by simp only at hk; omega)⟩ (by simp only; omega)
            · rw [Bool.not_eq_true] at d0
              rw [d0] at h9
              obtain ⟨k, k1, k2, k3⟩ := hin i hlt d0
              have c3 := fun H => c2 i H
              rw [k1] at c3
              have k4 := hnx i (Nat.le_refl _) hlt d0
              rw [k1] at k4
              repeat' (first | (refine And.intro (by omega) ?_) | (refine callF_pure (c3 _) ?_) | (refine callQF_pure (c3 _) (by first | rfl | simp -implicitDefEqProofs (disch := omega) only [h0, h1, h5, h7, h32, h33, h8, h9, h36, h37, h38, k3, dT_lt, dF_lt, dT_le, dF_le, dT_eq, dF_eq, push_cast, ↓reduceIte, Nat.reduceEqDiff, reduceCtorEq, Nat.reduceAdd, Nat.reduceSub, Nat.reduceMul, Nat.reduceLeDiff, Nat.reduceLT, Nat.reduceMod, Nat.reduceDiv, Int.reduceToNat, Int.reduceLT, Int.reduceLE, Int.reduceEq, Int.reduceAdd, Int.reduceSub, Int.reduceNeg, Int.reduceMul, Bool.and_self]) ?_) | simp -implicitDefEqProofs (disch := omega) only [h0, h1, h5, h7, h32, h33, h8, h9, h36, h37, h38, k3, dT_lt, dF_lt, dT_le, dF_le, dT_eq, dF_eq, push_cast, ↓reduceIte, Nat.reduceEqDiff, reduceCtorEq, Nat.reduceAdd, Nat.reduceSub, Nat.reduceMul, Nat.reduceLeDiff, Nat.reduceLT, Nat.reduceMod, Nat.reduceDiv, Int.reduceToNat, Int.reduceLT, Int.reduceLE, Int.reduceEq, Int.reduceAdd, Int.reduceSub, Int.reduceNeg, Int.reduceMul, Bool.and_self] | split)
              exact .mk (i + 1, (k : Int), ext) ⟨h0, h1, h5, rfl, h32, rfl, rfl, hlt, by simp only; omega, by simp only; omega, fun m hm1 hm2 hm3 => by simp only at hm1; rw [← k1]; exact hinc i m (by omega) hm2 d0 hm3⟩ (by simp only; omega)
        · have c3 := fun H => c2 s.length H
          rw [hE] at c3
          repeat' (first | (refine And.intro (by omega) ?_) | (refine callF_pure (c3 _) ?_) | (refine callF_pure (awakeC _) ?_) | (refine callQF_pure (c3 _) (by first | rfl | simp -implicitDefEqProofs (disch := omega) only [h0, h1, h5, h7, h32, h33, dT_lt, dF_lt, dT_le, dF_le, dT_eq, dF_eq, push_cast, ↓reduceIte, Nat.reduceEqDiff, reduceCtorEq, Nat.reduceAdd, Nat.reduceSub, Nat.reduceMul, Nat.reduceLeDiff, Nat.reduceLT, Nat.reduceMod, Nat.reduceDiv, Int.reduceToNat, Int.reduceLT, Int.reduceLE, Int.reduceEq, Int.reduceAdd, Int.reduceSub, Int.reduceNeg, Int.reduceMul, Bool.and_self]) ?_) | (refine callQF_pure (awakeC _) (by first | rfl | simp -implicitDefEqProofs (disch := omega) only [h0, h1, h5, h7, h32, h33, dT_lt, dF_lt, dT_le, dF_le, dT_eq, dF_eq, push_cast, ↓reduceIte, Nat.reduceEqDiff, reduceCtorEq, Nat.reduceAdd, Nat.reduceSub, Nat.reduceMul, Nat.reduceLeDiff, Nat.reduceLT, Nat.reduceMod, Nat.reduceDiv, Int.reduceToNat, Int.reduceLT, Int.reduceLE, Int.reduceEq, Int.reduceAdd, Int.reduceSub, Int.reduceNeg, Int.reduceMul, Bool.and_self]) ?_) | simp -implicitDefEqProofs (disch := omega) only [h0, h1, h5, h7, h32, h33, dT_lt, dF_lt, dT_le, dF_le, dT_eq, dF_eq, push_cast, ↓reduceIte, Nat.reduceEqDiff, reduceCtorEq, Nat.reduceAdd, Nat.reduceSub, Nat.reduceMul, Nat.reduceLeDiff, Nat.reduceLT, Nat.reduceMod, Nat.reduceDiv, Int.reduceToNat, Int.reduceLT, Int.reduceLE, Int.reduceEq, Int.reduceAdd, Int.reduceSub, Int.reduceNeg, Int.reduceMul, Bool.and_self] | split)
          exact ⟨_, rfl⟩
      · repeat' (first | (refine And.intro (by omega) ?_) | (refine callF_pure (c0 _) ?_) | (refine callF_pure (c1 _) ?_) | (refine callF_pure (awakeC _) ?_) | (refine callQF_pure (c0 _) (by first | rfl | simp -implicitDefEqProofs (disch := omega) only [L4, dT_lt, dF_lt, dT_le, dF_le, dT_eq, dF_eq, push_cast, ↓reduceIte, Nat.reduceEqDiff, reduceCtorEq, Nat.reduceAdd, Nat.reduceSub, Nat.reduceMul, Nat.reduceLeDiff, Nat.reduceLT, Nat.reduceMod, Nat.reduceDiv, Int.reduceToNat, Int.reduceLT, Int.reduceLE, Int.reduceEq, Int.reduceAdd, Int.reduceSub, Int.reduceNeg, Int.reduceMul, Bool.and_self]) ?_) | (refine callQF_pure (c1 _) (by first | rfl | simp -implicitDefEqProofs (disch := omega) only [L4, dT_lt, dF_lt, dT_le, dF_le, dT_eq, dF_eq, push_cast, ↓reduceIte, Nat.reduceEqDiff, reduceCtorEq, Nat.reduceAdd, Nat.reduceSub, Nat.reduceMul, Nat.reduceLeDiff, Nat.reduceLT, Nat.reduceMod, Nat.reduceDiv, Int.reduceToNat, Int.reduceLT, Int.reduceLE, Int.reduceEq, Int.reduceAdd, Int.reduceSub, Int.reduceNeg, Int.reduceMul, Bool.and_self]) ?_) | (refine callQF_pure (awakeC _) (by first | rfl | simp -implicitDefEqProofs (disch := omega) only [L4, dT_lt, dF_lt, dT_le, dF_le, dT_eq, dF_eq, push_cast, ↓reduceIte, Nat.reduceEqDiff, reduceCtorEq, Nat.reduceAdd, Nat.reduceSub, Nat.reduceMul, Nat.reduceLeDiff, Nat.reduceLT, Nat.reduceMod, Nat.reduceDiv, Int.reduceToNat, Int.reduceLT, Int.reduceLE, Int.reduceEq, Int.reduceAdd, Int.reduceSub, Int.reduceNeg, Int.reduceMul, Bool.and_self]) ?_) | simp -implicitDefEqProofs (disch := omega) only [L4, dT_lt, dF_lt, dT_le, dF_le, dT_eq, dF_eq, push_cast, ↓reduceIte, Nat.reduceEqDiff, reduceCtorEq, Nat.reduceAdd, Nat.reduceSub, Nat.reduceMul, Nat.reduceLeDiff, Nat.reduceLT, Nat.reduceMod, Nat.reduceDiv, Int.reduceToNat, Int.reduceLT, Int.reduceLE, Int.reduceEq, Int.reduceAdd, Int.reduceSub, Int.reduceNeg, Int.reduceMul, Bool.and_self] | split)
        exact ⟨[], by simp⟩
    · rw [Bool.not_eq_true] at hb
      rw [hb] at c0
      repeat' (first | (refine And.intro (by omega) ?_) | (refine callF_pure (c0 _) ?_) | (refine callF_pure (awakeC _) ?_) | (refine callQF_pure (c0 _) (by first | rfl | simp -implicitDefEqProofs (disch := omega) only [L4, dT_lt, dF_lt, dT_le, dF_le, dT_eq, dF_eq, push_cast, ↓reduceIte, Nat.reduceEqDiff, reduceCtorEq, Nat.reduceAdd, Nat.reduceSub, Nat.reduceMul, Nat.reduceLeDiff, Nat.reduceLT, Nat.reduceMod, Nat.reduceDiv, Int.reduceToNat, Int.reduceLT, Int.reduceLE, Int.reduceEq, Int.reduceAdd, Int.reduceSub, Int.reduceNeg, Int.reduceMul, Bool.and_self]) ?_) | (refine callQF_pure (awakeC _) (by first | rfl | simp -implicitDefEqProofs (disch := omega) only [L4, dT_lt, dF_lt, dT_le, dF_le, dT_eq, dF_eq, push_cast, ↓reduceIte, Nat.reduceEqDiff, reduceCtorEq, Nat.reduceAdd, Nat.reduceSub, Nat.reduceMul, Nat.reduceLeDiff, Nat.reduceLT, Nat.reduceMod, Nat.reduceDiv, Int.reduceToNat, Int.reduceLT, Int.reduceLE, Int.reduceEq, Int.reduceAdd, Int.reduceSub, Int.reduceNeg, Int.reduceMul, Bool.and_self]) ?_) | simp -implicitDefEqProofs (disch := omega) only [L4, dT_lt, dF_lt, dT_le, dF_le, dT_eq, dF_eq, push_cast, ↓reduceIte, Nat.reduceEqDiff, reduceCtorEq, Nat.reduceAdd, Nat.reduceSub, Nat.reduceMul, Nat.reduceLeDiff, Nat.reduceLT, Nat.reduceMod, Nat.reduceDiv, Int.reduceToNat, Int.reduceLT, Int.reduceLE, Int.reduceEq, Int.reduceAdd, Int.reduceSub, Int.reduceNeg, Int.reduceMul, Bool.and_self] | split)
      exact ⟨[], by simp⟩
  · repeat' (first | (refine And.intro (by omega) ?_) | (refine callF_pure (awakeC _) ?_) | (refine callQF_pure (awakeC _) (by first | rfl | simp -implicitDefEqProofs (disch := omega) only [L4, dT_lt, dF_lt, dT_le, dF_le, dT_eq, dF_eq, push_cast, ↓reduceIte, Nat.reduceEqDiff, reduceCtorEq, Nat.reduceAdd, Nat.reduceSub, Nat.reduceMul, Nat.reduceLeDiff, Nat.reduceLT, Nat.reduceMod, Nat.reduceDiv, Int.reduceToNat, Int.reduceLT, Int.reduceLE, Int.reduceEq, Int.reduceAdd, Int.reduceSub, Int.reduceNeg, Int.reduceMul, Bool.and_self]) ?_) | simp -implicitDefEqProofs (disch := omega) only [L4, dT_lt, dF_lt, dT_le, dF_le, dT_eq, dF_eq, push_cast, ↓reduceIte, Nat.reduceEqDiff, reduceCtorEq, Nat.reduceAdd, Nat.reduceSub, Nat.reduceMul, Nat.reduceLeDiff, Nat.reduceLT, Nat.reduceMod, Nat.reduceDiv, Int.reduceToNat, Int.reduceLT, Int.reduceLE, Int.reduceEq, Int.reduceAdd, Int.reduceSub, Int.reduceNeg, Int.reduceMul, Bool.and_self] | split)
    exact ⟨[], by simp⟩
#print axioms textMoves
end Go.Proofs.Ytiibbkbcebccnaa

/- Texts: replacements as arguments. -/
namespace Go.Proofs.Ytiibbkbcebccnaa
open Go Go.Ax Go.RowKit
set_option maxRecDepth 100000
set_option linter.unusedSimpArgs false
set_option linter.unusedVariables false

theorem c_int : Try.prog.cellsOf 3 = 1 := by kernel_rfl
theorem c_str : Try.prog.cellsOf 9 = 1 := by kernel_rfl
theorem c_re : Try.prog.cellsOf 24 = 3 := by kernel_rfl
theorem list3 {α : Type} {l : List α} (h : l.length = 3) : ∃ a b c, l = [a, b, c] := by
  match l, h with
  | [a, b, c], _ => exact ⟨a, b, c, rfl⟩
def Re.Ok (r : Re) : Prop := i64R r.a ∧ i64R r.e ∧ r.x.length ≤ 9223372036854775807
theorem open_re {xs : List AV} (h : Val Try.prog 24 xs) : ∃ r : Re, xs = reR r ∧ r.Ok := by
  obtain ⟨hl, hf⟩ := val_st Try.underlying24 c_re h
  obtain ⟨a, b, c, rfl⟩ := list3 hl
  obtain ⟨x, hx, hx'⟩ := val_int Try.underlying3 (val_fld hf 0 3 0 1 rfl c_int)
  obtain ⟨y, hy, hy'⟩ := val_int Try.underlying3 (val_fld hf 1 3 1 1 rfl c_int)
  obtain ⟨z, hz, hz'⟩ := val_str Try.underlying9 (val_fld hf 2 9 2 1 rfl c_str)
  simp only [List.drop_succ_cons, List.drop_zero, List.take_succ_cons, List.take_zero, List.cons.injEq, and_true] at hx hy hz
  exact ⟨⟨x, y, z⟩, by simp [reR, hx, hy, hz], hx', hy', hz'⟩
end Go.Proofs.Ytiibbkbcebccnaa
