/- Values, part 7: the examples of the chapter hold. -/
import Derived.Test.YtdgmlepakippmaaVa6
namespace Go.Proofs.Ytdgmlepakippmaa
open Go Go.Ax
set_option maxRecDepth 100000
set_option linter.unusedSimpArgs false
set_option linter.unusedVariables false

def ptRs : List Rc := [⟨[112, 111, 105, 110, 116], [⟨[112, 120], ⟨1, 0, []⟩⟩, ⟨[112, 98], ⟨2, 0, []⟩⟩]⟩]
theorem few_pt : Few ptRs := ⟨by decide, by simp [ptRs]⟩
theorem fmt_pt : fmtF ⟨4, 0, [112, 111, 105, 110, 116]⟩ ptRs [1, 0] = [112, 111, 105, 110, 116, 40, 49, 44, 32, 102, 97, 108, 115, 101, 41] := by decide +kernel
theorem next_pt : nextF [0, 0] [1, 2] [0, 2] = some [1, 0] := by decide +kernel
theorem allR_small {l : List Int} (h : l.all (fun n => decide (-1000 ≤ n) && decide (n ≤ 1000)) = true) : allR l := by
  intro i hi
  have := List.all_eq_true.1 h (l.getD i default) (by simp [List.getD, List.getElem?_eq_getElem hi])
  simp only [Bool.and_eq_true, decide_eq_true_eq] at this
  unfold i64R
  omega

theorem bin_quo {w a b : Int} (hw : wOk w) (ha : inI w a) (hb : inI w b) (hz : b ≠ 0) (H : AHeap) : Comp' 14 [int w, str [47], int a, int b] H (binA (wrF w (a.tdiv b)) 0 0) := by
  have h1 := inI_lt hw ha
  have h2 : -128 ≤ a.tdiv b ∧ a.tdiv b ≤ 128 := by
    have := Int.natAbs_tdiv_le_natAbs a b
    omega
  have e : IntKind.i64.wrap (a.tdiv b) = a.tdiv b := wrap64_of _ (by omega) (by omega)
  have := bin_go hw ops_quo (by decide) (by decide) ha hb (.inl hz) (a.tdiv b) (fun H => by rw [← e]; exact op_quo a b hz H) rfl (by unfold i64R; omega) H
  exact this
theorem bin_rem {w a b : Int} (hw : wOk w) (ha : inI w a) (hb : inI w b) (hz : b ≠ 0) (H : AHeap) : Comp' 14 [int w, str [37], int a, int b] H (binA (wrF w (a.tmod b)) 0 0) := by
  have h1 := inI_lt hw ha
  have h2 : -128 ≤ a.tmod b ∧ a.tmod b ≤ 128 := by
    have := Int.tmod_add_mul_tdiv a b
    have h3 : (a.tmod b).natAbs ≤ a.natAbs := by rw [Int.natAbs_tmod]; exact Nat.mod_le _ _
    omega
  have := bin_go hw ops_rem (by decide) (by decide) ha hb (.inl hz) (a.tmod b) (fun H => op_rem a b hz H) rfl (by unfold i64R; omega) H
  exact this

theorem awakeV (H : AHeap) : Comp' 9 [] H (bool true) := by
  refine ACall.drop (R := fun x => x = bool true) ?_
  refine enter Try.func9 L9_ok (Nat.le_of_ble_eq_true rfl) ?_
  have w4 : wOk 4 := by decide
  have b1 := fun H => bin_quo (w := 4) (a := -8) (b := -1) w4 (by decide) (by decide) (by decide) H
  have b2 := fun H => bin_rem (w := 4) (a := -8) (b := -1) w4 (by decide) (by decide) (by decide) H
  have b3 := fun H => bin_quo (w := 4) (a := -7) (b := 2) w4 (by decide) (by decide) (by decide) H
  have b4 := fun H => bin_rem (w := 4) (a := -7) (b := 2) w4 (by decide) (by decide) (by decide) H
  have e1 : wrF 4 (Int.tdiv (-8) (-1)) = -8 := by decide
  have e2 : wrF 4 (Int.tmod (-8) (-1)) = 0 := by decide
  have e3 : wrF 4 (Int.tdiv (-7) 2) = -3 := by decide
  have e4 : wrF 4 (Int.tmod (-7) 2) = -1 := by decide
  rw [e1] at b1; rw [e2] at b2; rw [e3] at b3; rw [e4] at b4
  have n1 := fun H => nextC [0, 0] [1, 2] [0, 2] (by decide) (allR_small rfl) (allR_small rfl) (allR_small rfl) H
  rw [next_pt] at n1
  have f1 := fun H => fmtC ⟨4, 0, [112, 111, 105, 110, 116]⟩ ptRs [1, 0] few_pt (by decide) (allR_small rfl) (by simp [big]) H
  rw [fmt_pt] at f1
  have i1 := fun H => intsC [1, 0] [1, 0] (by simp [big]) H
  have c1 := fun H => wrapC 4 9 (by unfold i64R; omega) H
  rw [show wrF 4 9 = -7 by decide] at c1
  simp only [List.map_cons, List.map_nil, iR, tyR, ptRs, rcR, fdR, nextA, binA] at n1 f1 i1 b1 b2 b3 b4
  repeat' (first | (refine And.intro (by omega) ?_) | (refine callF_pure (b1 _) ?_) | (refine callF_pure (b2 _) ?_) | (refine callF_pure (b3 _) ?_) | (refine callF_pure (b4 _) ?_) | (refine callF_pure (n1 _) ?_) | (refine callF_pure (f1 _) ?_) | (refine callF_pure (i1 _) ?_) | (refine callF_pure (c1 _) ?_) | (refine callQF_pure (b1 _) rfl ?_) | (refine callQF_pure (b2 _) rfl ?_) | (refine callQF_pure (b3 _) rfl ?_) | (refine callQF_pure (b4 _) rfl ?_) | (refine callQF_pure (n1 _) rfl ?_) | (refine callQF_pure (f1 _) rfl ?_) | (refine callQF_pure (i1 _) rfl ?_) | (refine callQF_pure (c1 _) rfl ?_) | simp -implicitDefEqProofs (disch := omega) only [L9, dT_lt, dF_lt, dT_le, dF_le, dT_eq, dF_eq, push_cast, ↓reduceIte, Nat.reduceEqDiff, reduceCtorEq, Nat.reduceAdd, Nat.reduceSub, Nat.reduceMul, Nat.reduceLeDiff, Nat.reduceLT, Nat.reduceMod, Nat.reduceDiv, Int.reduceToNat, Int.reduceLT, Int.reduceLE, Int.reduceEq, Int.reduceAdd, Int.reduceSub, Int.reduceNeg, Int.reduceMul, Bool.and_self] | split)
  exact ⟨[], (List.append_nil _).symm⟩
end Go.Proofs.Ytdgmlepakippmaa
