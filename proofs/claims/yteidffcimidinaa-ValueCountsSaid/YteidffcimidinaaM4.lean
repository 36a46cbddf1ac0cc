/- Parts, merged by a program (wip/tools/merge.py): Va7 Vb1 Vc1. -/
import Derived.Test.YteidffcimidinaaM3
/- Values, part 7: the examples of the chapter hold. -/
namespace Go.Proofs.Yteidffcimidinaa
open Go Go.Ax
set_option maxRecDepth 100000
set_option linter.unusedSimpArgs false
set_option linter.unusedVariables false

def ptRs : List Rc := [⟨[112, 111, 105, 110, 116], [⟨[112, 120], ⟨1, 0, []⟩⟩, ⟨[112, 98], ⟨2, 0, []⟩⟩]⟩]
theorem few_pt : Few ptRs := ⟨by decide, by simp [ptRs]⟩
theorem fmt_pt : fmtF ⟨4, 0, [112, 111, 105, 110, 116]⟩ ptRs [1, 0] = [112, 111, 105, 110, 116, 40, 49, 44, 32, 102, 97, 108, 115, 101, 41] := by decide +kernel
theorem next_pt : nextF [0, 0] [1, 2] [0, 2] = some [1, 0] := by decide +kernel
theorem allR_small {l : List Int} (h : l.all (fun n => decide (-1000 ≤ n) && decide (n ≤ 1000)) = true) : allR l := by
  intro i hi
  have := List.all_eq_true.1 h (l.getD i default) (by simp [List.getD, List.getElem?_eq_getElem hi])
  simp only [Bool.and_eq_true, decide_eq_true_eq] at this
  unfold i64R
  omega

theorem bin_quo {w a b : Int} (hw : wOk w) (ha : inI w a) (hb : inI w b) (hz : b ≠ 0) (H : AHeap) : Comp' 45 [int w, str [47], int a, int b] H (binA (wrF w (a.tdiv b)) 0 0) := by
  have h1 := inI_lt hw ha
  have h2 : -128 ≤ a.tdiv b ∧ a.tdiv b ≤ 128 := by
    have := Int.natAbs_tdiv_le_natAbs a b
    omega
  have e : IntKind.i64.wrap (a.tdiv b) = a.tdiv b := wrap64_of _ (by omega) (by omega)
  have := bin_go hw ops_quo (by decide) (by decide) ha hb (.inl hz) (a.tdiv b) (fun H => by rw [← e]; exact op_quo a b hz H) rfl (by unfold i64R; omega) H
  exact this
theorem bin_rem {w a b : Int} (hw : wOk w) (ha : inI w a) (hb : inI w b) (hz : b ≠ 0) (H : AHeap) : Comp' 45 [int w, str [37], int a, int b] H (binA (wrF w (a.tmod b)) 0 0) := by
  have h1 := inI_lt hw ha
  have h2 : -128 ≤ a.tmod b ∧ a.tmod b ≤ 128 := by
    have := Int.tmod_add_mul_tdiv a b
    have h3 : (a.tmod b).natAbs ≤ a.natAbs := by rw [Int.natAbs_tmod]; exact Nat.mod_le _ _
    omega
  have := bin_go hw ops_rem (by decide) (by decide) ha hb (.inl hz) (a.tmod b) (fun H => op_rem a b hz H) rfl (by unfold i64R; omega) H
  exact this

theorem awakeV (H : AHeap) : Comp' 14 [] H (bool true) := by
  refine ACall.drop (R := fun x => x = bool true) ?_
  refine enter Try.func14 L14_ok (Nat.le_of_ble_eq_true rfl) ?_
  have w4 : wOk 4 := by decide
  have b1 := fun H => bin_quo (w := 4) (a := -8) (b := -1) w4 (by decide) (by decide) (by decide) H
  have b2 := fun H => bin_rem (w := 4) (a := -8) (b := -1) w4 (by decide) (by decide) (by decide) H
  have b3 := fun H => bin_quo (w := 4) (a := -7) (b := 2) w4 (by decide) (by decide) (by decide) H
  have b4 := fun H => bin_rem (w := 4) (a := -7) (b := 2) w4 (by decide) (by decide) (by decide) H
  have e1 : wrF 4 (Int.tdiv (-8) (-1)) = -8 := by decide
  have e2 : wrF 4 (Int.tmod (-8) (-1)) = 0 := by decide
  have e3 : wrF 4 (Int.tdiv (-7) 2) = -3 := by decide
  have e4 : wrF 4 (Int.tmod (-7) 2) = -1 := by decide
  rw [e1] at b1; rw [e2] at b2; rw [e3] at b3; rw [e4] at b4
  have n1 := fun H => nextC [0, 0] [1, 2] [0, 2] (by decide) (allR_small rfl) (allR_small rfl) (allR_small rfl) H
  rw [next_pt] at n1
  have f1 := fun H => fmtC ⟨4, 0, [112, 111, 105, 110, 116]⟩ ptRs [1, 0] few_pt (by decide) (allR_small rfl) (by simp [big]) H
  rw [fmt_pt] at f1
  have i1 := fun H => intsC [1, 0] [1, 0] (by simp [big]) H
  have c1 := fun H => wrapC 4 9 (by unfold i64R; omega) H
  rw [show wrF 4 9 = -7 by decide] at c1
  simp only [List.map_cons, List.map_nil, iR, tyR, ptRs, rcR, fdR, nextA, binA] at n1 f1 i1 b1 b2 b3 b4
  repeat' (first | (refine And.intro (by omega) ?_) | (refine callF_pure (b1 _) ?_) | (refine callF_pure (b2 _) ?_) | (refine callF_pure (b3 _) ?_) | (refine callF_pure (b4 _) ?_) | (refine callF_pure (n1 _) ?_) | (refine callF_pure (f1 _) ?_) | (refine callF_pure (i1 _) ?_) | (refine callF_pure (c1 _) ?_) | (refine callQF_pure (b1 _) (by first | rfl | simp only [L14, push_cast, ↓reduceIte, Nat.reduceEqDiff]) ?_) | (refine callQF_pure (b2 _) (by first | rfl | simp only [L14, push_cast, ↓reduceIte, Nat.reduceEqDiff]) ?_) | (refine callQF_pure (b3 _) (by first | rfl | simp only [L14, push_cast, ↓reduceIte, Nat.reduceEqDiff]) ?_) | (refine callQF_pure (b4 _) (by first | rfl | simp only [L14, push_cast, ↓reduceIte, Nat.reduceEqDiff]) ?_) | (refine callQF_pure (n1 _) (by first | rfl | simp only [L14, push_cast, ↓reduceIte, Nat.reduceEqDiff]) ?_) | (refine callQF_pure (f1 _) (by first | rfl | simp only [L14, push_cast, ↓reduceIte, Nat.reduceEqDiff]) ?_) | (refine callQF_pure (i1 _) (by first | rfl | simp only [L14, push_cast, ↓reduceIte, Nat.reduceEqDiff]) ?_) | (refine callQF_pure (c1 _) (by first | rfl | simp only [L14, push_cast, ↓reduceIte, Nat.reduceEqDiff]) ?_) | simp -implicitDefEqProofs (disch := omega) only [L14, dT_lt, dF_lt, dT_le, dF_le, dT_eq, dF_eq, push_cast, ↓reduceIte, Nat.reduceEqDiff, reduceCtorEq, Nat.reduceAdd, Nat.reduceSub, Nat.reduceMul, Nat.reduceLeDiff, Nat.reduceLT, Nat.reduceMod, Nat.reduceDiv, Int.reduceToNat, Int.reduceLT, Int.reduceLE, Int.reduceEq, Int.reduceAdd, Int.reduceSub, Int.reduceNeg, Int.reduceMul, Bool.and_self] | split)
  exact ⟨[], (List.append_nil _).symm⟩
end Go.Proofs.Yteidffcimidinaa

/- Values: the law ValueNext. -/
namespace Go.Proofs.Yteidffcimidinaa
open Go Go.Ax
set_option maxRecDepth 100000
set_option linter.unusedSimpArgs false
set_option linter.unusedVariables false

theorem open_ints {xs : List AV} (h : Val Try.prog 39 xs) : ∃ l : List Int, xs = [.sl 1 (l.map iR)] ∧ big l.length ∧ allR l := by
  obtain ⟨rows, rfl, hl, hr⟩ := val_sl Try.underlying39 c_int h
  obtain ⟨l, rfl, hn⟩ := val_rows hr fun x hx => by
    obtain ⟨n, rfl, hn⟩ := val_int Try.underlying3 hx
    exact (⟨n, rfl, hn⟩ : ∃ a : Int, [int n] = iR a ∧ i64R a)
  refine ⟨l, rfl, by simpa [big] using hl, fun i hi => ?_⟩
  have e : l.getD i default = l[i] := by simp [List.getD, List.getElem?_eq_getElem hi]
  rw [e]
  exact hn _ (List.getElem_mem hi)

end Go.Proofs.Yteidffcimidinaa

/- Values: the law ValueCounts. -/
namespace Go.Proofs.Yteidffcimidinaa
open Go Go.Ax
set_option maxRecDepth 100000
set_option linter.unusedSimpArgs false
set_option linter.unusedVariables false

/-- How many values digit k has. -/
def rad (low high : List Int) (k : Nat) : Int := high.getD k default - low.getD k default + 1
/-- The number that the first k digits stand for; how many numbers they have. -/
def pv (low high : List Int) : Nat → List Int → Int
  | 0, _ => 0
  | k + 1, l => pv low high k l * rad low high k + (l.getD k default - low.getD k default)
def pc (low high : List Int) : Nat → Int
  | 0 => 1
  | k + 1 => pc low high k * rad low high k
theorem getD_set_ne {l : List Int} {i j : Nat} {x : Int} (h : i ≠ j) : (l.set i x).getD j default = l.getD j default := by
  simp only [List.getD_eq_getElem?_getD, List.getElem?_set_ne h]
theorem getD_set_eq {l : List Int} {i : Nat} {x : Int} (h : i < l.length) : (l.set i x).getD i default = x := by
  simp [List.getD_eq_getElem?_getD, List.getElem?_set_self h]
theorem pv_congr {low high : List Int} : ∀ {k : Nat} {l m : List Int}, (∀ i, i < k → l.getD i default = m.getD i default) → pv low high k l = pv low high k m
  | 0, l, m, _ => rfl
  | k + 1, l, m, h => by
    unfold pv
    rw [pv_congr fun i hi => h i (by omega), h k (by omega)]
theorem nxt_none {low high : List Int} : ∀ {k : Nat} {l : List Int}, k ≤ l.length → (∀ i, i < k → l.getD i default ≤ high.getD i default) → nxt low high k l = none → pv low high k l + 1 = pc low high k
  | 0, l, _, _, _ => rfl
  | k + 1, l, hk, hb, h => by
    unfold nxt at h
    split at h
    · cases h
    · rename_i hc
      have hb' := hb k (by omega)
      have ih := nxt_none (k := k) (l := l.set k (low.getD k default)) (by simp; omega) (fun i hi => by rw [getD_set_ne (by omega)]; exact hb i (by omega)) h
      have e : pv low high k (l.set k (low.getD k default)) = pv low high k l := pv_congr fun i hi => getD_set_ne (by omega)
      rw [e] at ih
      unfold pv pc
      rw [← ih]
      have e2 : l.getD k default = high.getD k default := by omega
      rw [e2]
      unfold rad
      rw [Int.add_mul]
      omega
theorem nxt_some {low high : List Int} : ∀ {k : Nat} {l m : List Int}, k ≤ l.length → (∀ i, i < k → low.getD i default ≤ l.getD i default ∧ l.getD i default ≤ high.getD i default) → nxt low high k l = some m →
    pv low high k m = pv low high k l + 1 ∧ (∀ i, k ≤ i → m.getD i default = l.getD i default) ∧ (∀ i, i < k → low.getD i default ≤ m.getD i default ∧ m.getD i default ≤ high.getD i default) ∧
    (∃ p, p < k ∧ (∀ i, i < p → m.getD i default = l.getD i default) ∧ l.getD p default < m.getD p default) ∧ m.length = l.length
  | 0, l, m, _, _, h => by cases h
  | k + 1, l, m, hk, hb, h => by
    unfold nxt at h
    split at h
    · rename_i hc
      simp only [Option.some.injEq] at h
      subst h
      have hs : (l.set k (l.getD k default + 1)).getD k default = l.getD k default + 1 := getD_set_eq (by omega)
      have hn : ∀ i, i ≠ k → (l.set k (l.getD k default + 1)).getD i default = l.getD i default := fun i hi => getD_set_ne (fun e => hi e.symm)
      refine ⟨?_, fun i hi => hn i (by omega), fun i hi => ?_, ⟨k, by omega, fun i hi => hn i (by omega), by rw [hs]; omega⟩, by simp⟩
      · unfold pv
        rw [hs, pv_congr fun i hi => hn i (by omega)]
        omega
      · by_cases e : i = k
        · subst e; rw [hs]; have := hb i hi; omega
        · rw [hn i e]; exact hb i hi
    · rename_i hc
      have hbk := hb k (by omega)
      have hlow : (l.set k (low.getD k default)).getD k default = low.getD k default := getD_set_eq (by omega)
      have hn : ∀ i, i ≠ k → (l.set k (low.getD k default)).getD i default = l.getD i default := fun i hi => getD_set_ne (fun e => hi e.symm)
      obtain ⟨h1, h2, h3, ⟨p, hp, h4, h5⟩, h6⟩ := nxt_some (k := k) (l := l.set k (low.getD k default)) (by simp; omega) (fun i hi => by rw [hn i (by omega)]; exact hb i (by omega)) h
      have mk : m.getD k default = low.getD k default := (h2 k (Nat.le_refl _)).trans hlow
      refine ⟨?_, fun i hi => (h2 i (by omega)).trans (hn i (by omega)), fun i hi => ?_, ⟨p, by omega, fun i hi => (h4 i hi).trans (hn i (by omega)), by rw [hn p (by omega)] at h5; exact h5⟩, by simpa using h6⟩
      · unfold pv
        rw [h1, mk, pv_congr (l := l.set k (low.getD k default)) (m := l) fun i hi => hn i (by omega)]
        have e2 : l.getD k default = high.getD k default := by omega
        rw [e2]
        unfold rad
        rw [Int.add_mul]
        omega
      · by_cases e : i = k
        · subst e; rw [mk]; have := hb i hi; omega
        · exact h3 i (by omega)
theorem pv_low {low high : List Int} : ∀ k : Nat, pv low high k low = 0
  | 0 => rfl
  | k + 1 => by unfold pv; rw [pv_low k]; omega
theorem pv_lt {low high : List Int} : ∀ {k : Nat} {l : List Int}, (∀ i, i < k → low.getD i default ≤ l.getD i default ∧ l.getD i default ≤ high.getD i default) → 0 ≤ pv low high k l ∧ pv low high k l + 1 ≤ pc low high k
  | 0, l, _ => ⟨Int.le_refl _, Int.le_refl _⟩
  | k + 1, l, h => by
    obtain ⟨h1, h2⟩ := pv_lt (k := k) (l := l) fun i hi => h i (by omega)
    have h3 := h k (by omega)
    unfold pv pc
    have hr : 0 < rad low high k := by unfold rad; omega
    have h4 : pv low high k l * rad low high k + rad low high k ≤ pc low high k * rad low high k := by
      have := Int.mul_le_mul_of_nonneg_right h2 (Int.le_of_lt hr)
      rw [Int.add_mul] at this
      omega
    have h5 : 0 ≤ pv low high k l * rad low high k := Int.mul_nonneg h1 (Int.le_of_lt hr)
    unfold rad at *
    omega

/-! ### What the library says of two lists -/
theorem isNaNC (x : Int) (H : AHeap) : Comp' 93 [int x] H (bool false) := by
  refine enter Try.func93 L93_ok (Nat.le_of_ble_eq_true rfl) ?_
  repeat' (first | (refine And.intro (by omega) ?_) | simp -implicitDefEqProofs (disch := omega) only [L93, dT_lt, dF_lt, dT_le, dF_le, dT_eq, dF_eq, push_cast, ↓reduceIte, Nat.reduceEqDiff, reduceCtorEq, Nat.reduceAdd, Nat.reduceSub, Nat.reduceMul, Nat.reduceLeDiff, Nat.reduceLT, Nat.reduceMod, Nat.reduceDiv, Int.reduceToNat, Int.reduceLT, Int.reduceLE, Int.reduceEq, Int.reduceAdd, Int.reduceSub, Int.reduceNeg, Int.reduceMul, Bool.and_self] | split)
theorem cmpC (x y : Int) (H : AHeap) : Comp' 47 [int x, int y] H (int (if x < y then -1 else if y < x then 1 else 0)) := by
  refine enter Try.func47 L47_ok (Nat.le_of_ble_eq_true rfl) ?_
  by_cases h1 : x < y
  · rw [if_pos h1]
    repeat' (first | (refine And.intro (by omega) ?_) | (refine callF_pure (isNaNC _ _) ?_) | (refine callQF_pure (isNaNC _ _) (by first | rfl | simp only [L47, push_cast, ↓reduceIte, Nat.reduceEqDiff]) ?_) | simp -implicitDefEqProofs (disch := omega) only [L47, dT_lt, dF_lt, dT_le, dF_le, dT_eq, dF_eq, push_cast, ↓reduceIte, Nat.reduceEqDiff, reduceCtorEq, Nat.reduceAdd, Nat.reduceSub, Nat.reduceMul, Nat.reduceLeDiff, Nat.reduceLT, Nat.reduceMod, Nat.reduceDiv, Int.reduceToNat, Int.reduceLT, Int.reduceLE, Int.reduceEq, Int.reduceAdd, Int.reduceSub, Int.reduceNeg, Int.reduceMul, Bool.and_self] | split)
  · rw [if_neg h1]
    by_cases h2 : y < x
    · rw [if_pos h2]
      repeat' (first | (refine And.intro (by omega) ?_) | (refine callF_pure (isNaNC _ _) ?_) | (refine callQF_pure (isNaNC _ _) (by first | rfl | simp only [L47, push_cast, ↓reduceIte, Nat.reduceEqDiff]) ?_) | simp -implicitDefEqProofs (disch := omega) only [L47, dT_lt, dF_lt, dT_le, dF_le, dT_eq, dF_eq, push_cast, ↓reduceIte, Nat.reduceEqDiff, reduceCtorEq, Nat.reduceAdd, Nat.reduceSub, Nat.reduceMul, Nat.reduceLeDiff, Nat.reduceLT, Nat.reduceMod, Nat.reduceDiv, Int.reduceToNat, Int.reduceLT, Int.reduceLE, Int.reduceEq, Int.reduceAdd, Int.reduceSub, Int.reduceNeg, Int.reduceMul, Bool.and_self] | split)
    · rw [if_neg h2]
      repeat' (first | (refine And.intro (by omega) ?_) | (refine callF_pure (isNaNC _ _) ?_) | (refine callQF_pure (isNaNC _ _) (by first | rfl | simp only [L47, push_cast, ↓reduceIte, Nat.reduceEqDiff]) ?_) | simp -implicitDefEqProofs (disch := omega) only [L47, dT_lt, dF_lt, dT_le, dF_le, dT_eq, dF_eq, push_cast, ↓reduceIte, Nat.reduceEqDiff, reduceCtorEq, Nat.reduceAdd, Nat.reduceSub, Nat.reduceMul, Nat.reduceLeDiff, Nat.reduceLT, Nat.reduceMod, Nat.reduceDiv, Int.reduceToNat, Int.reduceLT, Int.reduceLE, Int.reduceEq, Int.reduceAdd, Int.reduceSub, Int.reduceNeg, Int.reduceMul, Bool.and_self] | split)
/-- The first list is the lesser one: they differ first at p. -/
theorem compareC (l m : List Int) (hl : big l.length) (p : Nat) (hp : p < l.length) (hpm : p < m.length) (he : ∀ i, i < p → m.getD i default = l.getD i default) (hlt : l.getD p default < m.getD p default) (H : AHeap) :
    Comp' 16 [.sl 1 (l.map iR), .sl 1 (m.map iR)] H (int (-1)) := by
  refine enter Try.func16 L16_ok (Nat.le_of_ble_eq_true rfl) ?_
  unfold big at hl
  repeat' (first | (refine And.intro (by omega) ?_) | simp -implicitDefEqProofs (disch := omega) only [L16, dT_lt, dF_lt, dT_le, dF_le, dT_eq, dF_eq, push_cast, ↓reduceIte, Nat.reduceEqDiff, reduceCtorEq, Nat.reduceAdd, Nat.reduceSub, Nat.reduceMul, Nat.reduceLeDiff, Nat.reduceLT, Nat.reduceMod, Nat.reduceDiv, Int.reduceToNat, Int.reduceLT, Int.reduceLE, Int.reduceEq, Int.reduceAdd, Int.reduceSub, Int.reduceNeg, Int.reduceMul, Bool.and_self] | split)
  refine rk_loopS (fun (j : Nat) e' H' => e' 1 = .sl 1 (m.map iR) ∧ e' 9 = .sl 1 (l.map iR) ∧ e' 10 = int l.length ∧ e' 11 = int j ∧ H = H' ∧ j ≤ p) (fun j => p - j) 0 ?_ ?_
  · exact ⟨rfl, rfl, rfl, rfl, rfl, Nat.zero_le _⟩
  rintro j e' H' ⟨h1, h9, h10, h11, rfl, hj⟩
  have hi : ∀ n : Int, iR n = [int n] := fun _ => rfl
  by_cases hjp : j < p
  · have hjl : j < l.length := by omega
    have hjm : j < m.length := by omega
    have c1 := fun H => cmpC (l.getD j default) (m.getD j default) H
    rw [he j hjp, if_neg (by omega), if_neg (by omega)] at c1
    repeat' (first | (refine And.intro (by omega) ?_) | (refine callF_pure (c1 _) ?_) | (refine callQF_pure (c1 _) (by first | rfl | simp only [h1, h9, h10, h11, rows_getD, hi, List.length_map, he j hjp, push_cast, ↓reduceIte, Nat.reduceEqDiff]) ?_) | simp -implicitDefEqProofs (disch := omega) only [h1, h9, h10, h11, rows_getD, hi, List.length_map, he j hjp, dT_lt, dF_lt, dT_le, dF_le, dT_eq, dF_eq, push_cast, ↓reduceIte, Nat.reduceEqDiff, reduceCtorEq, Nat.reduceAdd, Nat.reduceSub, Nat.reduceMul, Nat.reduceLeDiff, Nat.reduceLT, Nat.reduceMod, Nat.reduceDiv, Int.reduceToNat, Int.reduceLT, Int.reduceLE, Int.reduceEq, Int.reduceAdd, Int.reduceSub, Int.reduceNeg, Int.reduceMul, Bool.and_self] | split)
    exact .mk (j + 1) ⟨h1, h9, h10, rfl, rfl, hjp⟩ (by omega)
  · have e : j = p := by omega
    subst e
    have c1 := fun H => cmpC (l.getD j default) (m.getD j default) H
    rw [if_pos hlt] at c1
    repeat' (first | (refine And.intro (by omega) ?_) | (refine callF_pure (c1 _) ?_) | (refine callQF_pure (c1 _) (by first | rfl | simp only [h1, h9, h10, h11, rows_getD, hi, List.length_map, push_cast, ↓reduceIte, Nat.reduceEqDiff]) ?_) | simp -implicitDefEqProofs (disch := omega) only [h1, h9, h10, h11, rows_getD, hi, List.length_map, dT_lt, dF_lt, dT_le, dF_le, dT_eq, dF_eq, push_cast, ↓reduceIte, Nat.reduceEqDiff, reduceCtorEq, Nat.reduceAdd, Nat.reduceSub, Nat.reduceMul, Nat.reduceLeDiff, Nat.reduceLT, Nat.reduceMod, Nat.reduceDiv, Int.reduceToNat, Int.reduceLT, Int.reduceLE, Int.reduceEq, Int.reduceAdd, Int.reduceSub, Int.reduceNeg, Int.reduceMul, Bool.and_self] | split)

theorem pc_pos {low high : List Int} {k : Nat} (h : ∀ i, i < k → low.getD i default ≤ high.getD i default) : 1 ≤ pc low high k := by
  have := pv_lt (low := low) (high := high) (k := k) (l := low) fun i hi => ⟨Int.le_refl _, h i hi⟩
  rw [pv_low] at this
  omega
theorem valueCounts (low high : List Int) (b1 : big low.length) (b2 : big high.length) (h1 : allR low) (h2 : allR high) (H : AHeap) :
    Comp' 4 [.sl 1 (low.map iR), .sl 1 (high.map iR)] H (bool true) := by
  refine ACall.drop (R := fun x => x = bool true) ?_
  refine enter Try.func4 L4_ok (Nat.le_of_ble_eq_true rfl) ?_
  unfold big at b1 b2
  by_cases g1 : low.length = high.length
  · by_cases g2 : low.length ≤ 8
    · repeat' (first | (refine And.intro (by omega) ?_) | simp -implicitDefEqProofs (disch := omega) only [L4, dT_lt, dF_lt, dT_le, dF_le, dT_eq, dF_eq, push_cast, ↓reduceIte, Nat.reduceEqDiff, reduceCtorEq, Nat.reduceAdd, Nat.reduceSub, Nat.reduceMul, Nat.reduceLeDiff, Nat.reduceLT, Nat.reduceMod, Nat.reduceDiv, Int.reduceToNat, Int.reduceLT, Int.reduceLE, Int.reduceEq, Int.reduceAdd, Int.reduceSub, Int.reduceNeg, Int.reduceMul, Bool.and_self] | split)
      have hi : ∀ n : Int, iR n = [int n] := fun _ => rfl
      refine rk_loopS (fun (j : Nat) e' H' => e' 0 = .sl 1 (low.map iR) ∧ e' 1 = .sl 1 (high.map iR) ∧ e' 5 = int (pc low high j) ∧ e' 25 = int low.length ∧ e' 26 = int j ∧ H = H' ∧ j ≤ low.length ∧ (∀ i, i < j → low.getD i default ≤ high.getD i default ∧ -1000 ≤ low.getD i default ∧ high.getD i default ≤ 1000) ∧ pc low high j ≤ 200) (fun j => low.length - j) 0 ?_ ?_
      · exact ⟨rfl, rfl, rfl, rfl, rfl, rfl, Nat.zero_le _, fun i hi => by omega, by show (1 : Int) ≤ 200; decide⟩
      rintro j e' H' ⟨e0, e1, e5, e25, e26, rfl, hj, hb, hc⟩
      have hpos := pc_pos (low := low) (high := high) (k := j) fun i hi => (hb i hi).1
      by_cases hlt : j < low.length
      · have hltm : j < high.length := by omega
        by_cases q1 : low.getD j default ≤ high.getD j default
        · by_cases q2 : -1000 ≤ low.getD j default
          · by_cases q3 : high.getD j default ≤ 1000
            · have hr : pc low high (j + 1) = pc low high j * (high.getD j default - low.getD j default + 1) := rfl
              have hm1 : pc low high j * (high.getD j default - low.getD j default + 1) ≤ 200 * 2001 := by
                have t1 : pc low high j * (high.getD j default - low.getD j default + 1) ≤ 200 * (high.getD j default - low.getD j default + 1) := Int.mul_le_mul_of_nonneg_right hc (by omega)
                omega
              have hm0 : 0 ≤ pc low high j * (high.getD j default - low.getD j default + 1) := Int.mul_nonneg (by omega) (by omega)
              have hb' : ∀ i, i < j + 1 → low.getD i default ≤ high.getD i default ∧ -1000 ≤ low.getD i default ∧ high.getD i default ≤ 1000 := upto_succ hb ⟨q1, q2, q3⟩
              generalize pc low high j = c at *
              generalize hx : low.getD j default = x at *
              generalize hy : high.getD j default = y at *
              generalize hpr : c * (y - x + 1) = pr at *
              by_cases q4 : pr ≤ 200
              · repeat' (first | (refine And.intro (by omega) ?_) | simp -implicitDefEqProofs (disch := omega) only [e0, e1, e5, e25, e26, rows_getD, hi, List.length_map, hx, hy, hpr, dT_lt, dF_lt, dT_le, dF_le, dT_eq, dF_eq, push_cast, ↓reduceIte, Nat.reduceEqDiff, reduceCtorEq, Nat.reduceAdd, Nat.reduceSub, Nat.reduceMul, Nat.reduceLeDiff, Nat.reduceLT, Nat.reduceMod, Nat.reduceDiv, Int.reduceToNat, Int.reduceLT, Int.reduceLE, Int.reduceEq, Int.reduceAdd, Int.reduceSub, Int.reduceNeg, Int.reduceMul, Bool.and_self] | split)
                exact .mk (j + 1) ⟨e0, e1, intc rfl (by rw [hr]), e25, rfl, rfl, hlt, hb', by rw [hr]; exact q4⟩ (by omega)
              · repeat' (first | (refine And.intro (by omega) ?_) | (refine callF_pure (awakeV _) ?_) | (refine callQF_pure (awakeV _) (by first | rfl | simp only [e0, e1, e5, e25, e26, rows_getD, hi, List.length_map, hx, hy, hpr, push_cast, ↓reduceIte, Nat.reduceEqDiff]) ?_) | simp -implicitDefEqProofs (disch := omega) only [e0, e1, e5, e25, e26, rows_getD, hi, List.length_map, hx, hy, hpr, dT_lt, dF_lt, dT_le, dF_le, dT_eq, dF_eq, push_cast, ↓reduceIte, Nat.reduceEqDiff, reduceCtorEq, Nat.reduceAdd, Nat.reduceSub, Nat.reduceMul, Nat.reduceLeDiff, Nat.reduceLT, Nat.reduceMod, Nat.reduceDiv, Int.reduceToNat, Int.reduceLT, Int.reduceLE, Int.reduceEq, Int.reduceAdd, Int.reduceSub, Int.reduceNeg, Int.reduceMul, Bool.and_self] | split)
                exact ⟨_, (List.append_nil _).symm⟩
            · repeat' (first | (refine And.intro (by omega) ?_) | (refine callF_pure (awakeV _) ?_) | (refine callQF_pure (awakeV _) (by first | rfl | simp only [e0, e1, e5, e25, e26, rows_getD, hi, List.length_map, push_cast, ↓reduceIte, Nat.reduceEqDiff]) ?_) | simp -implicitDefEqProofs (disch := omega) only [e0, e1, e5, e25, e26, rows_getD, hi, List.length_map, dT_lt, dF_lt, dT_le, dF_le, dT_eq, dF_eq, push_cast, ↓reduceIte, Nat.reduceEqDiff, reduceCtorEq, Nat.reduceAdd, Nat.reduceSub, Nat.reduceMul, Nat.reduceLeDiff, Nat.reduceLT, Nat.reduceMod, Nat.reduceDiv, Int.reduceToNat, Int.reduceLT, Int.reduceLE, Int.reduceEq, Int.reduceAdd, Int.reduceSub, Int.reduceNeg, Int.reduceMul, Bool.and_self] | split)
              exact ⟨_, (List.append_nil _).symm⟩
          · repeat' (first | (refine And.intro (by omega) ?_) | (refine callF_pure (awakeV _) ?_) | (refine callQF_pure (awakeV _) (by first | rfl | simp only [e0, e1, e5, e25, e26, rows_getD, hi, List.length_map, push_cast, ↓reduceIte, Nat.reduceEqDiff]) ?_) | simp -implicitDefEqProofs (disch := omega) only [e0, e1, e5, e25, e26, rows_getD, hi, List.length_map, dT_lt, dF_lt, dT_le, dF_le, dT_eq, dF_eq, push_cast, ↓reduceIte, Nat.reduceEqDiff, reduceCtorEq, Nat.reduceAdd, Nat.reduceSub, Nat.reduceMul, Nat.reduceLeDiff, Nat.reduceLT, Nat.reduceMod, Nat.reduceDiv, Int.reduceToNat, Int.reduceLT, Int.reduceLE, Int.reduceEq, Int.reduceAdd, Int.reduceSub, Int.reduceNeg, Int.reduceMul, Bool.and_self] | split)
            exact ⟨_, (List.append_nil _).symm⟩
        · repeat' (first | (refine And.intro (by omega) ?_) | (refine callF_pure (awakeV _) ?_) | (refine callQF_pure (awakeV _) (by first | rfl | simp only [e0, e1, e5, e25, e26, rows_getD, hi, List.length_map, push_cast, ↓reduceIte, Nat.reduceEqDiff]) ?_) | simp -implicitDefEqProofs (disch := omega) only [e0, e1, e5, e25, e26, rows_getD, hi, List.length_map, dT_lt, dF_lt, dT_le, dF_le, dT_eq, dF_eq, push_cast, ↓reduceIte, Nat.reduceEqDiff, reduceCtorEq, Nat.reduceAdd, Nat.reduceSub, Nat.reduceMul, Nat.reduceLeDiff, Nat.reduceLT, Nat.reduceMod, Nat.reduceDiv, Int.reduceToNat, Int.reduceLT, Int.reduceLE, Int.reduceEq, Int.reduceAdd, Int.reduceSub, Int.reduceNeg, Int.reduceMul, Bool.and_self] | split)
          exact ⟨_, (List.append_nil _).symm⟩
      · have e : j = low.length := by omega
        subst e
        repeat' (first | (refine And.intro (by omega) ?_) | simp -implicitDefEqProofs (disch := omega) only [e0, e1, e5, e25, e26, List.length_map, List.append_nil, List.nil_append, Nat.zero_add, dT_lt, dF_lt, dT_le, dF_le, dT_eq, dF_eq, push_cast, ↓reduceIte, Nat.reduceEqDiff, reduceCtorEq, Nat.reduceAdd, Nat.reduceSub, Nat.reduceMul, Nat.reduceLeDiff, Nat.reduceLT, Nat.reduceMod, Nat.reduceDiv, Int.reduceToNat, Int.reduceLT, Int.reduceLE, Int.reduceEq, Int.reduceAdd, Int.reduceSub, Int.reduceNeg, Int.reduceMul, Bool.and_self] | split)
        have hwl : within low high low := ⟨rfl, g1.symm, fun i hi => ⟨Int.le_refl _, (hb i hi).1⟩⟩
        refine rk_loopS (fun (st : Nat × List Int) e' H' => e' 0 = .sl 1 (low.map iR) ∧ e' 1 = .sl 1 (high.map iR) ∧ e' 5 = int (pc low high low.length) ∧ e' 7 = .sl 1 (st.2.map iR) ∧ e' 8 = int st.1 ∧ H' = H ++ [.dead] ∧ within low high st.2 ∧ pv low high low.length st.2 + 1 = st.1) (fun st => (pc low high low.length).toNat - st.1) (1, low) ?_ ?_
        · exact ⟨e0, e1, e5, rfl, rfl, rfl, hwl, by simp only; rw [pv_low]; rfl⟩
        clear e0 e1 e5 e25 e26 e'
        rintro ⟨n, l⟩ e' H' ⟨e0, e1, e5, e7, e8, rfl, hw, hpv⟩
        simp only at e7 e8 hw hpv
        obtain ⟨w1, w2, w3⟩ := hw
        have hin : ∀ i, i < low.length → low.getD i default ≤ l.getD i default ∧ l.getD i default ≤ high.getD i default := fun i hi => w3 i (by omega)
        have hl3 : allR l := fun i hi => by
          have a1 := hin i (by omega)
          have a2 := hb i (by omega)
          exact ⟨by omega, by omega⟩
        have hpl := pv_lt hin
        have cn := fun H => nextC low high l (by omega) h1 h2 hl3 H
        have hF : nextF low high l = nxt low high low.length l := by unfold nextF; rw [if_pos ⟨w1, w2, w3⟩, w1]
        rw [hF] at cn
        generalize hN : pc low high low.length = N at *
        cases hx : nxt low high low.length l with
        | none =>
          rw [hx] at cn
          simp only [nextA] at cn
          have hlast := nxt_none (low := low) (high := high) (k := low.length) (l := l) (by omega) (fun i hi => (hin i hi).2) hx
          rw [hN, hpv] at hlast
          repeat' (first | (refine And.intro (by omega) ?_) | (refine callF_pure (cn _) ?_) | (refine callF_pure (awakeV _) ?_) | (refine callQF_pure (cn _) (by first | rfl | simp only [e0, e1, e5, e7, e8, push_cast, ↓reduceIte, Nat.reduceEqDiff]) ?_) | (refine callQF_pure (awakeV _) (by first | rfl | simp only [e0, e1, e5, e7, e8, push_cast, ↓reduceIte, Nat.reduceEqDiff]) ?_) | simp -implicitDefEqProofs (disch := omega) only [e0, e1, e5, e7, e8, dT_lt, dF_lt, dT_le, dF_le, dT_eq, dF_eq, push_cast, ↓reduceIte, Nat.reduceEqDiff, reduceCtorEq, Nat.reduceAdd, Nat.reduceSub, Nat.reduceMul, Nat.reduceLeDiff, Nat.reduceLT, Nat.reduceMod, Nat.reduceDiv, Int.reduceToNat, Int.reduceLT, Int.reduceLE, Int.reduceEq, Int.reduceAdd, Int.reduceSub, Int.reduceNeg, Int.reduceMul, Bool.and_self] | split)
          exact ⟨_, rfl⟩
        | some m =>
          rw [hx] at cn
          simp only [nextA] at cn
          obtain ⟨p1, p2, p3, ⟨p, hp, p4, p5⟩, p6⟩ := nxt_some (low := low) (high := high) (k := low.length) (l := l) (by omega) hin hx
          have hpm := pv_lt p3
          rw [hN] at hpm
          have cc := fun H => compareC l m (by unfold big; omega) p (by omega) (by omega) p4 p5 H
          have hml : m.length = low.length := by omega
          repeat' (first | (refine And.intro (by omega) ?_) | (refine callF_pure (cn _) ?_) | (refine callF_pure (cc _) ?_) | (refine callQF_pure (cn _) (by first | rfl | simp only [e0, e1, e5, e7, e8, List.length_map, p6, push_cast, ↓reduceIte, Nat.reduceEqDiff]) ?_) | (refine callQF_pure (cc _) (by first | rfl | simp only [e0, e1, e5, e7, e8, List.length_map, p6, push_cast, ↓reduceIte, Nat.reduceEqDiff]) ?_) | simp -implicitDefEqProofs (disch := omega) only [e0, e1, e5, e7, e8, List.length_map, p6, dT_lt, dF_lt, dT_le, dF_le, dT_eq, dF_eq, push_cast, ↓reduceIte, Nat.reduceEqDiff, reduceCtorEq, Nat.reduceAdd, Nat.reduceSub, Nat.reduceMul, Nat.reduceLeDiff, Nat.reduceLT, Nat.reduceMod, Nat.reduceDiv, Int.reduceToNat, Int.reduceLT, Int.reduceLE, Int.reduceEq, Int.reduceAdd, Int.reduceSub, Int.reduceNeg, Int.reduceMul, Bool.and_self] | split)
          refine rk_loopS (fun (j : Nat) e' H' => e' 0 = .sl 1 (low.map iR) ∧ e' 1 = .sl 1 (high.map iR) ∧ e' 5 = int N ∧ e' 8 = int n ∧ e' 9 = .sl 1 (m.map iR) ∧ e' 110 = .sl 1 (m.map iR) ∧ e' 111 = int m.length ∧ e' 112 = int j ∧ H' = H ++ [.dead] ∧ j ≤ m.length) (fun j => m.length - j) 0 ?_ ?_
          · exact ⟨e0, e1, e5, e8, rfl, rfl, by rw [p6]; rfl, rfl, rfl, Nat.zero_le _⟩
          clear e0 e1 e5 e7 e8 e'
          rintro j e' H' ⟨e0, e1, e5, e8, e9, e110, e111, e112, rfl, hjm⟩
          by_cases hjl : j < m.length
          · have q := p3 j (by omega)
            have k1 : j < low.length := by omega
            have k2 : j < high.length := by omega
            repeat' (first | (refine And.intro (by omega) ?_) | simp -implicitDefEqProofs (disch := omega) only [e0, e1, e5, e8, e9, e110, e111, e112, rows_getD, hi, List.length_map, dT_lt, dF_lt, dT_le, dF_le, dT_eq, dF_eq, push_cast, ↓reduceIte, Nat.reduceEqDiff, reduceCtorEq, Nat.reduceAdd, Nat.reduceSub, Nat.reduceMul, Nat.reduceLeDiff, Nat.reduceLT, Nat.reduceMod, Nat.reduceDiv, Int.reduceToNat, Int.reduceLT, Int.reduceLE, Int.reduceEq, Int.reduceAdd, Int.reduceSub, Int.reduceNeg, Int.reduceMul, Bool.and_self] | split)
            exact .mk (j + 1) ⟨e0, e1, e5, e8, e9, e110, e111, rfl, rfl, hjl⟩ (by omega)
          · repeat' (first | (refine And.intro (by omega) ?_) | simp -implicitDefEqProofs (disch := omega) only [e0, e1, e5, e8, e9, e110, e111, e112, dT_lt, dF_lt, dT_le, dF_le, dT_eq, dF_eq, push_cast, ↓reduceIte, Nat.reduceEqDiff, reduceCtorEq, Nat.reduceAdd, Nat.reduceSub, Nat.reduceMul, Nat.reduceLeDiff, Nat.reduceLT, Nat.reduceMod, Nat.reduceDiv, Int.reduceToNat, Int.reduceLT, Int.reduceLE, Int.reduceEq, Int.reduceAdd, Int.reduceSub, Int.reduceNeg, Int.reduceMul, Bool.and_self] | split)
            refine .mk (n + 1, m) ⟨e0, e1, e5, rfl, rfl, rfl, ⟨hml.symm, by simp only; omega, fun i hi => p3 i (by simp only at hi; omega)⟩, by simp only; rw [p1, hpv]; rfl⟩ ?_
            simp only
            omega
    · repeat' (first | (refine And.intro (by omega) ?_) | (refine callF_pure (awakeV _) ?_) | (refine callQF_pure (awakeV _) (by first | rfl | simp only [L4, push_cast, ↓reduceIte, Nat.reduceEqDiff]) ?_) | simp -implicitDefEqProofs (disch := omega) only [L4, dT_lt, dF_lt, dT_le, dF_le, dT_eq, dF_eq, push_cast, ↓reduceIte, Nat.reduceEqDiff, reduceCtorEq, Nat.reduceAdd, Nat.reduceSub, Nat.reduceMul, Nat.reduceLeDiff, Nat.reduceLT, Nat.reduceMod, Nat.reduceDiv, Int.reduceToNat, Int.reduceLT, Int.reduceLE, Int.reduceEq, Int.reduceAdd, Int.reduceSub, Int.reduceNeg, Int.reduceMul, Bool.and_self] | split)
      all_goals exact ⟨_, (List.append_nil _).symm⟩
  · repeat' (first | (refine And.intro (by omega) ?_) | (refine callF_pure (awakeV _) ?_) | (refine callQF_pure (awakeV _) (by first | rfl | simp only [L4, push_cast, ↓reduceIte, Nat.reduceEqDiff]) ?_) | simp -implicitDefEqProofs (disch := omega) only [L4, dT_lt, dF_lt, dT_le, dF_le, dT_eq, dF_eq, push_cast, ↓reduceIte, Nat.reduceEqDiff, reduceCtorEq, Nat.reduceAdd, Nat.reduceSub, Nat.reduceMul, Nat.reduceLeDiff, Nat.reduceLT, Nat.reduceMod, Nat.reduceDiv, Int.reduceToNat, Int.reduceLT, Int.reduceLE, Int.reduceEq, Int.reduceAdd, Int.reduceSub, Int.reduceNeg, Int.reduceMul, Bool.and_self] | split)
    all_goals exact ⟨_, (List.append_nil _).symm⟩
end Go.Proofs.Yteidffcimidinaa
