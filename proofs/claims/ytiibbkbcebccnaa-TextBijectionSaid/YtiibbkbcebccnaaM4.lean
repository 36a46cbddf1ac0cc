/- Parts, merged by a program (wip/tools/merge.py): Tb4 Tb5 Tb6 Tb7 Tb8 Tb9 Tb10 Tb11 Tb12 Tb13 Tb14 Tb15 Tb16 Tb17 Tb18 Fz Tb19. -/
import Derived.Test.YtiibbkbcebccnaaM3
import Derived.Test.YtiibbkbcebccnaaChecked
/- Texts: replacements: which fit, where an offset moves, the difference. -/
namespace Go.Proofs.Ytiibbkbcebccnaa
open Go Go.Ax Go.RowKit
set_option maxRecDepth 100000
set_option linter.unusedSimpArgs false
set_option linter.unusedVariables false

structure Re where
  a : Int
  e : Int
  x : List UInt8
  deriving Inhabited
def reR (r : Re) : List AV := [int r.a, int r.e, str r.x]
theorem re_len (r : Re) : (reR r).length = 3 := rfl
theorem re_take (r : Re) : (reR r).take 3 = reR r := rfl
theorem re_drop1 (r : Re) : (reR r).drop 1 = [int r.e, str r.x] := rfl
theorem re_drop2 (r : Re) : (reR r).drop 2 = [str r.x] := rfl
theorem re_drop3 (r : Re) : (reR r).drop 3 = [] := rfl
theorem re_c1s (r : Re) : c1s (reR r) = true := rfl
theorem re_cl (r : Re) : clL (reR r) = true := by simp [reR, clL, AV.cl]
theorem re_cells (r : Re) : cellsV false 1 (reR r) = int r.a := rfl
theorem re_agg (cs : List AV) : cellsOf (.agg cs) = cs := rfl

/-- Few, and with short texts. -/
def Fewr (l : List Re) : Prop := l.length ≤ 10 ∧ ∀ x ∈ l, x.x.length ≤ 1000
def fitsG (n : Int) : Int → List Re → Int
  | _, [] => 0
  | last, x :: l => if x.a < 0 ∨ x.e < x.a ∨ n < x.e then 2 else if x.a < last then 1 else fitsG n x.e l
def growF : List Re → Int
  | [] => 0
  | x :: l => ((x.x.length : Int) - (x.e - x.a)) + growF l
/-- What replacements of a text of n bytes come to. -/
def fitsF (n : Int) (l : List Re) : Int := if fitsG n 0 l ≠ 0 then fitsG n 0 l else if 16384 < n + growF l then 8 else 0
theorem fitsG_step {n last : Int} {l : List Re} {j : Nat} (h : j < l.length) : fitsG n last (l.drop j) = if (l.getD j default).a < 0 ∨ (l.getD j default).e < (l.getD j default).a ∨ n < (l.getD j default).e then 2 else if (l.getD j default).a < last then 1 else fitsG n (l.getD j default).e (l.drop (j + 1)) := by
  rw [drop_cons h]; rfl
theorem growF_app : ∀ a b : List Re, growF (a ++ b) = growF a + growF b
  | [], b => by simp [growF]
  | x :: a, b => by simp only [List.cons_append, growF, growF_app a b]; omega
theorem growF_snoc {l : List Re} {j : Nat} (h : j < l.length) : growF (l.take (j + 1)) = growF (l.take j) + (((l.getD j default).x.length : Int) - ((l.getD j default).e - (l.getD j default).a)) := by
  rw [take_snoc h, growF_app]
  simp [growF]

theorem fitsT (s : List UInt8) (l : List Re) (hs : s.length ≤ 100000) (hl : Fewr l) (H : AHeap) : Comp' 31 [str s, .sl 3 (l.map reR)] H (int (fitsF s.length l)) := by
  refine ACall.drop (R := fun x => x = int (fitsF s.length l)) ?_
  refine enter Try.func31 L31_ok (Nat.le_of_ble_eq_true rfl) ?_
  obtain ⟨hl1, hl2⟩ := hl
  repeat' (first | (refine And.intro (by omega) ?_) | simp -implicitDefEqProofs (disch := omega) only [L31, dT_lt, dF_lt, dT_le, dF_le, dT_eq, dF_eq, push_cast, ↓reduceIte, Nat.reduceEqDiff, reduceCtorEq, Nat.reduceAdd, Nat.reduceSub, Nat.reduceMul, Nat.reduceLeDiff, Nat.reduceLT, Nat.reduceMod, Nat.reduceDiv, Int.reduceToNat, Int.reduceLT, Int.reduceLE, Int.reduceEq, Int.reduceAdd, Int.reduceSub, Int.reduceNeg, Int.reduceMul, Bool.and_self] | split)
  refine rk_loopS (fun (st : Nat × Int × AHeap) e' H' => e' 0 = str s ∧ e' 5 = int ((s.length : Int) + growF (l.take st.1)) ∧ e' 6 = int st.2.1 ∧ e' 11 = .sl 3 (l.map reR) ∧ e' 12 = int l.length ∧ e' 13 = int st.1 ∧ H' = H ++ st.2.2 ∧ st.1 ≤ l.length ∧ fitsG s.length st.2.1 (l.drop st.1) = fitsG s.length 0 l ∧ -200000 * (st.1 : Int) ≤ growF (l.take st.1) ∧ growF (l.take st.1) ≤ 1000 * (st.1 : Int)) (fun st => l.length - st.1) (0, 0, []) ?_ ?_
  · exact ⟨rfl, by simp [up, growF], rfl, rfl, rfl, rfl, by simp, Nat.zero_le _, rfl, by simp [growF], by simp [growF]⟩
  rintro ⟨j, last, ext⟩ e' H' ⟨h0, h5, h6, h11, h12, h13, rfl, hj, hg, hb1, hb2⟩
  simp only at h5 h6 h13 hj hg hb1 hb2
  by_cases hlt : j < l.length
  · have hx := hl2 _ (getD_mem' hlt)
    have hgs := growF_snoc hlt
    rw [fitsG_step hlt] at hg
    have hgg : ∀ x : HO, (H ++ (ext ++ [x]))[H.length + ext.length]? = some x := fun x => by rw [get_add]; simp
    have hss : ∀ x y : HO, (H ++ (ext ++ [x])).set (H.length + ext.length) y = H ++ (ext ++ [y]) := fun x y => by rw [set_add]; simp
    by_cases c1 : (l.getD j default).a < 0
    · rw [if_pos (.inl c1)] at hg
      have hF : fitsF s.length l = 2 := by unfold fitsF; rw [← hg]; rfl
      rw [hF]
      repeat' (first | (refine And.intro (by omega) ?_) | simp -implicitDefEqProofs (disch := omega) only [h0, h5, h6, h11, h12, h13, rows_getD, re_len, re_take, re_drop1, re_drop2, re_drop3, re_c1s, re_cl, re_cells, re_agg, splice, List.append_nil, hgg, hss, dT_lt, dF_lt, dT_le, dF_le, dT_eq, dF_eq, push_cast, ↓reduceIte, Nat.reduceEqDiff, reduceCtorEq, Nat.reduceAdd, Nat.reduceSub, Nat.reduceMul, Nat.reduceLeDiff, Nat.reduceLT, Nat.reduceMod, Nat.reduceDiv, Int.reduceToNat, Int.reduceLT, Int.reduceLE, Int.reduceEq, Int.reduceAdd, Int.reduceSub, Int.reduceNeg, Int.reduceMul, Bool.and_self] | split)
      exact ⟨_, rfl⟩
    · by_cases c2 : (l.getD j default).e < (l.getD j default).a
      · rw [if_pos (.inr (.inl c2))] at hg
        have hF : fitsF s.length l = 2 := by unfold fitsF; rw [← hg]; rfl
        rw [hF]
        repeat' (first | (refine And.intro (by omega) ?_) | simp -implicitDefEqProofs (disch := omega) only [h0, h5, h6, h11, h12, h13, rows_getD, re_len, re_take, re_drop1, re_drop2, re_drop3, re_c1s, re_cl, re_cells, re_agg, splice, List.append_nil, hgg, hss, dT_lt, dF_lt, dT_le, dF_le, dT_eq, dF_eq, push_cast, ↓reduceIte, Nat.reduceEqDiff, reduceCtorEq, Nat.reduceAdd, Nat.reduceSub, Nat.reduceMul, Nat.reduceLeDiff, Nat.reduceLT, Nat.reduceMod, Nat.reduceDiv, Int.reduceToNat, Int.reduceLT, Int.reduceLE, Int.reduceEq, Int.reduceAdd, Int.reduceSub, Int.reduceNeg, Int.reduceMul, Bool.and_self] | split)
        exact ⟨_, rfl⟩
      · by_cases c3 : (s.length : Int) < (l.getD j default).e
        · rw [if_pos (.inr (.inr c3))] at hg
          have hF : fitsF s.length l = 2 := by unfold fitsF; rw [← hg]; rfl
          rw [hF]
          repeat' (first | (refine And.intro (by omega) ?_) | simp -implicitDefEqProofs (disch := omega) only [h0, h5, h6, h11, h12, h13, rows_getD, re_len, re_take, re_drop1, re_drop2, re_drop3, re_c1s, re_cl, re_cells, re_agg, splice, List.append_nil, hgg, hss, dT_lt, dF_lt, dT_le, dF_le, dT_eq, dF_eq, push_cast, ↓reduceIte, Nat.reduceEqDiff, reduceCtorEq, Nat.reduceAdd, Nat.reduceSub, Nat.reduceMul, Nat.reduceLeDiff, Nat.reduceLT, Nat.reduceMod, Nat.reduceDiv, Int.reduceToNat, Int.reduceLT, Int.reduceLE, Int.reduceEq, Int.reduceAdd, Int.reduceSub, Int.reduceNeg, Int.reduceMul, Bool.and_self] | split)
          exact ⟨_, rfl⟩
        · rw [if_neg (by omega)] at hg
          by_cases c4 : (l.getD j default).a < last
          · rw [if_pos c4] at hg
            have hF : fitsF s.length l = 1 := by unfold fitsF; rw [← hg]; rfl
            rw [hF]
            repeat' (first | (refine And.intro (by omega) ?_) | simp -implicitDefEqProofs (disch := omega) only [h0, h5, h6, h11, h12, h13, rows_getD, re_len, re_take, re_drop1, re_drop2, re_drop3, re_c1s, re_cl, re_cells, re_agg, splice, List.append_nil, hgg, hss, dT_lt, dF_lt, dT_le, dF_le, dT_eq, dF_eq, push_cast, ↓reduceIte, Nat.reduceEqDiff, reduceCtorEq, Nat.reduceAdd, Nat.reduceSub, Nat.reduceMul, Nat.reduceLeDiff, Nat.reduceLT, Nat.reduceMod, Nat.reduceDiv, Int.reduceToNat, Int.reduceLT, Int.reduceLE, Int.reduceEq, Int.reduceAdd, Int.reduceSub, Int.reduceNeg, Int.reduceMul, Bool.and_self] | split)
            exact ⟨_, rfl⟩
          · rw [if_neg c4] at hg
            repeat' (first | (refine And.intro (by omega) ?_) | simp -implicitDefEqProofs (disch := omega) only [h0, h5, h6, h11, h12, h13, rows_getD, re_len, re_take, re_drop1, re_drop2, re_drop3, re_c1s, re_cl, re_cells, re_agg, splice, List.append_nil, hgg, hss, dT_lt, dF_lt, dT_le, dF_le, dT_eq, dF_eq, push_cast, ↓reduceIte, Nat.reduceEqDiff, reduceCtorEq, Nat.reduceAdd, Nat.reduceSub, Nat.reduceMul, Nat.reduceLeDiff, Nat.reduceLT, Nat.reduceMod, Nat.reduceDiv, Int.reduceToNat, Int.reduceLT, Int.reduceLE, Int.reduceEq, Int.reduceAdd, Int.reduceSub, Int.reduceNeg, Int.reduceMul, Bool.and_self] | split)
            exact .mk (j + 1, (l.getD j default).e, _) ⟨h0, intc rfl (by simp only; omega), rfl, h11, h12, rfl, rfl, hlt, hg, by simp only; push_cast; omega, by simp only; push_cast; omega⟩ (by simp only; omega)
  · have e : j = l.length := by omega
    subst e
    rw [List.drop_length] at hg
    rw [List.take_length] at h5 hb1 hb2
    have z0 : fitsG s.length 0 l = 0 := by rw [← hg]; rfl
    by_cases c5 : 16384 < (s.length : Int) + growF l
    · have hF : fitsF s.length l = 8 := by unfold fitsF; rw [z0]; simp [c5]
      rw [hF]
      repeat' (first | (refine And.intro (by omega) ?_) | simp -implicitDefEqProofs (disch := omega) only [h0, h5, h6, h11, h12, h13, dT_lt, dF_lt, dT_le, dF_le, dT_eq, dF_eq, push_cast, ↓reduceIte, Nat.reduceEqDiff, reduceCtorEq, Nat.reduceAdd, Nat.reduceSub, Nat.reduceMul, Nat.reduceLeDiff, Nat.reduceLT, Nat.reduceMod, Nat.reduceDiv, Int.reduceToNat, Int.reduceLT, Int.reduceLE, Int.reduceEq, Int.reduceAdd, Int.reduceSub, Int.reduceNeg, Int.reduceMul, Bool.and_self] | split)
      exact ⟨_, rfl⟩
    · have hF : fitsF s.length l = 0 := by unfold fitsF; rw [z0]; simp [c5]
      rw [hF]
      repeat' (first | (refine And.intro (by omega) ?_) | simp -implicitDefEqProofs (disch := omega) only [h0, h5, h6, h11, h12, h13, dT_lt, dF_lt, dT_le, dF_le, dT_eq, dF_eq, push_cast, ↓reduceIte, Nat.reduceEqDiff, reduceCtorEq, Nat.reduceAdd, Nat.reduceSub, Nat.reduceMul, Nat.reduceLeDiff, Nat.reduceLT, Nat.reduceMod, Nat.reduceDiv, Int.reduceToNat, Int.reduceLT, Int.reduceLE, Int.reduceEq, Int.reduceAdd, Int.reduceSub, Int.reduceNeg, Int.reduceMul, Bool.and_self] | split)
      exact ⟨_, rfl⟩
#print axioms fitsT

/-! ### Where an offset moves -/
def movOk : Int → List Re → Bool
  | _, [] => true
  | last, x :: l => decide (last ≤ x.a) && (decide (x.a ≤ x.e) && (decide (x.e ≤ 16384) && movOk x.e l))
def movG (t : Int) : Int → List Re → Int
  | sh, [] => t + sh
  | sh, x :: l => if x.a ≤ t ∧ t < x.e then x.a + sh + min (t - x.a) x.x.length else movG t (if x.e ≤ t then sh + ((x.x.length : Int) - (x.e - x.a)) else sh) l
def movF (l : List Re) (t : Int) : Int := if t < 0 ∨ 16384 < t then -1 else if movOk 0 l = true then movG t 0 l else -1
theorem movOk_step {last : Int} {l : List Re} {j : Nat} (h : j < l.length) : movOk last (l.drop j) = (decide (last ≤ (l.getD j default).a) && (decide ((l.getD j default).a ≤ (l.getD j default).e) && (decide ((l.getD j default).e ≤ 16384) && movOk (l.getD j default).e (l.drop (j + 1))))) := by
  rw [drop_cons h]; rfl
theorem movG_step {t sh : Int} {l : List Re} {j : Nat} (h : j < l.length) : movG t sh (l.drop j) = if (l.getD j default).a ≤ t ∧ t < (l.getD j default).e then (l.getD j default).a + sh + min (t - (l.getD j default).a) (l.getD j default).x.length else movG t (if (l.getD j default).e ≤ t then sh + (((l.getD j default).x.length : Int) - ((l.getD j default).e - (l.getD j default).a)) else sh) (l.drop (j + 1)) := by
  rw [drop_cons h]; rfl
theorem movOk_all : ∀ {l : List Re} {last : Int}, 0 ≤ last → movOk last l = true → ∀ x ∈ l, 0 ≤ x.a ∧ x.a ≤ x.e ∧ x.e ≤ 16384
  | [], _, _, _, x, hx => by simp at hx
  | y :: l, last, h0, h, x, hx => by
    simp only [movOk, Bool.and_eq_true, decide_eq_true_eq] at h
    rcases List.mem_cons.1 hx with rfl | hx
    · omega
    · exact movOk_all (by omega) h.2.2.2 x hx

theorem movT (l : List Re) (t : Int) (hl : Fewr l) (H : AHeap) : Comp' 14 [.sl 3 (l.map reR), int t] H (int (movF l t)) := by
  refine ACall.drop (R := fun x => x = int (movF l t)) ?_
  refine enter Try.func14 L14_ok (Nat.le_of_ble_eq_true rfl) ?_
  obtain ⟨hl1, hl2⟩ := hl
  by_cases c1 : t < 0
  · have hX : movF l t = -1 := by unfold movF; rw [if_pos (.inl c1)]
    rw [hX]
    repeat' (first | (refine And.intro (by omega) ?_) | simp -implicitDefEqProofs (disch := omega) only [L14, dT_lt, dF_lt, dT_le, dF_le, dT_eq, dF_eq, push_cast, ↓reduceIte, Nat.reduceEqDiff, reduceCtorEq, Nat.reduceAdd, Nat.reduceSub, Nat.reduceMul, Nat.reduceLeDiff, Nat.reduceLT, Nat.reduceMod, Nat.reduceDiv, Int.reduceToNat, Int.reduceLT, Int.reduceLE, Int.reduceEq, Int.reduceAdd, Int.reduceSub, Int.reduceNeg, Int.reduceMul, Bool.and_self] | split)
    exact ⟨[], by simp⟩
  by_cases c2 : 16384 < t
  · have hX : movF l t = -1 := by unfold movF; rw [if_pos (.inr c2)]
    rw [hX]
    repeat' (first | (refine And.intro (by omega) ?_) | simp -implicitDefEqProofs (disch := omega) only [L14, dT_lt, dF_lt, dT_le, dF_le, dT_eq, dF_eq, push_cast, ↓reduceIte, Nat.reduceEqDiff, reduceCtorEq, Nat.reduceAdd, Nat.reduceSub, Nat.reduceMul, Nat.reduceLeDiff, Nat.reduceLT, Nat.reduceMod, Nat.reduceDiv, Int.reduceToNat, Int.reduceLT, Int.reduceLE, Int.reduceEq, Int.reduceAdd, Int.reduceSub, Int.reduceNeg, Int.reduceMul, Bool.and_self] | split)
    exact ⟨[], by simp⟩
  have hM : movF l t = if movOk 0 l = true then movG t 0 l else -1 := by unfold movF; rw [if_neg (by omega)]
  repeat' (first | (refine And.intro (by omega) ?_) | simp -implicitDefEqProofs (disch := omega) only [L14, dT_lt, dF_lt, dT_le, dF_le, dT_eq, dF_eq, push_cast, ↓reduceIte, Nat.reduceEqDiff, reduceCtorEq, Nat.reduceAdd, Nat.reduceSub, Nat.reduceMul, Nat.reduceLeDiff, Nat.reduceLT, Nat.reduceMod, Nat.reduceDiv, Int.reduceToNat, Int.reduceLT, Int.reduceLE, Int.reduceEq, Int.reduceAdd, Int.reduceSub, Int.reduceNeg, Int.reduceMul, Bool.and_self] | split)
  refine rk_loopS (fun (st : Nat × Int × AHeap) e' H' => e' 0 = .sl 3 (l.map reR) ∧ e' 1 = int t ∧ e' 5 = int st.2.1 ∧ e' 17 = .sl 3 (l.map reR) ∧ e' 18 = int l.length ∧ e' 19 = int st.1 ∧ H' = H ++ st.2.2 ∧ st.1 ≤ l.length ∧ movOk st.2.1 (l.drop st.1) = movOk 0 l) (fun st => l.length - st.1) (0, 0, []) ?_ ?_
  · exact ⟨rfl, rfl, rfl, rfl, rfl, rfl, by simp, Nat.zero_le _, rfl⟩
  rintro ⟨j, last, ext⟩ e' H' ⟨h0, h1, h5, h17, h18, h19, rfl, hj, hg⟩
  simp only at h5 h19 hj hg
  by_cases hlt : j < l.length
  · rw [movOk_step hlt] at hg
    have hgg : ∀ x : HO, (H ++ (ext ++ [x]))[H.length + ext.length]? = some x := fun x => by rw [get_add]; simp
    have hss : ∀ x y : HO, (H ++ (ext ++ [x])).set (H.length + ext.length) y = H ++ (ext ++ [y]) := fun x y => by rw [set_add]; simp
    by_cases c3 : (l.getD j default).a < last
    · have hF : movOk 0 l = false := by rw [← hg, decide_eq_false (by omega)]; rfl
      have hX : movF l t = -1 := by rw [hM, hF, if_neg (by simp)]
      rw [hX]
      repeat' (first | (refine And.intro (by omega) ?_) | simp -implicitDefEqProofs (disch := omega) only [h0, h1, h5, h17, h18, h19, rows_getD, re_len, re_take, re_drop1, re_drop2, re_drop3, re_c1s, re_cl, re_cells, re_agg, splice, List.append_nil, hgg, hss, dT_lt, dF_lt, dT_le, dF_le, dT_eq, dF_eq, push_cast, ↓reduceIte, Nat.reduceEqDiff, reduceCtorEq, Nat.reduceAdd, Nat.reduceSub, Nat.reduceMul, Nat.reduceLeDiff, Nat.reduceLT, Nat.reduceMod, Nat.reduceDiv, Int.reduceToNat, Int.reduceLT, Int.reduceLE, Int.reduceEq, Int.reduceAdd, Int.reduceSub, Int.reduceNeg, Int.reduceMul, Bool.and_self] | split)
      exact ⟨_, rfl⟩
    · by_cases c4 : (l.getD j default).e < (l.getD j default).a
      · have hF : movOk 0 l = false := by rw [← hg, decide_eq_false (p := (l.getD j default).a ≤ _) (by omega)]; simp
        have hX : movF l t = -1 := by rw [hM, hF, if_neg (by simp)]
        rw [hX]
        repeat' (first | (refine And.intro (by omega) ?_) | simp -implicitDefEqProofs (disch := omega) only [h0, h1, h5, h17, h18, h19, rows_getD, re_len, re_take, re_drop1, re_drop2, re_drop3, re_c1s, re_cl, re_cells, re_agg, splice, List.append_nil, hgg, hss, dT_lt, dF_lt, dT_le, dF_le, dT_eq, dF_eq, push_cast, ↓reduceIte, Nat.reduceEqDiff, reduceCtorEq, Nat.reduceAdd, Nat.reduceSub, Nat.reduceMul, Nat.reduceLeDiff, Nat.reduceLT, Nat.reduceMod, Nat.reduceDiv, Int.reduceToNat, Int.reduceLT, Int.reduceLE, Int.reduceEq, Int.reduceAdd, Int.reduceSub, Int.reduceNeg, Int.reduceMul, Bool.and_self] | split)
        exact ⟨_, rfl⟩
      · by_cases c5 : 16384 < (l.getD j default).e
        · have hF : movOk 0 l = false := by rw [← hg, decide_eq_false (p := (l.getD j default).e ≤ 16384) (by omega)]; simp
          have hX : movF l t = -1 := by rw [hM, hF, if_neg (by simp)]
          rw [hX]
          repeat' (first | (refine And.intro (by omega) ?_) | simp -implicitDefEqProofs (disch := omega) only [h0, h1, h5, h17, h18, h19, rows_getD, re_len, re_take, re_drop1, re_drop2, re_drop3, re_c1s, re_cl, re_cells, re_agg, splice, List.append_nil, hgg, hss, dT_lt, dF_lt, dT_le, dF_le, dT_eq, dF_eq, push_cast, ↓reduceIte, Nat.reduceEqDiff, reduceCtorEq, Nat.reduceAdd, Nat.reduceSub, Nat.reduceMul, Nat.reduceLeDiff, Nat.reduceLT, Nat.reduceMod, Nat.reduceDiv, Int.reduceToNat, Int.reduceLT, Int.reduceLE, Int.reduceEq, Int.reduceAdd, Int.reduceSub, Int.reduceNeg, Int.reduceMul, Bool.and_self] | split)
          exact ⟨_, rfl⟩
        · rw [decide_eq_true (by omega), decide_eq_true (p := (l.getD j default).a ≤ _) (by omega), decide_eq_true (p := (l.getD j default).e ≤ 16384) (by omega), Bool.true_and, Bool.true_and, Bool.true_and] at hg
          repeat' (first | (refine And.intro (by omega) ?_) | simp -implicitDefEqProofs (disch := omega) only [h0, h1, h5, h17, h18, h19, rows_getD, re_len, re_take, re_drop1, re_drop2, re_drop3, re_c1s, re_cl, re_cells, re_agg, splice, List.append_nil, hgg, hss, dT_lt, dF_lt, dT_le, dF_le, dT_eq, dF_eq, push_cast, ↓reduceIte, Nat.reduceEqDiff, reduceCtorEq, Nat.reduceAdd, Nat.reduceSub, Nat.reduceMul, Nat.reduceLeDiff, Nat.reduceLT, Nat.reduceMod, Nat.reduceDiv, Int.reduceToNat, Int.reduceLT, Int.reduceLE, Int.reduceEq, Int.reduceAdd, Int.reduceSub, Int.reduceNeg, Int.reduceMul, Bool.and_self] | split)
          exact .mk (j + 1, (l.getD j default).e, _) ⟨h0, h1, rfl, h17, h18, rfl, rfl, hlt, hg⟩ (by simp only; omega)
  · have e : j = l.length := by omega
    subst e
    rw [List.drop_length] at hg
    have hok : movOk 0 l = true := by rw [← hg]; rfl
    have hall := movOk_all (Int.le_refl 0) hok
    have hM : movF l t = movG t 0 l := by rw [hM, hok, if_pos rfl]
    rw [hM]
    repeat' (first | (refine And.intro (by omega) ?_) | simp -implicitDefEqProofs (disch := omega) only [h0, h1, h5, h17, h18, h19, dT_lt, dF_lt, dT_le, dF_le, dT_eq, dF_eq, push_cast, ↓reduceIte, Nat.reduceEqDiff, reduceCtorEq, Nat.reduceAdd, Nat.reduceSub, Nat.reduceMul, Nat.reduceLeDiff, Nat.reduceLT, Nat.reduceMod, Nat.reduceDiv, Int.reduceToNat, Int.reduceLT, Int.reduceLE, Int.reduceEq, Int.reduceAdd, Int.reduceSub, Int.reduceNeg, Int.reduceMul, Bool.and_self] | split)
    refine rk_loopS (fun (st : Nat × Int × AHeap) e' H' => e' 1 = int t ∧ e' 8 = int st.2.1 ∧ e' 42 = .sl 3 (l.map reR) ∧ e' 43 = int l.length ∧ e' 44 = int st.1 ∧ H' = H ++ st.2.2 ∧ st.1 ≤ l.length ∧ movG t st.2.1 (l.drop st.1) = movG t 0 l ∧ -20000 * (st.1 : Int) ≤ st.2.1 ∧ st.2.1 ≤ 1000 * (st.1 : Int)) (fun st => l.length - st.1) (0, 0, ext) ?_ ?_
    · exact ⟨h1, rfl, rfl, rfl, rfl, rfl, Nat.zero_le _, rfl, by simp, by simp⟩
    rintro ⟨j, sh, ext⟩ e' H' ⟨h1, h8, h42, h43, h44, rfl, hj, hg, hb1, hb2⟩
    simp only at h8 h44 hj hg hb1 hb2
    by_cases hlt : j < l.length
    · rw [movG_step hlt] at hg
      have hx := hl2 _ (getD_mem' hlt)
      obtain ⟨a1, a2, a3⟩ := hall _ (getD_mem' hlt)
      have hgg : ∀ x : HO, (H ++ (ext ++ [x]))[H.length + ext.length]? = some x := fun x => by rw [get_add]; simp
      have hss : ∀ x y : HO, (H ++ (ext ++ [x])).set (H.length + ext.length) y = H ++ (ext ++ [y]) := fun x y => by rw [set_add]; simp
      by_cases c3 : (l.getD j default).a ≤ t
      · by_cases c4 : t < (l.getD j default).e
        · rw [if_pos ⟨c3, c4⟩] at hg
          rw [← hg]
          repeat' (first | (refine And.intro (by omega) ?_) | simp -implicitDefEqProofs (disch := omega) only [h1, h8, h42, h43, h44, rows_getD, re_len, re_take, re_drop1, re_drop2, re_drop3, re_c1s, re_cl, re_cells, re_agg, splice, List.append_nil, hgg, hss, dT_lt, dF_lt, dT_le, dF_le, dT_eq, dF_eq, push_cast, ↓reduceIte, Nat.reduceEqDiff, reduceCtorEq, Nat.reduceAdd, Nat.reduceSub, Nat.reduceMul, Nat.reduceLeDiff, Nat.reduceLT, Nat.reduceMod, Nat.reduceDiv, Int.reduceToNat, Int.reduceLT, Int.reduceLE, Int.reduceEq, Int.reduceAdd, Int.reduceSub, Int.reduceNeg, Int.reduceMul, Bool.and_self] | split)
          all_goals exact ⟨by congr 2; omega, _, rfl⟩
        · rw [if_neg (by omega), if_pos (by omega)] at hg
          repeat' (first | (refine And.intro (by omega) ?_) | simp -implicitDefEqProofs (disch := omega) only [h1, h8, h42, h43, h44, rows_getD, re_len, re_take, re_drop1, re_drop2, re_drop3, re_c1s, re_cl, re_cells, re_agg, splice, List.append_nil, hgg, hss, dT_lt, dF_lt, dT_le, dF_le, dT_eq, dF_eq, push_cast, ↓reduceIte, Nat.reduceEqDiff, reduceCtorEq, Nat.reduceAdd, Nat.reduceSub, Nat.reduceMul, Nat.reduceLeDiff, Nat.reduceLT, Nat.reduceMod, Nat.reduceDiv, Int.reduceToNat, Int.reduceLT, Int.reduceLE, Int.reduceEq, Int.reduceAdd, Int.reduceSub, Int.reduceNeg, Int.reduceMul, Bool.and_self] | split)
          exact .mk (j + 1, _, _) ⟨h1, rfl, h42, h43, rfl, rfl, hlt, hg, by simp only; push_cast; omega, by simp only; push_cast; omega⟩ (by simp only; omega)
      · rw [if_neg (by omega), if_neg (by omega)] at hg
        repeat' (first | (refine And.intro (by omega) ?_) | simp -implicitDefEqProofs (disch := omega) only [h1, h8, h42, h43, h44, rows_getD, re_len, re_take, re_drop1, re_drop2, re_drop3, re_c1s, re_cl, re_cells, re_agg, splice, List.append_nil, hgg, hss, dT_lt, dF_lt, dT_le, dF_le, dT_eq, dF_eq, push_cast, ↓reduceIte, Nat.reduceEqDiff, reduceCtorEq, Nat.reduceAdd, Nat.reduceSub, Nat.reduceMul, Nat.reduceLeDiff, Nat.reduceLT, Nat.reduceMod, Nat.reduceDiv, Int.reduceToNat, Int.reduceLT, Int.reduceLE, Int.reduceEq, Int.reduceAdd, Int.reduceSub, Int.reduceNeg, Int.reduceMul, Bool.and_self] | split)
        exact .mk (j + 1, sh, _) ⟨h1, h8, h42, h43, rfl, rfl, hlt, hg, by simp only; push_cast; omega, by simp only; push_cast; omega⟩ (by simp only; omega)
    · have e : j = l.length := by omega
      subst e
      rw [List.drop_length] at hg
      rw [← hg]
      repeat' (first | (refine And.intro (by omega) ?_) | simp -implicitDefEqProofs (disch := omega) only [h1, h8, h42, h43, h44, dT_lt, dF_lt, dT_le, dF_le, dT_eq, dF_eq, push_cast, ↓reduceIte, Nat.reduceEqDiff, reduceCtorEq, Nat.reduceAdd, Nat.reduceSub, Nat.reduceMul, Nat.reduceLeDiff, Nat.reduceLT, Nat.reduceMod, Nat.reduceDiv, Int.reduceToNat, Int.reduceLT, Int.reduceLE, Int.reduceEq, Int.reduceAdd, Int.reduceSub, Int.reduceNeg, Int.reduceMul, Bool.and_self] | split)
      exact ⟨rfl, _, rfl⟩
#print axioms movT
end Go.Proofs.Ytiibbkbcebccnaa

/- Texts: Apply. -/
namespace Go.Proofs.Ytiibbkbcebccnaa
open Go Go.Ax Go.RowKit
set_option maxRecDepth 100000
set_option linter.unusedSimpArgs false
set_option linter.unusedVariables false

theorem BSt.app {n0 r : Nat} {l : List UInt8} {G : AHeap} (h : BSt n0 r l G) (ext : AHeap) : BSt n0 r l (G ++ ext) := by
  have hk : ∀ {i : Nat} {x : HO}, G[i]? = some x → (G ++ ext)[i]? = some x := fun {i x} hi => by rw [List.getElem?_append_left (List.getElem?_eq_some_iff.1 hi).1]; exact hi
  obtain ⟨h0, ⟨a, b⟩ | ⟨a, b⟩ | ⟨k, v, a, b, c, d⟩⟩ := h
  · exact ⟨h0, .inl ⟨hk a, b⟩⟩
  · exact ⟨h0, .inr (.inl ⟨hk a, b⟩)⟩
  · exact ⟨h0, .inr (.inr ⟨k, v, a, b, hk c, hk d⟩)⟩
theorem BSt.set {n0 r i : Nat} {l : List UInt8} {G : AHeap} (h : BSt n0 r l G) (hne : i ≠ r) {cs : List AV} (hi : G[i]? = some (.box cs)) (cs' : List AV) : BSt n0 r l (G.set i (.box cs')) := by
  have hk : ∀ {j : Nat} {x : HO}, G[j]? = some x → i ≠ j → (G.set i (.box cs'))[j]? = some x := fun {j x} hj hn => by rw [List.getElem?_set_ne hn]; exact hj
  obtain ⟨h0, ⟨a, b⟩ | ⟨a, b⟩ | ⟨k, v, a, b, c, d⟩⟩ := h
  · exact ⟨h0, .inl ⟨hk a hne, b⟩⟩
  · exact ⟨h0, .inr (.inl ⟨hk a hne, b⟩)⟩
  · exact ⟨h0, .inr (.inr ⟨k, v, a, b, hk c hne, hk d (fun e => by subst e; rw [hi] at d; cases d)⟩)⟩

/-- What Apply's loop holds: the text, the builder, the cursor, and all older objects. -/
def ASt (n : Nat) (s out : List UInt8) (at' : Int) (H G : AHeap) : Prop := n + 2 < G.length ∧ (∀ i, i < n → G[i]? = H[i]?) ∧ G[n]? = some (.box [str s]) ∧ G[n + 2]? = some (.box [int at']) ∧ BSt n (n + 1) out G
theorem ASt.app {n : Nat} {s out : List UInt8} {a : Int} {H G : AHeap} (h : ASt n s out a H G) (ext : AHeap) : ASt n s out a H (G ++ ext) := by
  obtain ⟨h1, h2, h3, h4, h5⟩ := h
  have hk : ∀ {i : Nat}, i < G.length → (G ++ ext)[i]? = G[i]? := fun {i} hi => List.getElem?_append_left hi
  exact ⟨by simp; omega, fun i hi => (hk (by omega)).trans (h2 i hi), (hk (by omega)).trans h3, (hk h1).trans h4, h5.app ext⟩
theorem ASt.set {n : Nat} {s out : List UInt8} {a : Int} {H G : AHeap} (h : ASt n s out a H G) (b : Int) : ASt n s out b H (G.set (n + 2) (.box [int b])) := by
  obtain ⟨h1, h2, h3, h4, h5⟩ := h
  exact ⟨by simpa using h1, fun i hi => by rw [List.getElem?_set_ne (by omega)]; exact h2 i hi, by rw [List.getElem?_set_ne (by omega)]; exact h3, by rw [List.getElem?_set_self h1], h5.set (by omega) h4 _⟩
theorem ASt.kp {n : Nat} {s out out' : List UInt8} {a : Int} {H G G' : AHeap} (h : ASt n s out a H G) (hb : BSt n (n + 1) out' G') (hk : Kp n (n + 1) G G') : ASt n s out' a H G' := by
  obtain ⟨h1, h2, h3, h4, h5⟩ := h
  obtain ⟨k1, k2, k3⟩ := hk
  exact ⟨by omega, fun i hi => (k2 i hi).trans (h2 i hi), k3 n _ (by omega) h3, k3 _ _ (by omega) h4, hb⟩

theorem upToC (n : Nat) (s out : List UInt8) (at' : Int) (t : Int) (H G : AHeap) (h : ASt n s out at' H G) (h0 : 0 ≤ at') (h1 : at' ≤ t) (h2 : t ≤ s.length) (hs : s.length ≤ 100000) (ho : out.length ≤ 10000000) :
    ACall Try.prog 32 [int t, .ptr (n + 1) 0 0, .ptr n 0 0, .ptr (n + 2) 0 0] G fun x G' => x = .tup [] ∧ ASt n s (out ++ (s.take t.toNat).drop at'.toNat) t H G' ∧ ∀ i cs, i ≠ n + 1 → i ≠ n + 2 → G[i]? = some (.box cs) → G'[i]? = some (.box cs) := by
  obtain ⟨j, rfl⟩ : ∃ j : Nat, at' = j := ⟨at'.toNat, by omega⟩
  obtain ⟨k, rfl⟩ : ∃ k : Nat, t = k := ⟨t.toNat, by omega⟩
  have g0 := h.2.2.1
  have g2 := h.2.2.2.1
  refine enter Try.func32 L32_ok (Nat.le_of_ble_eq_true rfl) ?_
  repeat' (first | (refine And.intro (by omega) ?_) | simp -implicitDefEqProofs (disch := omega) only [L32, g0, g2, dT_lt, dF_lt, dT_le, dF_le, dT_eq, dF_eq, push_cast, ↓reduceIte, Nat.reduceEqDiff, reduceCtorEq, Nat.reduceAdd, Nat.reduceSub, Nat.reduceMul, Nat.reduceLeDiff, Nat.reduceLT, Nat.reduceMod, Nat.reduceDiv, Int.reduceToNat, Int.reduceLT, Int.reduceLE, Int.reduceEq, Int.reduceAdd, Int.reduceSub, Int.reduceNeg, Int.reduceMul, Bool.and_self] | split)
  refine callF_mono (writeC n (n + 1) out _ G h.2.2.2.2 (by have := h.1; omega) (by rw [List.length_take, List.length_drop]; omega)) ?_
  rintro x G' ⟨rfl, hb, hk⟩
  have h' := h.kp hb hk
  have g2' := h'.2.2.2.1
  repeat' (first | (refine And.intro (by omega) ?_) | simp -implicitDefEqProofs (disch := omega) only [g2', splice, dT_lt, dF_lt, dT_le, dF_le, dT_eq, dF_eq, push_cast, ↓reduceIte, Nat.reduceEqDiff, reduceCtorEq, Nat.reduceAdd, Nat.reduceSub, Nat.reduceMul, Nat.reduceLeDiff, Nat.reduceLT, Nat.reduceMod, Nat.reduceDiv, Int.reduceToNat, Int.reduceLT, Int.reduceLE, Int.reduceEq, Int.reduceAdd, Int.reduceSub, Int.reduceNeg, Int.reduceMul, Bool.and_self] | split)
  refine ⟨by simp [resVs], rfl, ?_, fun i cs hi1 hi2 hc => ?_⟩
  · rw [List.drop_take]
    exact h'.set k
  · rw [List.getElem?_set_ne (fun e => hi2 e.symm)]
    exact hk.2.2 i cs hi1 hc
#print axioms upToC

/-- The text from a cursor on, after replacements. -/
def appG (s : List UInt8) : Nat → List Re → List UInt8
  | at', [] => s.drop at'
  | at', x :: l => (s.take x.a.toNat).drop at' ++ (x.x ++ appG s x.e.toNat l)
theorem appG_step {s : List UInt8} {a : Nat} {l : List Re} {j : Nat} (h : j < l.length) : appG s a (l.drop j) = (s.take (l.getD j default).a.toNat).drop a ++ ((l.getD j default).x ++ appG s (l.getD j default).e.toNat (l.drop (j + 1))) := by
  rw [drop_cons h]; rfl
/-- Apply's answer. -/
def appF (s : List UInt8) (l : List Re) : List UInt8 := if fitsF s.length l = 0 then appG s 0 l else []
theorem fitsG_in {n : Int} : ∀ {l : List Re} {last : Int}, fitsG n last l = 0 → ∀ x ∈ l, 0 ≤ x.a ∧ x.a ≤ x.e ∧ x.e ≤ n
  | [], _, _, x, hx => by simp at hx
  | y :: l, last, h, x, hx => by
    simp only [fitsG] at h
    split at h
    · omega
    · split at h
      · omega
      · rcases List.mem_cons.1 hx with rfl | hx
        · omega
        · exact fitsG_in h x hx
theorem fitsG_last {n last : Int} {l : List Re} {j : Nat} (hj : j < l.length) (h : fitsG n last (l.drop j) = 0) : last ≤ (l.getD j default).a ∧ fitsG n (l.getD j default).e (l.drop (j + 1)) = 0 := by
  rw [fitsG_step hj] at h
  split at h
  · omega
  · split at h
    · omega
    · exact ⟨by omega, h⟩

theorem heap_ext {H G : AHeap} (hl : H.length ≤ G.length) (h : ∀ i, i < H.length → G[i]? = H[i]?) : ∃ rest, G = H ++ rest := by
  refine ⟨G.drop H.length, ?_⟩
  apply List.ext_getElem?
  intro i
  by_cases hi : i < H.length
  · rw [List.getElem?_append_left hi]; exact h i hi
  · rw [List.getElem?_append_right (by omega), List.getElem?_drop]
    congr 1
    omega
theorem appT (s : List UInt8) (l : List Re) (hs : s.length ≤ 100000) (hl : Fewr l) (H : AHeap) : Comp' 11 [str s, .sl 3 (l.map reR)] H (.tup [str (appF s l), int (fitsF s.length l)]) := by
  refine ACall.drop (R := fun x => x = .tup [str (appF s l), int (fitsF s.length l)]) ?_
  refine enter Try.func11 L11_ok (Nat.le_of_ble_eq_true rfl) ?_
  have hf := fun H => fitsT s l hs hl H
  obtain ⟨hl1, hl2⟩ := hl
  by_cases c0 : fitsF s.length l = 0
  · have hF : appF s l = appG s 0 l := by unfold appF; rw [if_pos c0]
    rw [hF]
    rw [c0] at hf ⊢
    have z0 : fitsG s.length 0 l = 0 := by
      unfold fitsF at c0
      split at c0
      · omega
      · omega
    have hin := fitsG_in z0
    repeat' (first | (refine And.intro (by omega) ?_) | (refine callF_pure (hf _) ?_) | (refine callQF_pure (hf _) (by first | rfl | simp -implicitDefEqProofs (disch := omega) only [L11, splice, dT_lt, dF_lt, dT_le, dF_le, dT_eq, dF_eq, push_cast, ↓reduceIte, Nat.reduceEqDiff, reduceCtorEq, Nat.reduceAdd, Nat.reduceSub, Nat.reduceMul, Nat.reduceLeDiff, Nat.reduceLT, Nat.reduceMod, Nat.reduceDiv, Int.reduceToNat, Int.reduceLT, Int.reduceLE, Int.reduceEq, Int.reduceAdd, Int.reduceSub, Int.reduceNeg, Int.reduceMul, Bool.and_self]) ?_) | simp -implicitDefEqProofs (disch := omega) only [L11, splice, dT_lt, dF_lt, dT_le, dF_le, dT_eq, dF_eq, push_cast, ↓reduceIte, Nat.reduceEqDiff, reduceCtorEq, Nat.reduceAdd, Nat.reduceSub, Nat.reduceMul, Nat.reduceLeDiff, Nat.reduceLT, Nat.reduceMod, Nat.reduceDiv, Int.reduceToNat, Int.reduceLT, Int.reduceLE, Int.reduceEq, Int.reduceAdd, Int.reduceSub, Int.reduceNeg, Int.reduceMul, Bool.and_self] | split)
    refine rk_loopS (fun (st : Nat × Nat × List UInt8) e' G => e' 2 = .ptr H.length 0 0 ∧ e' 7 = .ptr (H.length + 1) 0 0 ∧ e' 8 = .ptr (H.length + 2) 0 0 ∧ e' 9 = .fn (.func 32) [] [.ptr (H.length + 1) 0 0, .ptr H.length 0 0, .ptr (H.length + 2) 0 0] ∧ e' 19 = .sl 3 (l.map reR) ∧ e' 20 = int l.length ∧ e' 21 = int st.1 ∧ ASt H.length s st.2.2 st.2.1 H G ∧ st.1 ≤ l.length ∧ st.2.1 ≤ s.length ∧ fitsG s.length st.2.1 (l.drop st.1) = 0 ∧ st.2.2 ++ appG s st.2.1 (l.drop st.1) = appG s 0 l ∧ st.2.2.length ≤ 200000 * st.1) (fun st => l.length - st.1) (0, 0, []) ?_ ?_
    · refine ⟨rfl, rfl, rfl, rfl, rfl, rfl, rfl, ⟨by simp, fun i hi => ?_, ?_, ?_, by omega, .inl ⟨?_, rfl⟩⟩, Nat.zero_le _, Nat.zero_le _, z0, rfl, by simp⟩
      · exact List.getElem?_append_left hi
      · rw [List.getElem?_append_right (Nat.le_refl _)]; simp
      · rw [get_add]; rfl
      · rw [get_add]; rfl
    rintro ⟨j, at', out⟩ e' G ⟨h2, h7, h8, h9, h19, h20, h21, hA, hj, ha, hg, happ, ho⟩
    simp only at h21 hA hj ha hg happ ho
    have hm : ∀ x : HO, (G ++ [x])[G.length]? = some x := fun x => by simp
    by_cases hlt : j < l.length
    · have hx := hl2 _ (getD_mem' hlt)
      obtain ⟨a1, a2, a3⟩ := hin _ (getD_mem' hlt)
      obtain ⟨a4, hg'⟩ := fitsG_last hlt hg
      rw [appG_step hlt] at happ
      repeat' (first | (refine And.intro (by omega) ?_) | simp -implicitDefEqProofs (disch := omega) only [h2, h7, h8, h9, h19, h20, h21, rows_getD, re_len, re_take, re_drop1, re_drop2, re_drop3, re_c1s, re_cl, re_cells, re_agg, splice, List.append_nil, hm, dT_lt, dF_lt, dT_le, dF_le, dT_eq, dF_eq, push_cast, ↓reduceIte, Nat.reduceEqDiff, reduceCtorEq, Nat.reduceAdd, Nat.reduceSub, Nat.reduceMul, Nat.reduceLeDiff, Nat.reduceLT, Nat.reduceMod, Nat.reduceDiv, Int.reduceToNat, Int.reduceLT, Int.reduceLE, Int.reduceEq, Int.reduceAdd, Int.reduceSub, Int.reduceNeg, Int.reduceMul, Bool.and_self] | split)
      obtain ⟨t, ht⟩ : ∃ t : Nat, (l.getD j default).e = t := ⟨(l.getD j default).e.toNat, by omega⟩
      refine callF_mono (upToC H.length s out at' _ H _ (hA.app _) (by omega) a4 (by omega) hs (by omega)) ?_
      rintro x G1 ⟨rfl, hA1, hk1⟩
      rw [Int.toNat_natCast] at hA1
      have hGl := hA.1
      have m1 := hk1 G.length _ (by omega) (by omega) (hm (.box (reR (l.getD j default))))
      repeat' (first | (refine And.intro (by omega) ?_) | simp -implicitDefEqProofs (disch := omega) only [h2, h7, h8, h9, h19, h20, h21, m1, re_len, re_take, re_drop1, re_drop2, re_drop3, re_c1s, re_cl, re_cells, re_agg, splice, List.append_nil, hm, dT_lt, dF_lt, dT_le, dF_le, dT_eq, dF_eq, push_cast, ↓reduceIte, Nat.reduceEqDiff, reduceCtorEq, Nat.reduceAdd, Nat.reduceSub, Nat.reduceMul, Nat.reduceLeDiff, Nat.reduceLT, Nat.reduceMod, Nat.reduceDiv, Int.reduceToNat, Int.reduceLT, Int.reduceLE, Int.reduceEq, Int.reduceAdd, Int.reduceSub, Int.reduceNeg, Int.reduceMul, Bool.and_self] | split)
      have hlen : (out ++ (s.take (l.getD j default).a.toNat).drop at').length ≤ 200000 * j + 100000 := by
        rw [List.length_append, List.length_drop, List.length_take]; omega
      refine callF_mono (writeC H.length (H.length + 1) _ (l.getD j default).x G1 hA1.2.2.2.2 (by have := hA1.1; omega) (by omega)) ?_
      rintro x G2 ⟨rfl, hb2, hk2⟩
      have m2 := hk2.2.2 G.length _ (by omega) m1
      have hA2 := hA1.kp hb2 hk2
      have g2 := hA2.2.2.2.1
      repeat' (first | (refine And.intro (by omega) ?_) | simp -implicitDefEqProofs (disch := omega) only [h2, h7, h8, h9, h19, h20, h21, m2, g2, re_len, re_take, re_drop1, re_drop2, re_drop3, re_c1s, re_cl, re_cells, re_agg, splice, List.append_nil, hm, dT_lt, dF_lt, dT_le, dF_le, dT_eq, dF_eq, push_cast, ↓reduceIte, Nat.reduceEqDiff, reduceCtorEq, Nat.reduceAdd, Nat.reduceSub, Nat.reduceMul, Nat.reduceLeDiff, Nat.reduceLT, Nat.reduceMod, Nat.reduceDiv, Int.reduceToNat, Int.reduceLT, Int.reduceLE, Int.reduceEq, Int.reduceAdd, Int.reduceSub, Int.reduceNeg, Int.reduceMul, Bool.and_self] | split)
      have hA3 := hA2.set t
      rw [ht] at hg' happ ⊢
      refine .mk (j + 1, t, _) ⟨h2, h7, h8, h9, h19, h20, rfl, hA3, hlt, by simp only; omega, hg', ?_, ?_⟩ (by simp only; omega)
      · rw [← happ]; simp
      · simp only
        rw [List.length_append]
        omega
    · have g0 := hA.2.2.1
      have e : j = l.length := by omega
      subst e
      rw [List.drop_length] at happ
      repeat' (first | (refine And.intro (by omega) ?_) | simp -implicitDefEqProofs (disch := omega) only [h2, h7, h8, h9, h19, h20, h21, g0, dT_lt, dF_lt, dT_le, dF_le, dT_eq, dF_eq, push_cast, ↓reduceIte, Nat.reduceEqDiff, reduceCtorEq, Nat.reduceAdd, Nat.reduceSub, Nat.reduceMul, Nat.reduceLeDiff, Nat.reduceLT, Nat.reduceMod, Nat.reduceDiv, Int.reduceToNat, Int.reduceLT, Int.reduceLE, Int.reduceEq, Int.reduceAdd, Int.reduceSub, Int.reduceNeg, Int.reduceMul, Bool.and_self] | split)
      refine callF_mono (upToC H.length s out at' s.length H G hA (by omega) (by omega) (by omega) hs (by omega)) ?_
      rintro x G1 ⟨rfl, hA1, hk1⟩
      have he : (out ++ (s.take (s.length : Int).toNat).drop (at' : Int).toNat) = appG s 0 l := by
        rw [← happ]; simp [appG]
      rw [he] at hA1
      repeat' (first | (refine And.intro (by omega) ?_) | simp -implicitDefEqProofs (disch := omega) only [h7, dT_lt, dF_lt, dT_le, dF_le, dT_eq, dF_eq, push_cast, ↓reduceIte, Nat.reduceEqDiff, reduceCtorEq, Nat.reduceAdd, Nat.reduceSub, Nat.reduceMul, Nat.reduceLeDiff, Nat.reduceLT, Nat.reduceMod, Nat.reduceDiv, Int.reduceToNat, Int.reduceLT, Int.reduceLE, Int.reduceEq, Int.reduceAdd, Int.reduceSub, Int.reduceNeg, Int.reduceMul, Bool.and_self] | split)
      have hal : (appG s 0 l).length ≤ 10000000 := by
        rw [← happ, List.length_append]
        simp only [appG, List.length_drop]
        omega
      refine callF_mono (stringC H.length (H.length + 1) _ G1 hA1.2.2.2.2 (by omega)) ?_
      rintro x G2 ⟨rfl, hk2⟩
      have hA2 : H.length + 2 < G2.length ∧ ∀ i, i < H.length → G2[i]? = H[i]? := ⟨by have := hk2.1; have := hA1.1; omega, fun i hi => (hk2.2.1 i hi).trans (hA1.2.1 i hi)⟩
      repeat' (first | (refine And.intro (by omega) ?_) | simp -implicitDefEqProofs (disch := omega) only [dT_lt, dF_lt, dT_le, dF_le, dT_eq, dF_eq, push_cast, ↓reduceIte, Nat.reduceEqDiff, reduceCtorEq, Nat.reduceAdd, Nat.reduceSub, Nat.reduceMul, Nat.reduceLeDiff, Nat.reduceLT, Nat.reduceMod, Nat.reduceDiv, Int.reduceToNat, Int.reduceLT, Int.reduceLE, Int.reduceEq, Int.reduceAdd, Int.reduceSub, Int.reduceNeg, Int.reduceMul, Bool.and_self] | split)
      exact heap_ext (by omega) hA2.2
  · have hF : appF s l = [] := by unfold appF; rw [if_neg c0]
    rw [hF]
    repeat' (first | (refine And.intro (by omega) ?_) | (refine callF_pure (hf _) ?_) | (refine callQF_pure (hf _) (by first | rfl | simp -implicitDefEqProofs (disch := omega) only [L11, dT_lt, dF_lt, dT_le, dF_le, dT_eq, dF_eq, push_cast, ↓reduceIte, Nat.reduceEqDiff, reduceCtorEq, Nat.reduceAdd, Nat.reduceSub, Nat.reduceMul, Nat.reduceLeDiff, Nat.reduceLT, Nat.reduceMod, Nat.reduceDiv, Int.reduceToNat, Int.reduceLT, Int.reduceLE, Int.reduceEq, Int.reduceAdd, Int.reduceSub, Int.reduceNeg, Int.reduceMul, Bool.and_self]) ?_) | simp -implicitDefEqProofs (disch := omega) only [L11, dT_lt, dF_lt, dT_le, dF_le, dT_eq, dF_eq, push_cast, ↓reduceIte, Nat.reduceEqDiff, reduceCtorEq, Nat.reduceAdd, Nat.reduceSub, Nat.reduceMul, Nat.reduceLeDiff, Nat.reduceLT, Nat.reduceMod, Nat.reduceDiv, Int.reduceToNat, Int.reduceLT, Int.reduceLE, Int.reduceEq, Int.reduceAdd, Int.reduceSub, Int.reduceNeg, Int.reduceMul, Bool.and_self] | split)
    exact ⟨_, rfl⟩
#print axioms appT
end Go.Proofs.Ytiibbkbcebccnaa

/- Texts: Difference. -/
namespace Go.Proofs.Ytiibbkbcebccnaa
open Go Go.Ax Go.RowKit
set_option maxRecDepth 100000
set_option linter.unusedSimpArgs false
set_option linter.unusedVariables false

/-- How many bytes two texts begin with alike. -/
def preF : List UInt8 → List UInt8 → Nat
  | a :: l, b :: m => if a = b then preF l m + 1 else 0
  | _, _ => 0
theorem preF_le : ∀ a b, preF a b ≤ a.length ∧ preF a b ≤ b.length
  | [], _ => by simp [preF]
  | _ :: _, [] => by simp [preF]
  | a :: l, b :: m => by
    have := preF_le l m
    simp only [preF, List.length_cons]
    split <;> omega
theorem preF_take : ∀ a b : List UInt8, a.take (preF a b) = b.take (preF a b)
  | [], _ => by simp [preF]
  | _ :: _, [] => by simp [preF]
  | a :: l, b :: m => by
    simp only [preF]
    split
    · rename_i h
      simp [h, preF_take l m]
    · simp
theorem getD_at {l : List UInt8} {j : Nat} (h : j < l.length) : l.getD j 0 = l[j] := by simp [List.getD_eq_getElem?_getD, h]
theorem preF_step {a b : List UInt8} {j : Nat} (ha : j < a.length) (hb : j < b.length) : preF (a.drop j) (b.drop j) = if a.getD j 0 = b.getD j 0 then preF (a.drop (j + 1)) (b.drop (j + 1)) + 1 else 0 := by
  rw [List.drop_eq_getElem_cons ha, List.drop_eq_getElem_cons hb, getD_at ha, getD_at hb]
  rfl
theorem preF_end {a b : List UInt8} {j : Nat} (h : ¬ (j < a.length ∧ j < b.length)) : preF (a.drop j) (b.drop j) = 0 := by
  by_cases ha : j < a.length
  · rw [List.drop_of_length_le (l := b) (by omega)]
    cases a.drop j <;> rfl
  · rw [List.drop_of_length_le (l := a) (by omega)]
    rfl
/-- How many bytes of the rests end alike. -/
def sufF (a b : List UInt8) : Nat := preF (a.drop (preF a b)).reverse (b.drop (preF a b)).reverse
def difF (a b : List UInt8) : Re := ⟨preF a b, (a.length : Int) - sufF a b, (b.take (b.length - sufF a b)).drop (preF a b)⟩
theorem sufF_le (a b : List UInt8) : preF a b + sufF a b ≤ a.length ∧ preF a b + sufF a b ≤ b.length := by
  have h := preF_le a b
  have := preF_le (a.drop (preF a b)).reverse (b.drop (preF a b)).reverse
  simp only [List.length_reverse, List.length_drop] at this
  unfold sufF
  omega
theorem rev_getD {a : List UInt8} {p j : Nat} (h : j < a.length - p) : (a.drop p).reverse.getD j 0 = a.getD (a.length - 1 - j) 0 := by
  have h1 : j < (a.drop p).reverse.length := by simpa using h
  rw [getD_at h1, List.getElem_reverse, List.getElem_drop, getD_at (by omega)]
  congr 1
  simp only [List.length_drop]
  omega
theorem dif_apply (a b : List UInt8) : appG a 0 [difF a b] = b := by
  have h := sufF_le a b
  have hp := preF_take a b
  have hs : a.drop (a.length - sufF a b) = b.drop (b.length - sufF a b) := by
    have := preF_take (a.drop (preF a b)).reverse (b.drop (preF a b)).reverse
    change List.take (sufF a b) _ = List.take (sufF a b) _ at this
    rw [List.take_reverse, List.take_reverse] at this
    have := List.reverse_inj.1 this
    rw [List.drop_drop, List.drop_drop, List.length_drop, List.length_drop] at this
    rw [show preF a b + (a.length - preF a b - sufF a b) = a.length - sufF a b by omega, show preF a b + (b.length - preF a b - sufF a b) = b.length - sufF a b by omega] at this
    exact this
  simp only [appG, difF, List.drop_zero, Int.toNat_natCast]
  rw [show ((a.length : Int) - (sufF a b : Int)).toNat = a.length - sufF a b by omega, hs, hp]
  have e1 : b.take (preF a b) = (b.take (b.length - sufF a b)).take (preF a b) := by rw [List.take_take]; congr 1; omega
  rw [e1, ← List.append_assoc, List.take_append_drop, List.take_append_drop]
theorem dif_fits (a b : List UInt8) (hb : b.length ≤ 300) : fitsF a.length [difF a b] = 0 := by
  have h := sufF_le a b
  have h1 : fitsG a.length 0 [difF a b] = 0 := by
    unfold fitsG
    rw [if_neg (by simp only [difF]; omega), if_neg (by simp only [difF]; omega)]
    rfl
  unfold fitsF
  rw [h1]
  have h2 : (difF a b).x.length ≤ 300 := by simp only [difF, List.length_drop, List.length_take]; omega
  have h3 : (a.length : Int) + growF [difF a b] ≤ 300 := by
    simp only [growF, difF, List.length_drop, List.length_take]
    omega
  rw [if_neg (by simp), if_neg (by omega)]

theorem difT (a b : List UInt8) (ha : a.length ≤ 100000) (hb : b.length ≤ 100000) (H : AHeap) : Comp' 10 [str a, str b] H (.agg (reR (difF a b))) := by
  refine ACall.drop (R := fun x => x = .agg (reR (difF a b))) ?_
  refine enter Try.func10 L10_ok (Nat.le_of_ble_eq_true rfl) ?_
  have hpl := sufF_le a b
  have hfin : reR (difF a b) = [int (preF a b), int ((a.length : Int) - sufF a b), str ((b.take (b.length - sufF a b)).drop (preF a b))] := rfl
  have hsuf : sufF a b = preF (a.drop (preF a b)).reverse (b.drop (preF a b)).reverse := rfl
  have hag : (H ++ [HO.box [int 0, int 0, str []]])[H.length]? = some (.box [int 0, int 0, str []]) := by simp
  rw [hfin]
  clear hfin
  refine rk_cut (fun e G => e 0 = str a ∧ e 1 = str b ∧ e 4 = .ptr H.length 0 0 ∧ G = H ++ [.box [int 0, int 0, str []]]) ?_ ?_
  · repeat' (first | (refine And.intro (by omega) ?_) | simp -implicitDefEqProofs (disch := omega) only [dT_lt, dF_lt, dT_le, dF_le, dT_eq, dF_eq, push_cast, ↓reduceIte, Nat.reduceEqDiff, reduceCtorEq, Nat.reduceAdd, Nat.reduceSub, Nat.reduceMul, Nat.reduceLeDiff, Nat.reduceLT, Nat.reduceMod, Nat.reduceDiv, Int.reduceToNat, Int.reduceLT, Int.reduceLE, Int.reduceEq, Int.reduceAdd, Int.reduceSub, Int.reduceNeg, Int.reduceMul, Bool.and_self] | split)
  rintro e G ⟨h0, h1, h4, rfl⟩
  refine rk_cut (fun e G => e 0 = str a ∧ e 1 = str b ∧ e 4 = .ptr H.length 0 0 ∧ e 5 = int 0 ∧ G = H ++ [.box [int 0, int 0, str []]]) ?_ ?_
  · repeat' (first | (refine And.intro (by omega) ?_) | simp -implicitDefEqProofs (disch := omega) only [dT_lt, dF_lt, dT_le, dF_le, dT_eq, dF_eq, push_cast, ↓reduceIte, Nat.reduceEqDiff, reduceCtorEq, Nat.reduceAdd, Nat.reduceSub, Nat.reduceMul, Nat.reduceLeDiff, Nat.reduceLT, Nat.reduceMod, Nat.reduceDiv, Int.reduceToNat, Int.reduceLT, Int.reduceLE, Int.reduceEq, Int.reduceAdd, Int.reduceSub, Int.reduceNeg, Int.reduceMul, Bool.and_self] | split)
    first | assumption | exact intc rfl (by omega)
  rintro e G ⟨h0, h1, h4, h5, rfl⟩
  refine rk_cut (fun e G => e 0 = str a ∧ e 1 = str b ∧ e 4 = .ptr H.length 0 0 ∧ e 5 = int (preF a b) ∧ G = H ++ [.box [int 0, int 0, str []]]) ?_ ?_
  · repeat' (first | (refine And.intro (by omega) ?_) | simp -implicitDefEqProofs (disch := omega) only [dT_lt, dF_lt, dT_le, dF_le, dT_eq, dF_eq, push_cast, ↓reduceIte, Nat.reduceEqDiff, reduceCtorEq, Nat.reduceAdd, Nat.reduceSub, Nat.reduceMul, Nat.reduceLeDiff, Nat.reduceLT, Nat.reduceMod, Nat.reduceDiv, Int.reduceToNat, Int.reduceLT, Int.reduceLE, Int.reduceEq, Int.reduceAdd, Int.reduceSub, Int.reduceNeg, Int.reduceMul, Bool.and_self] | split)
    refine rk_loopS (fun (j : Nat) e' G => e' 0 = str a ∧ e' 1 = str b ∧ e' 4 = .ptr H.length 0 0 ∧ e' 5 = int j ∧ G = H ++ [.box [int 0, int 0, str []]] ∧ j ≤ a.length ∧ j ≤ b.length ∧ preF (a.drop j) (b.drop j) + j = preF a b) (fun j => a.length - j) 0 ?_ ?_
    · exact ⟨h0, h1, h4, h5, rfl, Nat.zero_le _, Nat.zero_le _, rfl⟩
    rintro j e' G ⟨h0, h1, h4, h5, rfl, hja, hjb, hp⟩
    by_cases c1 : j < a.length
    · by_cases c2 : j < b.length
      · rw [preF_step c1 c2] at hp
        by_cases c3 : a.getD j 0 = b.getD j 0
        · have c3n := u8_eq.1 c3
          rw [if_pos c3] at hp
          repeat' (first | (refine And.intro (by omega) ?_) | simp -implicitDefEqProofs (disch := omega) only [h0, h1, h4, h5, dT_lt, dF_lt, dT_le, dF_le, dT_eq, dF_eq, push_cast, ↓reduceIte, Nat.reduceEqDiff, reduceCtorEq, Nat.reduceAdd, Nat.reduceSub, Nat.reduceMul, Nat.reduceLeDiff, Nat.reduceLT, Nat.reduceMod, Nat.reduceDiv, Int.reduceToNat, Int.reduceLT, Int.reduceLE, Int.reduceEq, Int.reduceAdd, Int.reduceSub, Int.reduceNeg, Int.reduceMul, Bool.and_self] | split)
          exact .mk (j + 1) ⟨h0, h1, h4, rfl, rfl, c1, c2, by omega⟩ (by omega)
        · have c3n : ¬ (a.getD j 0).toNat = (b.getD j 0).toNat := fun h => c3 (u8_eq.2 h)
          rw [if_neg c3] at hp
          repeat' (first | (refine And.intro (by omega) ?_) | simp -implicitDefEqProofs (disch := omega) only [h0, h1, h4, h5, dT_lt, dF_lt, dT_le, dF_le, dT_eq, dF_eq, push_cast, ↓reduceIte, Nat.reduceEqDiff, reduceCtorEq, Nat.reduceAdd, Nat.reduceSub, Nat.reduceMul, Nat.reduceLeDiff, Nat.reduceLT, Nat.reduceMod, Nat.reduceDiv, Int.reduceToNat, Int.reduceLT, Int.reduceLE, Int.reduceEq, Int.reduceAdd, Int.reduceSub, Int.reduceNeg, Int.reduceMul, Bool.and_self] | split)
          first | assumption | exact intc rfl (by omega)
      · rw [preF_end (by omega)] at hp
        repeat' (first | (refine And.intro (by omega) ?_) | simp -implicitDefEqProofs (disch := omega) only [h0, h1, h4, h5, dT_lt, dF_lt, dT_le, dF_le, dT_eq, dF_eq, push_cast, ↓reduceIte, Nat.reduceEqDiff, reduceCtorEq, Nat.reduceAdd, Nat.reduceSub, Nat.reduceMul, Nat.reduceLeDiff, Nat.reduceLT, Nat.reduceMod, Nat.reduceDiv, Int.reduceToNat, Int.reduceLT, Int.reduceLE, Int.reduceEq, Int.reduceAdd, Int.reduceSub, Int.reduceNeg, Int.reduceMul, Bool.and_self] | split)
        first | assumption | exact intc rfl (by omega)
    · rw [preF_end (by omega)] at hp
      repeat' (first | (refine And.intro (by omega) ?_) | simp -implicitDefEqProofs (disch := omega) only [h0, h1, h4, h5, dT_lt, dF_lt, dT_le, dF_le, dT_eq, dF_eq, push_cast, ↓reduceIte, Nat.reduceEqDiff, reduceCtorEq, Nat.reduceAdd, Nat.reduceSub, Nat.reduceMul, Nat.reduceLeDiff, Nat.reduceLT, Nat.reduceMod, Nat.reduceDiv, Int.reduceToNat, Int.reduceLT, Int.reduceLE, Int.reduceEq, Int.reduceAdd, Int.reduceSub, Int.reduceNeg, Int.reduceMul, Bool.and_self] | split)
      first | assumption | exact intc rfl (by omega)
  clear h0 h1 h4 h5 e
  rintro e G ⟨h0, h1, h4, h5, rfl⟩
  generalize preF a b = j at *
  refine rk_cut (fun e G => e 0 = str a ∧ e 1 = str b ∧ e 4 = .ptr H.length 0 0 ∧ e 5 = int j ∧ e 6 = int 0 ∧ G = H ++ [.box [int 0, int 0, str []]]) ?_ ?_
  · repeat' (first | (refine And.intro (by omega) ?_) | simp -implicitDefEqProofs (disch := omega) only [dT_lt, dF_lt, dT_le, dF_le, dT_eq, dF_eq, push_cast, ↓reduceIte, Nat.reduceEqDiff, reduceCtorEq, Nat.reduceAdd, Nat.reduceSub, Nat.reduceMul, Nat.reduceLeDiff, Nat.reduceLT, Nat.reduceMod, Nat.reduceDiv, Int.reduceToNat, Int.reduceLT, Int.reduceLE, Int.reduceEq, Int.reduceAdd, Int.reduceSub, Int.reduceNeg, Int.reduceMul, Bool.and_self] | split)
    first | assumption | exact intc rfl (by omega)
  clear h0 h1 h4 h5 e
  rintro e G ⟨h0, h1, h4, h5, h6, rfl⟩
  refine rk_cut (fun e G => e 0 = str a ∧ e 1 = str b ∧ e 4 = .ptr H.length 0 0 ∧ e 5 = int j ∧ e 6 = int (sufF a b) ∧ G = H ++ [.box [int 0, int 0, str []]]) ?_ ?_
  · repeat' (first | (refine And.intro (by omega) ?_) | simp -implicitDefEqProofs (disch := omega) only [dT_lt, dF_lt, dT_le, dF_le, dT_eq, dF_eq, push_cast, ↓reduceIte, Nat.reduceEqDiff, reduceCtorEq, Nat.reduceAdd, Nat.reduceSub, Nat.reduceMul, Nat.reduceLeDiff, Nat.reduceLT, Nat.reduceMod, Nat.reduceDiv, Int.reduceToNat, Int.reduceLT, Int.reduceLE, Int.reduceEq, Int.reduceAdd, Int.reduceSub, Int.reduceNeg, Int.reduceMul, Bool.and_self] | split)
    refine rk_loopS (fun (k : Nat) e' G => e' 0 = str a ∧ e' 1 = str b ∧ e' 4 = .ptr H.length 0 0 ∧ e' 5 = int j ∧ e' 6 = int k ∧ G = H ++ [.box [int 0, int 0, str []]] ∧ k + j ≤ a.length ∧ k + j ≤ b.length ∧ preF ((a.drop j).reverse.drop k) ((b.drop j).reverse.drop k) + k = sufF a b) (fun k => a.length - k) 0 ?_ ?_
    · exact ⟨h0, h1, h4, h5, h6, rfl, by omega, by omega, hsuf.symm⟩
    rintro k e' G ⟨h0, h1, h4, h5, h6, rfl, hka, hkb, hp⟩
    have la : (a.drop j).reverse.length = a.length - j := by simp
    have lb : (b.drop j).reverse.length = b.length - j := by simp
    by_cases d1 : k < a.length - j
    · by_cases d2 : k < b.length - j
      · rw [preF_step (by omega) (by omega), rev_getD d1, rev_getD d2] at hp
        have ea : ((a.length : Int) - 1 - k).toNat = a.length - 1 - k := by omega
        have eb : ((b.length : Int) - 1 - k).toNat = b.length - 1 - k := by omega
        by_cases d3 : a.getD (a.length - 1 - k) 0 = b.getD (b.length - 1 - k) 0
        · have d3n := u8_eq.1 d3
          rw [if_pos d3] at hp
          repeat' (first | (with_reducible refine And.intro ?_ ?_; focus omega) | simp -implicitDefEqProofs (disch := omega) only [h0, h1, h4, h5, h6, ea, eb, dT_lt, dF_lt, dT_le, dF_le, dT_eq, dF_eq, push_cast, ↓reduceIte, Nat.reduceEqDiff, reduceCtorEq, Nat.reduceAdd, Nat.reduceSub, Nat.reduceMul, Nat.reduceLeDiff, Nat.reduceLT, Nat.reduceMod, Nat.reduceDiv, Int.reduceToNat, Int.reduceLT, Int.reduceLE, Int.reduceEq, Int.reduceAdd, Int.reduceSub, Int.reduceNeg, Int.reduceMul, Bool.and_self] | split)
          exact .mk (k + 1) ⟨h0, h1, h4, h5, rfl, rfl, by omega, by omega, by omega⟩ (by omega)
        · have d3n : ¬ (a.getD (a.length - 1 - k) 0).toNat = (b.getD (b.length - 1 - k) 0).toNat := fun h => d3 (u8_eq.2 h)
          rw [if_neg d3, Nat.zero_add] at hp
          repeat' (first | (with_reducible refine And.intro ?_ ?_; focus omega) | simp -implicitDefEqProofs (disch := omega) only [h0, h1, h4, h5, h6, ea, eb, dT_lt, dF_lt, dT_le, dF_le, dT_eq, dF_eq, push_cast, ↓reduceIte, Nat.reduceEqDiff, reduceCtorEq, Nat.reduceAdd, Nat.reduceSub, Nat.reduceMul, Nat.reduceLeDiff, Nat.reduceLT, Nat.reduceMod, Nat.reduceDiv, Int.reduceToNat, Int.reduceLT, Int.reduceLE, Int.reduceEq, Int.reduceAdd, Int.reduceSub, Int.reduceNeg, Int.reduceMul, Bool.and_self] | split)
          first | assumption | exact intc rfl (by omega)
      · rw [preF_end (by omega), Nat.zero_add] at hp
        repeat' (first | (with_reducible refine And.intro ?_ ?_; focus omega) | simp -implicitDefEqProofs (disch := omega) only [h0, h1, h4, h5, h6, dT_lt, dF_lt, dT_le, dF_le, dT_eq, dF_eq, push_cast, ↓reduceIte, Nat.reduceEqDiff, reduceCtorEq, Nat.reduceAdd, Nat.reduceSub, Nat.reduceMul, Nat.reduceLeDiff, Nat.reduceLT, Nat.reduceMod, Nat.reduceDiv, Int.reduceToNat, Int.reduceLT, Int.reduceLE, Int.reduceEq, Int.reduceAdd, Int.reduceSub, Int.reduceNeg, Int.reduceMul, Bool.and_self] | split)
        first | assumption | exact intc rfl (by omega)
    · rw [preF_end (by omega), Nat.zero_add] at hp
      repeat' (first | (with_reducible refine And.intro ?_ ?_; focus omega) | simp -implicitDefEqProofs (disch := omega) only [h0, h1, h4, h5, h6, dT_lt, dF_lt, dT_le, dF_le, dT_eq, dF_eq, push_cast, ↓reduceIte, Nat.reduceEqDiff, reduceCtorEq, Nat.reduceAdd, Nat.reduceSub, Nat.reduceMul, Nat.reduceLeDiff, Nat.reduceLT, Nat.reduceMod, Nat.reduceDiv, Int.reduceToNat, Int.reduceLT, Int.reduceLE, Int.reduceEq, Int.reduceAdd, Int.reduceSub, Int.reduceNeg, Int.reduceMul, Bool.and_self] | split)
      first | assumption | exact intc rfl (by omega)
  clear h0 h1 h4 h5 h6 e
  rintro e G ⟨h0, h1, h4, h5, h6, rfl⟩
  have hgg : ∀ x : HO, (H ++ [x])[H.length]? = some x := fun x => by simp
  have eb : ((b.length : Int) - (sufF a b : Int)).toNat = b.length - sufF a b := by omega
  repeat' (first | (refine And.intro (by omega) ?_) | simp -implicitDefEqProofs (disch := omega) only [h0, h1, h4, h5, h6, L10, hag, splice, hgg, eb, dT_lt, dF_lt, dT_le, dF_le, dT_eq, dF_eq, push_cast, ↓reduceIte, Nat.reduceEqDiff, reduceCtorEq, Nat.reduceAdd, Nat.reduceSub, Nat.reduceMul, Nat.reduceLeDiff, Nat.reduceLT, Nat.reduceMod, Nat.reduceDiv, Int.reduceToNat, Int.reduceLT, Int.reduceLE, Int.reduceEq, Int.reduceAdd, Int.reduceSub, Int.reduceNeg, Int.reduceMul, Bool.and_self] | split)
  rw [List.drop_take]
  exact ⟨rfl, _, rfl⟩
#print axioms difT
theorem difR (a b : List UInt8) (ha : a.length ≤ 100000) (hb : b.length ≤ 100000) (H : AHeap) : Comp' 12 [str a, str b] H (.agg (reR (difF a b))) := by
  refine ACall.drop (R := fun x => x = .agg (reR (difF a b))) ?_
  refine enter Try.func12 L12_ok (Nat.le_of_ble_eq_true rfl) ?_
  have hpl := sufF_le a b
  have hfin : reR (difF a b) = [int (preF a b), int ((a.length : Int) - sufF a b), str ((b.take (b.length - sufF a b)).drop (preF a b))] := rfl
  have hsuf : sufF a b = preF (a.drop (preF a b)).reverse (b.drop (preF a b)).reverse := rfl
  have hag : (H ++ [HO.box [int 0, int 0, str []]])[H.length]? = some (.box [int 0, int 0, str []]) := by simp
  rw [hfin]
  clear hfin
  refine rk_cut (fun e G => e 0 = str a ∧ e 1 = str b ∧ e 4 = .ptr H.length 0 0 ∧ G = H ++ [.box [int 0, int 0, str []]]) ?_ ?_
  · repeat' (first | (refine And.intro (by omega) ?_) | simp -implicitDefEqProofs (disch := omega) only [dT_lt, dF_lt, dT_le, dF_le, dT_eq, dF_eq, push_cast, ↓reduceIte, Nat.reduceEqDiff, reduceCtorEq, Nat.reduceAdd, Nat.reduceSub, Nat.reduceMul, Nat.reduceLeDiff, Nat.reduceLT, Nat.reduceMod, Nat.reduceDiv, Int.reduceToNat, Int.reduceLT, Int.reduceLE, Int.reduceEq, Int.reduceAdd, Int.reduceSub, Int.reduceNeg, Int.reduceMul, Bool.and_self] | split)
  rintro e G ⟨h0, h1, h4, rfl⟩
  refine rk_cut (fun e G => e 0 = str a ∧ e 1 = str b ∧ e 4 = .ptr H.length 0 0 ∧ e 5 = int 0 ∧ G = H ++ [.box [int 0, int 0, str []]]) ?_ ?_
  · repeat' (first | (refine And.intro (by omega) ?_) | simp -implicitDefEqProofs (disch := omega) only [dT_lt, dF_lt, dT_le, dF_le, dT_eq, dF_eq, push_cast, ↓reduceIte, Nat.reduceEqDiff, reduceCtorEq, Nat.reduceAdd, Nat.reduceSub, Nat.reduceMul, Nat.reduceLeDiff, Nat.reduceLT, Nat.reduceMod, Nat.reduceDiv, Int.reduceToNat, Int.reduceLT, Int.reduceLE, Int.reduceEq, Int.reduceAdd, Int.reduceSub, Int.reduceNeg, Int.reduceMul, Bool.and_self] | split)
    first | assumption | exact intc rfl (by omega)
  rintro e G ⟨h0, h1, h4, h5, rfl⟩
  refine rk_cut (fun e G => e 0 = str a ∧ e 1 = str b ∧ e 4 = .ptr H.length 0 0 ∧ e 5 = int (preF a b) ∧ G = H ++ [.box [int 0, int 0, str []]]) ?_ ?_
  · repeat' (first | (refine And.intro (by omega) ?_) | simp -implicitDefEqProofs (disch := omega) only [dT_lt, dF_lt, dT_le, dF_le, dT_eq, dF_eq, push_cast, ↓reduceIte, Nat.reduceEqDiff, reduceCtorEq, Nat.reduceAdd, Nat.reduceSub, Nat.reduceMul, Nat.reduceLeDiff, Nat.reduceLT, Nat.reduceMod, Nat.reduceDiv, Int.reduceToNat, Int.reduceLT, Int.reduceLE, Int.reduceEq, Int.reduceAdd, Int.reduceSub, Int.reduceNeg, Int.reduceMul, Bool.and_self] | split)
    refine rk_loopS (fun (j : Nat) e' G => e' 0 = str a ∧ e' 1 = str b ∧ e' 4 = .ptr H.length 0 0 ∧ e' 5 = int j ∧ G = H ++ [.box [int 0, int 0, str []]] ∧ j ≤ a.length ∧ j ≤ b.length ∧ preF (a.drop j) (b.drop j) + j = preF a b) (fun j => a.length - j) 0 ?_ ?_
    · exact ⟨h0, h1, h4, h5, rfl, Nat.zero_le _, Nat.zero_le _, rfl⟩
    rintro j e' G ⟨h0, h1, h4, h5, rfl, hja, hjb, hp⟩
    by_cases c1 : j < a.length
    · by_cases c2 : j < b.length
      · rw [preF_step c1 c2] at hp
        by_cases c3 : a.getD j 0 = b.getD j 0
        · have c3n := u8_eq.1 c3
          rw [if_pos c3] at hp
          repeat' (first | (refine And.intro (by omega) ?_) | simp -implicitDefEqProofs (disch := omega) only [h0, h1, h4, h5, dT_lt, dF_lt, dT_le, dF_le, dT_eq, dF_eq, push_cast, ↓reduceIte, Nat.reduceEqDiff, reduceCtorEq, Nat.reduceAdd, Nat.reduceSub, Nat.reduceMul, Nat.reduceLeDiff, Nat.reduceLT, Nat.reduceMod, Nat.reduceDiv, Int.reduceToNat, Int.reduceLT, Int.reduceLE, Int.reduceEq, Int.reduceAdd, Int.reduceSub, Int.reduceNeg, Int.reduceMul, Bool.and_self] | split)
          exact .mk (j + 1) ⟨h0, h1, h4, rfl, rfl, c1, c2, by omega⟩ (by omega)
        · have c3n : ¬ (a.getD j 0).toNat = (b.getD j 0).toNat := fun h => c3 (u8_eq.2 h)
          rw [if_neg c3] at hp
          repeat' (first | (refine And.intro (by omega) ?_) | simp -implicitDefEqProofs (disch := omega) only [h0, h1, h4, h5, dT_lt, dF_lt, dT_le, dF_le, dT_eq, dF_eq, push_cast, ↓reduceIte, Nat.reduceEqDiff, reduceCtorEq, Nat.reduceAdd, Nat.reduceSub, Nat.reduceMul, Nat.reduceLeDiff, Nat.reduceLT, Nat.reduceMod, Nat.reduceDiv, Int.reduceToNat, Int.reduceLT, Int.reduceLE, Int.reduceEq, Int.reduceAdd, Int.reduceSub, Int.reduceNeg, Int.reduceMul, Bool.and_self] | split)
          first | assumption | exact intc rfl (by omega)
      · rw [preF_end (by omega)] at hp
        repeat' (first | (refine And.intro (by omega) ?_) | simp -implicitDefEqProofs (disch := omega) only [h0, h1, h4, h5, dT_lt, dF_lt, dT_le, dF_le, dT_eq, dF_eq, push_cast, ↓reduceIte, Nat.reduceEqDiff, reduceCtorEq, Nat.reduceAdd, Nat.reduceSub, Nat.reduceMul, Nat.reduceLeDiff, Nat.reduceLT, Nat.reduceMod, Nat.reduceDiv, Int.reduceToNat, Int.reduceLT, Int.reduceLE, Int.reduceEq, Int.reduceAdd, Int.reduceSub, Int.reduceNeg, Int.reduceMul, Bool.and_self] | split)
        first | assumption | exact intc rfl (by omega)
    · rw [preF_end (by omega)] at hp
      repeat' (first | (refine And.intro (by omega) ?_) | simp -implicitDefEqProofs (disch := omega) only [h0, h1, h4, h5, dT_lt, dF_lt, dT_le, dF_le, dT_eq, dF_eq, push_cast, ↓reduceIte, Nat.reduceEqDiff, reduceCtorEq, Nat.reduceAdd, Nat.reduceSub, Nat.reduceMul, Nat.reduceLeDiff, Nat.reduceLT, Nat.reduceMod, Nat.reduceDiv, Int.reduceToNat, Int.reduceLT, Int.reduceLE, Int.reduceEq, Int.reduceAdd, Int.reduceSub, Int.reduceNeg, Int.reduceMul, Bool.and_self] | split)
      first | assumption | exact intc rfl (by omega)
  clear h0 h1 h4 h5 e
  rintro e G ⟨h0, h1, h4, h5, rfl⟩
  generalize preF a b = j at *
  refine rk_cut (fun e G => e 0 = str a ∧ e 1 = str b ∧ e 4 = .ptr H.length 0 0 ∧ e 5 = int j ∧ e 6 = int 0 ∧ G = H ++ [.box [int 0, int 0, str []]]) ?_ ?_
  · repeat' (first | (refine And.intro (by omega) ?_) | simp -implicitDefEqProofs (disch := omega) only [dT_lt, dF_lt, dT_le, dF_le, dT_eq, dF_eq, push_cast, ↓reduceIte, Nat.reduceEqDiff, reduceCtorEq, Nat.reduceAdd, Nat.reduceSub, Nat.reduceMul, Nat.reduceLeDiff, Nat.reduceLT, Nat.reduceMod, Nat.reduceDiv, Int.reduceToNat, Int.reduceLT, Int.reduceLE, Int.reduceEq, Int.reduceAdd, Int.reduceSub, Int.reduceNeg, Int.reduceMul, Bool.and_self] | split)
    first | assumption | exact intc rfl (by omega)
  clear h0 h1 h4 h5 e
  rintro e G ⟨h0, h1, h4, h5, h6, rfl⟩
  refine rk_cut (fun e G => e 0 = str a ∧ e 1 = str b ∧ e 4 = .ptr H.length 0 0 ∧ e 5 = int j ∧ e 6 = int (sufF a b) ∧ G = H ++ [.box [int 0, int 0, str []]]) ?_ ?_
  · repeat' (first | (refine And.intro (by omega) ?_) | simp -implicitDefEqProofs (disch := omega) only [dT_lt, dF_lt, dT_le, dF_le, dT_eq, dF_eq, push_cast, ↓reduceIte, Nat.reduceEqDiff, reduceCtorEq, Nat.reduceAdd, Nat.reduceSub, Nat.reduceMul, Nat.reduceLeDiff, Nat.reduceLT, Nat.reduceMod, Nat.reduceDiv, Int.reduceToNat, Int.reduceLT, Int.reduceLE, Int.reduceEq, Int.reduceAdd, Int.reduceSub, Int.reduceNeg, Int.reduceMul, Bool.and_self] | split)
    refine rk_loopS (fun (k : Nat) e' G => e' 0 = str a ∧ e' 1 = str b ∧ e' 4 = .ptr H.length 0 0 ∧ e' 5 = int j ∧ e' 6 = int k ∧ G = H ++ [.box [int 0, int 0, str []]] ∧ k + j ≤ a.length ∧ k + j ≤ b.length ∧ preF ((a.drop j).reverse.drop k) ((b.drop j).reverse.drop k) + k = sufF a b) (fun k => a.length - k) 0 ?_ ?_
    · exact ⟨h0, h1, h4, h5, h6, rfl, by omega, by omega, hsuf.symm⟩
    rintro k e' G ⟨h0, h1, h4, h5, h6, rfl, hka, hkb, hp⟩
    have la : (a.drop j).reverse.length = a.length - j := by simp
    have lb : (b.drop j).reverse.length = b.length - j := by simp
    by_cases d1 : k < a.length - j
    · by_cases d2 : k < b.length - j
      · rw [preF_step (by omega) (by omega), rev_getD d1, rev_getD d2] at hp
        have ea : ((a.length : Int) - 1 - k).toNat = a.length - 1 - k := by omega
        have eb : ((b.length : Int) - 1 - k).toNat = b.length - 1 - k := by omega
        by_cases d3 : a.getD (a.length - 1 - k) 0 = b.getD (b.length - 1 - k) 0
        · have d3n := u8_eq.1 d3
          rw [if_pos d3] at hp
          repeat' (first | (with_reducible refine And.intro ?_ ?_; focus omega) | simp -implicitDefEqProofs (disch := omega) only [h0, h1, h4, h5, h6, ea, eb, dT_lt, dF_lt, dT_le, dF_le, dT_eq, dF_eq, push_cast, ↓reduceIte, Nat.reduceEqDiff, reduceCtorEq, Nat.reduceAdd, Nat.reduceSub, Nat.reduceMul, Nat.reduceLeDiff, Nat.reduceLT, Nat.reduceMod, Nat.reduceDiv, Int.reduceToNat, Int.reduceLT, Int.reduceLE, Int.reduceEq, Int.reduceAdd, Int.reduceSub, Int.reduceNeg, Int.reduceMul, Bool.and_self] | split)
          exact .mk (k + 1) ⟨h0, h1, h4, h5, rfl, rfl, by omega, by omega, by omega⟩ (by omega)
        · have d3n : ¬ (a.getD (a.length - 1 - k) 0).toNat = (b.getD (b.length - 1 - k) 0).toNat := fun h => d3 (u8_eq.2 h)
          rw [if_neg d3, Nat.zero_add] at hp
          repeat' (first | (with_reducible refine And.intro ?_ ?_; focus omega) | simp -implicitDefEqProofs (disch := omega) only [h0, h1, h4, h5, h6, ea, eb, dT_lt, dF_lt, dT_le, dF_le, dT_eq, dF_eq, push_cast, ↓reduceIte, Nat.reduceEqDiff, reduceCtorEq, Nat.reduceAdd, Nat.reduceSub, Nat.reduceMul, Nat.reduceLeDiff, Nat.reduceLT, Nat.reduceMod, Nat.reduceDiv, Int.reduceToNat, Int.reduceLT, Int.reduceLE, Int.reduceEq, Int.reduceAdd, Int.reduceSub, Int.reduceNeg, Int.reduceMul, Bool.and_self] | split)
          first | assumption | exact intc rfl (by omega)
      · rw [preF_end (by omega), Nat.zero_add] at hp
        repeat' (first | (with_reducible refine And.intro ?_ ?_; focus omega) | simp -implicitDefEqProofs (disch := omega) only [h0, h1, h4, h5, h6, dT_lt, dF_lt, dT_le, dF_le, dT_eq, dF_eq, push_cast, ↓reduceIte, Nat.reduceEqDiff, reduceCtorEq, Nat.reduceAdd, Nat.reduceSub, Nat.reduceMul, Nat.reduceLeDiff, Nat.reduceLT, Nat.reduceMod, Nat.reduceDiv, Int.reduceToNat, Int.reduceLT, Int.reduceLE, Int.reduceEq, Int.reduceAdd, Int.reduceSub, Int.reduceNeg, Int.reduceMul, Bool.and_self] | split)
        first | assumption | exact intc rfl (by omega)
    · rw [preF_end (by omega), Nat.zero_add] at hp
      repeat' (first | (with_reducible refine And.intro ?_ ?_; focus omega) | simp -implicitDefEqProofs (disch := omega) only [h0, h1, h4, h5, h6, dT_lt, dF_lt, dT_le, dF_le, dT_eq, dF_eq, push_cast, ↓reduceIte, Nat.reduceEqDiff, reduceCtorEq, Nat.reduceAdd, Nat.reduceSub, Nat.reduceMul, Nat.reduceLeDiff, Nat.reduceLT, Nat.reduceMod, Nat.reduceDiv, Int.reduceToNat, Int.reduceLT, Int.reduceLE, Int.reduceEq, Int.reduceAdd, Int.reduceSub, Int.reduceNeg, Int.reduceMul, Bool.and_self] | split)
      first | assumption | exact intc rfl (by omega)
  clear h0 h1 h4 h5 h6 e
  rintro e G ⟨h0, h1, h4, h5, h6, rfl⟩
  have hgg : ∀ x : HO, (H ++ [x])[H.length]? = some x := fun x => by simp
  have eb : ((b.length : Int) - (sufF a b : Int)).toNat = b.length - sufF a b := by omega
  repeat' (first | (refine And.intro (by omega) ?_) | simp -implicitDefEqProofs (disch := omega) only [h0, h1, h4, h5, h6, L12, hag, splice, hgg, eb, dT_lt, dF_lt, dT_le, dF_le, dT_eq, dF_eq, push_cast, ↓reduceIte, Nat.reduceEqDiff, reduceCtorEq, Nat.reduceAdd, Nat.reduceSub, Nat.reduceMul, Nat.reduceLeDiff, Nat.reduceLT, Nat.reduceMod, Nat.reduceDiv, Int.reduceToNat, Int.reduceLT, Int.reduceLE, Int.reduceEq, Int.reduceAdd, Int.reduceSub, Int.reduceNeg, Int.reduceMul, Bool.and_self] | split)
  rw [List.drop_take]
  exact ⟨rfl, _, rfl⟩
#print axioms difR

theorem fewr1 (a b : List UInt8) (hb : b.length ≤ 300) : Fewr [difF a b] := by
  refine ⟨by simp, fun x hx => ?_⟩
  rw [List.mem_singleton] at hx
  subst hx
  simp only [difF, List.length_drop, List.length_take]
  omega
end Go.Proofs.Ytiibbkbcebccnaa

/- Texts: the examples; the law TextTurns. -/
namespace Go.Proofs.Ytiibbkbcebccnaa
open Go Go.Ax Go.RowKit
set_option maxRecDepth 100000
set_option linter.unusedSimpArgs false
set_option linter.unusedVariables false

theorem awakeC (H : AHeap) : Comp' 9 [] H (bool true) := by
  refine enter Try.func9 L9_ok (Nat.le_of_ble_eq_true rfl) ?_
  have c1 := fun H => posT [97, 98, 10, 99, 100] 4 (by decide) H
  rw [show posF [97, 98, 10, 99, 100] 4 = (2, 2) by decide +kernel] at c1
  have fw : Fewr [⟨1, 2, [120, 121]⟩, ⟨3, 3, [122]⟩] := ⟨by decide, by simp⟩
  have c2 := fun H => appT [97, 98, 10, 99, 100] [⟨1, 2, [120, 121]⟩, ⟨3, 3, [122]⟩] (by decide) fw H
  rw [show appF [97, 98, 10, 99, 100] [⟨1, 2, [120, 121]⟩, ⟨3, 3, [122]⟩] = [97, 120, 121, 10, 122, 99, 100] by decide +kernel, show fitsF (([97, 98, 10, 99, 100] : List UInt8).length : Nat) [⟨1, 2, [120, 121]⟩, ⟨3, 3, [122]⟩] = 0 by decide +kernel] at c2
  have c3 := fun H => linesT [97, 98, 10, 99, 100] (by decide) H
  rw [show linG [97, 98, 10, 99, 100] ([97, 98, 10, 99, 100] : List UInt8).length = [0, 3] by decide +kernel] at c3
  have c4 := fun H => intsC [0, 3] [0, 3] (by decide) H
  have c5 := fun H => movT [⟨1, 2, [120, 121]⟩, ⟨3, 3, [122]⟩] 3 fw H
  rw [show movF [⟨1, 2, [120, 121]⟩, ⟨3, 3, [122]⟩] 3 = 5 by decide +kernel] at c5
  have c6 := fun H => difT [97, 98, 99] [97, 88, 99] (by decide) (by decide) H
  rw [show difF [97, 98, 99] [97, 88, 99] = ⟨1, 2, [88]⟩ by rfl] at c6
  simp only [List.map, reR, iR] at c1 c2 c3 c4 c5 c6
  repeat' (first | (refine And.intro (by omega) ?_) | (refine callF_pure (c1 _) ?_) | (refine callF_pure (c2 _) ?_) | (refine callF_pure (c3 _) ?_) | (refine callF_pure (c4 _) ?_) | (refine callF_pure (c5 _) ?_) | (refine callF_pure (c6 _) ?_) | (refine callQF_pure (c1 _) (by first | rfl | simp -implicitDefEqProofs (disch := omega) only [L9, dT_lt, dF_lt, dT_le, dF_le, dT_eq, dF_eq, push_cast, ↓reduceIte, Nat.reduceEqDiff, reduceCtorEq, Nat.reduceAdd, Nat.reduceSub, Nat.reduceMul, Nat.reduceLeDiff, Nat.reduceLT, Nat.reduceMod, Nat.reduceDiv, Int.reduceToNat, Int.reduceLT, Int.reduceLE, Int.reduceEq, Int.reduceAdd, Int.reduceSub, Int.reduceNeg, Int.reduceMul, Bool.and_self]) ?_) | (refine callQF_pure (c2 _) (by first | rfl | simp -implicitDefEqProofs (disch := omega) only [L9, dT_lt, dF_lt, dT_le, dF_le, dT_eq, dF_eq, push_cast, ↓reduceIte, Nat.reduceEqDiff, reduceCtorEq, Nat.reduceAdd, Nat.reduceSub, Nat.reduceMul, Nat.reduceLeDiff, Nat.reduceLT, Nat.reduceMod, Nat.reduceDiv, Int.reduceToNat, Int.reduceLT, Int.reduceLE, Int.reduceEq, Int.reduceAdd, Int.reduceSub, Int.reduceNeg, Int.reduceMul, Bool.and_self]) ?_) | (refine callQF_pure (c3 _) (by first | rfl | simp -implicitDefEqProofs (disch := omega) only [L9, dT_lt, dF_lt, dT_le, dF_le, dT_eq, dF_eq, push_cast, ↓reduceIte, Nat.reduceEqDiff, reduceCtorEq, Nat.reduceAdd, Nat.reduceSub, Nat.reduceMul, Nat.reduceLeDiff, Nat.reduceLT, Nat.reduceMod, Nat.reduceDiv, Int.reduceToNat, Int.reduceLT, Int.reduceLE, Int.reduceEq, Int.reduceAdd, Int.reduceSub, Int.reduceNeg, Int.reduceMul, Bool.and_self]) ?_) | (refine callQF_pure (c4 _) (by first | rfl | simp -implicitDefEqProofs (disch := omega) only [L9, dT_lt, dF_lt, dT_le, dF_le, dT_eq, dF_eq, push_cast, ↓reduceIte, Nat.reduceEqDiff, reduceCtorEq, Nat.reduceAdd, Nat.reduceSub, Nat.reduceMul, Nat.reduceLeDiff, Nat.reduceLT, Nat.reduceMod, Nat.reduceDiv, Int.reduceToNat, Int.reduceLT, Int.reduceLE, Int.reduceEq, Int.reduceAdd, Int.reduceSub, Int.reduceNeg, Int.reduceMul, Bool.and_self]) ?_) | (refine callQF_pure (c5 _) (by first | rfl | simp -implicitDefEqProofs (disch := omega) only [L9, dT_lt, dF_lt, dT_le, dF_le, dT_eq, dF_eq, push_cast, ↓reduceIte, Nat.reduceEqDiff, reduceCtorEq, Nat.reduceAdd, Nat.reduceSub, Nat.reduceMul, Nat.reduceLeDiff, Nat.reduceLT, Nat.reduceMod, Nat.reduceDiv, Int.reduceToNat, Int.reduceLT, Int.reduceLE, Int.reduceEq, Int.reduceAdd, Int.reduceSub, Int.reduceNeg, Int.reduceMul, Bool.and_self]) ?_) | (refine callQF_pure (c6 _) (by first | rfl | simp -implicitDefEqProofs (disch := omega) only [L9, dT_lt, dF_lt, dT_le, dF_le, dT_eq, dF_eq, push_cast, ↓reduceIte, Nat.reduceEqDiff, reduceCtorEq, Nat.reduceAdd, Nat.reduceSub, Nat.reduceMul, Nat.reduceLeDiff, Nat.reduceLT, Nat.reduceMod, Nat.reduceDiv, Int.reduceToNat, Int.reduceLT, Int.reduceLE, Int.reduceEq, Int.reduceAdd, Int.reduceSub, Int.reduceNeg, Int.reduceMul, Bool.and_self]) ?_) | simp -implicitDefEqProofs (disch := omega) only [L9, dT_lt, dF_lt, dT_le, dF_le, dT_eq, dF_eq, push_cast, ↓reduceIte, Nat.reduceEqDiff, reduceCtorEq, Nat.reduceAdd, Nat.reduceSub, Nat.reduceMul, Nat.reduceLeDiff, Nat.reduceLT, Nat.reduceMod, Nat.reduceDiv, Int.reduceToNat, Int.reduceLT, Int.reduceLE, Int.reduceEq, Int.reduceAdd, Int.reduceSub, Int.reduceNeg, Int.reduceMul, Bool.and_self] | split)
  rfl
#print axioms awakeC

theorem textTurns (a b : List UInt8) (H : AHeap) : Comp' 3 [str a, str b] H (bool true) := by
  refine ACall.drop (R := fun x => x = bool true) ?_
  refine enter Try.func3 L3_ok (Nat.le_of_ble_eq_true rfl) ?_
  by_cases ha : a.length ≤ 300
  · by_cases hb : b.length ≤ 300
    · have c1 := fun H => difT a b (by omega) (by omega) H
      have c2 := fun H => difR a b (by omega) (by omega) H
      have c3 := fun H => appT a [difF a b] (by omega) (fewr1 a b hb) H
      have hA : appF a [difF a b] = b := by unfold appF; rw [if_pos (dif_fits a b hb), dif_apply]
      rw [dif_fits a b hb, hA] at c3
      generalize difF a b = d at *
      obtain ⟨x, y, z⟩ := d
      simp only [List.map, reR] at c1 c2 c3
      have hgg : ∀ x : HO, (H ++ [x])[H.length]? = some x := fun x => by simp
      repeat' (first | (refine And.intro (by omega) ?_) | (refine callF_pure (c1 _) ?_) | (refine callF_pure (c2 _) ?_) | (refine callF_pure (c3 _) ?_) | (refine callF_pure (awakeC _) ?_) | (refine callQF_pure (c1 _) (by first | rfl | simp -implicitDefEqProofs (disch := omega) only [L3, splice, hgg, dT_lt, dF_lt, dT_le, dF_le, dT_eq, dF_eq, push_cast, ↓reduceIte, Nat.reduceEqDiff, reduceCtorEq, Nat.reduceAdd, Nat.reduceSub, Nat.reduceMul, Nat.reduceLeDiff, Nat.reduceLT, Nat.reduceMod, Nat.reduceDiv, Int.reduceToNat, Int.reduceLT, Int.reduceLE, Int.reduceEq, Int.reduceAdd, Int.reduceSub, Int.reduceNeg, Int.reduceMul, Bool.and_self]) ?_) | (refine callQF_pure (c2 _) (by first | rfl | simp -implicitDefEqProofs (disch := omega) only [L3, splice, hgg, dT_lt, dF_lt, dT_le, dF_le, dT_eq, dF_eq, push_cast, ↓reduceIte, Nat.reduceEqDiff, reduceCtorEq, Nat.reduceAdd, Nat.reduceSub, Nat.reduceMul, Nat.reduceLeDiff, Nat.reduceLT, Nat.reduceMod, Nat.reduceDiv, Int.reduceToNat, Int.reduceLT, Int.reduceLE, Int.reduceEq, Int.reduceAdd, Int.reduceSub, Int.reduceNeg, Int.reduceMul, Bool.and_self]) ?_) | (refine callQF_pure (c3 _) (by first | rfl | simp -implicitDefEqProofs (disch := omega) only [L3, splice, hgg, dT_lt, dF_lt, dT_le, dF_le, dT_eq, dF_eq, push_cast, ↓reduceIte, Nat.reduceEqDiff, reduceCtorEq, Nat.reduceAdd, Nat.reduceSub, Nat.reduceMul, Nat.reduceLeDiff, Nat.reduceLT, Nat.reduceMod, Nat.reduceDiv, Int.reduceToNat, Int.reduceLT, Int.reduceLE, Int.reduceEq, Int.reduceAdd, Int.reduceSub, Int.reduceNeg, Int.reduceMul, Bool.and_self]) ?_) | (refine callQF_pure (awakeC _) (by first | rfl | simp -implicitDefEqProofs (disch := omega) only [L3, splice, hgg, dT_lt, dF_lt, dT_le, dF_le, dT_eq, dF_eq, push_cast, ↓reduceIte, Nat.reduceEqDiff, reduceCtorEq, Nat.reduceAdd, Nat.reduceSub, Nat.reduceMul, Nat.reduceLeDiff, Nat.reduceLT, Nat.reduceMod, Nat.reduceDiv, Int.reduceToNat, Int.reduceLT, Int.reduceLE, Int.reduceEq, Int.reduceAdd, Int.reduceSub, Int.reduceNeg, Int.reduceMul, Bool.and_self]) ?_) | simp -implicitDefEqProofs (disch := omega) only [L3, splice, hgg, dT_lt, dF_lt, dT_le, dF_le, dT_eq, dF_eq, push_cast, ↓reduceIte, Nat.reduceEqDiff, reduceCtorEq, Nat.reduceAdd, Nat.reduceSub, Nat.reduceMul, Nat.reduceLeDiff, Nat.reduceLT, Nat.reduceMod, Nat.reduceDiv, Int.reduceToNat, Int.reduceLT, Int.reduceLE, Int.reduceEq, Int.reduceAdd, Int.reduceSub, Int.reduceNeg, Int.reduceMul, Bool.and_self] | split)
      all_goals first | exact ⟨_, rfl⟩ | (rename_i h; exact absurd (by simp [kEq]) h)
    · repeat' (first | (refine And.intro (by omega) ?_) | (refine callF_pure (awakeC _) ?_) | (refine callQF_pure (awakeC _) (by first | rfl | simp -implicitDefEqProofs (disch := omega) only [L3, dT_lt, dF_lt, dT_le, dF_le, dT_eq, dF_eq, push_cast, ↓reduceIte, Nat.reduceEqDiff, reduceCtorEq, Nat.reduceAdd, Nat.reduceSub, Nat.reduceMul, Nat.reduceLeDiff, Nat.reduceLT, Nat.reduceMod, Nat.reduceDiv, Int.reduceToNat, Int.reduceLT, Int.reduceLE, Int.reduceEq, Int.reduceAdd, Int.reduceSub, Int.reduceNeg, Int.reduceMul, Bool.and_self]) ?_) | simp -implicitDefEqProofs (disch := omega) only [L3, dT_lt, dF_lt, dT_le, dF_le, dT_eq, dF_eq, push_cast, ↓reduceIte, Nat.reduceEqDiff, reduceCtorEq, Nat.reduceAdd, Nat.reduceSub, Nat.reduceMul, Nat.reduceLeDiff, Nat.reduceLT, Nat.reduceMod, Nat.reduceDiv, Int.reduceToNat, Int.reduceLT, Int.reduceLE, Int.reduceEq, Int.reduceAdd, Int.reduceSub, Int.reduceNeg, Int.reduceMul, Bool.and_self] | split)
      exact ⟨[], by simp⟩
  · repeat' (first | (refine And.intro (by omega) ?_) | (refine callF_pure (awakeC _) ?_) | (refine callQF_pure (awakeC _) (by first | rfl | simp -implicitDefEqProofs (disch := omega) only [L3, dT_lt, dF_lt, dT_le, dF_le, dT_eq, dF_eq, push_cast, ↓reduceIte, Nat.reduceEqDiff, reduceCtorEq, Nat.reduceAdd, Nat.reduceSub, Nat.reduceMul, Nat.reduceLeDiff, Nat.reduceLT, Nat.reduceMod, Nat.reduceDiv, Int.reduceToNat, Int.reduceLT, Int.reduceLE, Int.reduceEq, Int.reduceAdd, Int.reduceSub, Int.reduceNeg, Int.reduceMul, Bool.and_self]) ?_) | simp -implicitDefEqProofs (disch := omega) only [L3, dT_lt, dF_lt, dT_le, dF_le, dT_eq, dF_eq, push_cast, ↓reduceIte, Nat.reduceEqDiff, reduceCtorEq, Nat.reduceAdd, Nat.reduceSub, Nat.reduceMul, Nat.reduceLeDiff, Nat.reduceLT, Nat.reduceMod, Nat.reduceDiv, Int.reduceToNat, Int.reduceLT, Int.reduceLE, Int.reduceEq, Int.reduceAdd, Int.reduceSub, Int.reduceNeg, Int.reduceMul, Bool.and_self] | split)
    exact ⟨[], by simp⟩
#print axioms textTurns
end Go.Proofs.Ytiibbkbcebccnaa

/- Texts: Few; where offsets move, in plain Lean. -/
namespace Go.Proofs.Ytiibbkbcebccnaa
open Go Go.Ax Go.RowKit
set_option maxRecDepth 100000
set_option linter.unusedSimpArgs false
set_option linter.unusedVariables false

def shortF (l : List Re) : Bool := l.all fun x => decide (x.x.length ≤ 60)
def fewF (l : List Re) : Bool := shortF l && decide (l.length ≤ 10)
theorem shortF_snoc {l : List Re} {j : Nat} (h : j < l.length) : shortF (l.take (j + 1)) = (shortF (l.take j) && decide ((l.getD j default).x.length ≤ 60)) := by
  rw [take_snoc h]; simp [shortF]
theorem shortF_false {l : List Re} {j : Nat} (h : j < l.length) (hx : ¬ (l.getD j default).x.length ≤ 60) : shortF l = false := by
  simp only [shortF, List.all_eq_false, decide_eq_true_eq]
  exact ⟨_, getD_mem' h, hx⟩
theorem fewF_Fewr {l : List Re} (h : fewF l = true) : Fewr l ∧ ∀ x ∈ l, x.x.length ≤ 60 := by
  simp only [fewF, shortF, Bool.and_eq_true, decide_eq_true_eq, List.all_eq_true] at h
  exact ⟨⟨h.2, fun x hx => by have := h.1 x hx; omega⟩, h.1⟩
theorem fewC (l : List Re) (hl : l.length ≤ 9223372036854775807) (H : AHeap) : Comp' 13 [.sl 3 (l.map reR)] H (bool (fewF l)) := by
  refine enter Try.func13 L13_ok (Nat.le_of_ble_eq_true rfl) ?_
  repeat' (first | (refine And.intro (by omega) ?_) | simp -implicitDefEqProofs (disch := omega) only [L13, dT_lt, dF_lt, dT_le, dF_le, dT_eq, dF_eq, push_cast, ↓reduceIte, Nat.reduceEqDiff, reduceCtorEq, Nat.reduceAdd, Nat.reduceSub, Nat.reduceMul, Nat.reduceLeDiff, Nat.reduceLT, Nat.reduceMod, Nat.reduceDiv, Int.reduceToNat, Int.reduceLT, Int.reduceLE, Int.reduceEq, Int.reduceAdd, Int.reduceSub, Int.reduceNeg, Int.reduceMul, Bool.and_self] | split)
  refine rk_loopS (fun (j : Nat) e' H' => e' 0 = .sl 3 (l.map reR) ∧ e' 3 = int j ∧ H = H' ∧ j ≤ l.length ∧ shortF (l.take j) = true) (fun j => l.length - j) 0 ?_ ?_
  · exact ⟨rfl, rfl, rfl, Nat.zero_le _, rfl⟩
  rintro j e' H' ⟨h0, h3, rfl, hj, hs⟩
  by_cases hlt : j < l.length
  · by_cases hx : (l.getD j default).x.length ≤ 60
    · repeat' (first | (refine And.intro (by omega) ?_) | simp -implicitDefEqProofs (disch := omega) only [h0, h3, rows_getD, re_len, re_take, re_drop1, re_drop2, re_drop3, re_c1s, re_cl, re_cells, re_agg, dT_lt, dF_lt, dT_le, dF_le, dT_eq, dF_eq, push_cast, ↓reduceIte, Nat.reduceEqDiff, reduceCtorEq, Nat.reduceAdd, Nat.reduceSub, Nat.reduceMul, Nat.reduceLeDiff, Nat.reduceLT, Nat.reduceMod, Nat.reduceDiv, Int.reduceToNat, Int.reduceLT, Int.reduceLE, Int.reduceEq, Int.reduceAdd, Int.reduceSub, Int.reduceNeg, Int.reduceMul, Bool.and_self] | split)
      exact .mk (j + 1) ⟨h0, rfl, rfl, hlt, by rw [shortF_snoc hlt, hs, decide_eq_true hx]; rfl⟩ (by omega)
    · have hF : fewF l = false := by unfold fewF; rw [shortF_false hlt hx]; rfl
      rw [hF]
      repeat' (first | (refine And.intro (by omega) ?_) | simp -implicitDefEqProofs (disch := omega) only [h0, h3, rows_getD, re_len, re_take, re_drop1, re_drop2, re_drop3, re_c1s, re_cl, re_cells, re_agg, dT_lt, dF_lt, dT_le, dF_le, dT_eq, dF_eq, push_cast, ↓reduceIte, Nat.reduceEqDiff, reduceCtorEq, Nat.reduceAdd, Nat.reduceSub, Nat.reduceMul, Nat.reduceLeDiff, Nat.reduceLT, Nat.reduceMod, Nat.reduceDiv, Int.reduceToNat, Int.reduceLT, Int.reduceLE, Int.reduceEq, Int.reduceAdd, Int.reduceSub, Int.reduceNeg, Int.reduceMul, Bool.and_self] | split)
      omega
  · rw [List.take_of_length_le (by omega)] at hs
    by_cases h10 : l.length ≤ 10
    · have hF : fewF l = true := by unfold fewF; rw [hs]; simp [h10]
      rw [hF]
      repeat' (first | (refine And.intro (by omega) ?_) | simp -implicitDefEqProofs (disch := omega) only [h0, h3, dT_lt, dF_lt, dT_le, dF_le, dT_eq, dF_eq, push_cast, ↓reduceIte, Nat.reduceEqDiff, reduceCtorEq, Nat.reduceAdd, Nat.reduceSub, Nat.reduceMul, Nat.reduceLeDiff, Nat.reduceLT, Nat.reduceMod, Nat.reduceDiv, Int.reduceToNat, Int.reduceLT, Int.reduceLE, Int.reduceEq, Int.reduceAdd, Int.reduceSub, Int.reduceNeg, Int.reduceMul, Bool.and_self] | split)
    · have hF : fewF l = false := by unfold fewF; rw [hs]; simp [h10]
      rw [hF]
      repeat' (first | (refine And.intro (by omega) ?_) | simp -implicitDefEqProofs (disch := omega) only [h0, h3, dT_lt, dF_lt, dT_le, dF_le, dT_eq, dF_eq, push_cast, ↓reduceIte, Nat.reduceEqDiff, reduceCtorEq, Nat.reduceAdd, Nat.reduceSub, Nat.reduceMul, Nat.reduceLeDiff, Nat.reduceLT, Nat.reduceMod, Nat.reduceDiv, Int.reduceToNat, Int.reduceLT, Int.reduceLE, Int.reduceEq, Int.reduceAdd, Int.reduceSub, Int.reduceNeg, Int.reduceMul, Bool.and_self] | split)
#print axioms fewC

/-- An offset lies in a span. -/
def insF (i : Int) (l : List Re) : Bool := l.any fun x => decide (x.a ≤ i) && decide (i < x.e)
theorem insF_cons {i : Int} {x : Re} {l : List Re} : insF i (x :: l) = ((decide (x.a ≤ i) && decide (i < x.e)) || insF i l) := rfl
theorem insF_snoc {i : Int} {l : List Re} {j : Nat} (h : j < l.length) : insF i (l.take (j + 1)) = (insF i (l.take j) || (decide ((l.getD j default).a ≤ i) && decide (i < (l.getD j default).e))) := by
  rw [take_snoc h]; simp [insF]
/-- In order, from c on, within n. -/
def Ord (n : Int) : Int → List Re → Prop
  | _, [] => True
  | c, x :: l => c ≤ x.a ∧ x.a ≤ x.e ∧ x.e ≤ n ∧ Ord n x.e l
theorem ord_of_fits {n : Int} : ∀ {l : List Re} {c : Int}, fitsG n c l = 0 → Ord n c l
  | [], _, _ => trivial
  | x :: l, c, h => by
    simp only [fitsG] at h
    split at h
    · omega
    · split at h
      · omega
      · exact ⟨by omega, by omega, by omega, ord_of_fits h⟩
theorem ord_mono {n : Int} {l : List Re} {c d : Int} (h : Ord n c l) (hd : d ≤ c) : Ord n d l := by
  cases l with
  | nil => trivial
  | cons x l => exact ⟨by have := h.1; omega, h.2⟩
theorem ord_ok {n : Int} (hn : n ≤ 16384) : ∀ {l : List Re} {c : Int}, Ord n c l → movOk c l = true
  | [], _, _ => rfl
  | x :: l, c, h => by
    obtain ⟨h1, h2, h3, h4⟩ := h
    simp only [movOk, Bool.and_eq_true, decide_eq_true_eq]
    exact ⟨h1, h2, by omega, ord_ok hn h4⟩
theorem movG_before {n i : Int} : ∀ {l : List Re} {c sh : Int}, Ord n c l → i < c → movG i sh l = i + sh
  | [], _, _, _, _ => rfl
  | x :: l, c, sh, h, hi => by
    obtain ⟨h1, h2, h3, h4⟩ := h
    simp only [movG]
    rw [if_neg (by omega), if_neg (by omega)]
    exact movG_before h4 (by omega)
theorem movG_in {s : List UInt8} {i : Nat} (hi : i < s.length) : ∀ {l : List Re} {c : Nat} {sh : Int}, Ord s.length c l → c ≤ i → insF i l = false → ∃ k : Nat, movG i sh l = sh + c + k ∧ k < (appG s c l).length ∧ (appG s c l).getD k 0 = s.getD i 0
  | [], c, sh, _, hc, _ => ⟨i - c, by simp only [movG]; omega, by simp only [appG, List.length_drop]; omega, by
      simp only [appG, List.getD_eq_getElem?_getD, List.getElem?_drop]
      rw [show c + (i - c) = i by omega]⟩
  | x :: l, c, sh, h, hc, hin => by
    obtain ⟨h1, h2, h3, h4⟩ := h
    rw [insF_cons, Bool.or_eq_false_iff] at hin
    obtain ⟨hx, hin⟩ := hin
    obtain ⟨a, ha⟩ : ∃ a : Nat, x.a = a := ⟨x.a.toNat, by omega⟩
    obtain ⟨e, he⟩ : ∃ e : Nat, x.e = e := ⟨x.e.toNat, by omega⟩
    simp only [movG, appG, ha, he, Int.toNat_natCast] at *
    have hl1 : ((s.take a).drop c).length = a - c := by rw [List.length_drop, List.length_take]; omega
    by_cases hlt : i < a
    · rw [if_neg (by omega), if_neg (by omega), movG_before h4 (by omega)]
      refine ⟨i - c, by omega, by rw [List.length_append]; omega, ?_⟩
      rw [List.getD_eq_getElem?_getD, List.getElem?_append_left (by omega), List.getElem?_drop, List.getElem?_take, show c + (i - c) = i by omega, if_pos hlt, List.getD_eq_getElem?_getD]
    · have hie : e ≤ i := by
        simp only [Bool.and_eq_false_iff, decide_eq_false_iff_not] at hx
        omega
      rw [if_neg (by omega), if_pos (by omega)]
      obtain ⟨k, k1, k2, k3⟩ := movG_in (sh := sh + ((x.x.length : Int) - ((e : Int) - a))) hi h4 hie hin
      refine ⟨(a - c) + (x.x.length + k), by rw [k1]; omega, by simp only [List.length_append]; omega, ?_⟩
      rw [List.getD_eq_getElem?_getD, List.getElem?_append_right (by omega), hl1, Nat.add_sub_cancel_left, List.getElem?_append_right (by omega), Nat.add_sub_cancel_left, ← List.getD_eq_getElem?_getD]
      exact k3
theorem movG_end {s : List UInt8} : ∀ {l : List Re} {c : Nat} {sh : Int}, Ord s.length c l → c ≤ s.length → movG s.length sh l = sh + c + (appG s c l).length
  | [], c, sh, _, hc => by simp only [movG, appG, List.length_drop]; omega
  | x :: l, c, sh, h, hc => by
    obtain ⟨h1, h2, h3, h4⟩ := h
    obtain ⟨a, ha⟩ : ∃ a : Nat, x.a = a := ⟨x.a.toNat, by omega⟩
    obtain ⟨e, he⟩ : ∃ e : Nat, x.e = e := ⟨x.e.toNat, by omega⟩
    simp only [movG, appG, ha, he, Int.toNat_natCast] at *
    rw [if_neg (by omega), if_pos (by omega), movG_end h4 (by omega)]
    simp only [List.length_append, List.length_drop, List.length_take]
    omega
theorem movG_lt {s : List UInt8} {i k : Nat} (hk : k < s.length) (hik : i < k) : ∀ {l : List Re} {c : Nat} {sh : Int}, Ord s.length c l → insF i l = false → insF k l = false → movG i sh l < movG k sh l
  | [], c, sh, _, _, _ => by simp only [movG]; omega
  | x :: l, c, sh, h, h1, h2 => by
    obtain ⟨g1, g2, g3, g4⟩ := h
    rw [insF_cons, Bool.or_eq_false_iff] at h1 h2
    obtain ⟨hx, h1⟩ := h1
    obtain ⟨hy, h2⟩ := h2
    simp only [Bool.and_eq_false_iff, decide_eq_false_iff_not] at hx hy
    obtain ⟨a, ha⟩ : ∃ a : Nat, x.a = a := ⟨x.a.toNat, by omega⟩
    obtain ⟨e, he⟩ : ∃ e : Nat, x.e = e := ⟨x.e.toNat, by omega⟩
    simp only [movG, ha, he] at *
    by_cases c1 : i < a
    · rw [if_neg (by omega), if_neg (by omega), movG_before g4 (by omega)]
      by_cases c2 : k < a
      · rw [if_neg (by omega), if_neg (by omega), movG_before g4 (by omega)]
        omega
      · rw [if_neg (by omega), if_pos (by omega)]
        obtain ⟨m, m1, _, _⟩ := movG_in (sh := sh + ((x.x.length : Int) - ((e : Int) - a))) hk g4 (by omega) h2
        rw [m1]
        omega
    · rw [if_neg (by omega), if_pos (by omega), if_neg (by omega), if_pos (by omega)]
      exact movG_lt hk hik g4 h1 h2
end Go.Proofs.Ytiibbkbcebccnaa

/- Texts: the law TextMoves. -/
namespace Go.Proofs.Ytiibbkbcebccnaa
open Go Go.Ax Go.RowKit
set_option maxRecDepth 100000
set_option linter.unusedSimpArgs false
set_option linter.unusedVariables false

theorem textMoves (s : List UInt8) (l : List Re) (hll : l.length ≤ 9223372036854775807) (H : AHeap) : Comp' 4 [str s, .sl 3 (l.map reR)] H (bool true) := by
  refine ACall.drop (R := fun x => x = bool true) ?_
  refine enter Try.func4 L4_ok (Nat.le_of_ble_eq_true rfl) ?_
  have c0 := fun H => fewC l hll H
  by_cases ha : s.length ≤ 300
  · by_cases hb : fewF l = true
    · rw [hb] at c0
      obtain ⟨hfw, hsh⟩ := fewF_Fewr hb
      have c1 := fun H => appT s l (by omega) hfw H
      by_cases hf : fitsF s.length l = 0
      · have z0 : fitsG s.length 0 l = 0 := by
          unfold fitsF at hf
          split at hf <;> omega
        have hO := ord_of_fits z0
        have hok := ord_ok (by omega) hO
        have hA : appF s l = appG s 0 l := by unfold appF; rw [if_pos hf]
        have hm : ∀ t : Int, 0 ≤ t → t ≤ 300 → movF l t = movG t 0 l := fun t h0 h1 => by unfold movF; rw [if_neg (by omega), if_pos hok]
        have hend := movG_end (sh := 0) hO (Nat.zero_le _)
        rw [hf, hA] at c1
        have c2 := fun t H => movT l t hfw H
        have hin : ∀ i : Nat, i < s.length → insF i l = false → ∃ k : Nat, movF l i = k ∧ k < (appG s 0 l).length ∧ (appG s 0 l).getD k 0 = s.getD i 0 := fun i hi h => by
          obtain ⟨k, k1, k2, k3⟩ := movG_in (sh := 0) hi hO (Nat.zero_le _) h
          exact ⟨k, by rw [hm i (by omega) (by omega), k1]; simp, k2, k3⟩
        have hinc : ∀ i k : Nat, i < k → k < s.length → insF i l = false → insF k l = false → movF l i < movF l k := fun i k h h1 h2 h3 => by
          rw [hm i (by omega) (by omega), hm k (by omega) (by omega)]
          exact movG_lt h1 h hO h2 h3
        have hE : movF l s.length = ((appG s 0 l).length : Nat) := by rw [hm _ (by omega) (by omega), hend]; simp
        obtain ⟨hl1, hl2⟩ := hfw
        generalize appG s 0 l = t at *
        repeat' (first | (refine And.intro (by omega) ?_) | (refine callF_pure (c0 _) ?_) | (refine callF_pure (c1 _) ?_) | (refine callQF_pure (c0 _) (by first | rfl | simp -implicitDefEqProofs (disch := omega) only [L4, dT_lt, dF_lt, dT_le, dF_le, dT_eq, dF_eq, push_cast, ↓reduceIte, Nat.reduceEqDiff, reduceCtorEq, Nat.reduceAdd, Nat.reduceSub, Nat.reduceMul, Nat.reduceLeDiff, Nat.reduceLT, Nat.reduceMod, Nat.reduceDiv, Int.reduceToNat, Int.reduceLT, Int.reduceLE, Int.reduceEq, Int.reduceAdd, Int.reduceSub, Int.reduceNeg, Int.reduceMul, Bool.and_self]) ?_) | (refine callQF_pure (c1 _) (by first | rfl | simp -implicitDefEqProofs (disch := omega) only [L4, dT_lt, dF_lt, dT_le, dF_le, dT_eq, dF_eq, push_cast, ↓reduceIte, Nat.reduceEqDiff, reduceCtorEq, Nat.reduceAdd, Nat.reduceSub, Nat.reduceMul, Nat.reduceLeDiff, Nat.reduceLT, Nat.reduceMod, Nat.reduceDiv, Int.reduceToNat, Int.reduceLT, Int.reduceLE, Int.reduceEq, Int.reduceAdd, Int.reduceSub, Int.reduceNeg, Int.reduceMul, Bool.and_self]) ?_) | simp -implicitDefEqProofs (disch := omega) only [L4, dT_lt, dF_lt, dT_le, dF_le, dT_eq, dF_eq, push_cast, ↓reduceIte, Nat.reduceEqDiff, reduceCtorEq, Nat.reduceAdd, Nat.reduceSub, Nat.reduceMul, Nat.reduceLeDiff, Nat.reduceLT, Nat.reduceMod, Nat.reduceDiv, Int.reduceToNat, Int.reduceLT, Int.reduceLE, Int.reduceEq, Int.reduceAdd, Int.reduceSub, Int.reduceNeg, Int.reduceMul, Bool.and_self] | split)
        refine rk_loopS (fun (st : Nat × Int × AHeap) e' H' => e' 0 = str s ∧ e' 1 = .sl 3 (l.map reR) ∧ e' 5 = str t ∧ e' 7 = int st.2.1 ∧ e' 32 = int s.length ∧ e' 33 = int st.1 ∧ H' = H ++ st.2.2 ∧ st.1 ≤ s.length ∧ -1 ≤ st.2.1 ∧ st.2.1 < t.length ∧ ∀ i : Nat, st.1 ≤ i → i < s.length → insF i l = false → st.2.1 < movF l i) (fun st => s.length - st.1) (0, -1, []) ?_ ?_
        · refine ⟨rfl, rfl, rfl, rfl, rfl, rfl, by simp, Nat.zero_le _, by simp, by simp only; omega, fun i _ hi hn => ?_⟩
          obtain ⟨k, k1, _⟩ := hin i hi hn
          rw [k1]
          simp only
          omega
        rintro ⟨i, last, ext⟩ e' H' ⟨h0, h1, h5, h7, h32, h33, rfl, hi, hl0, hlt0, hnx⟩
        simp only at h7 h33 hi hl0 hlt0 hnx
        by_cases hlt : i < s.length
        · repeat' (first | (refine And.intro (by omega) ?_) | simp -implicitDefEqProofs (disch := omega) only [h0, h1, h5, h7, h32, h33, dT_lt, dF_lt, dT_le, dF_le, dT_eq, dF_eq, push_cast, ↓reduceIte, Nat.reduceEqDiff, reduceCtorEq, Nat.reduceAdd, Nat.reduceSub, Nat.reduceMul, Nat.reduceLeDiff, Nat.reduceLT, Nat.reduceMod, Nat.reduceDiv, Int.reduceToNat, Int.reduceLT, Int.reduceLE, Int.reduceEq, Int.reduceAdd, Int.reduceSub, Int.reduceNeg, Int.reduceMul, Bool.and_self] | split)
          refine rk_loopS (fun (st : Nat × AHeap) e' H' => e' 0 = str s ∧ e' 1 = .sl 3 (l.map reR) ∧ e' 5 = str t ∧ e' 7 = int last ∧ e' 32 = int s.length ∧ e' 33 = int i ∧ e' 8 = int i ∧ e' 9 = bool (insF i (l.take st.1)) ∧ e' 36 = .sl 3 (l.map reR) ∧ e' 37 = int l.length ∧ e' 38 = int st.1 ∧ H' = H ++ st.2 ∧ st.1 ≤ l.length) (fun st => l.length - st.1) (0, ext) ?_ ?_
          · exact ⟨h0, h1, h5, h7, h32, h33, rfl, rfl, rfl, rfl, rfl, rfl, Nat.zero_le _⟩
          clear h0 h1 h5 h7 h32 h33 e'
          rintro ⟨j, ext⟩ e' H' ⟨h0, h1, h5, h7, h32, h33, h8, h9, h36, h37, h38, rfl, hj⟩
          simp only at h9 h38 hj
          by_cases hjl : j < l.length
          · have hgg : ∀ x : HO, (H ++ (ext ++ [x]))[H.length + ext.length]? = some x := fun x => by rw [get_add]; simp
            have hss : ∀ x y : HO, (H ++ (ext ++ [x])).set (H.length + ext.length) y = H ++ (ext ++ [y]) := fun x y => by rw [set_add]; simp
            have hsn := insF_snoc (i := i) hjl
            by_cases d0 : insF i (l.take j) = true
            · rw [d0] at h9
              repeat' (first | (refine And.intro (by omega) ?_) | simp -implicitDefEqProofs (disch := omega) only [h0, h1, h5, h7, h32, h33, h8, h9, h36, h37, h38, rows_getD, re_len, re_take, re_drop1, re_drop2, re_drop3, re_c1s, re_cl, re_cells, re_agg, splice, List.append_nil, hgg, hss, dT_lt, dF_lt, dT_le, dF_le, dT_eq, dF_eq, push_cast, ↓reduceIte, Nat.reduceEqDiff, reduceCtorEq, Nat.reduceAdd, Nat.reduceSub, Nat.reduceMul, Nat.reduceLeDiff, Nat.reduceLT, Nat.reduceMod, Nat.reduceDiv, Int.reduceToNat, Int.reduceLT, Int.reduceLE, Int.reduceEq, Int.reduceAdd, Int.reduceSub, Int.reduceNeg, Int.reduceMul, Bool.and_self] | split)
              exact .mk (j + 1, _) ⟨h0, h1, h5, h7, h32, h33, h8, by rw [hsn, d0]; rfl, h36, h37, rfl, rfl, hjl⟩ (by simp only; omega)
            · rw [Bool.not_eq_true] at d0
              rw [d0] at h9
              by_cases d1 : (l.getD j default).a ≤ i
              · by_cases d2 : (i : Int) < (l.getD j default).e
                · repeat' (first | (refine And.intro (by omega) ?_) | simp -implicitDefEqProofs (disch := omega) only [h0, h1, h5, h7, h32, h33, h8, h9, h36, h37, h38, rows_getD, re_len, re_take, re_drop1, re_drop2, re_drop3, re_c1s, re_cl, re_cells, re_agg, splice, List.append_nil, hgg, hss, dT_lt, dF_lt, dT_le, dF_le, dT_eq, dF_eq, push_cast, ↓reduceIte, Nat.reduceEqDiff, reduceCtorEq, Nat.reduceAdd, Nat.reduceSub, Nat.reduceMul, Nat.reduceLeDiff, Nat.reduceLT, Nat.reduceMod, Nat.reduceDiv, Int.reduceToNat, Int.reduceLT, Int.reduceLE, Int.reduceEq, Int.reduceAdd, Int.reduceSub, Int.reduceNeg, Int.reduceMul, Bool.and_self] | split)
                  exact .mk (j + 1, _) ⟨h0, h1, h5, h7, h32, h33, h8, by rw [hsn, d0, decide_eq_true d1, decide_eq_true d2]; rfl, h36, h37, rfl, rfl, hjl⟩ (by simp only; omega)
                · repeat' (first | (refine And.intro (by omega) ?_) | simp -implicitDefEqProofs (disch := omega) only [h0, h1, h5, h7, h32, h33, h8, h9, h36, h37, h38, rows_getD, re_len, re_take, re_drop1, re_drop2, re_drop3, re_c1s, re_cl, re_cells, re_agg, splice, List.append_nil, hgg, hss, dT_lt, dF_lt, dT_le, dF_le, dT_eq, dF_eq, push_cast, ↓reduceIte, Nat.reduceEqDiff, reduceCtorEq, Nat.reduceAdd, Nat.reduceSub, Nat.reduceMul, Nat.reduceLeDiff, Nat.reduceLT, Nat.reduceMod, Nat.reduceDiv, Int.reduceToNat, Int.reduceLT, Int.reduceLE, Int.reduceEq, Int.reduceAdd, Int.reduceSub, Int.reduceNeg, Int.reduceMul, Bool.and_self] | split)
                  exact .mk (j + 1, _) ⟨h0, h1, h5, h7, h32, h33, h8, by rw [hsn, d0, decide_eq_true d1, decide_eq_false d2]; rfl, h36, h37, rfl, rfl, hjl⟩ (by simp only; omega)
              · repeat' (first | (refine And.intro (by omega) ?_) | simp -implicitDefEqProofs (disch := omega) only [h0, h1, h5, h7, h32, h33, h8, h9, h36, h37, h38, rows_getD, re_len, re_take, re_drop1, re_drop2, re_drop3, re_c1s, re_cl, re_cells, re_agg, splice, List.append_nil, hgg, hss, dT_lt, dF_lt, dT_le, dF_le, dT_eq, dF_eq, push_cast, ↓reduceIte, Nat.reduceEqDiff, reduceCtorEq, Nat.reduceAdd, Nat.reduceSub, Nat.reduceMul, Nat.reduceLeDiff, Nat.reduceLT, Nat.reduceMod, Nat.reduceDiv, Int.reduceToNat, Int.reduceLT, Int.reduceLE, Int.reduceEq, Int.reduceAdd, Int.reduceSub, Int.reduceNeg, Int.reduceMul, Bool.and_self] | split)
                exact .mk (j + 1, _) ⟨h0, h1, h5, h7, h32, h33, h8, by rw [hsn, d0, decide_eq_false d1]; rfl, h36, h37, rfl, rfl, hjl⟩ (by simp only; omega)
          · have e : j = l.length := by omega
            subst e
            rw [List.take_length] at h9
            by_cases d0 : insF i l = true
            · rw [d0] at h9
              repeat' (first | (refine And.intro (by omega) ?_) | simp -implicitDefEqProofs (disch := omega) only [h0, h1, h5, h7, h32, h33, h8, h9, h36, h37, h38, dT_lt, dF_lt, dT_le, dF_le, dT_eq, dF_eq, push_cast, ↓reduceIte, Nat.reduceEqDiff, reduceCtorEq, Nat.reduceAdd, Nat.reduceSub, Nat.reduceMul, Nat.reduceLeDiff, Nat.reduceLT, Nat.reduceMod, Nat.reduceDiv, Int.reduceToNat, Int.reduceLT, Int.reduceLE, Int.reduceEq, Int.reduceAdd, Int.reduceSub, Int.reduceNeg, Int.reduceMul, Bool.and_self] | split)
              exact .mk (i + 1, last, ext) ⟨h0, h1, h5, h7, h32, rfl, rfl, hlt, hl0, hlt0, fun k hk => hnx k (by simp only at hk; omega)⟩ (by simp only; omega)
            · rw [Bool.not_eq_true] at d0
              rw [d0] at h9
              obtain ⟨k, k1, k2, k3⟩ := hin i hlt d0
              have c3 := fun H => c2 i H
              rw [k1] at c3
              have k4 := hnx i (Nat.le_refl _) hlt d0
              rw [k1] at k4
              repeat' (first | (refine And.intro (by omega) ?_) | (refine callF_pure (c3 _) ?_) | (refine callQF_pure (c3 _) (by first | rfl | simp -implicitDefEqProofs (disch := omega) only [h0, h1, h5, h7, h32, h33, h8, h9, h36, h37, h38, k3, dT_lt, dF_lt, dT_le, dF_le, dT_eq, dF_eq, push_cast, ↓reduceIte, Nat.reduceEqDiff, reduceCtorEq, Nat.reduceAdd, Nat.reduceSub, Nat.reduceMul, Nat.reduceLeDiff, Nat.reduceLT, Nat.reduceMod, Nat.reduceDiv, Int.reduceToNat, Int.reduceLT, Int.reduceLE, Int.reduceEq, Int.reduceAdd, Int.reduceSub, Int.reduceNeg, Int.reduceMul, Bool.and_self]) ?_) | simp -implicitDefEqProofs (disch := omega) only [h0, h1, h5, h7, h32, h33, h8, h9, h36, h37, h38, k3, dT_lt, dF_lt, dT_le, dF_le, dT_eq, dF_eq, push_cast, ↓reduceIte, Nat.reduceEqDiff, reduceCtorEq, Nat.reduceAdd, Nat.reduceSub, Nat.reduceMul, Nat.reduceLeDiff, Nat.reduceLT, Nat.reduceMod, Nat.reduceDiv, Int.reduceToNat, Int.reduceLT, Int.reduceLE, Int.reduceEq, Int.reduceAdd, Int.reduceSub, Int.reduceNeg, Int.reduceMul, Bool.and_self] | split)
              exact .mk (i + 1, (k : Int), ext) ⟨h0, h1, h5, rfl, h32, rfl, rfl, hlt, by simp only; omega, by simp only; omega, fun m hm1 hm2 hm3 => by simp only at hm1; rw [← k1]; exact hinc i m (by omega) hm2 d0 hm3⟩ (by simp only; omega)
        · have c3 := fun H => c2 s.length H
          rw [hE] at c3
          repeat' (first | (refine And.intro (by omega) ?_) | (refine callF_pure (c3 _) ?_) | (refine callF_pure (awakeC _) ?_) | (refine callQF_pure (c3 _) (by first | rfl | simp -implicitDefEqProofs (disch := omega) only [h0, h1, h5, h7, h32, h33, dT_lt, dF_lt, dT_le, dF_le, dT_eq, dF_eq, push_cast, ↓reduceIte, Nat.reduceEqDiff, reduceCtorEq, Nat.reduceAdd, Nat.reduceSub, Nat.reduceMul, Nat.reduceLeDiff, Nat.reduceLT, Nat.reduceMod, Nat.reduceDiv, Int.reduceToNat, Int.reduceLT, Int.reduceLE, Int.reduceEq, Int.reduceAdd, Int.reduceSub, Int.reduceNeg, Int.reduceMul, Bool.and_self]) ?_) | (refine callQF_pure (awakeC _) (by first | rfl | simp -implicitDefEqProofs (disch := omega) only [h0, h1, h5, h7, h32, h33, dT_lt, dF_lt, dT_le, dF_le, dT_eq, dF_eq, push_cast, ↓reduceIte, Nat.reduceEqDiff, reduceCtorEq, Nat.reduceAdd, Nat.reduceSub, Nat.reduceMul, Nat.reduceLeDiff, Nat.reduceLT, Nat.reduceMod, Nat.reduceDiv, Int.reduceToNat, Int.reduceLT, Int.reduceLE, Int.reduceEq, Int.reduceAdd, Int.reduceSub, Int.reduceNeg, Int.reduceMul, Bool.and_self]) ?_) | simp -implicitDefEqProofs (disch := omega) only [h0, h1, h5, h7, h32, h33, dT_lt, dF_lt, dT_le, dF_le, dT_eq, dF_eq, push_cast, ↓reduceIte, Nat.reduceEqDiff, reduceCtorEq, Nat.reduceAdd, Nat.reduceSub, Nat.reduceMul, Nat.reduceLeDiff, Nat.reduceLT, Nat.reduceMod, Nat.reduceDiv, Int.reduceToNat, Int.reduceLT, Int.reduceLE, Int.reduceEq, Int.reduceAdd, Int.reduceSub, Int.reduceNeg, Int.reduceMul, Bool.and_self] | split)
          exact ⟨_, rfl⟩
      · repeat' (first | (refine And.intro (by omega) ?_) | (refine callF_pure (c0 _) ?_) | (refine callF_pure (c1 _) ?_) | (refine callF_pure (awakeC _) ?_) | (refine callQF_pure (c0 _) (by first | rfl | simp -implicitDefEqProofs (disch := omega) only [L4, dT_lt, dF_lt, dT_le, dF_le, dT_eq, dF_eq, push_cast, ↓reduceIte, Nat.reduceEqDiff, reduceCtorEq, Nat.reduceAdd, Nat.reduceSub, Nat.reduceMul, Nat.reduceLeDiff, Nat.reduceLT, Nat.reduceMod, Nat.reduceDiv, Int.reduceToNat, Int.reduceLT, Int.reduceLE, Int.reduceEq, Int.reduceAdd, Int.reduceSub, Int.reduceNeg, Int.reduceMul, Bool.and_self]) ?_) | (refine callQF_pure (c1 _) (by first | rfl | simp -implicitDefEqProofs (disch := omega) only [L4, dT_lt, dF_lt, dT_le, dF_le, dT_eq, dF_eq, push_cast, ↓reduceIte, Nat.reduceEqDiff, reduceCtorEq, Nat.reduceAdd, Nat.reduceSub, Nat.reduceMul, Nat.reduceLeDiff, Nat.reduceLT, Nat.reduceMod, Nat.reduceDiv, Int.reduceToNat, Int.reduceLT, Int.reduceLE, Int.reduceEq, Int.reduceAdd, Int.reduceSub, Int.reduceNeg, Int.reduceMul, Bool.and_self]) ?_) | (refine callQF_pure (awakeC _) (by first | rfl | simp -implicitDefEqProofs (disch := omega) only [L4, dT_lt, dF_lt, dT_le, dF_le, dT_eq, dF_eq, push_cast, ↓reduceIte, Nat.reduceEqDiff, reduceCtorEq, Nat.reduceAdd, Nat.reduceSub, Nat.reduceMul, Nat.reduceLeDiff, Nat.reduceLT, Nat.reduceMod, Nat.reduceDiv, Int.reduceToNat, Int.reduceLT, Int.reduceLE, Int.reduceEq, Int.reduceAdd, Int.reduceSub, Int.reduceNeg, Int.reduceMul, Bool.and_self]) ?_) | simp -implicitDefEqProofs (disch := omega) only [L4, dT_lt, dF_lt, dT_le, dF_le, dT_eq, dF_eq, push_cast, ↓reduceIte, Nat.reduceEqDiff, reduceCtorEq, Nat.reduceAdd, Nat.reduceSub, Nat.reduceMul, Nat.reduceLeDiff, Nat.reduceLT, Nat.reduceMod, Nat.reduceDiv, Int.reduceToNat, Int.reduceLT, Int.reduceLE, Int.reduceEq, Int.reduceAdd, Int.reduceSub, Int.reduceNeg, Int.reduceMul, Bool.and_self] | split)
        exact ⟨[], by simp⟩
    · rw [Bool.not_eq_true] at hb
      rw [hb] at c0
      repeat' (first | (refine And.intro (by omega) ?_) | (refine callF_pure (c0 _) ?_) | (refine callF_pure (awakeC _) ?_) | (refine callQF_pure (c0 _) (by first | rfl | simp -implicitDefEqProofs (disch := omega) only [L4, dT_lt, dF_lt, dT_le, dF_le, dT_eq, dF_eq, push_cast, ↓reduceIte, Nat.reduceEqDiff, reduceCtorEq, Nat.reduceAdd, Nat.reduceSub, Nat.reduceMul, Nat.reduceLeDiff, Nat.reduceLT, Nat.reduceMod, Nat.reduceDiv, Int.reduceToNat, Int.reduceLT, Int.reduceLE, Int.reduceEq, Int.reduceAdd, Int.reduceSub, Int.reduceNeg, Int.reduceMul, Bool.and_self]) ?_) | (refine callQF_pure (awakeC _) (by first | rfl | simp -implicitDefEqProofs (disch := omega) only [L4, dT_lt, dF_lt, dT_le, dF_le, dT_eq, dF_eq, push_cast, ↓reduceIte, Nat.reduceEqDiff, reduceCtorEq, Nat.reduceAdd, Nat.reduceSub, Nat.reduceMul, Nat.reduceLeDiff, Nat.reduceLT, Nat.reduceMod, Nat.reduceDiv, Int.reduceToNat, Int.reduceLT, Int.reduceLE, Int.reduceEq, Int.reduceAdd, Int.reduceSub, Int.reduceNeg, Int.reduceMul, Bool.and_self]) ?_) | simp -implicitDefEqProofs (disch := omega) only [L4, dT_lt, dF_lt, dT_le, dF_le, dT_eq, dF_eq, push_cast, ↓reduceIte, Nat.reduceEqDiff, reduceCtorEq, Nat.reduceAdd, Nat.reduceSub, Nat.reduceMul, Nat.reduceLeDiff, Nat.reduceLT, Nat.reduceMod, Nat.reduceDiv, Int.reduceToNat, Int.reduceLT, Int.reduceLE, Int.reduceEq, Int.reduceAdd, Int.reduceSub, Int.reduceNeg, Int.reduceMul, Bool.and_self] | split)
      exact ⟨[], by simp⟩
  · repeat' (first | (refine And.intro (by omega) ?_) | (refine callF_pure (awakeC _) ?_) | (refine callQF_pure (awakeC _) (by first | rfl | simp -implicitDefEqProofs (disch := omega) only [L4, dT_lt, dF_lt, dT_le, dF_le, dT_eq, dF_eq, push_cast, ↓reduceIte, Nat.reduceEqDiff, reduceCtorEq, Nat.reduceAdd, Nat.reduceSub, Nat.reduceMul, Nat.reduceLeDiff, Nat.reduceLT, Nat.reduceMod, Nat.reduceDiv, Int.reduceToNat, Int.reduceLT, Int.reduceLE, Int.reduceEq, Int.reduceAdd, Int.reduceSub, Int.reduceNeg, Int.reduceMul, Bool.and_self]) ?_) | simp -implicitDefEqProofs (disch := omega) only [L4, dT_lt, dF_lt, dT_le, dF_le, dT_eq, dF_eq, push_cast, ↓reduceIte, Nat.reduceEqDiff, reduceCtorEq, Nat.reduceAdd, Nat.reduceSub, Nat.reduceMul, Nat.reduceLeDiff, Nat.reduceLT, Nat.reduceMod, Nat.reduceDiv, Int.reduceToNat, Int.reduceLT, Int.reduceLE, Int.reduceEq, Int.reduceAdd, Int.reduceSub, Int.reduceNeg, Int.reduceMul, Bool.and_self] | split)
    exact ⟨[], by simp⟩
#print axioms textMoves
end Go.Proofs.Ytiibbkbcebccnaa

/- Texts: replacements as arguments. -/
namespace Go.Proofs.Ytiibbkbcebccnaa
open Go Go.Ax Go.RowKit
set_option maxRecDepth 100000
set_option linter.unusedSimpArgs false
set_option linter.unusedVariables false

theorem c_int : Try.prog.cellsOf 3 = 1 := by kernel_rfl
theorem c_str : Try.prog.cellsOf 9 = 1 := by kernel_rfl
theorem c_re : Try.prog.cellsOf 24 = 3 := by kernel_rfl
theorem list3 {α : Type} {l : List α} (h : l.length = 3) : ∃ a b c, l = [a, b, c] := by
  match l, h with
  | [a, b, c], _ => exact ⟨a, b, c, rfl⟩
def Re.Ok (r : Re) : Prop := i64R r.a ∧ i64R r.e ∧ r.x.length ≤ 9223372036854775807
theorem open_re {xs : List AV} (h : Val Try.prog 24 xs) : ∃ r : Re, xs = reR r ∧ r.Ok := by
  obtain ⟨hl, hf⟩ := val_st Try.underlying24 c_re h
  obtain ⟨a, b, c, rfl⟩ := list3 hl
  obtain ⟨x, hx, hx'⟩ := val_int Try.underlying3 (val_fld hf 0 3 0 1 rfl c_int)
  obtain ⟨y, hy, hy'⟩ := val_int Try.underlying3 (val_fld hf 1 3 1 1 rfl c_int)
  obtain ⟨z, hz, hz'⟩ := val_str Try.underlying9 (val_fld hf 2 9 2 1 rfl c_str)
  simp only [List.drop_succ_cons, List.drop_zero, List.take_succ_cons, List.take_zero, List.cons.injEq, and_true] at hx hy hz
  exact ⟨⟨x, y, z⟩, by simp [reR, hx, hy, hz], hx', hy', hz'⟩
end Go.Proofs.Ytiibbkbcebccnaa

/- Texts: the reference's Fits, Apply, Move; Same; Invert. -/
namespace Go.Proofs.Ytiibbkbcebccnaa
open Go Go.Ax Go.RowKit
set_option maxRecDepth 100000
set_option linter.unusedSimpArgs false
set_option linter.unusedVariables false

theorem fitR (s : List UInt8) (l : List Re) (hl : Fewr l) (H : AHeap) : Comp' 35 [str s, .sl 3 (l.map reR)] H (int (fitsG s.length 0 l)) := by
  refine enter Try.func35 L35_ok (Nat.le_of_ble_eq_true rfl) ?_
  obtain ⟨hl1, hl2⟩ := hl
  repeat' (first | (refine And.intro (by omega) ?_) | simp -implicitDefEqProofs (disch := omega) only [L35, dT_lt, dF_lt, dT_le, dF_le, dT_eq, dF_eq, push_cast, ↓reduceIte, Nat.reduceEqDiff, reduceCtorEq, Nat.reduceAdd, Nat.reduceSub, Nat.reduceMul, Nat.reduceLeDiff, Nat.reduceLT, Nat.reduceMod, Nat.reduceDiv, Int.reduceToNat, Int.reduceLT, Int.reduceLE, Int.reduceEq, Int.reduceAdd, Int.reduceSub, Int.reduceNeg, Int.reduceMul, Bool.and_self] | split)
  refine rk_loopS (fun (st : Nat × Int) e' H' => e' 0 = str s ∧ e' 1 = .sl 3 (l.map reR) ∧ e' 5 = int st.2 ∧ e' 6 = int st.1 ∧ H = H' ∧ st.1 ≤ l.length ∧ fitsG s.length st.2 (l.drop st.1) = fitsG s.length 0 l) (fun st => l.length - st.1) (0, 0) ?_ ?_
  · exact ⟨rfl, rfl, rfl, rfl, rfl, Nat.zero_le _, rfl⟩
  rintro ⟨j, last⟩ e' H' ⟨h0, h1, h5, h6, rfl, hj, hg⟩
  simp only at h5 h6 hj hg
  by_cases hlt : j < l.length
  · have hjl : (j : Int) < l.length := by omega
    rw [fitsG_step hlt] at hg
    by_cases c1 : (l.getD j default).a < 0
    · rw [if_pos (.inl c1)] at hg
      rw [← hg]
      repeat' (first | (refine And.intro (by omega) ?_) | simp -implicitDefEqProofs (disch := omega) only [h0, h1, h5, h6, rows_getD, re_len, re_take, re_drop1, re_drop2, re_drop3, re_c1s, re_cl, re_cells, re_agg, dT_lt, dF_lt, dT_le, dF_le, dT_eq, dF_eq, push_cast, ↓reduceIte, Nat.reduceEqDiff, reduceCtorEq, Nat.reduceAdd, Nat.reduceSub, Nat.reduceMul, Nat.reduceLeDiff, Nat.reduceLT, Nat.reduceMod, Nat.reduceDiv, Int.reduceToNat, Int.reduceLT, Int.reduceLE, Int.reduceEq, Int.reduceAdd, Int.reduceSub, Int.reduceNeg, Int.reduceMul, Bool.and_self] | split)
      omega
    · by_cases c2 : (l.getD j default).e < (l.getD j default).a
      · rw [if_pos (.inr (.inl c2))] at hg
        rw [← hg]
        repeat' (first | (refine And.intro (by omega) ?_) | simp -implicitDefEqProofs (disch := omega) only [h0, h1, h5, h6, rows_getD, re_len, re_take, re_drop1, re_drop2, re_drop3, re_c1s, re_cl, re_cells, re_agg, dT_lt, dF_lt, dT_le, dF_le, dT_eq, dF_eq, push_cast, ↓reduceIte, Nat.reduceEqDiff, reduceCtorEq, Nat.reduceAdd, Nat.reduceSub, Nat.reduceMul, Nat.reduceLeDiff, Nat.reduceLT, Nat.reduceMod, Nat.reduceDiv, Int.reduceToNat, Int.reduceLT, Int.reduceLE, Int.reduceEq, Int.reduceAdd, Int.reduceSub, Int.reduceNeg, Int.reduceMul, Bool.and_self] | split)
        omega
      · by_cases c3 : (s.length : Int) < (l.getD j default).e
        · rw [if_pos (.inr (.inr c3))] at hg
          rw [← hg]
          repeat' (first | (refine And.intro (by omega) ?_) | simp -implicitDefEqProofs (disch := omega) only [h0, h1, h5, h6, rows_getD, re_len, re_take, re_drop1, re_drop2, re_drop3, re_c1s, re_cl, re_cells, re_agg, dT_lt, dF_lt, dT_le, dF_le, dT_eq, dF_eq, push_cast, ↓reduceIte, Nat.reduceEqDiff, reduceCtorEq, Nat.reduceAdd, Nat.reduceSub, Nat.reduceMul, Nat.reduceLeDiff, Nat.reduceLT, Nat.reduceMod, Nat.reduceDiv, Int.reduceToNat, Int.reduceLT, Int.reduceLE, Int.reduceEq, Int.reduceAdd, Int.reduceSub, Int.reduceNeg, Int.reduceMul, Bool.and_self] | split)
          omega
        · rw [if_neg (by omega)] at hg
          by_cases c4 : (l.getD j default).a < last
          · rw [if_pos c4] at hg
            rw [← hg]
            repeat' (first | (refine And.intro (by omega) ?_) | simp -implicitDefEqProofs (disch := omega) only [h0, h1, h5, h6, rows_getD, re_len, re_take, re_drop1, re_drop2, re_drop3, re_c1s, re_cl, re_cells, re_agg, dT_lt, dF_lt, dT_le, dF_le, dT_eq, dF_eq, push_cast, ↓reduceIte, Nat.reduceEqDiff, reduceCtorEq, Nat.reduceAdd, Nat.reduceSub, Nat.reduceMul, Nat.reduceLeDiff, Nat.reduceLT, Nat.reduceMod, Nat.reduceDiv, Int.reduceToNat, Int.reduceLT, Int.reduceLE, Int.reduceEq, Int.reduceAdd, Int.reduceSub, Int.reduceNeg, Int.reduceMul, Bool.and_self] | split)
            omega
          · rw [if_neg c4] at hg
            repeat' (first | (refine And.intro (by omega) ?_) | simp -implicitDefEqProofs (disch := omega) only [h0, h1, h5, h6, rows_getD, re_len, re_take, re_drop1, re_drop2, re_drop3, re_c1s, re_cl, re_cells, re_agg, dT_lt, dF_lt, dT_le, dF_le, dT_eq, dF_eq, push_cast, ↓reduceIte, Nat.reduceEqDiff, reduceCtorEq, Nat.reduceAdd, Nat.reduceSub, Nat.reduceMul, Nat.reduceLeDiff, Nat.reduceLT, Nat.reduceMod, Nat.reduceDiv, Int.reduceToNat, Int.reduceLT, Int.reduceLE, Int.reduceEq, Int.reduceAdd, Int.reduceSub, Int.reduceNeg, Int.reduceMul, Bool.and_self] | split)
            exact .mk (j + 1, (l.getD j default).e) ⟨h0, h1, rfl, rfl, rfl, hlt, hg⟩ (by simp only; omega)
  · rw [List.drop_of_length_le (by omega)] at hg
    rw [← hg]
    repeat' (first | (refine And.intro (by omega) ?_) | simp -implicitDefEqProofs (disch := omega) only [h0, h1, h5, h6, dT_lt, dF_lt, dT_le, dF_le, dT_eq, dF_eq, push_cast, ↓reduceIte, Nat.reduceEqDiff, reduceCtorEq, Nat.reduceAdd, Nat.reduceSub, Nat.reduceMul, Nat.reduceLeDiff, Nat.reduceLT, Nat.reduceMod, Nat.reduceDiv, Int.reduceToNat, Int.reduceLT, Int.reduceLE, Int.reduceEq, Int.reduceAdd, Int.reduceSub, Int.reduceNeg, Int.reduceMul, Bool.and_self] | split)
    all_goals first | rfl | omega
#print axioms fitR
theorem appG_len {s : List UInt8} : ∀ {l : List Re} {c : Nat}, Ord s.length c l → c ≤ s.length → ((appG s c l).length : Int) = s.length - c + growF l
  | [], c, _, hc => by simp only [appG, growF, List.length_drop]; omega
  | x :: l, c, h, hc => by
    obtain ⟨h1, h2, h3, h4⟩ := h
    obtain ⟨a, ha⟩ : ∃ a : Nat, x.a = a := ⟨x.a.toNat, by omega⟩
    obtain ⟨e, he⟩ : ∃ e : Nat, x.e = e := ⟨x.e.toNat, by omega⟩
    simp only [appG, growF, ha, he, Int.toNat_natCast] at *
    have := appG_len h4 (by omega)
    simp only [List.length_append, List.length_drop, List.length_take]
    omega
theorem ord_at {n : Int} : ∀ {l : List Re} {c : Int} {j : Nat}, Ord n c l → j < l.length → c ≤ (l.getD j default).a ∧ (l.getD j default).a ≤ (l.getD j default).e ∧ (l.getD j default).e ≤ n ∧ Ord n (l.getD j default).e (l.drop (j + 1))
  | [], _, _, _, h => by simp at h
  | x :: l, c, 0, h, _ => h
  | x :: l, c, j + 1, h, hj => by
    obtain ⟨h1, h2, h3, h4⟩ := h
    obtain ⟨g1, g2, g3, g4⟩ := ord_at (j := j) h4 (by simpa using hj)
    exact ⟨by rw [List.getD_cons_succ]; omega, g2, g3, g4⟩

theorem appR (s : List UInt8) (l : List Re) (hs : s.length ≤ 300) (hl : Fewr l) (H : AHeap) : Comp' 15 [str s, .sl 3 (l.map reR)] H (.tup [str (appF s l), int (fitsF s.length l)]) := by
  refine enter Try.func15 L15_ok (Nat.le_of_ble_eq_true rfl) ?_
  have hf := fun H => fitR s l hl H
  obtain ⟨hl1, hl2⟩ := hl
  by_cases c0 : fitsG s.length 0 l = 0
  · have hO := ord_of_fits c0
    have hlen := appG_len (c := 0) hO (Nat.zero_le _)
    rw [c0] at hf
    have hF : fitsF s.length l = if 16384 < (s.length : Int) + growF l then 8 else 0 := by unfold fitsF; rw [c0]; simp
    have hgr : ∀ c : Nat, ∀ l' : List Re, Ord s.length c l' → c ≤ s.length → l'.length ≤ 10 → (∀ x ∈ l', x.x.length ≤ 1000) → (appG s c l').length + c ≤ s.length + 1000 * l'.length := fun c l' => by
      intro h1 h2 h3 h4
      induction l' generalizing c with
      | nil => simp only [appG, List.length_drop]; omega
      | cons x l' ih =>
        obtain ⟨g1, g2, g3, g4⟩ := h1
        obtain ⟨e, he⟩ : ∃ e : Nat, x.e = e := ⟨x.e.toNat, by omega⟩
        obtain ⟨a, ha⟩ : ∃ a : Nat, x.a = a := ⟨x.a.toNat, by omega⟩
        have h5 := h4 x (by simp)
        rw [he] at g4
        have := ih e g4 (by omega) (by simp at h3; omega) (fun y hy => h4 y (by simp [hy]))
        simp only [appG, List.length_append, List.length_drop, List.length_take, List.length_cons, he, ha, Int.toNat_natCast] at *
        omega
    repeat' (first | (refine And.intro (by omega) ?_) | (refine callF_pure (hf _) ?_) | (refine callQF_pure (hf _) (by first | rfl | simp -implicitDefEqProofs (disch := omega) only [L15, dT_lt, dF_lt, dT_le, dF_le, dT_eq, dF_eq, push_cast, ↓reduceIte, Nat.reduceEqDiff, reduceCtorEq, Nat.reduceAdd, Nat.reduceSub, Nat.reduceMul, Nat.reduceLeDiff, Nat.reduceLT, Nat.reduceMod, Nat.reduceDiv, Int.reduceToNat, Int.reduceLT, Int.reduceLE, Int.reduceEq, Int.reduceAdd, Int.reduceSub, Int.reduceNeg, Int.reduceMul, Bool.and_self]) ?_) | simp -implicitDefEqProofs (disch := omega) only [L15, dT_lt, dF_lt, dT_le, dF_le, dT_eq, dF_eq, push_cast, ↓reduceIte, Nat.reduceEqDiff, reduceCtorEq, Nat.reduceAdd, Nat.reduceSub, Nat.reduceMul, Nat.reduceLeDiff, Nat.reduceLT, Nat.reduceMod, Nat.reduceDiv, Int.reduceToNat, Int.reduceLT, Int.reduceLE, Int.reduceEq, Int.reduceAdd, Int.reduceSub, Int.reduceNeg, Int.reduceMul, Bool.and_self] | split)
    refine rk_loopS (fun (st : Nat × List UInt8) e' H' => e' 0 = str s ∧ e' 1 = .sl 3 (l.map reR) ∧ e' 7 = str st.2 ∧ e' 8 = int ((st.1 : Int) - 1) ∧ H = H' ∧ st.1 ≤ l.length ∧ ∀ c : Nat, c ≤ s.length → Ord s.length c (l.drop st.1) → st.2 = s.take c ++ appG s c (l.drop st.1)) (fun st => st.1) (l.length, s) ?_ ?_
    · refine ⟨rfl, rfl, rfl, rfl, rfl, Nat.le_refl _, fun c _ _ => ?_⟩
      rw [List.drop_length]
      simp [appG]
    rintro ⟨j, out⟩ e' H' ⟨h0, h1, h7, h8, rfl, hj, hw⟩
    simp only at h7 h8 hj hw
    cases j with
    | zero =>
      have hout := hw 0 (Nat.zero_le _) hO
      rw [List.take_zero, List.nil_append, List.drop_zero] at hout
      have h8 : e' 8 = int (-1) := h8
      by_cases c1 : 16384 < (s.length : Int) + growF l
      · have hF8 : fitsF s.length l = 8 := by rw [hF, if_pos c1]
        have hA : appF s l = [] := by unfold appF; rw [hF8]; rfl
        rw [hF8, hA]
        have hol : (16384 : Int) < out.length := by rw [hout]; omega
        repeat' (first | (refine And.intro (by omega) ?_) | simp -implicitDefEqProofs (disch := omega) only [h0, h1, h7, h8, dT_lt, dF_lt, dT_le, dF_le, dT_eq, dF_eq, push_cast, ↓reduceIte, Nat.reduceEqDiff, reduceCtorEq, Nat.reduceAdd, Nat.reduceSub, Nat.reduceMul, Nat.reduceLeDiff, Nat.reduceLT, Nat.reduceMod, Nat.reduceDiv, Int.reduceToNat, Int.reduceLT, Int.reduceLE, Int.reduceEq, Int.reduceAdd, Int.reduceSub, Int.reduceNeg, Int.reduceMul, Bool.and_self] | split)
      · have hF0 : fitsF s.length l = 0 := by rw [hF, if_neg c1]
        have hA : appF s l = out := by unfold appF; rw [hF0, hout]; rfl
        rw [hF0, hA]
        have hol : (out.length : Int) ≤ 16384 := by rw [hout]; omega
        repeat' (first | (refine And.intro (by omega) ?_) | simp -implicitDefEqProofs (disch := omega) only [h0, h1, h7, h8, dT_lt, dF_lt, dT_le, dF_le, dT_eq, dF_eq, push_cast, ↓reduceIte, Nat.reduceEqDiff, reduceCtorEq, Nat.reduceAdd, Nat.reduceSub, Nat.reduceMul, Nat.reduceLeDiff, Nat.reduceLT, Nat.reduceMod, Nat.reduceDiv, Int.reduceToNat, Int.reduceLT, Int.reduceLE, Int.reduceEq, Int.reduceAdd, Int.reduceSub, Int.reduceNeg, Int.reduceMul, Bool.and_self] | split)
    | succ j =>
      have h8 : e' 8 = int j := intc h8 (by omega)
      have hlt : j < l.length := hj
      obtain ⟨a1, a2, a3, a4⟩ := ord_at hO hlt
      have hx := hl2 _ (getD_mem' hlt)
      have hst : ∀ c : Nat, appG s c (l.drop j) = (s.take (l.getD j default).a.toNat).drop c ++ ((l.getD j default).x ++ appG s (l.getD j default).e.toNat (l.drop (j + 1))) := fun c => appG_step hlt
      obtain ⟨a, ha⟩ : ∃ a : Nat, (l.getD j default).a = a := ⟨(l.getD j default).a.toNat, by omega⟩
      obtain ⟨e, he⟩ : ∃ e : Nat, (l.getD j default).e = e := ⟨(l.getD j default).e.toNat, by omega⟩
      rw [ha] at a1 a2
      rw [he] at a2 a3 a4
      simp only [ha, he, Int.toNat_natCast] at hst
      have hout := hw e (by omega) a4
      have hgl := hgr e (l.drop (j + 1)) a4 (by omega) (by rw [List.length_drop]; omega) (fun x hx => hl2 x (List.mem_of_mem_drop hx))
      have hol : out.length ≤ 20000 := by
        rw [hout, List.length_append, List.length_take]
        rw [List.length_drop] at hgl
        omega
      have hoe : e ≤ out.length := by rw [hout, List.length_append, List.length_take]; omega
      have hta : out.take a = s.take a := by
        rw [hout, List.take_append_of_le_length (by rw [List.length_take]; omega), List.take_take]
        congr 1
        omega
      have hde : out.drop e = appG s e (l.drop (j + 1)) := by
        rw [hout, List.drop_append_of_le_length (by rw [List.length_take]; omega)]
        rw [List.drop_of_length_le (by rw [List.length_take]; omega)]
        rfl
      have hjl : (j : Int) < l.length := by omega
      have hdt : (out.drop e).take (out.length - e) = appG s e (l.drop (j + 1)) := by
        rw [List.take_of_length_le (by rw [List.length_drop]; omega), hde]
      have hls : (s.take a).length ≤ 300 := by rw [List.length_take]; omega
      have hlo : (appG s e (l.drop (j + 1))).length ≤ 20000 := by rw [List.length_drop] at hgl; omega
      repeat' (first | (with_reducible refine And.intro ?_ ?_; focus omega) | simp -implicitDefEqProofs (disch := omega) only [h0, h1, h7, h8, rows_getD, re_len, re_take, re_drop1, re_drop2, re_drop3, re_c1s, re_cl, re_cells, re_agg, ha, he, Nat.sub_zero, hta, hdt, dT_lt, dF_lt, dT_le, dF_le, dT_eq, dF_eq, push_cast, ↓reduceIte, Nat.reduceEqDiff, reduceCtorEq, Nat.reduceAdd, Nat.reduceSub, Nat.reduceMul, Nat.reduceLeDiff, Nat.reduceLT, Nat.reduceMod, Nat.reduceDiv, Int.reduceToNat, Int.reduceLT, Int.reduceLE, Int.reduceEq, Int.reduceAdd, Int.reduceSub, Int.reduceNeg, Int.reduceMul, Bool.and_self] | split)
      refine .mk (j, _) ⟨h0, h1, rfl, intc rfl (by simp only), rfl, by simp only; omega, fun c hc hOc => ?_⟩ (by simp only; omega)
      simp only at hOc ⊢
      rw [hst c]
      have hca : c ≤ a := by
        rw [drop_cons hlt] at hOc
        have := hOc.1
        omega
      rw [← List.append_assoc, ← List.append_assoc, ← List.append_assoc]
      congr 2
      have e1 : s.take c = (s.take a).take c := by rw [List.take_take]; congr 1; omega
      rw [e1, List.take_append_drop]
  · have hF : fitsF s.length l = fitsG s.length 0 l := by unfold fitsF; rw [if_pos c0]
    have hA : appF s l = [] := by unfold appF; rw [hF, if_neg c0]
    rw [hF, hA]
    repeat' (first | (refine And.intro (by omega) ?_) | (refine callF_pure (hf _) ?_) | (refine callQF_pure (hf _) (by first | rfl | simp -implicitDefEqProofs (disch := omega) only [L15, dT_lt, dF_lt, dT_le, dF_le, dT_eq, dF_eq, push_cast, ↓reduceIte, Nat.reduceEqDiff, reduceCtorEq, Nat.reduceAdd, Nat.reduceSub, Nat.reduceMul, Nat.reduceLeDiff, Nat.reduceLT, Nat.reduceMod, Nat.reduceDiv, Int.reduceToNat, Int.reduceLT, Int.reduceLE, Int.reduceEq, Int.reduceAdd, Int.reduceSub, Int.reduceNeg, Int.reduceMul, Bool.and_self]) ?_) | simp -implicitDefEqProofs (disch := omega) only [L15, dT_lt, dF_lt, dT_le, dF_le, dT_eq, dF_eq, push_cast, ↓reduceIte, Nat.reduceEqDiff, reduceCtorEq, Nat.reduceAdd, Nat.reduceSub, Nat.reduceMul, Nat.reduceLeDiff, Nat.reduceLT, Nat.reduceMod, Nat.reduceDiv, Int.reduceToNat, Int.reduceLT, Int.reduceLE, Int.reduceEq, Int.reduceAdd, Int.reduceSub, Int.reduceNeg, Int.reduceMul, Bool.and_self] | split)
#print axioms appR
end Go.Proofs.Ytiibbkbcebccnaa

/- Texts: the reference's Move; Same; Invert. -/
namespace Go.Proofs.Ytiibbkbcebccnaa
open Go Go.Ax Go.RowKit
set_option maxRecDepth 100000
set_option linter.unusedSimpArgs false
set_option linter.unusedVariables false

theorem movR (l : List Re) (t : Int) (hl : Fewr l) (H : AHeap) : Comp' 19 [.sl 3 (l.map reR), int t] H (int (movF l t)) := by
  refine enter Try.func19 L19_ok (Nat.le_of_ble_eq_true rfl) ?_
  obtain ⟨hl1, hl2⟩ := hl
  by_cases c1 : t < 0
  · have hX : movF l t = -1 := by unfold movF; rw [if_pos (.inl c1)]
    rw [hX]
    repeat' (first | (refine And.intro (by omega) ?_) | simp -implicitDefEqProofs (disch := omega) only [L19, dT_lt, dF_lt, dT_le, dF_le, dT_eq, dF_eq, push_cast, ↓reduceIte, Nat.reduceEqDiff, reduceCtorEq, Nat.reduceAdd, Nat.reduceSub, Nat.reduceMul, Nat.reduceLeDiff, Nat.reduceLT, Nat.reduceMod, Nat.reduceDiv, Int.reduceToNat, Int.reduceLT, Int.reduceLE, Int.reduceEq, Int.reduceAdd, Int.reduceSub, Int.reduceNeg, Int.reduceMul, Bool.and_self] | split)
  by_cases c2 : 16384 < t
  · have hX : movF l t = -1 := by unfold movF; rw [if_pos (.inr c2)]
    rw [hX]
    repeat' (first | (refine And.intro (by omega) ?_) | simp -implicitDefEqProofs (disch := omega) only [L19, dT_lt, dF_lt, dT_le, dF_le, dT_eq, dF_eq, push_cast, ↓reduceIte, Nat.reduceEqDiff, reduceCtorEq, Nat.reduceAdd, Nat.reduceSub, Nat.reduceMul, Nat.reduceLeDiff, Nat.reduceLT, Nat.reduceMod, Nat.reduceDiv, Int.reduceToNat, Int.reduceLT, Int.reduceLE, Int.reduceEq, Int.reduceAdd, Int.reduceSub, Int.reduceNeg, Int.reduceMul, Bool.and_self] | split)
  have hM : movF l t = if movOk 0 l = true then movG t 0 l else -1 := by unfold movF; rw [if_neg (by omega)]
  repeat' (first | (refine And.intro (by omega) ?_) | simp -implicitDefEqProofs (disch := omega) only [L19, dT_lt, dF_lt, dT_le, dF_le, dT_eq, dF_eq, push_cast, ↓reduceIte, Nat.reduceEqDiff, reduceCtorEq, Nat.reduceAdd, Nat.reduceSub, Nat.reduceMul, Nat.reduceLeDiff, Nat.reduceLT, Nat.reduceMod, Nat.reduceDiv, Int.reduceToNat, Int.reduceLT, Int.reduceLE, Int.reduceEq, Int.reduceAdd, Int.reduceSub, Int.reduceNeg, Int.reduceMul, Bool.and_self] | split)
  refine rk_loopS (fun (st : Nat × Int) e' H' => e' 0 = .sl 3 (l.map reR) ∧ e' 1 = int t ∧ e' 5 = int st.2 ∧ e' 6 = int st.1 ∧ H = H' ∧ st.1 ≤ l.length ∧ movOk st.2 (l.drop st.1) = movOk 0 l) (fun st => l.length - st.1) (0, 0) ?_ ?_
  · exact ⟨rfl, rfl, rfl, rfl, rfl, Nat.zero_le _, rfl⟩
  rintro ⟨j, last⟩ e' H' ⟨h0, h1, h5, h6, rfl, hj, hg⟩
  simp only at h5 h6 hj hg
  by_cases hlt : j < l.length
  · have hjl : (j : Int) < l.length := by omega
    rw [movOk_step hlt] at hg
    by_cases c3 : (l.getD j default).a < last
    · have hF : movOk 0 l = false := by rw [← hg, decide_eq_false (by omega)]; rfl
      have hX : movF l t = -1 := by rw [hM, hF, if_neg (by simp)]
      rw [hX]
      repeat' (first | (refine And.intro (by omega) ?_) | simp -implicitDefEqProofs (disch := omega) only [h0, h1, h5, h6, rows_getD, re_len, re_take, re_drop1, re_drop2, re_drop3, re_c1s, re_cl, re_cells, re_agg, dT_lt, dF_lt, dT_le, dF_le, dT_eq, dF_eq, push_cast, ↓reduceIte, Nat.reduceEqDiff, reduceCtorEq, Nat.reduceAdd, Nat.reduceSub, Nat.reduceMul, Nat.reduceLeDiff, Nat.reduceLT, Nat.reduceMod, Nat.reduceDiv, Int.reduceToNat, Int.reduceLT, Int.reduceLE, Int.reduceEq, Int.reduceAdd, Int.reduceSub, Int.reduceNeg, Int.reduceMul, Bool.and_self] | split)
      all_goals first | rfl | omega
    · by_cases c4 : (l.getD j default).e < (l.getD j default).a
      · have hF : movOk 0 l = false := by rw [← hg, decide_eq_false (p := (l.getD j default).a ≤ _) (by omega)]; simp
        have hX : movF l t = -1 := by rw [hM, hF, if_neg (by simp)]
        rw [hX]
        repeat' (first | (refine And.intro (by omega) ?_) | simp -implicitDefEqProofs (disch := omega) only [h0, h1, h5, h6, rows_getD, re_len, re_take, re_drop1, re_drop2, re_drop3, re_c1s, re_cl, re_cells, re_agg, dT_lt, dF_lt, dT_le, dF_le, dT_eq, dF_eq, push_cast, ↓reduceIte, Nat.reduceEqDiff, reduceCtorEq, Nat.reduceAdd, Nat.reduceSub, Nat.reduceMul, Nat.reduceLeDiff, Nat.reduceLT, Nat.reduceMod, Nat.reduceDiv, Int.reduceToNat, Int.reduceLT, Int.reduceLE, Int.reduceEq, Int.reduceAdd, Int.reduceSub, Int.reduceNeg, Int.reduceMul, Bool.and_self] | split)
        all_goals first | rfl | omega
      · by_cases c5 : 16384 < (l.getD j default).e
        · have hF : movOk 0 l = false := by rw [← hg, decide_eq_false (p := (l.getD j default).e ≤ 16384) (by omega)]; simp
          have hX : movF l t = -1 := by rw [hM, hF, if_neg (by simp)]
          rw [hX]
          repeat' (first | (refine And.intro (by omega) ?_) | simp -implicitDefEqProofs (disch := omega) only [h0, h1, h5, h6, rows_getD, re_len, re_take, re_drop1, re_drop2, re_drop3, re_c1s, re_cl, re_cells, re_agg, dT_lt, dF_lt, dT_le, dF_le, dT_eq, dF_eq, push_cast, ↓reduceIte, Nat.reduceEqDiff, reduceCtorEq, Nat.reduceAdd, Nat.reduceSub, Nat.reduceMul, Nat.reduceLeDiff, Nat.reduceLT, Nat.reduceMod, Nat.reduceDiv, Int.reduceToNat, Int.reduceLT, Int.reduceLE, Int.reduceEq, Int.reduceAdd, Int.reduceSub, Int.reduceNeg, Int.reduceMul, Bool.and_self] | split)
          all_goals first | rfl | omega
        · rw [decide_eq_true (by omega), decide_eq_true (p := (l.getD j default).a ≤ _) (by omega), decide_eq_true (p := (l.getD j default).e ≤ 16384) (by omega), Bool.true_and, Bool.true_and, Bool.true_and] at hg
          repeat' (first | (refine And.intro (by omega) ?_) | simp -implicitDefEqProofs (disch := omega) only [h0, h1, h5, h6, rows_getD, re_len, re_take, re_drop1, re_drop2, re_drop3, re_c1s, re_cl, re_cells, re_agg, dT_lt, dF_lt, dT_le, dF_le, dT_eq, dF_eq, push_cast, ↓reduceIte, Nat.reduceEqDiff, reduceCtorEq, Nat.reduceAdd, Nat.reduceSub, Nat.reduceMul, Nat.reduceLeDiff, Nat.reduceLT, Nat.reduceMod, Nat.reduceDiv, Int.reduceToNat, Int.reduceLT, Int.reduceLE, Int.reduceEq, Int.reduceAdd, Int.reduceSub, Int.reduceNeg, Int.reduceMul, Bool.and_self] | split)
          exact .mk (j + 1, (l.getD j default).e) ⟨h0, h1, rfl, rfl, rfl, hlt, hg⟩ (by simp only; omega)
  · have e : j = l.length := by omega
    subst e
    rw [List.drop_length] at hg
    have hok : movOk 0 l = true := by rw [← hg]; rfl
    have hall := movOk_all (Int.le_refl 0) hok
    have hM : movF l t = movG t 0 l := by rw [hM, hok, if_pos rfl]
    rw [hM]
    repeat' (first | (refine And.intro (by omega) ?_) | simp -implicitDefEqProofs (disch := omega) only [h0, h1, h5, h6, dT_lt, dF_lt, dT_le, dF_le, dT_eq, dF_eq, push_cast, ↓reduceIte, Nat.reduceEqDiff, reduceCtorEq, Nat.reduceAdd, Nat.reduceSub, Nat.reduceMul, Nat.reduceLeDiff, Nat.reduceLT, Nat.reduceMod, Nat.reduceDiv, Int.reduceToNat, Int.reduceLT, Int.reduceLE, Int.reduceEq, Int.reduceAdd, Int.reduceSub, Int.reduceNeg, Int.reduceMul, Bool.and_self] | split)
    refine rk_loopS (fun (st : Nat × Int) e' H' => e' 0 = .sl 3 (l.map reR) ∧ e' 1 = int t ∧ e' 7 = int st.2 ∧ e' 8 = int st.1 ∧ H = H' ∧ st.1 ≤ l.length ∧ movG t st.2 (l.drop st.1) = movG t 0 l ∧ -20000 * (st.1 : Int) ≤ st.2 ∧ st.2 ≤ 1000 * (st.1 : Int)) (fun st => l.length - st.1) (0, 0) ?_ ?_
    · exact ⟨h0, h1, rfl, rfl, rfl, Nat.zero_le _, rfl, by simp, by simp⟩
    clear h0 h1 h5 h6 e'
    rintro ⟨j, sh⟩ e' H' ⟨h0, h1, h7, h8, rfl, hj, hg, hb1, hb2⟩
    simp only at h7 h8 hj hg hb1 hb2
    by_cases hlt : j < l.length
    · have hjl : (j : Int) < l.length := by omega
      rw [movG_step hlt] at hg
      have hx := hl2 _ (getD_mem' hlt)
      obtain ⟨a1, a2, a3⟩ := hall _ (getD_mem' hlt)
      by_cases c3 : (l.getD j default).a ≤ t
      · by_cases c4 : t < (l.getD j default).e
        · rw [if_pos ⟨c3, c4⟩] at hg
          rw [← hg]
          repeat' (first | (with_reducible refine And.intro ?_ ?_; focus omega) | simp -implicitDefEqProofs (disch := omega) only [h0, h1, h7, h8, rows_getD, re_len, re_take, re_drop1, re_drop2, re_drop3, re_c1s, re_cl, re_cells, re_agg, dT_lt, dF_lt, dT_le, dF_le, dT_eq, dF_eq, push_cast, ↓reduceIte, Nat.reduceEqDiff, reduceCtorEq, Nat.reduceAdd, Nat.reduceSub, Nat.reduceMul, Nat.reduceLeDiff, Nat.reduceLT, Nat.reduceMod, Nat.reduceDiv, Int.reduceToNat, Int.reduceLT, Int.reduceLE, Int.reduceEq, Int.reduceAdd, Int.reduceSub, Int.reduceNeg, Int.reduceMul, Bool.and_self] | split)
          all_goals first | rfl | exact intc rfl (by omega) | omega
        · rw [if_neg (by omega), if_pos (by omega)] at hg
          repeat' (first | (with_reducible refine And.intro ?_ ?_; focus omega) | simp -implicitDefEqProofs (disch := omega) only [h0, h1, h7, h8, rows_getD, re_len, re_take, re_drop1, re_drop2, re_drop3, re_c1s, re_cl, re_cells, re_agg, dT_lt, dF_lt, dT_le, dF_le, dT_eq, dF_eq, push_cast, ↓reduceIte, Nat.reduceEqDiff, reduceCtorEq, Nat.reduceAdd, Nat.reduceSub, Nat.reduceMul, Nat.reduceLeDiff, Nat.reduceLT, Nat.reduceMod, Nat.reduceDiv, Int.reduceToNat, Int.reduceLT, Int.reduceLE, Int.reduceEq, Int.reduceAdd, Int.reduceSub, Int.reduceNeg, Int.reduceMul, Bool.and_self] | split)
          exact .mk (j + 1, sh + (((l.getD j default).x.length : Int) - ((l.getD j default).e - (l.getD j default).a))) ⟨h0, h1, intc rfl (by simp only; omega), rfl, rfl, hlt, hg, by simp only; push_cast; omega, by simp only; push_cast; omega⟩ (by simp only; omega)
      · rw [if_neg (by omega), if_neg (by omega)] at hg
        repeat' (first | (with_reducible refine And.intro ?_ ?_; focus omega) | simp -implicitDefEqProofs (disch := omega) only [h0, h1, h7, h8, rows_getD, re_len, re_take, re_drop1, re_drop2, re_drop3, re_c1s, re_cl, re_cells, re_agg, dT_lt, dF_lt, dT_le, dF_le, dT_eq, dF_eq, push_cast, ↓reduceIte, Nat.reduceEqDiff, reduceCtorEq, Nat.reduceAdd, Nat.reduceSub, Nat.reduceMul, Nat.reduceLeDiff, Nat.reduceLT, Nat.reduceMod, Nat.reduceDiv, Int.reduceToNat, Int.reduceLT, Int.reduceLE, Int.reduceEq, Int.reduceAdd, Int.reduceSub, Int.reduceNeg, Int.reduceMul, Bool.and_self] | split)
        exact .mk (j + 1, sh) ⟨h0, h1, h7, rfl, rfl, hlt, hg, by simp only; push_cast; omega, by simp only; push_cast; omega⟩ (by simp only; omega)
    · have e : j = l.length := by omega
      subst e
      rw [List.drop_length] at hg
      rw [← hg]
      repeat' (first | (refine And.intro (by omega) ?_) | simp -implicitDefEqProofs (disch := omega) only [h0, h1, h7, h8, dT_lt, dF_lt, dT_le, dF_le, dT_eq, dF_eq, push_cast, ↓reduceIte, Nat.reduceEqDiff, reduceCtorEq, Nat.reduceAdd, Nat.reduceSub, Nat.reduceMul, Nat.reduceLeDiff, Nat.reduceLT, Nat.reduceMod, Nat.reduceDiv, Int.reduceToNat, Int.reduceLT, Int.reduceLE, Int.reduceEq, Int.reduceAdd, Int.reduceSub, Int.reduceNeg, Int.reduceMul, Bool.and_self] | split)
      all_goals first | rfl | exact intc rfl (by omega) | omega
#print axioms movR

theorem kEq_int (n : Int) : kEq (.int .i64 n) (.int .i64 n) = true := by simp [kEq]
theorem kEq_str (s : ByteArray) : kEq (.string s) (.string s) = true := by simp [kEq]
theorem sameC (l : List Re) (hl : l.length ≤ 9223372036854775807) (H : AHeap) : Comp' 18 [.sl 3 (l.map reR), .sl 3 (l.map reR)] H (bool true) := by
  refine enter Try.func18 L18_ok (Nat.le_of_ble_eq_true rfl) ?_
  repeat' (first | (refine And.intro (by omega) ?_) | simp -implicitDefEqProofs (disch := omega) only [L18, dT_lt, dF_lt, dT_le, dF_le, dT_eq, dF_eq, push_cast, ↓reduceIte, Nat.reduceEqDiff, reduceCtorEq, Nat.reduceAdd, Nat.reduceSub, Nat.reduceMul, Nat.reduceLeDiff, Nat.reduceLT, Nat.reduceMod, Nat.reduceDiv, Int.reduceToNat, Int.reduceLT, Int.reduceLE, Int.reduceEq, Int.reduceAdd, Int.reduceSub, Int.reduceNeg, Int.reduceMul, Bool.and_self] | split)
  refine rk_loopS (fun (j : Nat) e' H' => e' 0 = .sl 3 (l.map reR) ∧ e' 1 = .sl 3 (l.map reR) ∧ e' 5 = int j ∧ H = H' ∧ j ≤ l.length) (fun j => l.length - j) 0 ?_ ?_
  · exact ⟨rfl, rfl, rfl, rfl, Nat.zero_le _⟩
  rintro j e' H' ⟨h0, h1, h5, rfl, hj⟩
  by_cases hlt : j < l.length
  · have hjl : (j : Int) < l.length := by omega
    have hr : reR (l.getD j default) = [int (l.getD j default).a, int (l.getD j default).e, str (l.getD j default).x] := rfl
    repeat' (first | (refine And.intro (by omega) ?_) | simp -implicitDefEqProofs (disch := omega) only [h0, h1, h5, rows_getD, re_len, re_take, re_c1s, re_cl, re_cells, re_agg, hr, kEq_int, kEq_str, Bool.and_true, Bool.not_true, dT_lt, dF_lt, dT_le, dF_le, dT_eq, dF_eq, push_cast, ↓reduceIte, Nat.reduceEqDiff, reduceCtorEq, Nat.reduceAdd, Nat.reduceSub, Nat.reduceMul, Nat.reduceLeDiff, Nat.reduceLT, Nat.reduceMod, Nat.reduceDiv, Int.reduceToNat, Int.reduceLT, Int.reduceLE, Int.reduceEq, Int.reduceAdd, Int.reduceSub, Int.reduceNeg, Int.reduceMul, Bool.and_self] | split)
    exact .mk (j + 1) ⟨h0, h1, rfl, rfl, hlt⟩ (by omega)
  · repeat' (first | (refine And.intro (by omega) ?_) | simp -implicitDefEqProofs (disch := omega) only [h0, h1, h5, dT_lt, dF_lt, dT_le, dF_le, dT_eq, dF_eq, push_cast, ↓reduceIte, Nat.reduceEqDiff, reduceCtorEq, Nat.reduceAdd, Nat.reduceSub, Nat.reduceMul, Nat.reduceLeDiff, Nat.reduceLT, Nat.reduceMod, Nat.reduceDiv, Int.reduceToNat, Int.reduceLT, Int.reduceLE, Int.reduceEq, Int.reduceAdd, Int.reduceSub, Int.reduceNeg, Int.reduceMul, Bool.and_self] | split)
    all_goals first | rfl | omega
theorem sameNil (H : AHeap) : Comp' 18 [nilS, nilS] H (bool true) := by
  refine enter Try.func18 L18_ok (Nat.le_of_ble_eq_true rfl) ?_
  repeat' (first | (refine And.intro (by omega) ?_) | simp -implicitDefEqProofs (disch := omega) only [L18, dT_lt, dF_lt, dT_le, dF_le, dT_eq, dF_eq, push_cast, ↓reduceIte, Nat.reduceEqDiff, reduceCtorEq, Nat.reduceAdd, Nat.reduceSub, Nat.reduceMul, Nat.reduceLeDiff, Nat.reduceLT, Nat.reduceMod, Nat.reduceDiv, Int.reduceToNat, Int.reduceLT, Int.reduceLE, Int.reduceEq, Int.reduceAdd, Int.reduceSub, Int.reduceNeg, Int.reduceMul, Bool.and_self] | split)
  refine rk_loopS (fun (j : Nat) e' H' => e' 0 = nilS ∧ e' 1 = nilS ∧ e' 5 = int 0 ∧ H = H') (fun j => j) 0 ?_ ?_
  · exact ⟨rfl, rfl, rfl, rfl⟩
  rintro j e' H' ⟨h0, h1, h5, rfl⟩
  repeat' (first | (refine And.intro (by omega) ?_) | simp -implicitDefEqProofs (disch := omega) only [h0, h1, h5, dT_lt, dF_lt, dT_le, dF_le, dT_eq, dF_eq, push_cast, ↓reduceIte, Nat.reduceEqDiff, reduceCtorEq, Nat.reduceAdd, Nat.reduceSub, Nat.reduceMul, Nat.reduceLeDiff, Nat.reduceLT, Nat.reduceMod, Nat.reduceDiv, Int.reduceToNat, Int.reduceLT, Int.reduceLE, Int.reduceEq, Int.reduceAdd, Int.reduceSub, Int.reduceNeg, Int.reduceMul, Bool.and_self] | split)
end Go.Proofs.Ytiibbkbcebccnaa

/- Texts: Invert. -/
namespace Go.Proofs.Ytiibbkbcebccnaa
open Go Go.Ax Go.RowKit
set_option maxRecDepth 100000
set_option linter.unusedSimpArgs false
set_option linter.unusedVariables false

/-- The replacements that restore a text, behind a shift. -/
def invG (s : List UInt8) : Int → List Re → List Re
  | _, [] => []
  | sh, x :: l => ⟨x.a + sh, x.a + sh + x.x.length, (s.take x.e.toNat).drop x.a.toNat⟩ :: invG s (sh + ((x.x.length : Int) - (x.e - x.a))) l
theorem invG_step {s : List UInt8} {sh : Int} {l : List Re} {j : Nat} (h : j < l.length) : invG s sh (l.drop j) = ⟨(l.getD j default).a + sh, (l.getD j default).a + sh + (l.getD j default).x.length, (s.take (l.getD j default).e.toNat).drop (l.getD j default).a.toNat⟩ :: invG s (sh + (((l.getD j default).x.length : Int) - ((l.getD j default).e - (l.getD j default).a))) (l.drop (j + 1)) := by
  rw [drop_cons h]; rfl
theorem invG_len (s : List UInt8) : ∀ (sh : Int) (l : List Re), (invG s sh l).length = l.length
  | _, [] => rfl
  | sh, x :: l => by simp only [invG, List.length_cons, invG_len s _ l]

theorem invT (s : List UInt8) (l : List Re) (hs : s.length ≤ 100000) (hl : Fewr l) (h0 : fitsF s.length l = 0) (H : AHeap) : Comp' 16 [str s, .sl 3 (l.map reR)] H (.tup [.sl 3 ((invG s 0 l).map reR), int 0]) := by
  refine ACall.drop (R := fun x => x = .tup [.sl 3 ((invG s 0 l).map reR), int 0]) ?_
  refine enter Try.func16 L16_ok (Nat.le_of_ble_eq_true rfl) ?_
  have hf := fun H => fitsT s l hs hl H
  rw [h0] at hf
  have z0 : fitsG s.length 0 l = 0 := by unfold fitsF at h0; split at h0 <;> omega
  have hO := ord_of_fits z0
  obtain ⟨hl1, hl2⟩ := hl
  clear h0
  repeat' (first | (refine And.intro (by omega) ?_) | (refine callF_pure (hf _) ?_) | (refine callQF_pure (hf _) (by first | rfl | simp -implicitDefEqProofs (disch := omega) only [L16, dT_lt, dF_lt, dT_le, dF_le, dT_eq, dF_eq, push_cast, ↓reduceIte, Nat.reduceEqDiff, reduceCtorEq, Nat.reduceAdd, Nat.reduceSub, Nat.reduceMul, Nat.reduceLeDiff, Nat.reduceLT, Nat.reduceMod, Nat.reduceDiv, Int.reduceToNat, Int.reduceLT, Int.reduceLE, Int.reduceEq, Int.reduceAdd, Int.reduceSub, Int.reduceNeg, Int.reduceMul, Bool.and_self]) ?_) | simp -implicitDefEqProofs (disch := omega) only [L16, dT_lt, dF_lt, dT_le, dF_le, dT_eq, dF_eq, push_cast, ↓reduceIte, Nat.reduceEqDiff, reduceCtorEq, Nat.reduceAdd, Nat.reduceSub, Nat.reduceMul, Nat.reduceLeDiff, Nat.reduceLT, Nat.reduceMod, Nat.reduceDiv, Int.reduceToNat, Int.reduceLT, Int.reduceLE, Int.reduceEq, Int.reduceAdd, Int.reduceSub, Int.reduceNeg, Int.reduceMul, Bool.and_self] | split)
  refine rk_loopS (fun (st : Nat × Nat × Int × List Re × AHeap) e' G => e' 0 = str s ∧ e' 7 = .os H.length st.2.1 0 st.1 ∧ e' 8 = int st.2.2.1 ∧ e' 17 = .sl 3 (l.map reR) ∧ e' 18 = int l.length ∧ e' 19 = int st.1 ∧ G = H ++ .arr st.2.1 3 (st.2.2.2.1.map reR) :: st.2.2.2.2 ∧ st.1 ≤ l.length ∧ st.2.2.2.1.length = st.1 ∧ st.2.2.2.1 ++ invG s st.2.2.1 (l.drop st.1) = invG s 0 l ∧ -200000 * (st.1 : Int) ≤ st.2.2.1 ∧ st.2.2.1 ≤ 1000 * (st.1 : Int)) (fun st => l.length - st.1) (0, 0, 0, [], []) ?_ ?_
  · exact ⟨rfl, rfl, rfl, rfl, rfl, rfl, rfl, Nat.zero_le _, rfl, rfl, by simp, by simp⟩
  rintro ⟨j, v, sh, pre, ext⟩ e' G ⟨h0, h7, h8, h17, h18, h19, rfl, hj, hpl, hg, hb1, hb2⟩
  simp only at h7 h8 h19 hj hg hb1 hb2 hpl
  by_cases hlt : j < l.length
  · have hx := hl2 _ (getD_mem' hlt)
    obtain ⟨a1, a2, a3, a4⟩ := ord_at hO hlt
    rw [invG_step hlt] at hg
    repeat' (first | (refine And.intro (by omega) ?_) | simp -implicitDefEqProofs (disch := omega) only [h0, h7, h8, h17, h18, h19, rows_getD, re_len, re_take, re_drop1, re_drop2, re_drop3, re_c1s, re_cl, re_cells, re_agg, splice, List.append_nil, dT_lt, dF_lt, dT_le, dF_le, dT_eq, dF_eq, push_cast, ↓reduceIte, Nat.reduceEqDiff, reduceCtorEq, Nat.reduceAdd, Nat.reduceSub, Nat.reduceMul, Nat.reduceLeDiff, Nat.reduceLT, Nat.reduceMod, Nat.reduceDiv, Int.reduceToNat, Int.reduceLT, Int.reduceLE, Int.reduceEq, Int.reduceAdd, Int.reduceSub, Int.reduceNeg, Int.reduceMul, Bool.and_self] | split)
    refine .mk (j + 1, v + 1, sh + (((l.getD j default).x.length : Int) - ((l.getD j default).e - (l.getD j default).a)), pre ++ [⟨(l.getD j default).a + sh, (l.getD j default).a + sh + (l.getD j default).x.length, (s.take (l.getD j default).e.toNat).drop (l.getD j default).a.toNat⟩], ext ++ [.box (reR (l.getD j default))]) ⟨h0, rfl, rfl, h17, h18, rfl, ?_, hlt, by simp [hpl], by rw [← hg]; simp, by simp only; push_cast; omega, by simp only; push_cast; omega⟩ (by simp only; omega)
    rw [List.take_of_length_le (by simp [hpl]), List.drop_take]
    simp only [List.map_append]
    rfl
  · have e : j = l.length := by omega
    subst e
    rw [List.drop_length] at hg
    simp only [invG, List.append_nil] at hg
    repeat' (first | (refine And.intro (by omega) ?_) | simp -implicitDefEqProofs (disch := omega) only [h0, h7, h8, h17, h18, h19, dT_lt, dF_lt, dT_le, dF_le, dT_eq, dF_eq, push_cast, ↓reduceIte, Nat.reduceEqDiff, reduceCtorEq, Nat.reduceAdd, Nat.reduceSub, Nat.reduceMul, Nat.reduceLeDiff, Nat.reduceLT, Nat.reduceMod, Nat.reduceDiv, Int.reduceToNat, Int.reduceLT, Int.reduceLE, Int.reduceEq, Int.reduceAdd, Int.reduceSub, Int.reduceNeg, Int.reduceMul, Bool.and_self] | split)
    rw [List.take_of_length_le (by simp [hpl]), hg]
    exact ⟨rfl, _, rfl⟩
#print axioms invT
theorem invTn (s : List UInt8) (l : List Re) (hs : s.length ≤ 100000) (hl : Fewr l) (h0 : fitsF s.length l ≠ 0) (H : AHeap) : Comp' 16 [str s, .sl 3 (l.map reR)] H (.tup [nilS, int (fitsF s.length l)]) := by
  refine enter Try.func16 L16_ok (Nat.le_of_ble_eq_true rfl) ?_
  have hf := fun H => fitsT s l hs hl H
  repeat' (first | (refine And.intro (by omega) ?_) | (refine callF_pure (hf _) ?_) | (refine callQF_pure (hf _) (by first | rfl | simp -implicitDefEqProofs (disch := omega) only [L16, dT_lt, dF_lt, dT_le, dF_le, dT_eq, dF_eq, push_cast, ↓reduceIte, Nat.reduceEqDiff, reduceCtorEq, Nat.reduceAdd, Nat.reduceSub, Nat.reduceMul, Nat.reduceLeDiff, Nat.reduceLT, Nat.reduceMod, Nat.reduceDiv, Int.reduceToNat, Int.reduceLT, Int.reduceLE, Int.reduceEq, Int.reduceAdd, Int.reduceSub, Int.reduceNeg, Int.reduceMul, Bool.and_self]) ?_) | simp -implicitDefEqProofs (disch := omega) only [L16, dT_lt, dF_lt, dT_le, dF_le, dT_eq, dF_eq, push_cast, ↓reduceIte, Nat.reduceEqDiff, reduceCtorEq, Nat.reduceAdd, Nat.reduceSub, Nat.reduceMul, Nat.reduceLeDiff, Nat.reduceLT, Nat.reduceMod, Nat.reduceDiv, Int.reduceToNat, Int.reduceLT, Int.reduceLE, Int.reduceEq, Int.reduceAdd, Int.reduceSub, Int.reduceNeg, Int.reduceMul, Bool.and_self] | split)
theorem invRn (s : List UInt8) (l : List Re) (hs : s.length ≤ 300) (hl : Fewr l) (h0 : fitsF s.length l ≠ 0) (H : AHeap) : Comp' 17 [str s, .sl 3 (l.map reR)] H (.tup [nilS, int (fitsF s.length l)]) := by
  refine enter Try.func17 L17_ok (Nat.le_of_ble_eq_true rfl) ?_
  have hf := fun H => appR s l hs hl H
  repeat' (first | (refine And.intro (by omega) ?_) | (refine callF_pure (hf _) ?_) | (refine callQF_pure (hf _) (by first | rfl | simp -implicitDefEqProofs (disch := omega) only [L17, dT_lt, dF_lt, dT_le, dF_le, dT_eq, dF_eq, push_cast, ↓reduceIte, Nat.reduceEqDiff, reduceCtorEq, Nat.reduceAdd, Nat.reduceSub, Nat.reduceMul, Nat.reduceLeDiff, Nat.reduceLT, Nat.reduceMod, Nat.reduceDiv, Int.reduceToNat, Int.reduceLT, Int.reduceLE, Int.reduceEq, Int.reduceAdd, Int.reduceSub, Int.reduceNeg, Int.reduceMul, Bool.and_self]) ?_) | simp -implicitDefEqProofs (disch := omega) only [L17, dT_lt, dF_lt, dT_le, dF_le, dT_eq, dF_eq, push_cast, ↓reduceIte, Nat.reduceEqDiff, reduceCtorEq, Nat.reduceAdd, Nat.reduceSub, Nat.reduceMul, Nat.reduceLeDiff, Nat.reduceLT, Nat.reduceMod, Nat.reduceDiv, Int.reduceToNat, Int.reduceLT, Int.reduceLE, Int.reduceEq, Int.reduceAdd, Int.reduceSub, Int.reduceNeg, Int.reduceMul, Bool.and_self] | split)
theorem invR (s : List UInt8) (l : List Re) (hs : s.length ≤ 300) (hl : Fewr l) (h0 : fitsF s.length l = 0) (H : AHeap) : Comp' 17 [str s, .sl 3 (l.map reR)] H (.tup [.sl 3 ((invG s 0 l).map reR), int 0]) := by
  refine ACall.drop (R := fun x => x = .tup [.sl 3 ((invG s 0 l).map reR), int 0]) ?_
  refine enter Try.func17 L17_ok (Nat.le_of_ble_eq_true rfl) ?_
  have hf := fun H => appR s l hs hl H
  rw [h0] at hf
  have z0 : fitsG s.length 0 l = 0 := by unfold fitsF at h0; split at h0 <;> omega
  have hO := ord_of_fits z0
  obtain ⟨hl1, hl2⟩ := hl
  clear h0
  repeat' (first | (refine And.intro (by omega) ?_) | (refine callF_pure (hf _) ?_) | (refine callQF_pure (hf _) (by first | rfl | simp -implicitDefEqProofs (disch := omega) only [L17, dT_lt, dF_lt, dT_le, dF_le, dT_eq, dF_eq, push_cast, ↓reduceIte, Nat.reduceEqDiff, reduceCtorEq, Nat.reduceAdd, Nat.reduceSub, Nat.reduceMul, Nat.reduceLeDiff, Nat.reduceLT, Nat.reduceMod, Nat.reduceDiv, Int.reduceToNat, Int.reduceLT, Int.reduceLE, Int.reduceEq, Int.reduceAdd, Int.reduceSub, Int.reduceNeg, Int.reduceMul, Bool.and_self]) ?_) | simp -implicitDefEqProofs (disch := omega) only [L17, dT_lt, dF_lt, dT_le, dF_le, dT_eq, dF_eq, push_cast, ↓reduceIte, Nat.reduceEqDiff, reduceCtorEq, Nat.reduceAdd, Nat.reduceSub, Nat.reduceMul, Nat.reduceLeDiff, Nat.reduceLT, Nat.reduceMod, Nat.reduceDiv, Int.reduceToNat, Int.reduceLT, Int.reduceLE, Int.reduceEq, Int.reduceAdd, Int.reduceSub, Int.reduceNeg, Int.reduceMul, Bool.and_self] | split)
  refine rk_loopS (fun (st : Nat × Nat × Int × List Re) e' G => e' 0 = str s ∧ e' 1 = .sl 3 (l.map reR) ∧ e' 8 = .os H.length st.2.1 0 st.1 ∧ e' 9 = int st.2.2.1 ∧ e' 10 = int st.1 ∧ G = H ++ [.arr st.2.1 3 (st.2.2.2.map reR)] ∧ st.1 ≤ l.length ∧ st.2.2.2.length = st.1 ∧ st.2.2.2 ++ invG s st.2.2.1 (l.drop st.1) = invG s 0 l ∧ -200000 * (st.1 : Int) ≤ st.2.2.1 ∧ st.2.2.1 ≤ 1000 * (st.1 : Int)) (fun st => l.length - st.1) (0, 0, 0, []) ?_ ?_
  · exact ⟨rfl, rfl, rfl, rfl, rfl, rfl, Nat.zero_le _, rfl, rfl, by simp, by simp⟩
  rintro ⟨j, v, sh, pre⟩ e' G ⟨h0, h1, h8, h9, h10, rfl, hj, hpl, hg, hb1, hb2⟩
  simp only at h8 h9 h10 hj hg hb1 hb2 hpl
  by_cases hlt : j < l.length
  · have hjl : (j : Int) < l.length := by omega
    have hx := hl2 _ (getD_mem' hlt)
    obtain ⟨a1, a2, a3, a4⟩ := ord_at hO hlt
    rw [invG_step hlt] at hg
    repeat' (first | (with_reducible refine And.intro ?_ ?_; focus omega) | simp -implicitDefEqProofs (disch := omega) only [h0, h1, h8, h9, h10, rows_getD, re_len, re_take, re_drop1, re_drop2, re_drop3, re_c1s, re_cl, re_cells, re_agg, splice, List.append_nil, dT_lt, dF_lt, dT_le, dF_le, dT_eq, dF_eq, push_cast, ↓reduceIte, Nat.reduceEqDiff, reduceCtorEq, Nat.reduceAdd, Nat.reduceSub, Nat.reduceMul, Nat.reduceLeDiff, Nat.reduceLT, Nat.reduceMod, Nat.reduceDiv, Int.reduceToNat, Int.reduceLT, Int.reduceLE, Int.reduceEq, Int.reduceAdd, Int.reduceSub, Int.reduceNeg, Int.reduceMul, Bool.and_self] | split)
    refine .mk (j + 1, v + 1, sh + (((l.getD j default).x.length : Int) - ((l.getD j default).e - (l.getD j default).a)), pre ++ [⟨(l.getD j default).a + sh, (l.getD j default).a + sh + (l.getD j default).x.length, (s.take (l.getD j default).e.toNat).drop (l.getD j default).a.toNat⟩]) ⟨h0, h1, rfl, intc rfl (by simp only; omega), rfl, ?_, hlt, by simp [hpl], by rw [← hg]; simp, by simp only; push_cast; omega, by simp only; push_cast; omega⟩ (by simp only; omega)
    rw [List.take_of_length_le (by simp [hpl]), List.drop_take]
    simp only [List.map_append]
    rfl
  · have e : j = l.length := by omega
    subst e
    rw [List.drop_length] at hg
    simp only [invG, List.append_nil] at hg
    repeat' (first | (refine And.intro (by omega) ?_) | simp -implicitDefEqProofs (disch := omega) only [h0, h1, h8, h9, h10, dT_lt, dF_lt, dT_le, dF_le, dT_eq, dF_eq, push_cast, ↓reduceIte, Nat.reduceEqDiff, reduceCtorEq, Nat.reduceAdd, Nat.reduceSub, Nat.reduceMul, Nat.reduceLeDiff, Nat.reduceLT, Nat.reduceMod, Nat.reduceDiv, Int.reduceToNat, Int.reduceLT, Int.reduceLE, Int.reduceEq, Int.reduceAdd, Int.reduceSub, Int.reduceNeg, Int.reduceMul, Bool.and_self] | split)
    rw [List.take_of_length_le (by simp [hpl]), hg]
    exact ⟨rfl, _, rfl⟩
#print axioms invR
end Go.Proofs.Ytiibbkbcebccnaa

/- Texts: the laws TextReplaces and TextUndo. -/
namespace Go.Proofs.Ytiibbkbcebccnaa
open Go Go.Ax Go.RowKit
set_option maxRecDepth 100000
set_option linter.unusedSimpArgs false
set_option linter.unusedVariables false

theorem textReplaces (s : List UInt8) (l : List Re) (t : Int) (hll : l.length ≤ 9223372036854775807) (H : AHeap) : Comp' 5 [str s, .sl 3 (l.map reR), int t] H (bool true) := by
  refine enter Try.func5 L5_ok (Nat.le_of_ble_eq_true rfl) ?_
  have c0 := fun H => fewC l hll H
  by_cases ha : s.length ≤ 300
  · by_cases hb : fewF l = true
    · rw [hb] at c0
      obtain ⟨hfw, hsh⟩ := fewF_Fewr hb
      have c1 := fun H => appT s l (by omega) hfw H
      have c2 := fun H => appR s l ha hfw H
      have c5 := fun H => movT l t hfw H
      have c6 := fun H => movR l t hfw H
      by_cases hf : fitsF s.length l = 0
      · have c3 := fun H => invT s l (by omega) hfw hf H
        have c4 := fun H => invR s l ha hfw hf H
        have c7 := fun H => sameC (invG s 0 l) (by rw [invG_len]; exact hll) H
        rw [hf] at c1 c2
        repeat' (first | (refine And.intro (by omega) ?_) | (refine callF_pure (c0 _) ?_) | (refine callF_pure (c1 _) ?_) | (refine callF_pure (c2 _) ?_) | (refine callF_pure (c3 _) ?_) | (refine callF_pure (c4 _) ?_) | (refine callF_pure (c5 _) ?_) | (refine callF_pure (c6 _) ?_) | (refine callF_pure (c7 _) ?_) | (refine callF_pure (awakeC _) ?_) | (refine callQF_pure (c0 _) (by first | rfl | simp -implicitDefEqProofs (disch := omega) only [L5, dT_lt, dF_lt, dT_le, dF_le, dT_eq, dF_eq, push_cast, ↓reduceIte, Nat.reduceEqDiff, reduceCtorEq, Nat.reduceAdd, Nat.reduceSub, Nat.reduceMul, Nat.reduceLeDiff, Nat.reduceLT, Nat.reduceMod, Nat.reduceDiv, Int.reduceToNat, Int.reduceLT, Int.reduceLE, Int.reduceEq, Int.reduceAdd, Int.reduceSub, Int.reduceNeg, Int.reduceMul, Bool.and_self]) ?_) | (refine callQF_pure (c1 _) (by first | rfl | simp -implicitDefEqProofs (disch := omega) only [L5, dT_lt, dF_lt, dT_le, dF_le, dT_eq, dF_eq, push_cast, ↓reduceIte, Nat.reduceEqDiff, reduceCtorEq, Nat.reduceAdd, Nat.reduceSub, Nat.reduceMul, Nat.reduceLeDiff, Nat.reduceLT, Nat.reduceMod, Nat.reduceDiv, Int.reduceToNat, Int.reduceLT, Int.reduceLE, Int.reduceEq, Int.reduceAdd, Int.reduceSub, Int.reduceNeg, Int.reduceMul, Bool.and_self]) ?_) | (refine callQF_pure (c2 _) (by first | rfl | simp -implicitDefEqProofs (disch := omega) only [L5, dT_lt, dF_lt, dT_le, dF_le, dT_eq, dF_eq, push_cast, ↓reduceIte, Nat.reduceEqDiff, reduceCtorEq, Nat.reduceAdd, Nat.reduceSub, Nat.reduceMul, Nat.reduceLeDiff, Nat.reduceLT, Nat.reduceMod, Nat.reduceDiv, Int.reduceToNat, Int.reduceLT, Int.reduceLE, Int.reduceEq, Int.reduceAdd, Int.reduceSub, Int.reduceNeg, Int.reduceMul, Bool.and_self]) ?_) | (refine callQF_pure (c3 _) (by first | rfl | simp -implicitDefEqProofs (disch := omega) only [L5, dT_lt, dF_lt, dT_le, dF_le, dT_eq, dF_eq, push_cast, ↓reduceIte, Nat.reduceEqDiff, reduceCtorEq, Nat.reduceAdd, Nat.reduceSub, Nat.reduceMul, Nat.reduceLeDiff, Nat.reduceLT, Nat.reduceMod, Nat.reduceDiv, Int.reduceToNat, Int.reduceLT, Int.reduceLE, Int.reduceEq, Int.reduceAdd, Int.reduceSub, Int.reduceNeg, Int.reduceMul, Bool.and_self]) ?_) | (refine callQF_pure (c4 _) (by first | rfl | simp -implicitDefEqProofs (disch := omega) only [L5, dT_lt, dF_lt, dT_le, dF_le, dT_eq, dF_eq, push_cast, ↓reduceIte, Nat.reduceEqDiff, reduceCtorEq, Nat.reduceAdd, Nat.reduceSub, Nat.reduceMul, Nat.reduceLeDiff, Nat.reduceLT, Nat.reduceMod, Nat.reduceDiv, Int.reduceToNat, Int.reduceLT, Int.reduceLE, Int.reduceEq, Int.reduceAdd, Int.reduceSub, Int.reduceNeg, Int.reduceMul, Bool.and_self]) ?_) | (refine callQF_pure (c5 _) (by first | rfl | simp -implicitDefEqProofs (disch := omega) only [L5, dT_lt, dF_lt, dT_le, dF_le, dT_eq, dF_eq, push_cast, ↓reduceIte, Nat.reduceEqDiff, reduceCtorEq, Nat.reduceAdd, Nat.reduceSub, Nat.reduceMul, Nat.reduceLeDiff, Nat.reduceLT, Nat.reduceMod, Nat.reduceDiv, Int.reduceToNat, Int.reduceLT, Int.reduceLE, Int.reduceEq, Int.reduceAdd, Int.reduceSub, Int.reduceNeg, Int.reduceMul, Bool.and_self]) ?_) | (refine callQF_pure (c6 _) (by first | rfl | simp -implicitDefEqProofs (disch := omega) only [L5, dT_lt, dF_lt, dT_le, dF_le, dT_eq, dF_eq, push_cast, ↓reduceIte, Nat.reduceEqDiff, reduceCtorEq, Nat.reduceAdd, Nat.reduceSub, Nat.reduceMul, Nat.reduceLeDiff, Nat.reduceLT, Nat.reduceMod, Nat.reduceDiv, Int.reduceToNat, Int.reduceLT, Int.reduceLE, Int.reduceEq, Int.reduceAdd, Int.reduceSub, Int.reduceNeg, Int.reduceMul, Bool.and_self]) ?_) | (refine callQF_pure (c7 _) (by first | rfl | simp -implicitDefEqProofs (disch := omega) only [L5, dT_lt, dF_lt, dT_le, dF_le, dT_eq, dF_eq, push_cast, ↓reduceIte, Nat.reduceEqDiff, reduceCtorEq, Nat.reduceAdd, Nat.reduceSub, Nat.reduceMul, Nat.reduceLeDiff, Nat.reduceLT, Nat.reduceMod, Nat.reduceDiv, Int.reduceToNat, Int.reduceLT, Int.reduceLE, Int.reduceEq, Int.reduceAdd, Int.reduceSub, Int.reduceNeg, Int.reduceMul, Bool.and_self]) ?_) | (refine callQF_pure (awakeC _) (by first | rfl | simp -implicitDefEqProofs (disch := omega) only [L5, dT_lt, dF_lt, dT_le, dF_le, dT_eq, dF_eq, push_cast, ↓reduceIte, Nat.reduceEqDiff, reduceCtorEq, Nat.reduceAdd, Nat.reduceSub, Nat.reduceMul, Nat.reduceLeDiff, Nat.reduceLT, Nat.reduceMod, Nat.reduceDiv, Int.reduceToNat, Int.reduceLT, Int.reduceLE, Int.reduceEq, Int.reduceAdd, Int.reduceSub, Int.reduceNeg, Int.reduceMul, Bool.and_self]) ?_) | simp -implicitDefEqProofs (disch := omega) only [L5, dT_lt, dF_lt, dT_le, dF_le, dT_eq, dF_eq, push_cast, ↓reduceIte, Nat.reduceEqDiff, reduceCtorEq, Nat.reduceAdd, Nat.reduceSub, Nat.reduceMul, Nat.reduceLeDiff, Nat.reduceLT, Nat.reduceMod, Nat.reduceDiv, Int.reduceToNat, Int.reduceLT, Int.reduceLE, Int.reduceEq, Int.reduceAdd, Int.reduceSub, Int.reduceNeg, Int.reduceMul, Bool.and_self] | split)
      · have c3 := fun H => invTn s l (by omega) hfw hf H
        have c4 := fun H => invRn s l ha hfw hf H
        repeat' (first | (refine And.intro (by omega) ?_) | (refine callF_pure (c0 _) ?_) | (refine callF_pure (c1 _) ?_) | (refine callF_pure (c2 _) ?_) | (refine callF_pure (c3 _) ?_) | (refine callF_pure (c4 _) ?_) | (refine callF_pure (c5 _) ?_) | (refine callF_pure (c6 _) ?_) | (refine callF_pure (sameNil _) ?_) | (refine callF_pure (awakeC _) ?_) | (refine callQF_pure (c0 _) (by first | rfl | simp -implicitDefEqProofs (disch := omega) only [L5, dT_lt, dF_lt, dT_le, dF_le, dT_eq, dF_eq, push_cast, ↓reduceIte, Nat.reduceEqDiff, reduceCtorEq, Nat.reduceAdd, Nat.reduceSub, Nat.reduceMul, Nat.reduceLeDiff, Nat.reduceLT, Nat.reduceMod, Nat.reduceDiv, Int.reduceToNat, Int.reduceLT, Int.reduceLE, Int.reduceEq, Int.reduceAdd, Int.reduceSub, Int.reduceNeg, Int.reduceMul, Bool.and_self]) ?_) | (refine callQF_pure (c1 _) (by first | rfl | simp -implicitDefEqProofs (disch := omega) only [L5, dT_lt, dF_lt, dT_le, dF_le, dT_eq, dF_eq, push_cast, ↓reduceIte, Nat.reduceEqDiff, reduceCtorEq, Nat.reduceAdd, Nat.reduceSub, Nat.reduceMul, Nat.reduceLeDiff, Nat.reduceLT, Nat.reduceMod, Nat.reduceDiv, Int.reduceToNat, Int.reduceLT, Int.reduceLE, Int.reduceEq, Int.reduceAdd, Int.reduceSub, Int.reduceNeg, Int.reduceMul, Bool.and_self]) ?_) | (refine callQF_pure (c2 _) (by first | rfl | simp -implicitDefEqProofs (disch := omega) only [L5, dT_lt, dF_lt, dT_le, dF_le, dT_eq, dF_eq, push_cast, ↓reduceIte, Nat.reduceEqDiff, reduceCtorEq, Nat.reduceAdd, Nat.reduceSub, Nat.reduceMul, Nat.reduceLeDiff, Nat.reduceLT, Nat.reduceMod, Nat.reduceDiv, Int.reduceToNat, Int.reduceLT, Int.reduceLE, Int.reduceEq, Int.reduceAdd, Int.reduceSub, Int.reduceNeg, Int.reduceMul, Bool.and_self]) ?_) | (refine callQF_pure (c3 _) (by first | rfl | simp -implicitDefEqProofs (disch := omega) only [L5, dT_lt, dF_lt, dT_le, dF_le, dT_eq, dF_eq, push_cast, ↓reduceIte, Nat.reduceEqDiff, reduceCtorEq, Nat.reduceAdd, Nat.reduceSub, Nat.reduceMul, Nat.reduceLeDiff, Nat.reduceLT, Nat.reduceMod, Nat.reduceDiv, Int.reduceToNat, Int.reduceLT, Int.reduceLE, Int.reduceEq, Int.reduceAdd, Int.reduceSub, Int.reduceNeg, Int.reduceMul, Bool.and_self]) ?_) | (refine callQF_pure (c4 _) (by first | rfl | simp -implicitDefEqProofs (disch := omega) only [L5, dT_lt, dF_lt, dT_le, dF_le, dT_eq, dF_eq, push_cast, ↓reduceIte, Nat.reduceEqDiff, reduceCtorEq, Nat.reduceAdd, Nat.reduceSub, Nat.reduceMul, Nat.reduceLeDiff, Nat.reduceLT, Nat.reduceMod, Nat.reduceDiv, Int.reduceToNat, Int.reduceLT, Int.reduceLE, Int.reduceEq, Int.reduceAdd, Int.reduceSub, Int.reduceNeg, Int.reduceMul, Bool.and_self]) ?_) | (refine callQF_pure (c5 _) (by first | rfl | simp -implicitDefEqProofs (disch := omega) only [L5, dT_lt, dF_lt, dT_le, dF_le, dT_eq, dF_eq, push_cast, ↓reduceIte, Nat.reduceEqDiff, reduceCtorEq, Nat.reduceAdd, Nat.reduceSub, Nat.reduceMul, Nat.reduceLeDiff, Nat.reduceLT, Nat.reduceMod, Nat.reduceDiv, Int.reduceToNat, Int.reduceLT, Int.reduceLE, Int.reduceEq, Int.reduceAdd, Int.reduceSub, Int.reduceNeg, Int.reduceMul, Bool.and_self]) ?_) | (refine callQF_pure (c6 _) (by first | rfl | simp -implicitDefEqProofs (disch := omega) only [L5, dT_lt, dF_lt, dT_le, dF_le, dT_eq, dF_eq, push_cast, ↓reduceIte, Nat.reduceEqDiff, reduceCtorEq, Nat.reduceAdd, Nat.reduceSub, Nat.reduceMul, Nat.reduceLeDiff, Nat.reduceLT, Nat.reduceMod, Nat.reduceDiv, Int.reduceToNat, Int.reduceLT, Int.reduceLE, Int.reduceEq, Int.reduceAdd, Int.reduceSub, Int.reduceNeg, Int.reduceMul, Bool.and_self]) ?_) | (refine callQF_pure (sameNil _) (by first | rfl | simp -implicitDefEqProofs (disch := omega) only [L5, dT_lt, dF_lt, dT_le, dF_le, dT_eq, dF_eq, push_cast, ↓reduceIte, Nat.reduceEqDiff, reduceCtorEq, Nat.reduceAdd, Nat.reduceSub, Nat.reduceMul, Nat.reduceLeDiff, Nat.reduceLT, Nat.reduceMod, Nat.reduceDiv, Int.reduceToNat, Int.reduceLT, Int.reduceLE, Int.reduceEq, Int.reduceAdd, Int.reduceSub, Int.reduceNeg, Int.reduceMul, Bool.and_self]) ?_) | (refine callQF_pure (awakeC _) (by first | rfl | simp -implicitDefEqProofs (disch := omega) only [L5, dT_lt, dF_lt, dT_le, dF_le, dT_eq, dF_eq, push_cast, ↓reduceIte, Nat.reduceEqDiff, reduceCtorEq, Nat.reduceAdd, Nat.reduceSub, Nat.reduceMul, Nat.reduceLeDiff, Nat.reduceLT, Nat.reduceMod, Nat.reduceDiv, Int.reduceToNat, Int.reduceLT, Int.reduceLE, Int.reduceEq, Int.reduceAdd, Int.reduceSub, Int.reduceNeg, Int.reduceMul, Bool.and_self]) ?_) | simp -implicitDefEqProofs (disch := omega) only [L5, dT_lt, dF_lt, dT_le, dF_le, dT_eq, dF_eq, push_cast, ↓reduceIte, Nat.reduceEqDiff, reduceCtorEq, Nat.reduceAdd, Nat.reduceSub, Nat.reduceMul, Nat.reduceLeDiff, Nat.reduceLT, Nat.reduceMod, Nat.reduceDiv, Int.reduceToNat, Int.reduceLT, Int.reduceLE, Int.reduceEq, Int.reduceAdd, Int.reduceSub, Int.reduceNeg, Int.reduceMul, Bool.and_self] | split)
    · rw [Bool.not_eq_true] at hb
      rw [hb] at c0
      repeat' (first | (refine And.intro (by omega) ?_) | (refine callF_pure (c0 _) ?_) | (refine callF_pure (awakeC _) ?_) | (refine callQF_pure (c0 _) (by first | rfl | simp -implicitDefEqProofs (disch := omega) only [L5, dT_lt, dF_lt, dT_le, dF_le, dT_eq, dF_eq, push_cast, ↓reduceIte, Nat.reduceEqDiff, reduceCtorEq, Nat.reduceAdd, Nat.reduceSub, Nat.reduceMul, Nat.reduceLeDiff, Nat.reduceLT, Nat.reduceMod, Nat.reduceDiv, Int.reduceToNat, Int.reduceLT, Int.reduceLE, Int.reduceEq, Int.reduceAdd, Int.reduceSub, Int.reduceNeg, Int.reduceMul, Bool.and_self]) ?_) | (refine callQF_pure (awakeC _) (by first | rfl | simp -implicitDefEqProofs (disch := omega) only [L5, dT_lt, dF_lt, dT_le, dF_le, dT_eq, dF_eq, push_cast, ↓reduceIte, Nat.reduceEqDiff, reduceCtorEq, Nat.reduceAdd, Nat.reduceSub, Nat.reduceMul, Nat.reduceLeDiff, Nat.reduceLT, Nat.reduceMod, Nat.reduceDiv, Int.reduceToNat, Int.reduceLT, Int.reduceLE, Int.reduceEq, Int.reduceAdd, Int.reduceSub, Int.reduceNeg, Int.reduceMul, Bool.and_self]) ?_) | simp -implicitDefEqProofs (disch := omega) only [L5, dT_lt, dF_lt, dT_le, dF_le, dT_eq, dF_eq, push_cast, ↓reduceIte, Nat.reduceEqDiff, reduceCtorEq, Nat.reduceAdd, Nat.reduceSub, Nat.reduceMul, Nat.reduceLeDiff, Nat.reduceLT, Nat.reduceMod, Nat.reduceDiv, Int.reduceToNat, Int.reduceLT, Int.reduceLE, Int.reduceEq, Int.reduceAdd, Int.reduceSub, Int.reduceNeg, Int.reduceMul, Bool.and_self] | split)
  · repeat' (first | (refine And.intro (by omega) ?_) | (refine callF_pure (awakeC _) ?_) | (refine callQF_pure (awakeC _) (by first | rfl | simp -implicitDefEqProofs (disch := omega) only [L5, dT_lt, dF_lt, dT_le, dF_le, dT_eq, dF_eq, push_cast, ↓reduceIte, Nat.reduceEqDiff, reduceCtorEq, Nat.reduceAdd, Nat.reduceSub, Nat.reduceMul, Nat.reduceLeDiff, Nat.reduceLT, Nat.reduceMod, Nat.reduceDiv, Int.reduceToNat, Int.reduceLT, Int.reduceLE, Int.reduceEq, Int.reduceAdd, Int.reduceSub, Int.reduceNeg, Int.reduceMul, Bool.and_self]) ?_) | simp -implicitDefEqProofs (disch := omega) only [L5, dT_lt, dF_lt, dT_le, dF_le, dT_eq, dF_eq, push_cast, ↓reduceIte, Nat.reduceEqDiff, reduceCtorEq, Nat.reduceAdd, Nat.reduceSub, Nat.reduceMul, Nat.reduceLeDiff, Nat.reduceLT, Nat.reduceMod, Nat.reduceDiv, Int.reduceToNat, Int.reduceLT, Int.reduceLE, Int.reduceEq, Int.reduceAdd, Int.reduceSub, Int.reduceNeg, Int.reduceMul, Bool.and_self] | split)
#print axioms textReplaces

theorem fits_of_ord {n : Int} : ∀ {l : List Re} {c : Int}, 0 ≤ c → Ord n c l → fitsG n c l = 0
  | [], _, _, _ => rfl
  | x :: l, c, hc, h => by
    obtain ⟨h1, h2, h3, h4⟩ := h
    simp only [fitsG]
    rw [if_neg (by omega), if_neg (by omega)]
    exact fits_of_ord (by omega) h4
theorem inv_all {s t : List UInt8} : ∀ {l : List Re} {c : Nat} {sh : Int} {P : List UInt8}, Ord s.length c l → c ≤ s.length → (P.length : Int) = c + sh → t = P ++ appG s c l →
    Ord t.length P.length (invG s sh l) ∧ appG t P.length (invG s sh l) = s.drop c ∧ invG t (-sh) (invG s sh l) = l
  | [], c, sh, P, _, hc, hP, ht => by
    refine ⟨trivial, ?_, rfl⟩
    simp only [invG, appG]
    rw [ht, List.drop_left]
    rfl
  | x :: l, c, sh, P, h, hc, hP, ht => by
    obtain ⟨h1, h2, h3, h4⟩ := h
    obtain ⟨a, ha⟩ : ∃ a : Nat, x.a = a := ⟨x.a.toNat, by omega⟩
    obtain ⟨e, he⟩ : ∃ e : Nat, x.e = e := ⟨x.e.toNat, by omega⟩
    rw [ha] at h1 h2
    rw [he] at h2 h3 h4
    simp only [appG, ha, he, Int.toNat_natCast] at ht
    have hm : ((s.take a).drop c).length = a - c := by rw [List.length_drop, List.length_take]; omega
    have hP2 : ((P ++ (s.take a).drop c ++ x.x).length : Int) = (e : Int) + (sh + ((x.x.length : Int) - ((e : Int) - a))) := by
      rw [List.length_append, List.length_append, hm]; omega
    have ht2 : t = (P ++ (s.take a).drop c ++ x.x) ++ appG s e l := by rw [ht]; simp
    obtain ⟨i1, i2, i3⟩ := inv_all h4 (by omega) hP2 ht2
    have hl1 : (P ++ (s.take a).drop c).length = P.length + (a - c) := by rw [List.length_append, hm]
    have hq : ((a : Int) + sh) = ((P ++ (s.take a).drop c).length : Nat) := by rw [hl1]; omega
    have hq2 : ((a : Int) + sh + x.x.length) = ((P ++ (s.take a).drop c ++ x.x).length : Nat) := by rw [List.length_append]; omega
    have htl : (P ++ (s.take a).drop c ++ x.x).length ≤ t.length := by have := congrArg List.length ht2; rw [List.length_append] at this; omega
    simp only [invG, ha, he, Int.toNat_natCast]
    rw [hq2, hq]
    refine ⟨⟨by rw [hl1]; simp only; omega, by rw [List.length_append (bs := x.x)]; simp only; omega, by simp only; omega, i1⟩, ?_, ?_⟩
    · simp only [appG, Int.toNat_natCast]
      rw [i2]
      have e1 : (t.take (P ++ (s.take a).drop c).length).drop P.length = (s.take a).drop c := by
        rw [ht2, List.append_assoc (P ++ (s.take a).drop c), List.take_left, List.drop_left]
      rw [e1]
      have e2 : s.drop e = (s.drop a).drop (e - a) := by rw [List.drop_drop]; congr 1; omega
      have e3 : (s.take e).drop a = (s.drop a).take (e - a) := by rw [List.drop_take]
      rw [e2, e3, List.take_append_drop]
      have e4 : s.drop c = ((s.take a) ++ s.drop a).drop c := by rw [List.take_append_drop]
      rw [e4, List.drop_append_of_le_length (by rw [List.length_take]; omega)]
    · have e5 : ((s.take e).drop a).length = e - a := by rw [List.length_drop, List.length_take]; omega
      rw [← hq, ← hq2]
      simp only [invG, e5]
      have e6 : (t.take ((a : Int) + sh + x.x.length).toNat).drop ((a : Int) + sh).toNat = x.x := by
        rw [hq2, hq, Int.toNat_natCast, Int.toNat_natCast, ht2, List.take_left, List.drop_left]
      rw [e6]
      have e7 : -sh + (((e - a : Nat) : Int) - ((a : Int) + sh + x.x.length - ((a : Int) + sh))) = -(sh + ((x.x.length : Int) - ((e : Int) - a))) := by omega
      rw [e7, i3]
      congr 1
      obtain ⟨xa, xe, xx⟩ := x
      simp only at ha he ⊢
      subst ha he
      simp only [Re.mk.injEq, and_true]
      omega

theorem inv_short (s : List UInt8) (hs : s.length ≤ 300) : ∀ (sh : Int) (l : List Re), ∀ x ∈ invG s sh l, x.x.length ≤ 1000
  | _, [], x, hx => by simp [invG] at hx
  | sh, y :: l, x, hx => by
    simp only [invG, List.mem_cons] at hx
    rcases hx with rfl | hx
    · simp only [List.length_drop, List.length_take]; omega
    · exact inv_short s hs _ l x hx
theorem textUndo (s : List UInt8) (l : List Re) (hll : l.length ≤ 9223372036854775807) (H : AHeap) : Comp' 6 [str s, .sl 3 (l.map reR)] H (bool true) := by
  refine enter Try.func6 L6_ok (Nat.le_of_ble_eq_true rfl) ?_
  have c0 := fun H => fewC l hll H
  by_cases ha : s.length ≤ 300
  · by_cases hb : fewF l = true
    · rw [hb] at c0
      obtain ⟨hfw, hsh⟩ := fewF_Fewr hb
      have c1 := fun H => appT s l (by omega) hfw H
      by_cases hf : fitsF s.length l = 0
      · have c3 := fun H => invT s l (by omega) hfw hf H
        have z0 : fitsG s.length 0 l = 0 := by unfold fitsF at hf; split at hf <;> omega
        have hO := ord_of_fits z0
        have hA : appF s l = appG s 0 l := by unfold appF; rw [if_pos hf]
        have htl : (appG s 0 l).length ≤ 16384 := by
          have h1 := appG_len (c := 0) hO (Nat.zero_le _)
          unfold fitsF at hf
          rw [z0] at hf
          simp only [ne_eq, not_true_eq_false, if_false] at hf
          split at hf <;> omega
        obtain ⟨i1, i2, i3⟩ := inv_all (sh := 0) (P := []) (c := 0) hO (Nat.zero_le _) rfl rfl
        rw [List.nil_append] at i1 i2 i3
        rw [hf, hA] at c1
        have hfb : Fewr (invG s 0 l) := ⟨by rw [invG_len]; exact hfw.1, inv_short s ha 0 l⟩
        have hf2 : fitsF (appG s 0 l).length (invG s 0 l) = 0 := by
          have z2 := fits_of_ord (Int.le_refl 0) i1
          have h2 := appG_len (c := 0) i1 (Nat.zero_le _)
          rw [show appG (appG s 0 l) 0 (invG s 0 l) = s from i2] at h2
          unfold fitsF
          rw [show fitsG (appG s 0 l).length 0 (invG s 0 l) = 0 from z2, if_neg (by simp), if_neg (by omega)]
        have hA2 : appF (appG s 0 l) (invG s 0 l) = s := by unfold appF; rw [if_pos hf2]; exact i2
        have c4 := fun H => appT (appG s 0 l) (invG s 0 l) (by omega) hfb H
        have c5 := fun H => invT (appG s 0 l) (invG s 0 l) (by omega) hfb hf2 H
        rw [hf2, hA2] at c4
        rw [show invG (appG s 0 l) 0 (invG s 0 l) = l from i3] at c5
        have c7 := fun H => sameC l hll H
        generalize appG s 0 l = t at *
        generalize hbk : invG s 0 l = bk at *
        repeat' (first | (refine And.intro (by omega) ?_) | (refine callF_pure (c0 _) ?_) | (refine callF_pure (c1 _) ?_) | (refine callF_pure (c3 _) ?_) | (refine callF_pure (c4 _) ?_) | (refine callF_pure (c5 _) ?_) | (refine callF_pure (c7 _) ?_) | (refine callF_pure (awakeC _) ?_) | (refine callQF_pure (c0 _) (by first | rfl | simp -implicitDefEqProofs (disch := omega) only [L6, dT_lt, dF_lt, dT_le, dF_le, dT_eq, dF_eq, push_cast, ↓reduceIte, Nat.reduceEqDiff, reduceCtorEq, Nat.reduceAdd, Nat.reduceSub, Nat.reduceMul, Nat.reduceLeDiff, Nat.reduceLT, Nat.reduceMod, Nat.reduceDiv, Int.reduceToNat, Int.reduceLT, Int.reduceLE, Int.reduceEq, Int.reduceAdd, Int.reduceSub, Int.reduceNeg, Int.reduceMul, Bool.and_self]) ?_) | (refine callQF_pure (c1 _) (by first | rfl | simp -implicitDefEqProofs (disch := omega) only [L6, dT_lt, dF_lt, dT_le, dF_le, dT_eq, dF_eq, push_cast, ↓reduceIte, Nat.reduceEqDiff, reduceCtorEq, Nat.reduceAdd, Nat.reduceSub, Nat.reduceMul, Nat.reduceLeDiff, Nat.reduceLT, Nat.reduceMod, Nat.reduceDiv, Int.reduceToNat, Int.reduceLT, Int.reduceLE, Int.reduceEq, Int.reduceAdd, Int.reduceSub, Int.reduceNeg, Int.reduceMul, Bool.and_self]) ?_) | (refine callQF_pure (c3 _) (by first | rfl | simp -implicitDefEqProofs (disch := omega) only [L6, dT_lt, dF_lt, dT_le, dF_le, dT_eq, dF_eq, push_cast, ↓reduceIte, Nat.reduceEqDiff, reduceCtorEq, Nat.reduceAdd, Nat.reduceSub, Nat.reduceMul, Nat.reduceLeDiff, Nat.reduceLT, Nat.reduceMod, Nat.reduceDiv, Int.reduceToNat, Int.reduceLT, Int.reduceLE, Int.reduceEq, Int.reduceAdd, Int.reduceSub, Int.reduceNeg, Int.reduceMul, Bool.and_self]) ?_) | (refine callQF_pure (c4 _) (by first | rfl | simp -implicitDefEqProofs (disch := omega) only [L6, dT_lt, dF_lt, dT_le, dF_le, dT_eq, dF_eq, push_cast, ↓reduceIte, Nat.reduceEqDiff, reduceCtorEq, Nat.reduceAdd, Nat.reduceSub, Nat.reduceMul, Nat.reduceLeDiff, Nat.reduceLT, Nat.reduceMod, Nat.reduceDiv, Int.reduceToNat, Int.reduceLT, Int.reduceLE, Int.reduceEq, Int.reduceAdd, Int.reduceSub, Int.reduceNeg, Int.reduceMul, Bool.and_self]) ?_) | (refine callQF_pure (c5 _) (by first | rfl | simp -implicitDefEqProofs (disch := omega) only [L6, dT_lt, dF_lt, dT_le, dF_le, dT_eq, dF_eq, push_cast, ↓reduceIte, Nat.reduceEqDiff, reduceCtorEq, Nat.reduceAdd, Nat.reduceSub, Nat.reduceMul, Nat.reduceLeDiff, Nat.reduceLT, Nat.reduceMod, Nat.reduceDiv, Int.reduceToNat, Int.reduceLT, Int.reduceLE, Int.reduceEq, Int.reduceAdd, Int.reduceSub, Int.reduceNeg, Int.reduceMul, Bool.and_self]) ?_) | (refine callQF_pure (c7 _) (by first | rfl | simp -implicitDefEqProofs (disch := omega) only [L6, dT_lt, dF_lt, dT_le, dF_le, dT_eq, dF_eq, push_cast, ↓reduceIte, Nat.reduceEqDiff, reduceCtorEq, Nat.reduceAdd, Nat.reduceSub, Nat.reduceMul, Nat.reduceLeDiff, Nat.reduceLT, Nat.reduceMod, Nat.reduceDiv, Int.reduceToNat, Int.reduceLT, Int.reduceLE, Int.reduceEq, Int.reduceAdd, Int.reduceSub, Int.reduceNeg, Int.reduceMul, Bool.and_self]) ?_) | (refine callQF_pure (awakeC _) (by first | rfl | simp -implicitDefEqProofs (disch := omega) only [L6, dT_lt, dF_lt, dT_le, dF_le, dT_eq, dF_eq, push_cast, ↓reduceIte, Nat.reduceEqDiff, reduceCtorEq, Nat.reduceAdd, Nat.reduceSub, Nat.reduceMul, Nat.reduceLeDiff, Nat.reduceLT, Nat.reduceMod, Nat.reduceDiv, Int.reduceToNat, Int.reduceLT, Int.reduceLE, Int.reduceEq, Int.reduceAdd, Int.reduceSub, Int.reduceNeg, Int.reduceMul, Bool.and_self]) ?_) | simp -implicitDefEqProofs (disch := omega) only [L6, dT_lt, dF_lt, dT_le, dF_le, dT_eq, dF_eq, push_cast, ↓reduceIte, Nat.reduceEqDiff, reduceCtorEq, Nat.reduceAdd, Nat.reduceSub, Nat.reduceMul, Nat.reduceLeDiff, Nat.reduceLT, Nat.reduceMod, Nat.reduceDiv, Int.reduceToNat, Int.reduceLT, Int.reduceLE, Int.reduceEq, Int.reduceAdd, Int.reduceSub, Int.reduceNeg, Int.reduceMul, Bool.and_self] | split)
      · have c3 := fun H => invTn s l (by omega) hfw hf H
        have hA : appF s l = [] := by unfold appF; rw [if_neg hf]
        rw [hA] at c1
        repeat' (first | (refine And.intro (by omega) ?_) | (refine callF_pure (c0 _) ?_) | (refine callF_pure (c1 _) ?_) | (refine callF_pure (c3 _) ?_) | (refine callF_pure (awakeC _) ?_) | (refine callQF_pure (c0 _) (by first | rfl | simp -implicitDefEqProofs (disch := omega) only [L6, dT_lt, dF_lt, dT_le, dF_le, dT_eq, dF_eq, push_cast, ↓reduceIte, Nat.reduceEqDiff, reduceCtorEq, Nat.reduceAdd, Nat.reduceSub, Nat.reduceMul, Nat.reduceLeDiff, Nat.reduceLT, Nat.reduceMod, Nat.reduceDiv, Int.reduceToNat, Int.reduceLT, Int.reduceLE, Int.reduceEq, Int.reduceAdd, Int.reduceSub, Int.reduceNeg, Int.reduceMul, Bool.and_self]) ?_) | (refine callQF_pure (c1 _) (by first | rfl | simp -implicitDefEqProofs (disch := omega) only [L6, dT_lt, dF_lt, dT_le, dF_le, dT_eq, dF_eq, push_cast, ↓reduceIte, Nat.reduceEqDiff, reduceCtorEq, Nat.reduceAdd, Nat.reduceSub, Nat.reduceMul, Nat.reduceLeDiff, Nat.reduceLT, Nat.reduceMod, Nat.reduceDiv, Int.reduceToNat, Int.reduceLT, Int.reduceLE, Int.reduceEq, Int.reduceAdd, Int.reduceSub, Int.reduceNeg, Int.reduceMul, Bool.and_self]) ?_) | (refine callQF_pure (c3 _) (by first | rfl | simp -implicitDefEqProofs (disch := omega) only [L6, dT_lt, dF_lt, dT_le, dF_le, dT_eq, dF_eq, push_cast, ↓reduceIte, Nat.reduceEqDiff, reduceCtorEq, Nat.reduceAdd, Nat.reduceSub, Nat.reduceMul, Nat.reduceLeDiff, Nat.reduceLT, Nat.reduceMod, Nat.reduceDiv, Int.reduceToNat, Int.reduceLT, Int.reduceLE, Int.reduceEq, Int.reduceAdd, Int.reduceSub, Int.reduceNeg, Int.reduceMul, Bool.and_self]) ?_) | (refine callQF_pure (awakeC _) (by first | rfl | simp -implicitDefEqProofs (disch := omega) only [L6, dT_lt, dF_lt, dT_le, dF_le, dT_eq, dF_eq, push_cast, ↓reduceIte, Nat.reduceEqDiff, reduceCtorEq, Nat.reduceAdd, Nat.reduceSub, Nat.reduceMul, Nat.reduceLeDiff, Nat.reduceLT, Nat.reduceMod, Nat.reduceDiv, Int.reduceToNat, Int.reduceLT, Int.reduceLE, Int.reduceEq, Int.reduceAdd, Int.reduceSub, Int.reduceNeg, Int.reduceMul, Bool.and_self]) ?_) | simp -implicitDefEqProofs (disch := omega) only [L6, dT_lt, dF_lt, dT_le, dF_le, dT_eq, dF_eq, push_cast, ↓reduceIte, Nat.reduceEqDiff, reduceCtorEq, Nat.reduceAdd, Nat.reduceSub, Nat.reduceMul, Nat.reduceLeDiff, Nat.reduceLT, Nat.reduceMod, Nat.reduceDiv, Int.reduceToNat, Int.reduceLT, Int.reduceLE, Int.reduceEq, Int.reduceAdd, Int.reduceSub, Int.reduceNeg, Int.reduceMul, Bool.and_self] | split)
    · rw [Bool.not_eq_true] at hb
      rw [hb] at c0
      repeat' (first | (refine And.intro (by omega) ?_) | (refine callF_pure (c0 _) ?_) | (refine callF_pure (awakeC _) ?_) | (refine callQF_pure (c0 _) (by first | rfl | simp -implicitDefEqProofs (disch := omega) only [L6, dT_lt, dF_lt, dT_le, dF_le, dT_eq, dF_eq, push_cast, ↓reduceIte, Nat.reduceEqDiff, reduceCtorEq, Nat.reduceAdd, Nat.reduceSub, Nat.reduceMul, Nat.reduceLeDiff, Nat.reduceLT, Nat.reduceMod, Nat.reduceDiv, Int.reduceToNat, Int.reduceLT, Int.reduceLE, Int.reduceEq, Int.reduceAdd, Int.reduceSub, Int.reduceNeg, Int.reduceMul, Bool.and_self]) ?_) | (refine callQF_pure (awakeC _) (by first | rfl | simp -implicitDefEqProofs (disch := omega) only [L6, dT_lt, dF_lt, dT_le, dF_le, dT_eq, dF_eq, push_cast, ↓reduceIte, Nat.reduceEqDiff, reduceCtorEq, Nat.reduceAdd, Nat.reduceSub, Nat.reduceMul, Nat.reduceLeDiff, Nat.reduceLT, Nat.reduceMod, Nat.reduceDiv, Int.reduceToNat, Int.reduceLT, Int.reduceLE, Int.reduceEq, Int.reduceAdd, Int.reduceSub, Int.reduceNeg, Int.reduceMul, Bool.and_self]) ?_) | simp -implicitDefEqProofs (disch := omega) only [L6, dT_lt, dF_lt, dT_le, dF_le, dT_eq, dF_eq, push_cast, ↓reduceIte, Nat.reduceEqDiff, reduceCtorEq, Nat.reduceAdd, Nat.reduceSub, Nat.reduceMul, Nat.reduceLeDiff, Nat.reduceLT, Nat.reduceMod, Nat.reduceDiv, Int.reduceToNat, Int.reduceLT, Int.reduceLE, Int.reduceEq, Int.reduceAdd, Int.reduceSub, Int.reduceNeg, Int.reduceMul, Bool.and_self] | split)
  · repeat' (first | (refine And.intro (by omega) ?_) | (refine callF_pure (awakeC _) ?_) | (refine callQF_pure (awakeC _) (by first | rfl | simp -implicitDefEqProofs (disch := omega) only [L6, dT_lt, dF_lt, dT_le, dF_le, dT_eq, dF_eq, push_cast, ↓reduceIte, Nat.reduceEqDiff, reduceCtorEq, Nat.reduceAdd, Nat.reduceSub, Nat.reduceMul, Nat.reduceLeDiff, Nat.reduceLT, Nat.reduceMod, Nat.reduceDiv, Int.reduceToNat, Int.reduceLT, Int.reduceLE, Int.reduceEq, Int.reduceAdd, Int.reduceSub, Int.reduceNeg, Int.reduceMul, Bool.and_self]) ?_) | simp -implicitDefEqProofs (disch := omega) only [L6, dT_lt, dF_lt, dT_le, dF_le, dT_eq, dF_eq, push_cast, ↓reduceIte, Nat.reduceEqDiff, reduceCtorEq, Nat.reduceAdd, Nat.reduceSub, Nat.reduceMul, Nat.reduceLeDiff, Nat.reduceLT, Nat.reduceMod, Nat.reduceDiv, Int.reduceToNat, Int.reduceLT, Int.reduceLE, Int.reduceEq, Int.reduceAdd, Int.reduceSub, Int.reduceNeg, Int.reduceMul, Bool.and_self] | split)
#print axioms textUndo
end Go.Proofs.Ytiibbkbcebccnaa

/- Texts: lines and offsets, in plain Lean; suffixes. -/
namespace Go.Proofs.Ytiibbkbcebccnaa
open Go Go.Ax Go.RowKit
set_option maxRecDepth 100000
set_option linter.unusedSimpArgs false
set_option linter.unusedVariables false

theorem linG_le (s : List UInt8) : ∀ i, ∀ x ∈ linG s i, 0 ≤ x ∧ x ≤ i
  | 0, x, hx => by simp [linG] at hx; omega
  | i + 1, x, hx => by
    simp only [linG] at hx
    split at hx
    · rcases List.mem_append.1 hx with hx | hx
      · have := linG_le s i x hx; omega
      · simp at hx; omega
    · have := linG_le s i x hx; omega
theorem linG_ext (s : List UInt8) (i : Nat) : ∀ d, ∃ rest, linG s (i + d) = linG s i ++ rest ∧ ∀ x ∈ rest, (i : Int) < x
  | 0 => ⟨[], by simp, by simp⟩
  | d + 1 => by
    obtain ⟨rest, h1, h2⟩ := linG_ext s i d
    rw [show i + (d + 1) = (i + d) + 1 by omega]
    simp only [linG]
    split
    · refine ⟨rest ++ [((i + d : Nat) : Int) + 1], by rw [h1]; simp, fun x hx => ?_⟩
      rcases List.mem_append.1 hx with hx | hx
      · exact h2 x hx
      · simp at hx; omega
    · exact ⟨rest, h1, h2⟩
theorem linG_last (s : List UInt8) : ∀ i, ∃ pre, linG s i = pre ++ [lastG s 10 i + 1]
  | 0 => ⟨[], rfl⟩
  | i + 1 => by
    simp only [linG, lastG]
    split
    · exact ⟨_, rfl⟩
    · exact linG_last s i
theorem linG_count (s : List UInt8) : ∀ i, i ≤ s.length → (linG s i).length = 1 + (s.take i).count 10
  | 0, _ => by simp [linG]
  | i + 1, h => by
    have ih := linG_count s i (by omega)
    rw [take_snoc (show i < s.length by omega), List.count_append]
    simp only [linG]
    split
    · rename_i hc
      have hc' : s.getD i default = 10 := hc
      rw [List.length_append, ih, hc']
      simp
      omega
    · rename_i hc
      have hc' : ¬ s.getD i default = 10 := hc
      rw [ih, List.count_cons_of_ne hc']
      simp
/-- What stands before a line's beginning. -/
theorem linG_nl (s : List UInt8) : ∀ n (k : Nat), 0 < k → k < (linG s n).length → ∃ i : Nat, (linG s n).getD k 0 = (i : Int) + 1 ∧ i < n ∧ s.getD i 0 = 10
  | 0, k, h0, h => by simp [linG] at h; omega
  | n + 1, k, h0, h => by
    simp only [linG] at h ⊢
    split at h
    · rename_i hc
      rw [if_pos hc]
      by_cases hk : k < (linG s n).length
      · obtain ⟨i, h1, h2, h3⟩ := linG_nl s n k h0 hk
        refine ⟨i, ?_, by omega, h3⟩
        rw [List.getD_eq_getElem?_getD, List.getElem?_append_left hk, ← List.getD_eq_getElem?_getD]
        exact h1
      · have hk2 : k = (linG s n).length := by simp at h; omega
        refine ⟨n, ?_, by omega, hc⟩
        rw [List.getD_eq_getElem?_getD, List.getElem?_append_right (by omega), hk2]
        simp
    · rename_i hc
      rw [if_neg hc]
      obtain ⟨i, h1, h2, h3⟩ := linG_nl s n k h0 h
      exact ⟨i, h1, by omega, h3⟩
theorem linG_inc (s : List UInt8) : ∀ n (k : Nat), k + 1 < (linG s n).length → (linG s n).getD k 0 < (linG s n).getD (k + 1) 0
  | 0, k, h => by simp [linG] at h
  | n + 1, k, h => by
    simp only [linG] at h ⊢
    split at h
    · rename_i hc
      rw [if_pos hc]
      have hl : k < (linG s n).length := by simp at h; omega
      by_cases hk : k + 1 < (linG s n).length
      · have := linG_inc s n k hk
        rw [List.getD_eq_getElem?_getD, List.getD_eq_getElem?_getD, List.getElem?_append_left hl, List.getElem?_append_left hk, ← List.getD_eq_getElem?_getD, ← List.getD_eq_getElem?_getD]
        exact this
      · rw [List.getD_eq_getElem?_getD, List.getD_eq_getElem?_getD, List.getElem?_append_left hl, List.getElem?_append_right (by omega)]
        rw [show k + 1 - (linG s n).length = 0 by omega]
        have h1 : (linG s n)[k] ∈ linG s n := List.getElem_mem hl
        have h2 := linG_le s n _ h1
        rw [List.getElem?_eq_getElem hl]
        simp only [Option.getD_some, List.getElem?_cons_zero]
        omega
    · rename_i hc
      rw [if_neg hc]
      exact linG_inc s n k h

/-- The lines' beginnings. -/
abbrev linA (s : List UInt8) : List Int := linG s s.length
/-- The first byte of a line, and behind its last one. -/
def frF (s : List UInt8) (k : Int) : Int := (linA s).getD (k - 1).toNat 0
def toF (s : List UInt8) (k : Int) : Int := if k = (linA s).length then s.length else (linA s).getD k.toNat 0
def lnOk (s : List UInt8) (k : Int) : Prop := 1 ≤ k ∧ k ≤ (linA s).length
def offOk (s : List UInt8) (k c : Int) : Prop := lnOk s k ∧ 1 ≤ c ∧ c ≤ (if k = (linA s).length then toF s k + 1 else toF s k) - frF s k
theorem pos_iff {s : List UInt8} {i : Nat} (hi : i ≤ s.length) (k c : Int) : posF s i = (k, c) ↔ offOk s k c ∧ (i : Int) = frF s k + c - 1 := by
  have hp : posF s i = (((linG s i).length : Int), (i : Int) - lastG s 10 i) := by
    unfold posF
    rw [if_pos (by omega), Int.toNat_natCast, linG_count s i hi]
    simp
  obtain ⟨rest, hr, hgt⟩ := linG_ext s i (s.length - i)
  rw [show i + (s.length - i) = s.length by omega] at hr
  have hla := lastG_le s 10 i
  obtain ⟨pre, hpre⟩ := linG_last s i
  have hlen : (linG s i).length = pre.length + 1 := by rw [hpre]; simp
  have hL : linA s = pre ++ ([lastG s 10 i + 1] ++ rest) := by show linG s s.length = _; rw [hr, hpre]; simp
  rw [hp, Prod.mk.injEq]
  constructor
  · rintro ⟨rfl, rfl⟩
    have hf : frF s ((linG s i).length : Int) = lastG s 10 i + 1 := by
      unfold frF
      rw [show (((linG s i).length : Int) - 1).toNat = pre.length by omega, hL, List.getD_eq_getElem?_getD, List.getElem?_append_right (Nat.le_refl _)]
      simp
    refine ⟨⟨⟨by omega, by rw [hL, hlen]; simp; omega⟩, by omega, ?_⟩, by rw [hf]; omega⟩
    rw [hf]
    by_cases hm : ((linG s i).length : Int) = (linA s).length
    · rw [if_pos hm]
      unfold toF
      rw [if_pos hm]
      omega
    · rw [if_neg hm]
      unfold toF
      rw [if_neg hm]
      have hrl : rest ≠ [] := by
        rintro rfl
        rw [hL, hlen] at hm
        simp at hm
      obtain ⟨y, rest', rfl⟩ := List.exists_cons_of_ne_nil hrl
      have := hgt y (by simp)
      rw [Int.toNat_natCast, hL, hlen, List.getD_eq_getElem?_getD, List.getElem?_append_right (by omega)]
      simp
      omega
  · rintro ⟨⟨⟨h1, h2⟩, h3, h4⟩, h5⟩
    obtain ⟨q, rfl⟩ : ∃ q : Nat, k = (q : Int) + 1 := ⟨(k - 1).toNat, by omega⟩
    have hfr : frF s ((q : Int) + 1) = (linA s).getD q 0 := by
      unfold frF
      rw [show ((q : Int) + 1 - 1).toNat = q by omega]
    have hq : q = pre.length := by
      rcases Nat.lt_trichotomy q pre.length with h | h | h
      · exfalso
        -- the next line begins at or before i
        have hne : ¬ ((q : Int) + 1 = (linA s).length) := by rw [hL]; simp; omega
        rw [if_neg hne] at h4
        unfold toF at h4
        rw [if_neg hne, show ((q : Int) + 1).toNat = q + 1 by omega] at h4
        have hm : (linA s).getD (q + 1) 0 ∈ linG s i := by
          rw [hL, hpre]
          by_cases hqq : q + 1 < pre.length
          · rw [List.getD_eq_getElem?_getD, List.getElem?_append_left hqq, List.getElem?_eq_getElem hqq]
            exact List.mem_append_left _ (List.getElem_mem hqq)
          · rw [List.getD_eq_getElem?_getD, List.getElem?_append_right (by omega), show q + 1 - pre.length = 0 by omega]
            simp
        have := linG_le s i _ hm
        rw [hfr] at h4 h5
        omega
      · exact h
      · exfalso
        have hlt : q < (linA s).length := by omega
        have hm : (linA s).getD q 0 ∈ rest := by
          rw [hL] at hlt ⊢
          rw [List.getD_eq_getElem?_getD, List.getElem?_append_right (by omega), List.getElem?_append_right (by simp; omega)]
          simp only [List.length_append, List.length_cons, List.length_nil] at hlt ⊢
          rw [List.getElem?_eq_getElem (by omega)]
          exact List.getElem_mem _
        have := hgt _ hm
        rw [hfr] at h5
        omega
    have hf : frF s ((q : Int) + 1) = lastG s 10 i + 1 := by
      rw [hfr, hL, hq, List.getD_eq_getElem?_getD, List.getElem?_append_right (Nat.le_refl _)]
      simp
    rw [hf] at h5
    exact ⟨by omega, by omega⟩
theorem off_in {s : List UInt8} {k c : Int} (h : offOk s k c) : 0 ≤ frF s k + c - 1 ∧ frF s k + c - 1 ≤ s.length := by
  obtain ⟨⟨h1, h2⟩, h3, h4⟩ := h
  have hf : 0 ≤ frF s k := by
    unfold frF
    have : (k - 1).toNat < (linA s).length := by omega
    rw [List.getD_eq_getElem?_getD, List.getElem?_eq_getElem this]
    exact (linG_le s _ _ (List.getElem_mem this)).1
  have ht : toF s k ≤ s.length := by
    unfold toF
    split
    · omega
    · have : k.toNat < (linA s).length := by omega
      rw [List.getD_eq_getElem?_getD, List.getElem?_eq_getElem this]
      exact (linG_le s _ _ (List.getElem_mem this)).2
  refine ⟨by omega, ?_⟩
  split at h4
  · omega
  · omega
end Go.Proofs.Ytiibbkbcebccnaa

/- Texts: suffixes; bounds, Offset. -/
namespace Go.Proofs.Ytiibbkbcebccnaa
open Go Go.Ax Go.RowKit
set_option maxRecDepth 100000
set_option linter.unusedSimpArgs false
set_option linter.unusedVariables false

/-- A text ends with this byte. -/
def sufB (t : List UInt8) (c : UInt8) : Bool := match t.getLast? with | some d => decide (d = c) | none => false
theorem sufB_nil (c : UInt8) : sufB [] c = false := rfl
theorem sufB_snoc (u : List UInt8) (d c : UInt8) : sufB (u ++ [d]) c = decide (d = c) := by simp [sufB]
theorem snoc_cases (t : List UInt8) : t = [] ∨ ∃ u d, t = u ++ [d] := by
  cases h : t.reverse with
  | nil => exact .inl (List.reverse_eq_nil_iff.1 h)
  | cons d r =>
    refine .inr ⟨r.reverse, d, ?_⟩
    have := congrArg List.reverse h
    simpa using this
theorem hasC (t : List UInt8) (c : UInt8) (ht : t.length ≤ 1000000) (H : AHeap) : Comp' 52 [str t, str [c]] H (bool (sufB t c)) := by
  refine enter Try.func52 L52_ok (Nat.le_of_ble_eq_true rfl) ?_
  rcases snoc_cases t with rfl | ⟨u, d, rfl⟩
  · rw [sufB_nil]
    repeat' (first | (refine And.intro (by omega) ?_) | simp -implicitDefEqProofs (disch := omega) only [L52, dT_lt, dF_lt, dT_le, dF_le, dT_eq, dF_eq, push_cast, ↓reduceIte, Nat.reduceEqDiff, reduceCtorEq, Nat.reduceAdd, Nat.reduceSub, Nat.reduceMul, Nat.reduceLeDiff, Nat.reduceLT, Nat.reduceMod, Nat.reduceDiv, Int.reduceToNat, Int.reduceLT, Int.reduceLE, Int.reduceEq, Int.reduceAdd, Int.reduceSub, Int.reduceNeg, Int.reduceMul, Bool.and_self] | split)
  · rw [sufB_snoc]
    have e5 : ((u.length : Int) + 1 - 1).toNat = u.length := by omega
    have e6 : List.take (u.length + 1 - u.length) (List.drop u.length (u ++ [d])) = [d] := by simp
    have hu : u.length + 1 ≤ 1000000 := by simpa using ht
    repeat' (first | (refine And.intro (by omega) ?_) | simp -implicitDefEqProofs (disch := omega) only [L52, e5, e6, dT_lt, dF_lt, dT_le, dF_le, dT_eq, dF_eq, push_cast, ↓reduceIte, Nat.reduceEqDiff, reduceCtorEq, Nat.reduceAdd, Nat.reduceSub, Nat.reduceMul, Nat.reduceLeDiff, Nat.reduceLT, Nat.reduceMod, Nat.reduceDiv, Int.reduceToNat, Int.reduceLT, Int.reduceLE, Int.reduceEq, Int.reduceAdd, Int.reduceSub, Int.reduceNeg, Int.reduceMul, Bool.and_self] | split)
    by_cases hd : d = c
    · subst hd; simp
    · simp [hd]
theorem cutC (t : List UInt8) (c : UInt8) (ht : t.length ≤ 1000000) (H : AHeap) : Comp' 47 [str t, str [c]] H (.tup [str (if sufB t c then t.dropLast else t), bool (sufB t c)]) := by
  refine enter Try.func47 L47_ok (Nat.le_of_ble_eq_true rfl) ?_
  have c1 := fun H => hasC t c ht H
  by_cases hb : sufB t c = true
  · rw [hb] at c1 ⊢
    rcases snoc_cases t with rfl | ⟨u, d, rfl⟩
    · rw [sufB_nil] at hb; cases hb
    · have hu : u.length + 1 ≤ 1000000 := by simpa using ht
      have e5 : ((u.length : Int) + 1 - 1).toNat = u.length := by omega
      have e6 : List.take u.length (u ++ [d]) = u := by simp
      have e7 : (u ++ [d]).dropLast = u := by simp
      repeat' (first | (refine And.intro (by omega) ?_) | (refine callF_pure (c1 _) ?_) | (refine callQF_pure (c1 _) (by first | rfl | simp -implicitDefEqProofs (disch := omega) only [L47, e5, e6, e7, Nat.sub_zero, if_true, dT_lt, dF_lt, dT_le, dF_le, dT_eq, dF_eq, push_cast, ↓reduceIte, Nat.reduceEqDiff, reduceCtorEq, Nat.reduceAdd, Nat.reduceSub, Nat.reduceMul, Nat.reduceLeDiff, Nat.reduceLT, Nat.reduceMod, Nat.reduceDiv, Int.reduceToNat, Int.reduceLT, Int.reduceLE, Int.reduceEq, Int.reduceAdd, Int.reduceSub, Int.reduceNeg, Int.reduceMul, Bool.and_self]) ?_) | simp -implicitDefEqProofs (disch := omega) only [L47, e5, e6, e7, Nat.sub_zero, if_true, dT_lt, dF_lt, dT_le, dF_le, dT_eq, dF_eq, push_cast, ↓reduceIte, Nat.reduceEqDiff, reduceCtorEq, Nat.reduceAdd, Nat.reduceSub, Nat.reduceMul, Nat.reduceLeDiff, Nat.reduceLT, Nat.reduceMod, Nat.reduceDiv, Int.reduceToNat, Int.reduceLT, Int.reduceLE, Int.reduceEq, Int.reduceAdd, Int.reduceSub, Int.reduceNeg, Int.reduceMul, Bool.and_self] | split)
      omega
  · rw [Bool.not_eq_true] at hb
    rw [hb] at c1 ⊢
    repeat' (first | (refine And.intro (by omega) ?_) | (refine callF_pure (c1 _) ?_) | (refine callQF_pure (c1 _) (by first | rfl | simp -implicitDefEqProofs (disch := omega) only [L47, dT_lt, dF_lt, dT_le, dF_le, dT_eq, dF_eq, push_cast, ↓reduceIte, Nat.reduceEqDiff, reduceCtorEq, Nat.reduceAdd, Nat.reduceSub, Nat.reduceMul, Nat.reduceLeDiff, Nat.reduceLT, Nat.reduceMod, Nat.reduceDiv, Int.reduceToNat, Int.reduceLT, Int.reduceLE, Int.reduceEq, Int.reduceAdd, Int.reduceSub, Int.reduceNeg, Int.reduceMul, Bool.and_self]) ?_) | simp -implicitDefEqProofs (disch := omega) only [L47, dT_lt, dF_lt, dT_le, dF_le, dT_eq, dF_eq, push_cast, ↓reduceIte, Nat.reduceEqDiff, reduceCtorEq, Nat.reduceAdd, Nat.reduceSub, Nat.reduceMul, Nat.reduceLeDiff, Nat.reduceLT, Nat.reduceMod, Nat.reduceDiv, Int.reduceToNat, Int.reduceLT, Int.reduceLE, Int.reduceEq, Int.reduceAdd, Int.reduceSub, Int.reduceNeg, Int.reduceMul, Bool.and_self] | split)
theorem cutS (t : List UInt8) (c : UInt8) (ht : t.length ≤ 1000000) (H : AHeap) : Comp' 39 [str t, str [c]] H (.tup [str (if sufB t c then t.dropLast else t), bool (sufB t c)]) := by
  refine enter Try.func39 L39_ok (Nat.le_of_ble_eq_true rfl) ?_
  have c1 := fun H => cutC t c ht H
  generalize (if sufB t c then t.dropLast else t) = x at *
  repeat' (first | (refine And.intro (by omega) ?_) | (refine callF_pure (c1 _) ?_) | (refine callQF_pure (c1 _) (by first | rfl | simp -implicitDefEqProofs (disch := omega) only [L39, dT_lt, dF_lt, dT_le, dF_le, dT_eq, dF_eq, push_cast, ↓reduceIte, Nat.reduceEqDiff, reduceCtorEq, Nat.reduceAdd, Nat.reduceSub, Nat.reduceMul, Nat.reduceLeDiff, Nat.reduceLT, Nat.reduceMod, Nat.reduceDiv, Int.reduceToNat, Int.reduceLT, Int.reduceLE, Int.reduceEq, Int.reduceAdd, Int.reduceSub, Int.reduceNeg, Int.reduceMul, Bool.and_self]) ?_) | simp -implicitDefEqProofs (disch := omega) only [L39, dT_lt, dF_lt, dT_le, dF_le, dT_eq, dF_eq, push_cast, ↓reduceIte, Nat.reduceEqDiff, reduceCtorEq, Nat.reduceAdd, Nat.reduceSub, Nat.reduceMul, Nat.reduceLeDiff, Nat.reduceLT, Nat.reduceMod, Nat.reduceDiv, Int.reduceToNat, Int.reduceLT, Int.reduceLE, Int.reduceEq, Int.reduceAdd, Int.reduceSub, Int.reduceNeg, Int.reduceMul, Bool.and_self] | split)
theorem trimC (t : List UInt8) (c : UInt8) (ht : t.length ≤ 1000000) (H : AHeap) : Comp' 48 [str t, str [c]] H (str (if sufB t c then t.dropLast else t)) := by
  refine enter Try.func48 L48_ok (Nat.le_of_ble_eq_true rfl) ?_
  have c1 := fun H => hasC t c ht H
  by_cases hb : sufB t c = true
  · rw [hb] at c1 ⊢
    rcases snoc_cases t with rfl | ⟨u, d, rfl⟩
    · rw [sufB_nil] at hb; cases hb
    · have hu : u.length + 1 ≤ 1000000 := by simpa using ht
      have e5 : ((u.length : Int) + 1 - 1).toNat = u.length := by omega
      have e6 : List.take u.length (u ++ [d]) = u := by simp
      have e7 : (u ++ [d]).dropLast = u := by simp
      repeat' (first | (refine And.intro (by omega) ?_) | (refine callF_pure (c1 _) ?_) | (refine callQF_pure (c1 _) (by first | rfl | simp -implicitDefEqProofs (disch := omega) only [L48, e5, e6, e7, Nat.sub_zero, if_true, dT_lt, dF_lt, dT_le, dF_le, dT_eq, dF_eq, push_cast, ↓reduceIte, Nat.reduceEqDiff, reduceCtorEq, Nat.reduceAdd, Nat.reduceSub, Nat.reduceMul, Nat.reduceLeDiff, Nat.reduceLT, Nat.reduceMod, Nat.reduceDiv, Int.reduceToNat, Int.reduceLT, Int.reduceLE, Int.reduceEq, Int.reduceAdd, Int.reduceSub, Int.reduceNeg, Int.reduceMul, Bool.and_self]) ?_) | simp -implicitDefEqProofs (disch := omega) only [L48, e5, e6, e7, Nat.sub_zero, if_true, dT_lt, dF_lt, dT_le, dF_le, dT_eq, dF_eq, push_cast, ↓reduceIte, Nat.reduceEqDiff, reduceCtorEq, Nat.reduceAdd, Nat.reduceSub, Nat.reduceMul, Nat.reduceLeDiff, Nat.reduceLT, Nat.reduceMod, Nat.reduceDiv, Int.reduceToNat, Int.reduceLT, Int.reduceLE, Int.reduceEq, Int.reduceAdd, Int.reduceSub, Int.reduceNeg, Int.reduceMul, Bool.and_self] | split)
      omega
  · rw [Bool.not_eq_true] at hb
    rw [hb] at c1 ⊢
    repeat' (first | (refine And.intro (by omega) ?_) | (refine callF_pure (c1 _) ?_) | (refine callQF_pure (c1 _) (by first | rfl | simp -implicitDefEqProofs (disch := omega) only [L48, dT_lt, dF_lt, dT_le, dF_le, dT_eq, dF_eq, push_cast, ↓reduceIte, Nat.reduceEqDiff, reduceCtorEq, Nat.reduceAdd, Nat.reduceSub, Nat.reduceMul, Nat.reduceLeDiff, Nat.reduceLT, Nat.reduceMod, Nat.reduceDiv, Int.reduceToNat, Int.reduceLT, Int.reduceLE, Int.reduceEq, Int.reduceAdd, Int.reduceSub, Int.reduceNeg, Int.reduceMul, Bool.and_self]) ?_) | simp -implicitDefEqProofs (disch := omega) only [L48, dT_lt, dF_lt, dT_le, dF_le, dT_eq, dF_eq, push_cast, ↓reduceIte, Nat.reduceEqDiff, reduceCtorEq, Nat.reduceAdd, Nat.reduceSub, Nat.reduceMul, Nat.reduceLeDiff, Nat.reduceLT, Nat.reduceMod, Nat.reduceDiv, Int.reduceToNat, Int.reduceLT, Int.reduceLE, Int.reduceEq, Int.reduceAdd, Int.reduceSub, Int.reduceNeg, Int.reduceMul, Bool.and_self] | split)
theorem trimS (t : List UInt8) (c : UInt8) (ht : t.length ≤ 1000000) (H : AHeap) : Comp' 40 [str t, str [c]] H (str (if sufB t c then t.dropLast else t)) := by
  refine enter Try.func40 L40_ok (Nat.le_of_ble_eq_true rfl) ?_
  have c1 := fun H => trimC t c ht H
  generalize (if sufB t c then t.dropLast else t) = x at *
  repeat' (first | (refine And.intro (by omega) ?_) | (refine callF_pure (c1 _) ?_) | (refine callQF_pure (c1 _) (by first | rfl | simp -implicitDefEqProofs (disch := omega) only [L40, dT_lt, dF_lt, dT_le, dF_le, dT_eq, dF_eq, push_cast, ↓reduceIte, Nat.reduceEqDiff, reduceCtorEq, Nat.reduceAdd, Nat.reduceSub, Nat.reduceMul, Nat.reduceLeDiff, Nat.reduceLT, Nat.reduceMod, Nat.reduceDiv, Int.reduceToNat, Int.reduceLT, Int.reduceLE, Int.reduceEq, Int.reduceAdd, Int.reduceSub, Int.reduceNeg, Int.reduceMul, Bool.and_self]) ?_) | simp -implicitDefEqProofs (disch := omega) only [L40, dT_lt, dF_lt, dT_le, dF_le, dT_eq, dF_eq, push_cast, ↓reduceIte, Nat.reduceEqDiff, reduceCtorEq, Nat.reduceAdd, Nat.reduceSub, Nat.reduceMul, Nat.reduceLeDiff, Nat.reduceLT, Nat.reduceMod, Nat.reduceDiv, Int.reduceToNat, Int.reduceLT, Int.reduceLE, Int.reduceEq, Int.reduceAdd, Int.reduceSub, Int.reduceNeg, Int.reduceMul, Bool.and_self] | split)

theorem boundsN (s : List UInt8) (k : Int) (hs : s.length ≤ 200) (h : ¬ lnOk s k) (H : AHeap) : Comp' 38 [str s, int k] H (.tup [int 0, int 0, bool false]) := by
  refine enter Try.func38 L38_ok (Nat.le_of_ble_eq_true rfl) ?_
  have c1 := fun H => linesT s (by omega) H
  have hl := linG_len s s.length
  unfold lnOk linA at h
  generalize linG s s.length = l at *
  by_cases h1 : k < 1
  · repeat' (first | (refine And.intro (by omega) ?_) | (refine callF_pure (c1 _) ?_) | (refine callQF_pure (c1 _) (by first | rfl | simp -implicitDefEqProofs (disch := omega) only [L38, dT_lt, dF_lt, dT_le, dF_le, dT_eq, dF_eq, push_cast, ↓reduceIte, Nat.reduceEqDiff, reduceCtorEq, Nat.reduceAdd, Nat.reduceSub, Nat.reduceMul, Nat.reduceLeDiff, Nat.reduceLT, Nat.reduceMod, Nat.reduceDiv, Int.reduceToNat, Int.reduceLT, Int.reduceLE, Int.reduceEq, Int.reduceAdd, Int.reduceSub, Int.reduceNeg, Int.reduceMul, Bool.and_self]) ?_) | simp -implicitDefEqProofs (disch := omega) only [L38, dT_lt, dF_lt, dT_le, dF_le, dT_eq, dF_eq, push_cast, ↓reduceIte, Nat.reduceEqDiff, reduceCtorEq, Nat.reduceAdd, Nat.reduceSub, Nat.reduceMul, Nat.reduceLeDiff, Nat.reduceLT, Nat.reduceMod, Nat.reduceDiv, Int.reduceToNat, Int.reduceLT, Int.reduceLE, Int.reduceEq, Int.reduceAdd, Int.reduceSub, Int.reduceNeg, Int.reduceMul, Bool.and_self] | split)
  · have h2 : (l.length : Int) < k := by omega
    repeat' (first | (refine And.intro (by omega) ?_) | (refine callF_pure (c1 _) ?_) | (refine callQF_pure (c1 _) (by first | rfl | simp -implicitDefEqProofs (disch := omega) only [L38, List.length_map, dT_lt, dF_lt, dT_le, dF_le, dT_eq, dF_eq, push_cast, ↓reduceIte, Nat.reduceEqDiff, reduceCtorEq, Nat.reduceAdd, Nat.reduceSub, Nat.reduceMul, Nat.reduceLeDiff, Nat.reduceLT, Nat.reduceMod, Nat.reduceDiv, Int.reduceToNat, Int.reduceLT, Int.reduceLE, Int.reduceEq, Int.reduceAdd, Int.reduceSub, Int.reduceNeg, Int.reduceMul, Bool.and_self]) ?_) | simp -implicitDefEqProofs (disch := omega) only [L38, List.length_map, dT_lt, dF_lt, dT_le, dF_le, dT_eq, dF_eq, push_cast, ↓reduceIte, Nat.reduceEqDiff, reduceCtorEq, Nat.reduceAdd, Nat.reduceSub, Nat.reduceMul, Nat.reduceLeDiff, Nat.reduceLT, Nat.reduceMod, Nat.reduceDiv, Int.reduceToNat, Int.reduceLT, Int.reduceLE, Int.reduceEq, Int.reduceAdd, Int.reduceSub, Int.reduceNeg, Int.reduceMul, Bool.and_self] | split)
theorem boundsY (s : List UInt8) (k : Int) (hs : s.length ≤ 200) (h : lnOk s k) (H : AHeap) : Comp' 38 [str s, int k] H (.tup [int (frF s k), int (toF s k), bool true]) := by
  refine enter Try.func38 L38_ok (Nat.le_of_ble_eq_true rfl) ?_
  have c1 := fun H => linesT s (by omega) H
  have hl := linG_len s s.length
  unfold frF toF
  unfold lnOk at h
  unfold linA at *
  generalize linG s s.length = l at *
  obtain ⟨q, rfl⟩ : ∃ q : Nat, k = (q : Int) + 1 := ⟨(k - 1).toNat, by omega⟩
  have hq : q < l.length := by omega
  have e1 : ((q : Int) + 1 - 1).toNat = q := by omega
  have e2 : ((q : Int) + 1).toNat = q + 1 := by omega
  rw [e1, e2]
  by_cases hm : (q : Int) + 1 = l.length
  · rw [if_pos hm]
    repeat' (first | (refine And.intro (by omega) ?_) | (refine callF_pure (c1 _) ?_) | (refine callQF_pure (c1 _) (by first | rfl | simp -implicitDefEqProofs (disch := omega) only [L38, List.length_map, e1, rows_getD, iR, dT_lt, dF_lt, dT_le, dF_le, dT_eq, dF_eq, push_cast, ↓reduceIte, Nat.reduceEqDiff, reduceCtorEq, Nat.reduceAdd, Nat.reduceSub, Nat.reduceMul, Nat.reduceLeDiff, Nat.reduceLT, Nat.reduceMod, Nat.reduceDiv, Int.reduceToNat, Int.reduceLT, Int.reduceLE, Int.reduceEq, Int.reduceAdd, Int.reduceSub, Int.reduceNeg, Int.reduceMul, Bool.and_self]) ?_) | simp -implicitDefEqProofs (disch := omega) only [L38, List.length_map, e1, rows_getD, iR, dT_lt, dF_lt, dT_le, dF_le, dT_eq, dF_eq, push_cast, ↓reduceIte, Nat.reduceEqDiff, reduceCtorEq, Nat.reduceAdd, Nat.reduceSub, Nat.reduceMul, Nat.reduceLeDiff, Nat.reduceLT, Nat.reduceMod, Nat.reduceDiv, Int.reduceToNat, Int.reduceLT, Int.reduceLE, Int.reduceEq, Int.reduceAdd, Int.reduceSub, Int.reduceNeg, Int.reduceMul, Bool.and_self] | split)
    rfl
  · rw [if_neg hm]
    repeat' (first | (refine And.intro (by omega) ?_) | (refine callF_pure (c1 _) ?_) | (refine callQF_pure (c1 _) (by first | rfl | simp -implicitDefEqProofs (disch := omega) only [L38, List.length_map, e1, e2, rows_getD, iR, dT_lt, dF_lt, dT_le, dF_le, dT_eq, dF_eq, push_cast, ↓reduceIte, Nat.reduceEqDiff, reduceCtorEq, Nat.reduceAdd, Nat.reduceSub, Nat.reduceMul, Nat.reduceLeDiff, Nat.reduceLT, Nat.reduceMod, Nat.reduceDiv, Int.reduceToNat, Int.reduceLT, Int.reduceLE, Int.reduceEq, Int.reduceAdd, Int.reduceSub, Int.reduceNeg, Int.reduceMul, Bool.and_self]) ?_) | simp -implicitDefEqProofs (disch := omega) only [L38, List.length_map, e1, e2, rows_getD, iR, dT_lt, dF_lt, dT_le, dF_le, dT_eq, dF_eq, push_cast, ↓reduceIte, Nat.reduceEqDiff, reduceCtorEq, Nat.reduceAdd, Nat.reduceSub, Nat.reduceMul, Nat.reduceLeDiff, Nat.reduceLT, Nat.reduceMod, Nat.reduceDiv, Int.reduceToNat, Int.reduceLT, Int.reduceLE, Int.reduceEq, Int.reduceAdd, Int.reduceSub, Int.reduceNeg, Int.reduceMul, Bool.and_self] | split)
    rfl
end Go.Proofs.Ytiibbkbcebccnaa

/- Texts: Offset, Line; the law TextPositions. -/
namespace Go.Proofs.Ytiibbkbcebccnaa
open Go Go.Ax Go.RowKit
set_option maxRecDepth 100000
set_option linter.unusedSimpArgs false
set_option linter.unusedVariables false

theorem linA_pos (s : List UInt8) : 1 ≤ (linA s).length := by
  obtain ⟨pre, h⟩ := linG_last s s.length
  unfold linA
  rw [h]
  simp
theorem ln_in {s : List UInt8} {k : Int} (h : lnOk s k) : 0 ≤ frF s k ∧ frF s k ≤ s.length ∧ 0 ≤ toF s k ∧ toF s k ≤ s.length := by
  obtain ⟨h1, h2⟩ := h
  have hf : 0 ≤ frF s k ∧ frF s k ≤ s.length := by
    unfold frF
    have : (k - 1).toNat < (linA s).length := by omega
    rw [List.getD_eq_getElem?_getD, List.getElem?_eq_getElem this]
    exact linG_le s _ _ (List.getElem_mem this)
  have ht : 0 ≤ toF s k ∧ toF s k ≤ s.length := by
    unfold toF
    split
    · omega
    · have : k.toNat < (linA s).length := by omega
      rw [List.getD_eq_getElem?_getD, List.getElem?_eq_getElem this]
      exact linG_le s _ _ (List.getElem_mem this)
  exact ⟨hf.1, hf.2, ht.1, ht.2⟩

theorem offTY (s : List UInt8) (k c : Int) (hs : s.length ≤ 200) (h : offOk s k c) (H : AHeap) : Comp' 22 [str s, int k, int c] H (.tup [int (frF s k + c - 1), bool true]) := by
  refine enter Try.func22 L22_ok (Nat.le_of_ble_eq_true rfl) ?_
  have c1 := fun H => linesT s (by omega) H
  have c2 := fun H => boundsY s k hs h.1 H
  have hn := ln_in h.1
  obtain ⟨⟨h1, h2⟩, h3, h4⟩ := h
  generalize frF s k = f at *
  generalize toF s k = t at *
  unfold linA at *
  generalize linG s s.length = l at *
  by_cases hm : k = l.length
  · rw [if_pos hm] at h4
    subst hm
    repeat' (first | (refine And.intro (by omega) ?_) | (refine callF_pure (c1 _) ?_) | (refine callF_pure (c2 _) ?_) | (refine callQF_pure (c1 _) (by first | rfl | simp -implicitDefEqProofs (disch := omega) only [L22, List.length_map, dT_lt, dF_lt, dT_le, dF_le, dT_eq, dF_eq, push_cast, ↓reduceIte, Nat.reduceEqDiff, reduceCtorEq, Nat.reduceAdd, Nat.reduceSub, Nat.reduceMul, Nat.reduceLeDiff, Nat.reduceLT, Nat.reduceMod, Nat.reduceDiv, Int.reduceToNat, Int.reduceLT, Int.reduceLE, Int.reduceEq, Int.reduceAdd, Int.reduceSub, Int.reduceNeg, Int.reduceMul, Bool.and_self]) ?_) | (refine callQF_pure (c2 _) (by first | rfl | simp -implicitDefEqProofs (disch := omega) only [L22, List.length_map, dT_lt, dF_lt, dT_le, dF_le, dT_eq, dF_eq, push_cast, ↓reduceIte, Nat.reduceEqDiff, reduceCtorEq, Nat.reduceAdd, Nat.reduceSub, Nat.reduceMul, Nat.reduceLeDiff, Nat.reduceLT, Nat.reduceMod, Nat.reduceDiv, Int.reduceToNat, Int.reduceLT, Int.reduceLE, Int.reduceEq, Int.reduceAdd, Int.reduceSub, Int.reduceNeg, Int.reduceMul, Bool.and_self]) ?_) | simp -implicitDefEqProofs (disch := omega) only [L22, List.length_map, dT_lt, dF_lt, dT_le, dF_le, dT_eq, dF_eq, push_cast, ↓reduceIte, Nat.reduceEqDiff, reduceCtorEq, Nat.reduceAdd, Nat.reduceSub, Nat.reduceMul, Nat.reduceLeDiff, Nat.reduceLT, Nat.reduceMod, Nat.reduceDiv, Int.reduceToNat, Int.reduceLT, Int.reduceLE, Int.reduceEq, Int.reduceAdd, Int.reduceSub, Int.reduceNeg, Int.reduceMul, Bool.and_self] | split)
  · rw [if_neg hm] at h4
    repeat' (first | (refine And.intro (by omega) ?_) | (refine callF_pure (c1 _) ?_) | (refine callF_pure (c2 _) ?_) | (refine callQF_pure (c1 _) (by first | rfl | simp -implicitDefEqProofs (disch := omega) only [L22, List.length_map, dT_lt, dF_lt, dT_le, dF_le, dT_eq, dF_eq, push_cast, ↓reduceIte, Nat.reduceEqDiff, reduceCtorEq, Nat.reduceAdd, Nat.reduceSub, Nat.reduceMul, Nat.reduceLeDiff, Nat.reduceLT, Nat.reduceMod, Nat.reduceDiv, Int.reduceToNat, Int.reduceLT, Int.reduceLE, Int.reduceEq, Int.reduceAdd, Int.reduceSub, Int.reduceNeg, Int.reduceMul, Bool.and_self]) ?_) | (refine callQF_pure (c2 _) (by first | rfl | simp -implicitDefEqProofs (disch := omega) only [L22, List.length_map, dT_lt, dF_lt, dT_le, dF_le, dT_eq, dF_eq, push_cast, ↓reduceIte, Nat.reduceEqDiff, reduceCtorEq, Nat.reduceAdd, Nat.reduceSub, Nat.reduceMul, Nat.reduceLeDiff, Nat.reduceLT, Nat.reduceMod, Nat.reduceDiv, Int.reduceToNat, Int.reduceLT, Int.reduceLE, Int.reduceEq, Int.reduceAdd, Int.reduceSub, Int.reduceNeg, Int.reduceMul, Bool.and_self]) ?_) | simp -implicitDefEqProofs (disch := omega) only [L22, List.length_map, dT_lt, dF_lt, dT_le, dF_le, dT_eq, dF_eq, push_cast, ↓reduceIte, Nat.reduceEqDiff, reduceCtorEq, Nat.reduceAdd, Nat.reduceSub, Nat.reduceMul, Nat.reduceLeDiff, Nat.reduceLT, Nat.reduceMod, Nat.reduceDiv, Int.reduceToNat, Int.reduceLT, Int.reduceLE, Int.reduceEq, Int.reduceAdd, Int.reduceSub, Int.reduceNeg, Int.reduceMul, Bool.and_self] | split)
theorem offTN (s : List UInt8) (k c : Int) (hs : s.length ≤ 200) (h : ¬ offOk s k c) (H : AHeap) : Comp' 22 [str s, int k, int c] H (.tup [int 0, bool false]) := by
  refine enter Try.func22 L22_ok (Nat.le_of_ble_eq_true rfl) ?_
  have c1 := fun H => linesT s (by omega) H
  have hp := linA_pos s
  by_cases hl : lnOk s k
  · have c2 := fun H => boundsY s k hs hl H
    have hn := ln_in hl
    have h4 : c < 1 ∨ (1 ≤ c ∧ (if k = (linA s).length then toF s k + 1 else toF s k) - frF s k < c) := by
      by_cases hc : c < 1
      · exact .inl hc
      · refine .inr ⟨by omega, Int.not_le.1 fun hh => h ⟨hl, by omega, hh⟩⟩
    clear h
    unfold lnOk at hl
    generalize frF s k = f at *
    generalize toF s k = t at *
    unfold linA at *
    generalize linG s s.length = l at *
    by_cases hm : k = l.length
    · simp only [if_pos hm] at h4
      subst hm
      rcases h4 with h4 | ⟨h5, h4⟩
      · repeat' (first | (refine And.intro (by omega) ?_) | (refine callF_pure (c1 _) ?_) | (refine callF_pure (c2 _) ?_) | (refine callQF_pure (c1 _) (by first | rfl | simp -implicitDefEqProofs (disch := omega) only [L22, List.length_map, dT_lt, dF_lt, dT_le, dF_le, dT_eq, dF_eq, push_cast, ↓reduceIte, Nat.reduceEqDiff, reduceCtorEq, Nat.reduceAdd, Nat.reduceSub, Nat.reduceMul, Nat.reduceLeDiff, Nat.reduceLT, Nat.reduceMod, Nat.reduceDiv, Int.reduceToNat, Int.reduceLT, Int.reduceLE, Int.reduceEq, Int.reduceAdd, Int.reduceSub, Int.reduceNeg, Int.reduceMul, Bool.and_self]) ?_) | (refine callQF_pure (c2 _) (by first | rfl | simp -implicitDefEqProofs (disch := omega) only [L22, List.length_map, dT_lt, dF_lt, dT_le, dF_le, dT_eq, dF_eq, push_cast, ↓reduceIte, Nat.reduceEqDiff, reduceCtorEq, Nat.reduceAdd, Nat.reduceSub, Nat.reduceMul, Nat.reduceLeDiff, Nat.reduceLT, Nat.reduceMod, Nat.reduceDiv, Int.reduceToNat, Int.reduceLT, Int.reduceLE, Int.reduceEq, Int.reduceAdd, Int.reduceSub, Int.reduceNeg, Int.reduceMul, Bool.and_self]) ?_) | simp -implicitDefEqProofs (disch := omega) only [L22, List.length_map, dT_lt, dF_lt, dT_le, dF_le, dT_eq, dF_eq, push_cast, ↓reduceIte, Nat.reduceEqDiff, reduceCtorEq, Nat.reduceAdd, Nat.reduceSub, Nat.reduceMul, Nat.reduceLeDiff, Nat.reduceLT, Nat.reduceMod, Nat.reduceDiv, Int.reduceToNat, Int.reduceLT, Int.reduceLE, Int.reduceEq, Int.reduceAdd, Int.reduceSub, Int.reduceNeg, Int.reduceMul, Bool.and_self] | split)
      · repeat' (first | (refine And.intro (by omega) ?_) | (refine callF_pure (c1 _) ?_) | (refine callF_pure (c2 _) ?_) | (refine callQF_pure (c1 _) (by first | rfl | simp -implicitDefEqProofs (disch := omega) only [L22, List.length_map, dT_lt, dF_lt, dT_le, dF_le, dT_eq, dF_eq, push_cast, ↓reduceIte, Nat.reduceEqDiff, reduceCtorEq, Nat.reduceAdd, Nat.reduceSub, Nat.reduceMul, Nat.reduceLeDiff, Nat.reduceLT, Nat.reduceMod, Nat.reduceDiv, Int.reduceToNat, Int.reduceLT, Int.reduceLE, Int.reduceEq, Int.reduceAdd, Int.reduceSub, Int.reduceNeg, Int.reduceMul, Bool.and_self]) ?_) | (refine callQF_pure (c2 _) (by first | rfl | simp -implicitDefEqProofs (disch := omega) only [L22, List.length_map, dT_lt, dF_lt, dT_le, dF_le, dT_eq, dF_eq, push_cast, ↓reduceIte, Nat.reduceEqDiff, reduceCtorEq, Nat.reduceAdd, Nat.reduceSub, Nat.reduceMul, Nat.reduceLeDiff, Nat.reduceLT, Nat.reduceMod, Nat.reduceDiv, Int.reduceToNat, Int.reduceLT, Int.reduceLE, Int.reduceEq, Int.reduceAdd, Int.reduceSub, Int.reduceNeg, Int.reduceMul, Bool.and_self]) ?_) | simp -implicitDefEqProofs (disch := omega) only [L22, List.length_map, dT_lt, dF_lt, dT_le, dF_le, dT_eq, dF_eq, push_cast, ↓reduceIte, Nat.reduceEqDiff, reduceCtorEq, Nat.reduceAdd, Nat.reduceSub, Nat.reduceMul, Nat.reduceLeDiff, Nat.reduceLT, Nat.reduceMod, Nat.reduceDiv, Int.reduceToNat, Int.reduceLT, Int.reduceLE, Int.reduceEq, Int.reduceAdd, Int.reduceSub, Int.reduceNeg, Int.reduceMul, Bool.and_self] | split)
    · simp only [if_neg hm] at h4
      rcases h4 with h4 | ⟨h5, h4⟩
      · repeat' (first | (refine And.intro (by omega) ?_) | (refine callF_pure (c1 _) ?_) | (refine callF_pure (c2 _) ?_) | (refine callQF_pure (c1 _) (by first | rfl | simp -implicitDefEqProofs (disch := omega) only [L22, List.length_map, dT_lt, dF_lt, dT_le, dF_le, dT_eq, dF_eq, push_cast, ↓reduceIte, Nat.reduceEqDiff, reduceCtorEq, Nat.reduceAdd, Nat.reduceSub, Nat.reduceMul, Nat.reduceLeDiff, Nat.reduceLT, Nat.reduceMod, Nat.reduceDiv, Int.reduceToNat, Int.reduceLT, Int.reduceLE, Int.reduceEq, Int.reduceAdd, Int.reduceSub, Int.reduceNeg, Int.reduceMul, Bool.and_self]) ?_) | (refine callQF_pure (c2 _) (by first | rfl | simp -implicitDefEqProofs (disch := omega) only [L22, List.length_map, dT_lt, dF_lt, dT_le, dF_le, dT_eq, dF_eq, push_cast, ↓reduceIte, Nat.reduceEqDiff, reduceCtorEq, Nat.reduceAdd, Nat.reduceSub, Nat.reduceMul, Nat.reduceLeDiff, Nat.reduceLT, Nat.reduceMod, Nat.reduceDiv, Int.reduceToNat, Int.reduceLT, Int.reduceLE, Int.reduceEq, Int.reduceAdd, Int.reduceSub, Int.reduceNeg, Int.reduceMul, Bool.and_self]) ?_) | simp -implicitDefEqProofs (disch := omega) only [L22, List.length_map, dT_lt, dF_lt, dT_le, dF_le, dT_eq, dF_eq, push_cast, ↓reduceIte, Nat.reduceEqDiff, reduceCtorEq, Nat.reduceAdd, Nat.reduceSub, Nat.reduceMul, Nat.reduceLeDiff, Nat.reduceLT, Nat.reduceMod, Nat.reduceDiv, Int.reduceToNat, Int.reduceLT, Int.reduceLE, Int.reduceEq, Int.reduceAdd, Int.reduceSub, Int.reduceNeg, Int.reduceMul, Bool.and_self] | split)
      · repeat' (first | (refine And.intro (by omega) ?_) | (refine callF_pure (c1 _) ?_) | (refine callF_pure (c2 _) ?_) | (refine callQF_pure (c1 _) (by first | rfl | simp -implicitDefEqProofs (disch := omega) only [L22, List.length_map, dT_lt, dF_lt, dT_le, dF_le, dT_eq, dF_eq, push_cast, ↓reduceIte, Nat.reduceEqDiff, reduceCtorEq, Nat.reduceAdd, Nat.reduceSub, Nat.reduceMul, Nat.reduceLeDiff, Nat.reduceLT, Nat.reduceMod, Nat.reduceDiv, Int.reduceToNat, Int.reduceLT, Int.reduceLE, Int.reduceEq, Int.reduceAdd, Int.reduceSub, Int.reduceNeg, Int.reduceMul, Bool.and_self]) ?_) | (refine callQF_pure (c2 _) (by first | rfl | simp -implicitDefEqProofs (disch := omega) only [L22, List.length_map, dT_lt, dF_lt, dT_le, dF_le, dT_eq, dF_eq, push_cast, ↓reduceIte, Nat.reduceEqDiff, reduceCtorEq, Nat.reduceAdd, Nat.reduceSub, Nat.reduceMul, Nat.reduceLeDiff, Nat.reduceLT, Nat.reduceMod, Nat.reduceDiv, Int.reduceToNat, Int.reduceLT, Int.reduceLE, Int.reduceEq, Int.reduceAdd, Int.reduceSub, Int.reduceNeg, Int.reduceMul, Bool.and_self]) ?_) | simp -implicitDefEqProofs (disch := omega) only [L22, List.length_map, dT_lt, dF_lt, dT_le, dF_le, dT_eq, dF_eq, push_cast, ↓reduceIte, Nat.reduceEqDiff, reduceCtorEq, Nat.reduceAdd, Nat.reduceSub, Nat.reduceMul, Nat.reduceLeDiff, Nat.reduceLT, Nat.reduceMod, Nat.reduceDiv, Int.reduceToNat, Int.reduceLT, Int.reduceLE, Int.reduceEq, Int.reduceAdd, Int.reduceSub, Int.reduceNeg, Int.reduceMul, Bool.and_self] | split)
  · have c2 := fun H => boundsN s k hs hl H
    unfold lnOk at hl
    unfold linA at *
    generalize linG s s.length = l at *
    have hm : ¬ k = l.length := by omega
    repeat' (first | (refine And.intro (by omega) ?_) | (refine callF_pure (c1 _) ?_) | (refine callF_pure (c2 _) ?_) | (refine callQF_pure (c1 _) (by first | rfl | simp -implicitDefEqProofs (disch := omega) only [L22, List.length_map, dT_lt, dF_lt, dT_le, dF_le, dT_eq, dF_eq, push_cast, ↓reduceIte, Nat.reduceEqDiff, reduceCtorEq, Nat.reduceAdd, Nat.reduceSub, Nat.reduceMul, Nat.reduceLeDiff, Nat.reduceLT, Nat.reduceMod, Nat.reduceDiv, Int.reduceToNat, Int.reduceLT, Int.reduceLE, Int.reduceEq, Int.reduceAdd, Int.reduceSub, Int.reduceNeg, Int.reduceMul, Bool.and_self]) ?_) | (refine callQF_pure (c2 _) (by first | rfl | simp -implicitDefEqProofs (disch := omega) only [L22, List.length_map, dT_lt, dF_lt, dT_le, dF_le, dT_eq, dF_eq, push_cast, ↓reduceIte, Nat.reduceEqDiff, reduceCtorEq, Nat.reduceAdd, Nat.reduceSub, Nat.reduceMul, Nat.reduceLeDiff, Nat.reduceLT, Nat.reduceMod, Nat.reduceDiv, Int.reduceToNat, Int.reduceLT, Int.reduceLE, Int.reduceEq, Int.reduceAdd, Int.reduceSub, Int.reduceNeg, Int.reduceMul, Bool.and_self]) ?_) | simp -implicitDefEqProofs (disch := omega) only [L22, List.length_map, dT_lt, dF_lt, dT_le, dF_le, dT_eq, dF_eq, push_cast, ↓reduceIte, Nat.reduceEqDiff, reduceCtorEq, Nat.reduceAdd, Nat.reduceSub, Nat.reduceMul, Nat.reduceLeDiff, Nat.reduceLT, Nat.reduceMod, Nat.reduceDiv, Int.reduceToNat, Int.reduceLT, Int.reduceLE, Int.reduceEq, Int.reduceAdd, Int.reduceSub, Int.reduceNeg, Int.reduceMul, Bool.and_self] | split)
#print axioms offTN

theorem offRY (s : List UInt8) (k c : Int) (hs : s.length ≤ 200) (h : offOk s k c) (H : AHeap) : Comp' 23 [str s, int k, int c] H (.tup [int (frF s k + c - 1), bool true]) := by
  refine enter Try.func23 L23_ok (Nat.le_of_ble_eq_true rfl) ?_
  obtain ⟨i1, i2⟩ := off_in h
  obtain ⟨m, hm⟩ : ∃ m : Nat, frF s k + c - 1 = m := ⟨(frF s k + c - 1).toNat, by omega⟩
  rw [hm] at i2 ⊢
  have c1 := fun (j : Nat) H => posR s j (by omega) H
  repeat' (first | (refine And.intro (by omega) ?_) | simp -implicitDefEqProofs (disch := omega) only [L23, dT_lt, dF_lt, dT_le, dF_le, dT_eq, dF_eq, push_cast, ↓reduceIte, Nat.reduceEqDiff, reduceCtorEq, Nat.reduceAdd, Nat.reduceSub, Nat.reduceMul, Nat.reduceLeDiff, Nat.reduceLT, Nat.reduceMod, Nat.reduceDiv, Int.reduceToNat, Int.reduceLT, Int.reduceLE, Int.reduceEq, Int.reduceAdd, Int.reduceSub, Int.reduceNeg, Int.reduceMul, Bool.and_self] | split)
  refine rk_loopS (fun (j : Nat) e' H' => e' 0 = str s ∧ e' 1 = int k ∧ e' 2 = int c ∧ e' 8 = int j ∧ H = H' ∧ j ≤ m) (fun j => m + 1 - j) 0 ?_ ?_
  · exact ⟨rfl, rfl, rfl, rfl, rfl, Nat.zero_le _⟩
  rintro j e' H' ⟨h0, h1, h2, h8, rfl, hj⟩
  have hiff := pos_iff (s := s) (i := j) (by omega) k c
  by_cases hjm : j = m
  · subst hjm
    have hp := hiff.2 ⟨h, by omega⟩
    have c2 := fun H => c1 j H
    rw [hp] at c2
    repeat' (first | (refine And.intro (by omega) ?_) | (refine callF_pure (c2 _) ?_) | (refine callQF_pure (c2 _) (by first | rfl | simp -implicitDefEqProofs (disch := omega) only [h0, h1, h2, h8, dT_lt, dF_lt, dT_le, dF_le, dT_eq, dF_eq, push_cast, ↓reduceIte, Nat.reduceEqDiff, reduceCtorEq, Nat.reduceAdd, Nat.reduceSub, Nat.reduceMul, Nat.reduceLeDiff, Nat.reduceLT, Nat.reduceMod, Nat.reduceDiv, Int.reduceToNat, Int.reduceLT, Int.reduceLE, Int.reduceEq, Int.reduceAdd, Int.reduceSub, Int.reduceNeg, Int.reduceMul, Bool.and_self]) ?_) | simp -implicitDefEqProofs (disch := omega) only [h0, h1, h2, h8, dT_lt, dF_lt, dT_le, dF_le, dT_eq, dF_eq, push_cast, ↓reduceIte, Nat.reduceEqDiff, reduceCtorEq, Nat.reduceAdd, Nat.reduceSub, Nat.reduceMul, Nat.reduceLeDiff, Nat.reduceLT, Nat.reduceMod, Nat.reduceDiv, Int.reduceToNat, Int.reduceLT, Int.reduceLE, Int.reduceEq, Int.reduceAdd, Int.reduceSub, Int.reduceNeg, Int.reduceMul, Bool.and_self] | split)
  · have hp : ¬ posF s j = (k, c) := fun hh => hjm (by have := (hiff.1 hh).2; omega)
    have c2 := fun H => c1 j H
    generalize posF s j = p at *
    obtain ⟨p1, p2⟩ := p
    simp only at c2
    have hq : ¬ p1 = k ∨ (p1 = k ∧ ¬ p2 = c) := by
      by_cases e1 : p1 = k
      · exact .inr ⟨e1, fun e2 => hp (by rw [e1, e2])⟩
      · exact .inl e1
    rcases hq with e1 | ⟨e1, e2⟩
    · repeat' (first | (refine And.intro (by omega) ?_) | (refine callF_pure (c2 _) ?_) | (refine callQF_pure (c2 _) (by first | rfl | simp -implicitDefEqProofs (disch := omega) only [h0, h1, h2, h8, dT_lt, dF_lt, dT_le, dF_le, dT_eq, dF_eq, push_cast, ↓reduceIte, Nat.reduceEqDiff, reduceCtorEq, Nat.reduceAdd, Nat.reduceSub, Nat.reduceMul, Nat.reduceLeDiff, Nat.reduceLT, Nat.reduceMod, Nat.reduceDiv, Int.reduceToNat, Int.reduceLT, Int.reduceLE, Int.reduceEq, Int.reduceAdd, Int.reduceSub, Int.reduceNeg, Int.reduceMul, Bool.and_self]) ?_) | simp -implicitDefEqProofs (disch := omega) only [h0, h1, h2, h8, dT_lt, dF_lt, dT_le, dF_le, dT_eq, dF_eq, push_cast, ↓reduceIte, Nat.reduceEqDiff, reduceCtorEq, Nat.reduceAdd, Nat.reduceSub, Nat.reduceMul, Nat.reduceLeDiff, Nat.reduceLT, Nat.reduceMod, Nat.reduceDiv, Int.reduceToNat, Int.reduceLT, Int.reduceLE, Int.reduceEq, Int.reduceAdd, Int.reduceSub, Int.reduceNeg, Int.reduceMul, Bool.and_self] | split)
      exact .mk (j + 1) ⟨h0, h1, h2, rfl, rfl, by omega⟩ (by omega)
    · subst e1
      repeat' (first | (refine And.intro (by omega) ?_) | (refine callF_pure (c2 _) ?_) | (refine callQF_pure (c2 _) (by first | rfl | simp -implicitDefEqProofs (disch := omega) only [h0, h1, h2, h8, dT_lt, dF_lt, dT_le, dF_le, dT_eq, dF_eq, push_cast, ↓reduceIte, Nat.reduceEqDiff, reduceCtorEq, Nat.reduceAdd, Nat.reduceSub, Nat.reduceMul, Nat.reduceLeDiff, Nat.reduceLT, Nat.reduceMod, Nat.reduceDiv, Int.reduceToNat, Int.reduceLT, Int.reduceLE, Int.reduceEq, Int.reduceAdd, Int.reduceSub, Int.reduceNeg, Int.reduceMul, Bool.and_self]) ?_) | simp -implicitDefEqProofs (disch := omega) only [h0, h1, h2, h8, dT_lt, dF_lt, dT_le, dF_le, dT_eq, dF_eq, push_cast, ↓reduceIte, Nat.reduceEqDiff, reduceCtorEq, Nat.reduceAdd, Nat.reduceSub, Nat.reduceMul, Nat.reduceLeDiff, Nat.reduceLT, Nat.reduceMod, Nat.reduceDiv, Int.reduceToNat, Int.reduceLT, Int.reduceLE, Int.reduceEq, Int.reduceAdd, Int.reduceSub, Int.reduceNeg, Int.reduceMul, Bool.and_self] | split)
      exact .mk (j + 1) ⟨h0, h1, h2, rfl, rfl, by omega⟩ (by omega)
theorem offRN (s : List UInt8) (k c : Int) (hs : s.length ≤ 200) (h : ¬ offOk s k c) (H : AHeap) : Comp' 23 [str s, int k, int c] H (.tup [int 0, bool false]) := by
  refine enter Try.func23 L23_ok (Nat.le_of_ble_eq_true rfl) ?_
  have c1 := fun (j : Nat) H => posR s j (by omega) H
  repeat' (first | (refine And.intro (by omega) ?_) | simp -implicitDefEqProofs (disch := omega) only [L23, dT_lt, dF_lt, dT_le, dF_le, dT_eq, dF_eq, push_cast, ↓reduceIte, Nat.reduceEqDiff, reduceCtorEq, Nat.reduceAdd, Nat.reduceSub, Nat.reduceMul, Nat.reduceLeDiff, Nat.reduceLT, Nat.reduceMod, Nat.reduceDiv, Int.reduceToNat, Int.reduceLT, Int.reduceLE, Int.reduceEq, Int.reduceAdd, Int.reduceSub, Int.reduceNeg, Int.reduceMul, Bool.and_self] | split)
  refine rk_loopS (fun (j : Nat) e' H' => e' 0 = str s ∧ e' 1 = int k ∧ e' 2 = int c ∧ e' 8 = int j ∧ H = H' ∧ j ≤ s.length + 1) (fun j => s.length + 1 - j) 0 ?_ ?_
  · exact ⟨rfl, rfl, rfl, rfl, rfl, Nat.zero_le _⟩
  rintro j e' H' ⟨h0, h1, h2, h8, rfl, hj⟩
  by_cases hjm : j ≤ s.length
  · have hiff := pos_iff (s := s) (i := j) hjm k c
    have hp : ¬ posF s j = (k, c) := fun hh => h (hiff.1 hh).1
    have c2 := fun H => c1 j H
    generalize posF s j = p at *
    obtain ⟨p1, p2⟩ := p
    simp only at c2
    have hq : ¬ p1 = k ∨ (p1 = k ∧ ¬ p2 = c) := by
      by_cases e1 : p1 = k
      · exact .inr ⟨e1, fun e2 => hp (by rw [e1, e2])⟩
      · exact .inl e1
    rcases hq with e1 | ⟨e1, e2⟩
    · repeat' (first | (refine And.intro (by omega) ?_) | (refine callF_pure (c2 _) ?_) | (refine callQF_pure (c2 _) (by first | rfl | simp -implicitDefEqProofs (disch := omega) only [h0, h1, h2, h8, dT_lt, dF_lt, dT_le, dF_le, dT_eq, dF_eq, push_cast, ↓reduceIte, Nat.reduceEqDiff, reduceCtorEq, Nat.reduceAdd, Nat.reduceSub, Nat.reduceMul, Nat.reduceLeDiff, Nat.reduceLT, Nat.reduceMod, Nat.reduceDiv, Int.reduceToNat, Int.reduceLT, Int.reduceLE, Int.reduceEq, Int.reduceAdd, Int.reduceSub, Int.reduceNeg, Int.reduceMul, Bool.and_self]) ?_) | simp -implicitDefEqProofs (disch := omega) only [h0, h1, h2, h8, dT_lt, dF_lt, dT_le, dF_le, dT_eq, dF_eq, push_cast, ↓reduceIte, Nat.reduceEqDiff, reduceCtorEq, Nat.reduceAdd, Nat.reduceSub, Nat.reduceMul, Nat.reduceLeDiff, Nat.reduceLT, Nat.reduceMod, Nat.reduceDiv, Int.reduceToNat, Int.reduceLT, Int.reduceLE, Int.reduceEq, Int.reduceAdd, Int.reduceSub, Int.reduceNeg, Int.reduceMul, Bool.and_self] | split)
      exact .mk (j + 1) ⟨h0, h1, h2, rfl, rfl, by omega⟩ (by omega)
    · subst e1
      repeat' (first | (refine And.intro (by omega) ?_) | (refine callF_pure (c2 _) ?_) | (refine callQF_pure (c2 _) (by first | rfl | simp -implicitDefEqProofs (disch := omega) only [h0, h1, h2, h8, dT_lt, dF_lt, dT_le, dF_le, dT_eq, dF_eq, push_cast, ↓reduceIte, Nat.reduceEqDiff, reduceCtorEq, Nat.reduceAdd, Nat.reduceSub, Nat.reduceMul, Nat.reduceLeDiff, Nat.reduceLT, Nat.reduceMod, Nat.reduceDiv, Int.reduceToNat, Int.reduceLT, Int.reduceLE, Int.reduceEq, Int.reduceAdd, Int.reduceSub, Int.reduceNeg, Int.reduceMul, Bool.and_self]) ?_) | simp -implicitDefEqProofs (disch := omega) only [h0, h1, h2, h8, dT_lt, dF_lt, dT_le, dF_le, dT_eq, dF_eq, push_cast, ↓reduceIte, Nat.reduceEqDiff, reduceCtorEq, Nat.reduceAdd, Nat.reduceSub, Nat.reduceMul, Nat.reduceLeDiff, Nat.reduceLT, Nat.reduceMod, Nat.reduceDiv, Int.reduceToNat, Int.reduceLT, Int.reduceLE, Int.reduceEq, Int.reduceAdd, Int.reduceSub, Int.reduceNeg, Int.reduceMul, Bool.and_self] | split)
      exact .mk (j + 1) ⟨h0, h1, h2, rfl, rfl, by omega⟩ (by omega)
  · repeat' (first | (refine And.intro (by omega) ?_) | simp -implicitDefEqProofs (disch := omega) only [h0, h1, h2, h8, dT_lt, dF_lt, dT_le, dF_le, dT_eq, dF_eq, push_cast, ↓reduceIte, Nat.reduceEqDiff, reduceCtorEq, Nat.reduceAdd, Nat.reduceSub, Nat.reduceMul, Nat.reduceLeDiff, Nat.reduceLT, Nat.reduceMod, Nat.reduceDiv, Int.reduceToNat, Int.reduceLT, Int.reduceLE, Int.reduceEq, Int.reduceAdd, Int.reduceSub, Int.reduceNeg, Int.reduceMul, Bool.and_self] | split)
#print axioms offRN
end Go.Proofs.Ytiibbkbcebccnaa

/- Texts: Line; the law TextPositions. -/
namespace Go.Proofs.Ytiibbkbcebccnaa
open Go Go.Ax Go.RowKit
set_option maxRecDepth 100000
set_option linter.unusedSimpArgs false
set_option linter.unusedVariables false

/-- Bytes from f up to t. -/
def cutF (s : List UInt8) (f t : Nat) : List UInt8 := (s.drop f).take (t - f)
theorem cutF_snoc {s : List UInt8} {f i : Nat} (h : f ≤ i) (hi : i < s.length) : cutF s f (i + 1) = cutF s f i ++ [s.getD i 0] := by
  unfold cutF
  rw [show i + 1 - f = (i - f) + 1 by omega, take_snoc (by rw [List.length_drop]; omega)]
  congr 2
  rw [List.getD_eq_getElem?_getD, List.getElem?_drop, show f + (i - f) = i by omega, List.getD_eq_getElem?_getD]
  rfl
theorem cutF_nil (s : List UInt8) (f : Nat) : cutF s f f = [] := by simp [cutF]
/-- The end of a line's bytes, before its line feed i. -/
def cr (s : List UInt8) (f i : Nat) : Nat := if f < i ∧ s.getD (i - 1) 0 = 13 then i - 1 else i
theorem cut_cr {s : List UInt8} {f i : Nat} (h : f ≤ i) (hi : i ≤ s.length) : (if sufB (cutF s f i) 13 then (cutF s f i).dropLast else cutF s f i) = cutF s f (cr s f i) := by
  by_cases hfi : f < i
  · obtain ⟨m, rfl⟩ : ∃ m, i = m + 1 := ⟨i - 1, by omega⟩
    have e : cutF s f (m + 1) = cutF s f m ++ [s.getD m 0] := cutF_snoc (by omega) (by omega)
    by_cases h13 : s.getD m 0 = 13
    · have hcr : cr s f (m + 1) = m := by unfold cr; rw [Nat.add_sub_cancel, if_pos ⟨hfi, h13⟩]
      rw [hcr, e, sufB_snoc, decide_eq_true h13, if_pos rfl, List.dropLast_concat]
    · have hcr : cr s f (m + 1) = m + 1 := by unfold cr; rw [Nat.add_sub_cancel, if_neg (fun hh => h13 hh.2)]
      rw [hcr, e, sufB_snoc, decide_eq_false h13, if_neg (by simp)]
  · have : i = f := by omega
    subst this
    have hcr : cr s i i = i := by unfold cr; rw [if_neg (by omega)]
    rw [hcr, cutF_nil, sufB_nil, if_neg (by simp)]
/-- A line's end. -/
theorem ln_cases {s : List UInt8} {k : Int} (h : lnOk s k) : ∃ f : Nat, frF s k = f ∧ f ≤ s.length ∧ ((k = (linA s).length ∧ toF s k = s.length ∧ sufB (cutF s f s.length) 10 = false) ∨ (k ≠ (linA s).length ∧ ∃ i : Nat, f ≤ i ∧ i < s.length ∧ toF s k = (i : Int) + 1 ∧ s.getD i 0 = 10)) := by
  obtain ⟨n1, n2, n3, n4⟩ := ln_in h
  obtain ⟨f, hf⟩ : ∃ f : Nat, frF s k = f := ⟨(frF s k).toNat, by omega⟩
  refine ⟨f, hf, by omega, ?_⟩
  by_cases hm : k = (linA s).length
  · refine .inl ⟨hm, by unfold toF; rw [if_pos hm], ?_⟩
    obtain ⟨pre, hpre⟩ := linG_last s s.length
    have hL : linA s = pre ++ [lastG s 10 s.length + 1] := hpre
    have hfr : frF s k = lastG s 10 s.length + 1 := by
      unfold frF
      rw [hm, hL]
      simp
    by_cases hfs : f < s.length
    · obtain ⟨m, hm2⟩ : ∃ m, s.length = m + 1 := ⟨s.length - 1, by omega⟩
      rw [hm2, cutF_snoc (by omega) (by omega), sufB_snoc]
      by_cases h10 : s.getD m 0 = 10
      · exfalso
        rw [hm2] at hfr
        simp only [lastG] at hfr
        rw [if_pos h10] at hfr
        omega
      · exact decide_eq_false h10
    · have : f = s.length := by omega
      rw [this, cutF_nil]
      rfl
  · refine .inr ⟨hm, ?_⟩
    obtain ⟨h1, h2⟩ := h
    have hk : k.toNat < (linA s).length := by omega
    obtain ⟨i, i1, i2, i3⟩ := linG_nl s s.length k.toNat (by omega) hk
    have hinc := linG_inc s s.length (k - 1).toNat (by rw [show (k - 1).toNat + 1 = k.toNat by omega]; exact hk)
    rw [show (k - 1).toNat + 1 = k.toNat by omega, i1] at hinc
    have hfr : (linG s s.length).getD (k - 1).toNat 0 = f := hf
    rw [hfr] at hinc
    exact ⟨i, by omega, i2, by unfold toF; rw [if_neg hm]; exact i1, i3⟩

/-- The end of a line, as the reference says it. -/
def endG (s : List UInt8) (k : Int) : Nat := if k = (linA s).length then s.length else cr s (frF s k).toNat ((toF s k).toNat - 1)
theorem lineTY (s : List UInt8) (k : Int) (hs : s.length ≤ 200) (h : lnOk s k) (H : AHeap) : Comp' 27 [str s, int k] H (str (cutF s (frF s k).toNat (endG s k))) := by
  refine enter Try.func27 L27_ok (Nat.le_of_ble_eq_true rfl) ?_
  have c2 := fun H => boundsY s k hs h H
  obtain ⟨f, hf, hfn, hc⟩ := ln_cases h
  unfold endG
  rw [hf] at c2 ⊢
  rw [Int.toNat_natCast]
  rcases hc with ⟨hm, ht, hsuf⟩ | ⟨hm, i, i1, i2, ht, i3⟩
  · rw [if_pos hm]
    rw [ht] at c2
    have hlen : (cutF s f s.length).length ≤ 200 := by unfold cutF; rw [List.length_take, List.length_drop]; omega
    have c3 := fun H => cutS (cutF s f s.length) 10 (by omega) H
    rw [hsuf] at c3
    simp only [Bool.false_eq_true, if_false] at c3
    change ∀ H, Comp' _ [str (List.take (s.length - f) (List.drop f s)), _] H _ at c3
    repeat' (first | (refine And.intro (by omega) ?_) | (refine callF_pure (c2 _) ?_) | (refine callF_pure (c3 _) ?_) | (refine callQF_pure (c2 _) (by first | rfl | simp -implicitDefEqProofs (disch := omega) only [L27, dT_lt, dF_lt, dT_le, dF_le, dT_eq, dF_eq, push_cast, ↓reduceIte, Nat.reduceEqDiff, reduceCtorEq, Nat.reduceAdd, Nat.reduceSub, Nat.reduceMul, Nat.reduceLeDiff, Nat.reduceLT, Nat.reduceMod, Nat.reduceDiv, Int.reduceToNat, Int.reduceLT, Int.reduceLE, Int.reduceEq, Int.reduceAdd, Int.reduceSub, Int.reduceNeg, Int.reduceMul, Bool.and_self]) ?_) | (refine callQF_pure (c3 _) (by first | rfl | simp -implicitDefEqProofs (disch := omega) only [L27, dT_lt, dF_lt, dT_le, dF_le, dT_eq, dF_eq, push_cast, ↓reduceIte, Nat.reduceEqDiff, reduceCtorEq, Nat.reduceAdd, Nat.reduceSub, Nat.reduceMul, Nat.reduceLeDiff, Nat.reduceLT, Nat.reduceMod, Nat.reduceDiv, Int.reduceToNat, Int.reduceLT, Int.reduceLE, Int.reduceEq, Int.reduceAdd, Int.reduceSub, Int.reduceNeg, Int.reduceMul, Bool.and_self]) ?_) | simp -implicitDefEqProofs (disch := omega) only [L27, dT_lt, dF_lt, dT_le, dF_le, dT_eq, dF_eq, push_cast, ↓reduceIte, Nat.reduceEqDiff, reduceCtorEq, Nat.reduceAdd, Nat.reduceSub, Nat.reduceMul, Nat.reduceLeDiff, Nat.reduceLT, Nat.reduceMod, Nat.reduceDiv, Int.reduceToNat, Int.reduceLT, Int.reduceLE, Int.reduceEq, Int.reduceAdd, Int.reduceSub, Int.reduceNeg, Int.reduceMul, Bool.and_self] | split)
    rfl
  · rw [if_neg hm, ht]
    rw [ht] at c2
    rw [show ((i : Int) + 1).toNat - 1 = i by omega, ← cut_cr i1 (by omega)]
    have hlen : (cutF s f (i + 1)).length ≤ 200 := by unfold cutF; rw [List.length_take, List.length_drop]; omega
    have hlen2 : (cutF s f i).length ≤ 200 := by unfold cutF; rw [List.length_take, List.length_drop]; omega
    have c3 := fun H => cutS (cutF s f (i + 1)) 10 (by omega) H
    have c4 := fun H => trimS (cutF s f i) 13 (by omega) H
    have e10 : cutF s f (i + 1) = cutF s f i ++ [10] := by rw [cutF_snoc i1 i2, i3]
    have hs1 : sufB (cutF s f (i + 1)) 10 = true := by rw [e10, sufB_snoc]; rfl
    have hd1 : (cutF s f (i + 1)).dropLast = cutF s f i := by rw [e10, List.dropLast_concat]
    rw [hs1, hd1, if_pos rfl] at c3
    have c5 : ∀ H, Comp' 39 [str (List.take (i + 1 - f) (List.drop f s)), str [10]] H (.tup [str (cutF s f i), bool true]) := c3
    clear c3
    have e2 : ((i : Int) + 1).toNat = i + 1 := by omega
    generalize (if sufB (cutF s f i) 13 then (cutF s f i).dropLast else cutF s f i) = u at *
    repeat' (first | (refine And.intro (by omega) ?_) | (refine callF_pure (c2 _) ?_) | (refine callF_pure (c5 _) ?_) | (refine callF_pure (c4 _) ?_) | (refine callQF_pure (c2 _) (by first | rfl | simp -implicitDefEqProofs (disch := omega) only [L27, e2, dT_lt, dF_lt, dT_le, dF_le, dT_eq, dF_eq, push_cast, ↓reduceIte, Nat.reduceEqDiff, reduceCtorEq, Nat.reduceAdd, Nat.reduceSub, Nat.reduceMul, Nat.reduceLeDiff, Nat.reduceLT, Nat.reduceMod, Nat.reduceDiv, Int.reduceToNat, Int.reduceLT, Int.reduceLE, Int.reduceEq, Int.reduceAdd, Int.reduceSub, Int.reduceNeg, Int.reduceMul, Bool.and_self]) ?_) | (refine callQF_pure (c5 _) (by first | rfl | simp -implicitDefEqProofs (disch := omega) only [L27, e2, dT_lt, dF_lt, dT_le, dF_le, dT_eq, dF_eq, push_cast, ↓reduceIte, Nat.reduceEqDiff, reduceCtorEq, Nat.reduceAdd, Nat.reduceSub, Nat.reduceMul, Nat.reduceLeDiff, Nat.reduceLT, Nat.reduceMod, Nat.reduceDiv, Int.reduceToNat, Int.reduceLT, Int.reduceLE, Int.reduceEq, Int.reduceAdd, Int.reduceSub, Int.reduceNeg, Int.reduceMul, Bool.and_self]) ?_) | (refine callQF_pure (c4 _) (by first | rfl | simp -implicitDefEqProofs (disch := omega) only [L27, e2, dT_lt, dF_lt, dT_le, dF_le, dT_eq, dF_eq, push_cast, ↓reduceIte, Nat.reduceEqDiff, reduceCtorEq, Nat.reduceAdd, Nat.reduceSub, Nat.reduceMul, Nat.reduceLeDiff, Nat.reduceLT, Nat.reduceMod, Nat.reduceDiv, Int.reduceToNat, Int.reduceLT, Int.reduceLE, Int.reduceEq, Int.reduceAdd, Int.reduceSub, Int.reduceNeg, Int.reduceMul, Bool.and_self]) ?_) | simp -implicitDefEqProofs (disch := omega) only [L27, e2, dT_lt, dF_lt, dT_le, dF_le, dT_eq, dF_eq, push_cast, ↓reduceIte, Nat.reduceEqDiff, reduceCtorEq, Nat.reduceAdd, Nat.reduceSub, Nat.reduceMul, Nat.reduceLeDiff, Nat.reduceLT, Nat.reduceMod, Nat.reduceDiv, Int.reduceToNat, Int.reduceLT, Int.reduceLE, Int.reduceEq, Int.reduceAdd, Int.reduceSub, Int.reduceNeg, Int.reduceMul, Bool.and_self] | split)
theorem lineTN (s : List UInt8) (k : Int) (hs : s.length ≤ 200) (h : ¬ lnOk s k) (H : AHeap) : Comp' 27 [str s, int k] H (str []) := by
  refine enter Try.func27 L27_ok (Nat.le_of_ble_eq_true rfl) ?_
  have c2 := fun H => boundsN s k hs h H
  repeat' (first | (refine And.intro (by omega) ?_) | (refine callF_pure (c2 _) ?_) | (refine callQF_pure (c2 _) (by first | rfl | simp -implicitDefEqProofs (disch := omega) only [L27, dT_lt, dF_lt, dT_le, dF_le, dT_eq, dF_eq, push_cast, ↓reduceIte, Nat.reduceEqDiff, reduceCtorEq, Nat.reduceAdd, Nat.reduceSub, Nat.reduceMul, Nat.reduceLeDiff, Nat.reduceLT, Nat.reduceMod, Nat.reduceDiv, Int.reduceToNat, Int.reduceLT, Int.reduceLE, Int.reduceEq, Int.reduceAdd, Int.reduceSub, Int.reduceNeg, Int.reduceMul, Bool.and_self]) ?_) | simp -implicitDefEqProofs (disch := omega) only [L27, dT_lt, dF_lt, dT_le, dF_le, dT_eq, dF_eq, push_cast, ↓reduceIte, Nat.reduceEqDiff, reduceCtorEq, Nat.reduceAdd, Nat.reduceSub, Nat.reduceMul, Nat.reduceLeDiff, Nat.reduceLT, Nat.reduceMod, Nat.reduceDiv, Int.reduceToNat, Int.reduceLT, Int.reduceLE, Int.reduceEq, Int.reduceAdd, Int.reduceSub, Int.reduceNeg, Int.reduceMul, Bool.and_self] | split)
theorem lineRN (s : List UInt8) (k : Int) (hs : s.length ≤ 200) (h : ¬ lnOk s k) (H : AHeap) : Comp' 28 [str s, int k] H (str []) := by
  refine enter Try.func28 L28_ok (Nat.le_of_ble_eq_true rfl) ?_
  have c1 := fun H => linesR s (by omega) H
  unfold lnOk linA at h
  generalize linG s s.length = l at *
  by_cases h1 : k < 1
  · repeat' (first | (refine And.intro (by omega) ?_) | (refine callF_pure (c1 _) ?_) | (refine callQF_pure (c1 _) (by first | rfl | simp -implicitDefEqProofs (disch := omega) only [L28, List.length_map, dT_lt, dF_lt, dT_le, dF_le, dT_eq, dF_eq, push_cast, ↓reduceIte, Nat.reduceEqDiff, reduceCtorEq, Nat.reduceAdd, Nat.reduceSub, Nat.reduceMul, Nat.reduceLeDiff, Nat.reduceLT, Nat.reduceMod, Nat.reduceDiv, Int.reduceToNat, Int.reduceLT, Int.reduceLE, Int.reduceEq, Int.reduceAdd, Int.reduceSub, Int.reduceNeg, Int.reduceMul, Bool.and_self]) ?_) | simp -implicitDefEqProofs (disch := omega) only [L28, List.length_map, dT_lt, dF_lt, dT_le, dF_le, dT_eq, dF_eq, push_cast, ↓reduceIte, Nat.reduceEqDiff, reduceCtorEq, Nat.reduceAdd, Nat.reduceSub, Nat.reduceMul, Nat.reduceLeDiff, Nat.reduceLT, Nat.reduceMod, Nat.reduceDiv, Int.reduceToNat, Int.reduceLT, Int.reduceLE, Int.reduceEq, Int.reduceAdd, Int.reduceSub, Int.reduceNeg, Int.reduceMul, Bool.and_self] | split)
  · have h2 : (l.length : Int) < k := by omega
    repeat' (first | (refine And.intro (by omega) ?_) | (refine callF_pure (c1 _) ?_) | (refine callQF_pure (c1 _) (by first | rfl | simp -implicitDefEqProofs (disch := omega) only [L28, List.length_map, dT_lt, dF_lt, dT_le, dF_le, dT_eq, dF_eq, push_cast, ↓reduceIte, Nat.reduceEqDiff, reduceCtorEq, Nat.reduceAdd, Nat.reduceSub, Nat.reduceMul, Nat.reduceLeDiff, Nat.reduceLT, Nat.reduceMod, Nat.reduceDiv, Int.reduceToNat, Int.reduceLT, Int.reduceLE, Int.reduceEq, Int.reduceAdd, Int.reduceSub, Int.reduceNeg, Int.reduceMul, Bool.and_self]) ?_) | simp -implicitDefEqProofs (disch := omega) only [L28, List.length_map, dT_lt, dF_lt, dT_le, dF_le, dT_eq, dF_eq, push_cast, ↓reduceIte, Nat.reduceEqDiff, reduceCtorEq, Nat.reduceAdd, Nat.reduceSub, Nat.reduceMul, Nat.reduceLeDiff, Nat.reduceLT, Nat.reduceMod, Nat.reduceDiv, Int.reduceToNat, Int.reduceLT, Int.reduceLE, Int.reduceEq, Int.reduceAdd, Int.reduceSub, Int.reduceNeg, Int.reduceMul, Bool.and_self] | split)
theorem lineRY (s : List UInt8) (k : Int) (hs : s.length ≤ 200) (h : lnOk s k) (H : AHeap) : Comp' 28 [str s, int k] H (str (cutF s (frF s k).toNat (endG s k))) := by
  refine enter Try.func28 L28_ok (Nat.le_of_ble_eq_true rfl) ?_
  have c1 := fun H => linesR s (by omega) H
  obtain ⟨f, hf, hfn, hc⟩ := ln_cases h
  unfold endG
  rw [hf, Int.toNat_natCast]
  unfold frF at hf
  unfold toF at hc ⊢
  unfold lnOk at h
  unfold linA at *
  have hl := linG_len s s.length
  generalize linG s s.length = l at *
  obtain ⟨q, rfl⟩ : ∃ q : Nat, k = (q : Int) + 1 := ⟨(k - 1).toNat, by omega⟩
  have e1 : ((q : Int) + 1 - 1).toNat = q := by omega
  have e2 : ((q : Int) + 1).toNat = q + 1 := by omega
  rw [e1] at hf
  rw [e2] at hc ⊢
  have hf' : l.getD q default = (f : Int) := hf
  rcases hc with ⟨hm, ht, hsuf⟩ | ⟨hm, i, i1, i2, ht, i3⟩
  · rw [if_pos hm]
    repeat' (first | (refine And.intro (by omega) ?_) | (refine callF_pure (c1 _) ?_) | (refine callQF_pure (c1 _) (by first | rfl | simp -implicitDefEqProofs (disch := omega) only [L28, List.length_map, e1, e2, rows_getD, iR, hf', dT_lt, dF_lt, dT_le, dF_le, dT_eq, dF_eq, push_cast, ↓reduceIte, Nat.reduceEqDiff, reduceCtorEq, Nat.reduceAdd, Nat.reduceSub, Nat.reduceMul, Nat.reduceLeDiff, Nat.reduceLT, Nat.reduceMod, Nat.reduceDiv, Int.reduceToNat, Int.reduceLT, Int.reduceLE, Int.reduceEq, Int.reduceAdd, Int.reduceSub, Int.reduceNeg, Int.reduceMul, Bool.and_self]) ?_) | simp -implicitDefEqProofs (disch := omega) only [L28, List.length_map, e1, e2, rows_getD, iR, hf', dT_lt, dF_lt, dT_le, dF_le, dT_eq, dF_eq, push_cast, ↓reduceIte, Nat.reduceEqDiff, reduceCtorEq, Nat.reduceAdd, Nat.reduceSub, Nat.reduceMul, Nat.reduceLeDiff, Nat.reduceLT, Nat.reduceMod, Nat.reduceDiv, Int.reduceToNat, Int.reduceLT, Int.reduceLE, Int.reduceEq, Int.reduceAdd, Int.reduceSub, Int.reduceNeg, Int.reduceMul, Bool.and_self] | split)
    rfl
  · rw [if_neg hm] at ht
    have ht' : l.getD (q + 1) default = (i : Int) + 1 := ht
    rw [if_neg hm, if_neg hm, ht]
    rw [show ((i : Int) + 1).toNat - 1 = i by omega]
    unfold cr
    by_cases g1 : f < i
    · have e3 : ((i : Int) + 1 - 1 - 1).toNat = i - 1 := by omega
      by_cases g2 : s.getD (i - 1) 0 = 13
      · rw [if_pos ⟨g1, g2⟩]
        have g3 := u8_eq.1 g2
        repeat' (first | (refine And.intro (by omega) ?_) | (refine callF_pure (c1 _) ?_) | (refine callQF_pure (c1 _) (by first | rfl | simp -implicitDefEqProofs (disch := omega) only [L28, List.length_map, e1, e2, e3, rows_getD, iR, hf', ht', g2, dT_lt, dF_lt, dT_le, dF_le, dT_eq, dF_eq, push_cast, ↓reduceIte, Nat.reduceEqDiff, reduceCtorEq, Nat.reduceAdd, Nat.reduceSub, Nat.reduceMul, Nat.reduceLeDiff, Nat.reduceLT, Nat.reduceMod, Nat.reduceDiv, Int.reduceToNat, Int.reduceLT, Int.reduceLE, Int.reduceEq, Int.reduceAdd, Int.reduceSub, Int.reduceNeg, Int.reduceMul, Bool.and_self]) ?_) | simp -implicitDefEqProofs (disch := omega) only [L28, List.length_map, e1, e2, e3, rows_getD, iR, hf', ht', g2, dT_lt, dF_lt, dT_le, dF_le, dT_eq, dF_eq, push_cast, ↓reduceIte, Nat.reduceEqDiff, reduceCtorEq, Nat.reduceAdd, Nat.reduceSub, Nat.reduceMul, Nat.reduceLeDiff, Nat.reduceLT, Nat.reduceMod, Nat.reduceDiv, Int.reduceToNat, Int.reduceLT, Int.reduceLE, Int.reduceEq, Int.reduceAdd, Int.reduceSub, Int.reduceNeg, Int.reduceMul, Bool.and_self] | split)
        rfl
      · rw [if_neg (fun hh => g2 hh.2)]
        have g3 : ¬ ((s.getD (i - 1) 0).toNat : Int) = 13 := fun hh => g2 (u8_eq.2 (by show _ = 13; omega))
        repeat' (first | (refine And.intro (by omega) ?_) | (refine callF_pure (c1 _) ?_) | (refine callQF_pure (c1 _) (by first | rfl | simp -implicitDefEqProofs (disch := omega) only [L28, List.length_map, e1, e2, e3, rows_getD, iR, hf', ht', dT_lt, dF_lt, dT_le, dF_le, dT_eq, dF_eq, push_cast, ↓reduceIte, Nat.reduceEqDiff, reduceCtorEq, Nat.reduceAdd, Nat.reduceSub, Nat.reduceMul, Nat.reduceLeDiff, Nat.reduceLT, Nat.reduceMod, Nat.reduceDiv, Int.reduceToNat, Int.reduceLT, Int.reduceLE, Int.reduceEq, Int.reduceAdd, Int.reduceSub, Int.reduceNeg, Int.reduceMul, Bool.and_self]) ?_) | simp -implicitDefEqProofs (disch := omega) only [L28, List.length_map, e1, e2, e3, rows_getD, iR, hf', ht', dT_lt, dF_lt, dT_le, dF_le, dT_eq, dF_eq, push_cast, ↓reduceIte, Nat.reduceEqDiff, reduceCtorEq, Nat.reduceAdd, Nat.reduceSub, Nat.reduceMul, Nat.reduceLeDiff, Nat.reduceLT, Nat.reduceMod, Nat.reduceDiv, Int.reduceToNat, Int.reduceLT, Int.reduceLE, Int.reduceEq, Int.reduceAdd, Int.reduceSub, Int.reduceNeg, Int.reduceMul, Bool.and_self] | split)
        rw [show ((i : Int) + 1 - 1).toNat = i by omega]
        rfl
    · rw [if_neg (fun hh => g1 hh.1)]
      repeat' (first | (refine And.intro (by omega) ?_) | (refine callF_pure (c1 _) ?_) | (refine callQF_pure (c1 _) (by first | rfl | simp -implicitDefEqProofs (disch := omega) only [L28, List.length_map, e1, e2, rows_getD, iR, hf', ht', dT_lt, dF_lt, dT_le, dF_le, dT_eq, dF_eq, push_cast, ↓reduceIte, Nat.reduceEqDiff, reduceCtorEq, Nat.reduceAdd, Nat.reduceSub, Nat.reduceMul, Nat.reduceLeDiff, Nat.reduceLT, Nat.reduceMod, Nat.reduceDiv, Int.reduceToNat, Int.reduceLT, Int.reduceLE, Int.reduceEq, Int.reduceAdd, Int.reduceSub, Int.reduceNeg, Int.reduceMul, Bool.and_self]) ?_) | simp -implicitDefEqProofs (disch := omega) only [L28, List.length_map, e1, e2, rows_getD, iR, hf', ht', dT_lt, dF_lt, dT_le, dF_le, dT_eq, dF_eq, push_cast, ↓reduceIte, Nat.reduceEqDiff, reduceCtorEq, Nat.reduceAdd, Nat.reduceSub, Nat.reduceMul, Nat.reduceLeDiff, Nat.reduceLT, Nat.reduceMod, Nat.reduceDiv, Int.reduceToNat, Int.reduceLT, Int.reduceLE, Int.reduceEq, Int.reduceAdd, Int.reduceSub, Int.reduceNeg, Int.reduceMul, Bool.and_self] | split)
      rw [show ((i : Int) + 1 - 1).toNat = i by omega]
      rfl
#print axioms lineRY

theorem textPositions (s : List UInt8) (t k c : Int) (hsl : s.length ≤ 9223372036854775807) (H : AHeap) : Comp' 7 [str s, int t, int k, int c] H (bool true) := by
  refine enter Try.func7 L7_ok (Nat.le_of_ble_eq_true rfl) ?_
  by_cases hs : s.length ≤ 200
  · have c1 := fun H => posT s t (by omega) H
    have c2 := fun H => posR s t (by omega) H
    have c3 := fun H => linesT s (by omega) H
    have c4 := fun H => linesR s (by omega) H
    have hl := linG_len s s.length
    have c5 := fun H => intsC (linG s s.length) (linG s s.length) (by omega) H
    rw [decide_eq_true rfl] at c5
    have c6 : ∃ x y, (∀ H, Comp' 22 [str s, int k, int c] H (.tup [int x, bool y])) ∧ ∀ H, Comp' 23 [str s, int k, int c] H (.tup [int x, bool y]) := by
      by_cases h : offOk s k c
      · exact ⟨_, _, offTY s k c hs h, offRY s k c hs h⟩
      · exact ⟨_, _, offTN s k c hs h, offRN s k c hs h⟩
    have c7 : ∃ x, (∀ H, Comp' 27 [str s, int k] H (str x)) ∧ ∀ H, Comp' 28 [str s, int k] H (str x) := by
      by_cases h : lnOk s k
      · exact ⟨_, lineTY s k hs h, lineRY s k hs h⟩
      · exact ⟨_, lineTN s k hs h, lineRN s k hs h⟩
    obtain ⟨x, y, d1, d2⟩ := c6
    obtain ⟨z, d3, d4⟩ := c7
    generalize posF s t = p at *
    obtain ⟨p1, p2⟩ := p
    generalize linG s s.length = l at *
    repeat' (first | (refine And.intro (by omega) ?_) | (refine callF_pure (c1 _) ?_) | (refine callF_pure (c2 _) ?_) | (refine callF_pure (c3 _) ?_) | (refine callF_pure (c4 _) ?_) | (refine callF_pure (c5 _) ?_) | (refine callF_pure (d1 _) ?_) | (refine callF_pure (d2 _) ?_) | (refine callF_pure (d3 _) ?_) | (refine callF_pure (d4 _) ?_) | (refine callF_pure (awakeC _) ?_) | (refine callQF_pure (c1 _) (by first | rfl | simp -implicitDefEqProofs (disch := omega) only [L7, dT_lt, dF_lt, dT_le, dF_le, dT_eq, dF_eq, push_cast, ↓reduceIte, Nat.reduceEqDiff, reduceCtorEq, Nat.reduceAdd, Nat.reduceSub, Nat.reduceMul, Nat.reduceLeDiff, Nat.reduceLT, Nat.reduceMod, Nat.reduceDiv, Int.reduceToNat, Int.reduceLT, Int.reduceLE, Int.reduceEq, Int.reduceAdd, Int.reduceSub, Int.reduceNeg, Int.reduceMul, Bool.and_self]) ?_) | (refine callQF_pure (c2 _) (by first | rfl | simp -implicitDefEqProofs (disch := omega) only [L7, dT_lt, dF_lt, dT_le, dF_le, dT_eq, dF_eq, push_cast, ↓reduceIte, Nat.reduceEqDiff, reduceCtorEq, Nat.reduceAdd, Nat.reduceSub, Nat.reduceMul, Nat.reduceLeDiff, Nat.reduceLT, Nat.reduceMod, Nat.reduceDiv, Int.reduceToNat, Int.reduceLT, Int.reduceLE, Int.reduceEq, Int.reduceAdd, Int.reduceSub, Int.reduceNeg, Int.reduceMul, Bool.and_self]) ?_) | (refine callQF_pure (c3 _) (by first | rfl | simp -implicitDefEqProofs (disch := omega) only [L7, dT_lt, dF_lt, dT_le, dF_le, dT_eq, dF_eq, push_cast, ↓reduceIte, Nat.reduceEqDiff, reduceCtorEq, Nat.reduceAdd, Nat.reduceSub, Nat.reduceMul, Nat.reduceLeDiff, Nat.reduceLT, Nat.reduceMod, Nat.reduceDiv, Int.reduceToNat, Int.reduceLT, Int.reduceLE, Int.reduceEq, Int.reduceAdd, Int.reduceSub, Int.reduceNeg, Int.reduceMul, Bool.and_self]) ?_) | (refine callQF_pure (c4 _) (by first | rfl | simp -implicitDefEqProofs (disch := omega) only [L7, dT_lt, dF_lt, dT_le, dF_le, dT_eq, dF_eq, push_cast, ↓reduceIte, Nat.reduceEqDiff, reduceCtorEq, Nat.reduceAdd, Nat.reduceSub, Nat.reduceMul, Nat.reduceLeDiff, Nat.reduceLT, Nat.reduceMod, Nat.reduceDiv, Int.reduceToNat, Int.reduceLT, Int.reduceLE, Int.reduceEq, Int.reduceAdd, Int.reduceSub, Int.reduceNeg, Int.reduceMul, Bool.and_self]) ?_) | (refine callQF_pure (c5 _) (by first | rfl | simp -implicitDefEqProofs (disch := omega) only [L7, dT_lt, dF_lt, dT_le, dF_le, dT_eq, dF_eq, push_cast, ↓reduceIte, Nat.reduceEqDiff, reduceCtorEq, Nat.reduceAdd, Nat.reduceSub, Nat.reduceMul, Nat.reduceLeDiff, Nat.reduceLT, Nat.reduceMod, Nat.reduceDiv, Int.reduceToNat, Int.reduceLT, Int.reduceLE, Int.reduceEq, Int.reduceAdd, Int.reduceSub, Int.reduceNeg, Int.reduceMul, Bool.and_self]) ?_) | (refine callQF_pure (d1 _) (by first | rfl | simp -implicitDefEqProofs (disch := omega) only [L7, dT_lt, dF_lt, dT_le, dF_le, dT_eq, dF_eq, push_cast, ↓reduceIte, Nat.reduceEqDiff, reduceCtorEq, Nat.reduceAdd, Nat.reduceSub, Nat.reduceMul, Nat.reduceLeDiff, Nat.reduceLT, Nat.reduceMod, Nat.reduceDiv, Int.reduceToNat, Int.reduceLT, Int.reduceLE, Int.reduceEq, Int.reduceAdd, Int.reduceSub, Int.reduceNeg, Int.reduceMul, Bool.and_self]) ?_) | (refine callQF_pure (d2 _) (by first | rfl | simp -implicitDefEqProofs (disch := omega) only [L7, dT_lt, dF_lt, dT_le, dF_le, dT_eq, dF_eq, push_cast, ↓reduceIte, Nat.reduceEqDiff, reduceCtorEq, Nat.reduceAdd, Nat.reduceSub, Nat.reduceMul, Nat.reduceLeDiff, Nat.reduceLT, Nat.reduceMod, Nat.reduceDiv, Int.reduceToNat, Int.reduceLT, Int.reduceLE, Int.reduceEq, Int.reduceAdd, Int.reduceSub, Int.reduceNeg, Int.reduceMul, Bool.and_self]) ?_) | (refine callQF_pure (d3 _) (by first | rfl | simp -implicitDefEqProofs (disch := omega) only [L7, dT_lt, dF_lt, dT_le, dF_le, dT_eq, dF_eq, push_cast, ↓reduceIte, Nat.reduceEqDiff, reduceCtorEq, Nat.reduceAdd, Nat.reduceSub, Nat.reduceMul, Nat.reduceLeDiff, Nat.reduceLT, Nat.reduceMod, Nat.reduceDiv, Int.reduceToNat, Int.reduceLT, Int.reduceLE, Int.reduceEq, Int.reduceAdd, Int.reduceSub, Int.reduceNeg, Int.reduceMul, Bool.and_self]) ?_) | (refine callQF_pure (d4 _) (by first | rfl | simp -implicitDefEqProofs (disch := omega) only [L7, dT_lt, dF_lt, dT_le, dF_le, dT_eq, dF_eq, push_cast, ↓reduceIte, Nat.reduceEqDiff, reduceCtorEq, Nat.reduceAdd, Nat.reduceSub, Nat.reduceMul, Nat.reduceLeDiff, Nat.reduceLT, Nat.reduceMod, Nat.reduceDiv, Int.reduceToNat, Int.reduceLT, Int.reduceLE, Int.reduceEq, Int.reduceAdd, Int.reduceSub, Int.reduceNeg, Int.reduceMul, Bool.and_self]) ?_) | (refine callQF_pure (awakeC _) (by first | rfl | simp -implicitDefEqProofs (disch := omega) only [L7, dT_lt, dF_lt, dT_le, dF_le, dT_eq, dF_eq, push_cast, ↓reduceIte, Nat.reduceEqDiff, reduceCtorEq, Nat.reduceAdd, Nat.reduceSub, Nat.reduceMul, Nat.reduceLeDiff, Nat.reduceLT, Nat.reduceMod, Nat.reduceDiv, Int.reduceToNat, Int.reduceLT, Int.reduceLE, Int.reduceEq, Int.reduceAdd, Int.reduceSub, Int.reduceNeg, Int.reduceMul, Bool.and_self]) ?_) | simp -implicitDefEqProofs (disch := omega) only [L7, dT_lt, dF_lt, dT_le, dF_le, dT_eq, dF_eq, push_cast, ↓reduceIte, Nat.reduceEqDiff, reduceCtorEq, Nat.reduceAdd, Nat.reduceSub, Nat.reduceMul, Nat.reduceLeDiff, Nat.reduceLT, Nat.reduceMod, Nat.reduceDiv, Int.reduceToNat, Int.reduceLT, Int.reduceLE, Int.reduceEq, Int.reduceAdd, Int.reduceSub, Int.reduceNeg, Int.reduceMul, Bool.and_self] | split)
  · repeat' (first | (refine And.intro (by omega) ?_) | (refine callF_pure (awakeC _) ?_) | (refine callQF_pure (awakeC _) (by first | rfl | simp -implicitDefEqProofs (disch := omega) only [L7, dT_lt, dF_lt, dT_le, dF_le, dT_eq, dF_eq, push_cast, ↓reduceIte, Nat.reduceEqDiff, reduceCtorEq, Nat.reduceAdd, Nat.reduceSub, Nat.reduceMul, Nat.reduceLeDiff, Nat.reduceLT, Nat.reduceMod, Nat.reduceDiv, Int.reduceToNat, Int.reduceLT, Int.reduceLE, Int.reduceEq, Int.reduceAdd, Int.reduceSub, Int.reduceNeg, Int.reduceMul, Bool.and_self]) ?_) | simp -implicitDefEqProofs (disch := omega) only [L7, dT_lt, dF_lt, dT_le, dF_le, dT_eq, dF_eq, push_cast, ↓reduceIte, Nat.reduceEqDiff, reduceCtorEq, Nat.reduceAdd, Nat.reduceSub, Nat.reduceMul, Nat.reduceLeDiff, Nat.reduceLT, Nat.reduceMod, Nat.reduceDiv, Int.reduceToNat, Int.reduceLT, Int.reduceLE, Int.reduceEq, Int.reduceAdd, Int.reduceSub, Int.reduceNeg, Int.reduceMul, Bool.and_self] | split)
#print axioms textPositions
end Go.Proofs.Ytiibbkbcebccnaa

/- The functions, lowered. Printed by a program (wip/tools/pl.py). -/
namespace Go.Proofs.Ytiibbkbcebccnaa
open Go Go.Ax
set_option maxRecDepth 100000

/-- assessor_assessorlaw01.TextBijection -/
def L8z : LFn := ⟨79, [(.tmp 2)], (.seq (.ops [⟨(some 2), none, (.mv (.c (.v (.bool false))))⟩])
    (.seq (.seq (.ops [⟨(some 11), none, (.mv (.t 0))⟩,
      ⟨(some 12), none, (.len .str (.t 11))⟩,
      ⟨(some 13), none, (.bin .int .gtr (.t 12) (.c (.v (.int .i64 200))))⟩,
      ⟨(some 14), none, (.mv (.t 13))⟩,
      ⟨(some 15), (some (14, false)), (.mv (.t 0))⟩,
      ⟨(some 16), (some (14, false)), (.call (.c (.fn (.func 29) [] [])) [(.t 15), (.c (.v (.string (mkS [13]))))])⟩,
      ⟨(some 17), none, (.pick (.t 14) (.c (.v (.bool true))) (.t 16))⟩])
    (.cond (.t 17)
    (.seq (.ops [⟨(some 18), none, (.call (.c (.fn (.func 9) [] [])) [])⟩,
      ⟨(some 2), none, (.mv (.t 18))⟩])
    .ret)
    .skip))
    (.seq (.ops [⟨(some 19), none, .mkmap⟩,
      ⟨(some 3), none, (.mv (.t 19))⟩])
    (.seq (.seq (.ops [⟨(some 20), none, (.mv (.t 0))⟩,
      ⟨(some 21), none, (.len .str (.t 20))⟩,
      ⟨(some 22), none, (.bin .int .add (.t 21) (.c (.v (.int .i64 1))))⟩,
      ⟨(some 23), none, (.mv (.c (.v (.int .i64 0))))⟩])
    (.block 0 (.loop (.seq (.ops [⟨(some 24), none, (.bin .int .lss (.t 23) (.t 22))⟩])
    (.seq (.cond (.t 24)
    .skip
    (.exit 0))
    (.seq (.block 1 (.seq (.ops [⟨(some 25), none, (.mv (.t 23))⟩,
      ⟨(some 4), none, (.mv (.t 25))⟩])
    (.seq (.ops [⟨(some 27), none, (.mv (.t 0))⟩,
      ⟨(some 28), none, (.mv (.t 4))⟩,
      ⟨(some 29), none, (.call (.c (.fn (.func 20) [] [])) [(.t 27), (.t 28)])⟩,
      ⟨(some 26), none, (.mv (.t 29))⟩,
      ⟨(some 30), none, (.ext (.t 26) 0)⟩,
      ⟨(some 31), none, (.ext (.t 26) 1)⟩,
      ⟨(some 5), none, (.mv (.t 30))⟩,
      ⟨(some 6), none, (.mv (.t 31))⟩])
    (.seq (.ops [⟨(some 33), none, (.mv (.t 0))⟩,
      ⟨(some 34), none, (.mv (.t 5))⟩,
      ⟨(some 35), none, (.mv (.t 6))⟩,
      ⟨(some 36), none, (.call (.c (.fn (.func 22) [] [])) [(.t 33), (.t 34), (.t 35)])⟩,
      ⟨(some 32), none, (.mv (.t 36))⟩,
      ⟨(some 37), none, (.ext (.t 32) 0)⟩,
      ⟨(some 38), none, (.ext (.t 32) 1)⟩,
      ⟨(some 7), none, (.mv (.t 37))⟩,
      ⟨(some 8), none, (.mv (.t 38))⟩])
    (.seq (.seq (.ops [⟨(some 39), none, (.mv (.t 8))⟩,
      ⟨(some 40), none, (.not (.t 39))⟩,
      ⟨(some 41), none, (.mv (.t 40))⟩,
      ⟨(some 42), (some (41, false)), (.mv (.t 7))⟩,
      ⟨(some 43), (some (41, false)), (.mv (.t 4))⟩,
      ⟨(some 44), (some (41, false)), (.bin .int .neq (.t 42) (.t 43))⟩,
      ⟨(some 45), none, (.pick (.t 41) (.c (.v (.bool true))) (.t 44))⟩,
      ⟨(some 46), none, (.mv (.t 45))⟩,
      ⟨(some 47), (some (46, false)), (.mv (.t 3))⟩,
      ⟨(some 48), (some (46, false)), (.mv (.t 5))⟩,
      ⟨(some 49), (some (46, false)), (.mv (.t 6))⟩,
      ⟨(some 50), (some (46, false)), (.build [(.v (.int .i64 0)), (.v (.int .i64 0))] [(0, (1, (.t 48))), (1, (1, (.t 49)))])⟩,
      ⟨(some 51), (some (46, false)), (.look (.agg [.int, .int]) (.v (.bool false)) false (.t 47) (.t 50))⟩,
      ⟨(some 52), none, (.pick (.t 46) (.c (.v (.bool true))) (.t 51))⟩])
    (.cond (.t 52)
    (.seq (.ops [⟨(some 2), none, (.mv (.c (.v (.bool false))))⟩])
    .ret)
    .skip))
    (.ops [⟨(some 53), none, (.mv (.t 3))⟩,
      ⟨(some 54), none, (.mv (.t 5))⟩,
      ⟨(some 55), none, (.mv (.t 6))⟩,
      ⟨(some 56), none, (.build [(.v (.int .i64 0)), (.v (.int .i64 0))] [(0, (1, (.t 54))), (1, (1, (.t 55)))])⟩,
      ⟨none, none, (.ins (.agg [.int, .int]) (.t 53) (.t 56) (.c (.v (.bool true))))⟩]))))))
    (.ops [⟨(some 57), none, (.bin .int .add (.t 23) (.c (.v (.int .i64 1))))⟩,
      ⟨(some 23), none, (.mv (.t 57))⟩])))))))
    (.seq (.ops [⟨(some 9), none, (.mv (.c (.v (.slice none 0 0))))⟩,
      ⟨(some 9), none, (.own 1 (.t 9))⟩])
    (.seq (.seq (.ops [⟨(some 58), none, (.mv (.t 0))⟩,
      ⟨(some 59), none, (.call (.c (.fn (.func 25) [] [])) [(.t 58)])⟩,
      ⟨(some 60), none, (.len .slc (.t 59))⟩,
      ⟨(some 61), none, (.mv (.c (.v (.int .i64 0))))⟩])
    (.block 2 (.loop (.seq (.ops [⟨(some 62), none, (.bin .int .lss (.t 61) (.t 60))⟩])
    (.seq (.cond (.t 62)
    .skip
    (.exit 2))
    (.seq (.block 3 (.seq (.ops [⟨(some 63), none, (.mv (.t 61))⟩,
      ⟨(some 10), none, (.mv (.t 63))⟩])
    (.ops [⟨(some 64), none, (.mv (.t 9))⟩,
      ⟨(some 65), none, (.mv (.t 0))⟩,
      ⟨(some 66), none, (.mv (.t 10))⟩,
      ⟨(some 67), none, (.bin .int .add (.t 66) (.c (.v (.int .i64 1))))⟩,
      ⟨(some 68), none, (.call (.c (.fn (.func 27) [] [])) [(.t 65), (.t 67)])⟩,
      ⟨(some 69), none, (.bsl true 1 1 [(.v (.string (mkS [])))] [(0, (.t 68))])⟩,
      ⟨(some 70), none, (.append 1 16 (.t 64) (.t 69))⟩,
      ⟨(some 9), none, (.mv (.t 70))⟩])))
    (.ops [⟨(some 71), none, (.bin .int .add (.t 61) (.c (.v (.int .i64 1))))⟩,
      ⟨(some 61), none, (.mv (.t 71))⟩])))))))
    (.seq (.ops [⟨(some 72), none, (.mv (.t 9))⟩,
      ⟨(some 72), none, (.frz (.t 72))⟩,
      ⟨(some 73), none, (.call (.c (.fn (.func 30) [] [])) [(.t 72), (.c (.v (.string (mkS [10]))))])⟩,
      ⟨(some 74), none, (.mv (.t 0))⟩,
      ⟨(some 75), none, (.bin .str .eql (.t 73) (.t 74))⟩,
      ⟨(some 76), none, (.mv (.t 75))⟩,
      ⟨(some 77), (some (76, true)), (.call (.c (.fn (.func 9) [] [])) [])⟩,
      ⟨(some 78), none, (.pick (.t 76) (.t 77) (.c (.v (.bool false))))⟩,
      ⟨(some 2), none, (.mv (.t 78))⟩])
    .ret)))))))⟩
theorem L8z_ok : lowFn Try.prog Try.f8 [⟨19, 1, (.pre 72 (.frz (.t 72)))⟩, ⟨17, 5, .imm⟩, ⟨13, 1, (.pre 9 (.own 1 (.t 9)))⟩] = some L8z := by kernel_rfl

end Go.Proofs.Ytiibbkbcebccnaa

/- Texts: the lines, joined, are the text; strings.Contains of a byte, strings.Join. -/
namespace Go.Proofs.Ytiibbkbcebccnaa
open Go Go.Ax Go.RowKit
set_option maxRecDepth 100000
set_option linter.unusedSimpArgs false
set_option linter.unusedVariables false

theorem index_none : ∀ (l : List UInt8) (c : UInt8), decide (0 ≤ Lib.indexByte l c) = false → ∀ x ∈ l, x ≠ c
  | [], _, _, x, hx => by simp at hx
  | b :: l, c, h, x, hx => by
    simp only [Lib.indexByte] at h
    have hg := Lib.indexByte_ge l c
    by_cases hb : b = c
    · simp [hb] at h
    · simp only [beq_iff_eq, hb, if_false] at h
      rcases List.mem_cons.1 hx with rfl | hx
      · exact hb
      · refine index_none l c ?_ x hx
        split at h
        · rename_i h1; rw [h1]; rfl
        · rw [decide_eq_false_iff_not] at h ⊢
          omega
theorem contC (s : List UInt8) (c : UInt8) (H : AHeap) : Comp' 29 [str s, str [c]] H (bool (decide (0 ≤ Lib.indexByte s c))) := by
  refine ⟨⟨_, Try.func29, by kernel_rfl, by kernel_rfl⟩, fun X ρ w vs hrel hargs => ?_⟩
  obtain ⟨a, b, rfl, ha, hb⟩ := repL2 hargs
  have ha := rep_vx ha
  have hb := rep_vx hb
  subst ha
  subst hb
  refine (Go.Proofs.Try.strings_Contains_one (mkS s) c w).mono ?_
  rintro e w' ⟨rfl, rfl⟩
  exact ⟨_, _, H, ρ, rfl, ⟨rfl, rfl⟩, hrel, .v _ _, Fut.refl _ _ _⟩
theorem joinC (xs : List (List UInt8)) (sep : List UInt8) (hn : xs.length ≤ 140737488355328) (hl : (Lib.join xs sep).length ≤ 140737488355328) (H : AHeap) :
    Comp' 30 [.sl 1 (xs.map fun x => [str x]), str sep] H (str (Lib.join xs sep)) := by
  refine ⟨⟨_, Try.func30, by kernel_rfl, by kernel_rfl⟩, fun X ρ w vs hrel hargs => ?_⟩
  obtain ⟨a, b, rfl, ha, hb⟩ := repL2 hargs
  have hb := rep_vx hb
  subst hb
  cases xs with
  | nil =>
    simp only [List.map_nil] at ha
    have : ∃ ad cap, a = .slice ad 0 cap := by
      cases ha with
      | slE => exact ⟨_, _, rfl⟩
      | slN => exact ⟨_, _, rfl⟩
    obtain ⟨ad, cap, rfl⟩ := this
    refine (Go.Proofs.Try.strings_Join_none ad cap (mkS sep) w).mono ?_
    rintro e w' ⟨rfl, rfl⟩
    exact ⟨_, _, H, ρ, rfl, ⟨rfl, rfl⟩, hrel, .v _ _, Fut.refl _ _ _⟩
  | cons x0 xr =>
    generalize hxs : x0 :: xr = xs at *
    have hne : xs.map (fun x => [str x]) ≠ [] := by rw [← hxs]; simp
    generalize hys : xs.map (fun x => [str x]) = ys at *
    cases ha with
    | slE => exact absurd rfl hne
    | slN _ _ _ b o cap c hm hb hcap hsz hcell hrep =>
      have hlen : ys.length = xs.length := by rw [← hys]; simp
      have hmm : (xs.map mkS).map (fun x => x.data.toList) = xs := by
        rw [List.map_map]
        exact List.map_id _
      have hcells : ∀ (j : Nat) x, (xs.map mkS)[j]? = some x → w.cell? ⟨b, o + j, none⟩ = some (.string x) := by
        intro j x hx
        simp only [List.getElem?_map, Option.map_eq_some_iff] at hx
        obtain ⟨y, hy, rfl⟩ := hx
        have hyj : ys[j]? = some [str y] := by rw [← hys]; simp [hy]
        have h1 := hcell j 0 _ (str y) hyj rfl
        have h2 := rep_vx (hrep j 0 _ (str y) hyj rfl)
        simp only [Nat.mul_one, Nat.add_zero] at h1
        rw [h1.1, h2]
      have := Go.Proofs.Try.strings_Join b o cap (xs.map mkS) (mkS sep) w hcells hb (by simpa using hn) (by simp; omega) (by rw [hmm]; exact hl)
      rw [hmm, List.length_map, ← hlen] at this
      refine this.mono ?_
      rintro e w' ⟨rfl, hbel⟩
      obtain ⟨f1, f2⟩ := hrel.more ⟨hbel.os, hbel.tape, hbel.output, hbel.size⟩ hbel.block
      exact ⟨_, _, H, ρ, rfl, ⟨rfl, rfl⟩, f1, .v _ _, f2⟩

/-- Line number q (from 0). -/
def lnF (s : List UInt8) (q : Nat) : List UInt8 := cutF s (frF s ((q : Int) + 1)).toNat (endG s ((q : Int) + 1))
theorem drop_cut {s : List UInt8} {f i : Nat} (h : f ≤ i) : s.drop f = cutF s f i ++ s.drop i := by
  unfold cutF
  have : s.drop i = (s.drop f).drop (i - f) := by rw [List.drop_drop]; congr 1; omega
  rw [this, List.take_append_drop]
theorem join_lines (s : List UInt8) (hno : ∀ x ∈ s, x ≠ 13) : ∀ (d q : Nat), q + d + 1 = (linA s).length → Lib.join ((List.range' q (d + 1)).map (lnF s)) [10] = s.drop (frF s ((q : Int) + 1)).toNat := by
  intro d
  induction d with
  | zero =>
    intro q hq
    have hm : ((q : Int) + 1) = (linA s).length := by omega
    obtain ⟨f, hf, hfn, hc⟩ := ln_cases (s := s) (k := (q : Int) + 1) ⟨by omega, by omega⟩
    show Lib.join [lnF s q] [10] = _
    rw [Lib.join_one]
    unfold lnF endG
    rw [if_pos hm, hf, Int.toNat_natCast]
    rw [drop_cut hfn, List.drop_length, List.append_nil]
  | succ d ih =>
    intro q hq
    have hm : ¬ ((q : Int) + 1) = (linA s).length := by omega
    obtain ⟨f, hf, hfn, hc⟩ := ln_cases (s := s) (k := (q : Int) + 1) ⟨by omega, by omega⟩
    rcases hc with ⟨hm', _⟩ | ⟨_, i, i1, i2, ht, i3⟩
    · exact absurd hm' hm
    have hnext : frF s (((q + 1 : Nat) : Int) + 1) = (i : Int) + 1 := by
      rw [← ht]
      unfold frF toF
      rw [if_neg hm]
      congr 1
      omega
    have hl : lnF s q = cutF s f i := by
      unfold lnF endG
      rw [if_neg hm, hf, ht, Int.toNat_natCast, show ((i : Int) + 1).toNat - 1 = i by omega]
      unfold cr
      rw [if_neg]
      rintro ⟨h1, h2⟩
      have hlt : i - 1 < s.length := by omega
      have hmem : s.getD (i - 1) 0 ∈ s := by rw [getD_at hlt]; exact List.getElem_mem hlt
      exact hno _ hmem h2
    have hr : List.range' q (d + 1 + 1) = q :: List.range' (q + 1) (d + 1) := by rw [List.range'_succ]
    have hcc : ∀ (x y : List UInt8) (r : List (List UInt8)), Lib.join (x :: y :: r) [10] = x ++ ([10] ++ Lib.join (y :: r) [10]) := fun x y r => by
      rw [Lib.join_cons, Lib.join_cons]
      simp [Lib.joinTail]
    have hih := ih (q + 1) (by omega)
    rw [List.range'_succ, List.map_cons] at hih
    rw [hr, List.map_cons, List.range'_succ, List.map_cons, hcc, hih, hl, hf, hnext, Int.toNat_natCast, show ((i : Int) + 1).toNat = i + 1 by omega]
    rw [drop_cut i1]
    congr 1
    have := List.drop_eq_getElem_cons i2
    rw [this, ← getD_at i2, i3]
    rfl
theorem all_lines (s : List UInt8) (hno : ∀ x ∈ s, x ≠ 13) : Lib.join ((List.range (linA s).length).map (lnF s)) [10] = s := by
  have hp := linA_pos s
  obtain ⟨d, hd⟩ : ∃ d, (linA s).length = d + 1 := ⟨(linA s).length - 1, by omega⟩
  have h := join_lines s hno d 0 (by omega)
  rw [hd, List.range_eq_range']
  rw [h]
  have : frF s ((0 : Nat) + 1 : Int) = 0 := by
    unfold frF
    obtain ⟨rest, h1, _⟩ := linG_ext s 0 s.length
    rw [Nat.zero_add] at h1
    show (linG s s.length).getD _ 0 = 0
    rw [h1]
    rfl
  rw [this]
  rfl
#print axioms all_lines
end Go.Proofs.Ytiibbkbcebccnaa
