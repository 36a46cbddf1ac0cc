/- Parts, merged by a program (wip/tools/merge.py): Tr19 Ty2 Tr26 Tr27 Tr28 Fy Ax30 Tr29 Ty3 Ty4 Ty5 Ty6 Ty7 Ty8 Tr30. -/
import Derived.Test.YtnbdogodcjhfiaaM4
import Derived.Test.YtnbdogodcjhfiaaChecked
/- Trees: the example; what each law asks last; TreeShapes. -/
namespace Go.Proofs.Ytnbdogodcjhfiaa
open Go Go.Ax
set_option maxRecDepth 100000
set_option linter.unusedSimpArgs false
set_option linter.unusedVariables false

theorem AVLe_sl {sz : Nat} {xs ys : List (List AV)} (hl : xs.length = ys.length) (h : ∀ (i : Nat) (x y : List AV), xs[i]? = some x → ys[i]? = some y → x.length = y.length ∧ ∀ (j : Nat) (a b : AV), x[j]? = some a → y[j]? = some b → AV.Le a b) : AV.Le (.sl sz xs) (.sl sz ys) := fun w M ρ n v hv => by
  have row : ∀ (i : Nat) (y : List AV), ys[i]? = some y → ∃ x, xs[i]? = some x ∧ x.length = y.length ∧ ∀ (j : Nat) (a b : AV), x[j]? = some a → y[j]? = some b → AV.Le a b := fun i y hy => by
    have hi : i < xs.length := by rw [hl]; exact (List.getElem?_eq_some_iff.1 hy).1
    exact ⟨xs[i], List.getElem?_eq_getElem hi, h i _ y (List.getElem?_eq_getElem hi) hy⟩
  cases hv with
  | slE =>
    match ys, hl with
    | [], _ => exact .slE _ _ _ _
  | slN _ _ _ b o cap c hm hb hcap hsz hcell hrep =>
    rw [hl]
    have cell : ∀ (i j : Nat) (y : List AV) (b' : AV), ys[i]? = some y → y[j]? = some b' → ∃ x a, xs[i]? = some x ∧ x[j]? = some a ∧ AV.Le a b' := fun i j y b' hy hb' => by
      obtain ⟨x, hx, hxl, hxx⟩ := row i y hy
      have hj : j < x.length := by rw [hxl]; exact (List.getElem?_eq_some_iff.1 hb').1
      exact ⟨x, x[j], hx, List.getElem?_eq_getElem hj, hxx j _ b' (List.getElem?_eq_getElem hj) hb'⟩
    refine .slN _ _ _ b o cap c hm hb (by omega) (fun y hy => ?_) (fun i j y b' hy hb' => ?_) (fun i j y b' hy hb' => ?_)
    · obtain ⟨i, hi, rfl⟩ := List.mem_iff_getElem.1 hy
      obtain ⟨x, hx, hxl, _⟩ := row i _ (List.getElem?_eq_getElem hi)
      rw [← hxl]
      exact hsz x (List.mem_of_getElem? hx)
    · obtain ⟨x, a, hx, ha, _⟩ := cell i j y b' hy hb'
      exact hcell i j x a hx ha
    · obtain ⟨x, a, hx, ha, hle⟩ := cell i j y b' hy hb'
      exact hle _ _ _ _ _ (hrep i j x a hx ha)

theorem cell5 {p : AV → AV → Prop} {a0 a1 a2 a3 a4 b0 b1 b2 b3 b4 : AV} (h0 : p a0 b0) (h1 : p a1 b1) (h2 : p a2 b2) (h3 : p a3 b3) (h4 : p a4 b4) : ∀ (i : Nat) (x y : AV), [a0, a1, a2, a3, a4][i]? = some x → [b0, b1, b2, b3, b4][i]? = some y → p x y := by
  intro i x y hx hy
  match i with
  | 0 => cases hx; cases hy; exact h0
  | 1 => cases hx; cases hy; exact h1
  | 2 => cases hx; cases hy; exact h2
  | 3 => cases hx; cases hy; exact h3
  | 4 => cases hx; cases hy; exact h4
  | i + 5 => cases hx
/-- The same node, its list of kids nil where there is none. -/
inductive NdX : List AV → Nd → Prop
  | nil (k : Int) (t : List UInt8) (a e : Int) : NdX [int k, str t, int a, int e, nilS] (.mk k t a e [])
  | cons (k : Int) (t : List UInt8) (a e : Int) (xs : List (List AV)) (ks : List Nd) : xs.length = ks.length → (∀ (i : Nat) x m, xs[i]? = some x → ks[i]? = some m → NdX x m) → NdX [int k, str t, int a, int e, .sl 5 xs] (.mk k t a e ks)
theorem NdX.le {x : List AV} {n : Nd} (h : NdX x n) : x.length = 5 ∧ ∀ (i : Nat) (a b : AV), x[i]? = some a → (ndR n)[i]? = some b → AV.Le a b := by
  induction h with
  | nil k t a e =>
    refine ⟨rfl, ?_⟩
    have e : ndR (.mk k t a e []) = [int k, str t, int a, int e, .sl 5 []] := by simp [ndR, ndRs]
    rw [e]
    exact cell5 (AV.Le.refl _) (AV.Le.refl _) (AV.Le.refl _) (AV.Le.refl _) (AV.Le.nil 5)
  | cons k t a e xs ks hl h ih =>
    refine ⟨rfl, ?_⟩
    have e : ndR (.mk k t a e ks) = [int k, str t, int a, int e, .sl 5 (ks.map ndR)] := by simp [ndR, ndRs_map]
    rw [e]
    refine cell5 (AV.Le.refl _) (AV.Le.refl _) (AV.Le.refl _) (AV.Le.refl _) (AVLe_sl (by simpa using hl) fun i x y hx hy => ?_)
    rw [List.getElem?_map] at hy
    cases hm : ks[i]? with
    | none => rw [hm] at hy; cases hy
    | some m =>
      rw [hm] at hy
      obtain rfl : ndR m = y := by simpa using hy
      obtain ⟨h1, h2⟩ := ih i x m hx hm
      exact ⟨by rw [h1, nd_len], h2⟩
theorem NdX.agg {x : List AV} {n : Nd} (h : NdX x n) : AV.Le (.agg x) (.agg (ndR n)) := AV.Le.agg (by rw [h.le.1, nd_len]) h.le.2
theorem small_cnt {n : Nd} {m : Int} (h : smallF n m = true) : (cnt n : Int) ≤ m := by
  unfold smallF at h
  simp only [Bool.and_eq_true, decide_eq_true_eq] at h
  exact h.2
end Go.Proofs.Ytnbdogodcjhfiaa

/- Types, part 2: repetition, shapes, Valid. -/
namespace Go.Proofs.Ytnbdogodcjhfiaa
open Go Go.Ax
set_option maxRecDepth 100000
set_option linter.unusedSimpArgs false
set_option linter.unusedVariables false

abbrev u64 (n : Int) : AV := .v (.int .u64 n)
theorem mul64 (n : Nat) (h1 : 1 ≤ n) (h8 : n ≤ 8) (H : AHeap) : Comp' 139 [u64 1, u64 n] H (.tup [u64 0, u64 n]) := by
  refine enter Try.func139 L139_ok (Nat.le_of_ble_eq_true rfl) ?_
  have hn : n = 1 ∨ n = 2 ∨ n = 3 ∨ n = 4 ∨ n = 5 ∨ n = 6 ∨ n = 7 ∨ n = 8 := by omega
  rcases hn with rfl | rfl | rfl | rfl | rfl | rfl | rfl | rfl
  all_goals
    simp -implicitDefEqProofs (disch := omega) only [L139, push_cast, ↓reduceIte, Nat.reduceEqDiff, reduceCtorEq, Nat.reduceAdd, Nat.reduceSub, Nat.reduceMul, Nat.reduceLeDiff, Nat.reduceLT, Nat.reduceMod, Nat.reduceDiv, Int.reduceToNat, Int.reduceLT, Int.reduceLE, Int.reduceEq, Int.reduceAdd, Int.reduceSub, Int.reduceNeg, Int.reduceMul, Bool.and_self]
    refine congrArg (fun n : Int => AV.tup [u64 n, _]) ?_
    decide +kernel
theorem mulC (n : Nat) (h1 : 1 ≤ n) (h8 : n ≤ 8) (H : AHeap) : Comp' 132 [u64 1, u64 n] H (.tup [u64 0, u64 n]) := by
  refine enter Try.func132 L132_ok (Nat.le_of_ble_eq_true rfl) ?_
  repeat' (first | (refine And.intro (by omega) ?_) | (refine callF_pure (mul64 n h1 h8 _) ?_) | (refine callQF_pure (mul64 n h1 h8 _) (by first | rfl | simp only [L132, push_cast]) ?_) | simp -implicitDefEqProofs (disch := omega) only [L132, push_cast, ↓reduceIte, Nat.reduceEqDiff, reduceCtorEq, Nat.reduceAdd, Nat.reduceSub, Nat.reduceMul, Nat.reduceLeDiff, Nat.reduceLT, Nat.reduceMod, Nat.reduceDiv, Int.reduceToNat, Int.reduceLT, Int.reduceLE, Int.reduceEq, Int.reduceAdd, Int.reduceSub, Int.reduceNeg, Int.reduceMul, Bool.and_self] | split)

theorem rep_step {row : List AV} {xs : List (List AV)} {m n : Nat} (hl : xs.length = n) (hm : m ≤ n) (ht : xs.take m = List.replicate m row) :
    (xs.take m ++ (xs.take m).take (min m (n - m)) ++ xs.drop (m + min m (n - m))).length = n ∧ (xs.take m ++ (xs.take m).take (min m (n - m)) ++ xs.drop (m + min m (n - m))).take (m + min m (n - m)) = List.replicate (m + min m (n - m)) row := by
  refine ⟨by simp [hl]; omega, ?_⟩
  rw [ht, List.take_replicate, show min (min m (n - m)) m = min m (n - m) by omega, List.replicate_append_replicate]
  rw [List.take_left' (by simp)]

theorem repeatC (t : Ty) (n : Nat) (h1 : 1 ≤ n) (h8 : n ≤ 8) (H : AHeap) : Comp' 121 [.sl 3 [tyR t], int n] H (.sl 3 (List.replicate n (tyR t))) := by
  refine ACall.drop (R := fun x => x = .sl 3 (List.replicate n (tyR t))) ?_
  refine enter Try.func121 L121_ok (Nat.le_of_ble_eq_true rfl) ?_
  have w1 : IntKind.u64.wrap 1 = 1 := by decide
  have w2 : IntKind.u64.wrap n = n := wrapu64_of _ (by omega) (by omega)
  have hmin : min 1 n = 1 := by omega
  repeat' (first | (refine And.intro (by omega) ?_) | (refine callF_pure (mulC n h1 h8 _) ?_) | (refine callQF_pure (mulC n h1 h8 _) (by first | rfl | simp only [L121, w1, w2, hmin, push_cast]) ?_) | simp -implicitDefEqProofs (disch := omega) only [L121, w1, w2, hmin, dT_lt, dF_lt, dT_le, dF_le, dT_eq, dF_eq, push_cast, ↓reduceIte, Nat.reduceEqDiff, reduceCtorEq, Nat.reduceAdd, Nat.reduceSub, Nat.reduceMul, Nat.reduceLeDiff, Nat.reduceLT, Nat.reduceMod, Nat.reduceDiv, Int.reduceToNat, Int.reduceLT, Int.reduceLE, Int.reduceEq, Int.reduceAdd, Int.reduceSub, Int.reduceNeg, Int.reduceMul, Bool.and_self] | split)
  refine rk_loopS (fun (p : Nat × List (List AV)) e' H' => e' 7 = .os H.length 0 0 n ∧ e' 8 = int p.1 ∧ H' = H ++ [.arr 0 3 p.2] ∧ 1 ≤ p.1 ∧ p.1 ≤ n ∧ p.2.length = n ∧ p.2.take p.1 = List.replicate p.1 (tyR t)) (fun p => n - p.1) (1, tyR t :: List.drop 1 (List.replicate n [int 0, int 0, str []])) ?_ ?_
  · exact ⟨rfl, rfl, rfl, by omega, h1, by simp; omega, rfl⟩
  rintro ⟨m, xs⟩ e' H' ⟨h7, h8', rfl, hm1, hmn, hl, ht⟩
  simp only at h7 h8' hm1 hmn hl ht
  have hst := rep_step hl hmn ht
  by_cases hlt : m < n
  · have e1 : min (xs.take m).length (n - m) = min m (n - m) := by simp; omega
    rw [List.append_assoc] at hst
    repeat' (first | (refine And.intro (by omega) ?_) | simp -implicitDefEqProofs (disch := omega) only [h7, h8', osRows_eq, osRowsO_arr, Nat.zero_add, Nat.sub_zero, e1, dT_lt, dF_lt, dT_le, dF_le, dT_eq, dF_eq, push_cast, ↓reduceIte, Nat.reduceEqDiff, reduceCtorEq, Nat.reduceAdd, Nat.reduceSub, Nat.reduceMul, Nat.reduceLeDiff, Nat.reduceLT, Nat.reduceMod, Nat.reduceDiv, Int.reduceToNat, Int.reduceLT, Int.reduceLE, Int.reduceEq, Int.reduceAdd, Int.reduceSub, Int.reduceNeg, Int.reduceMul, Bool.and_self] | split)
    exact .mk (m + min m (n - m), _) ⟨h7, by simp [up], rfl, by simp only; omega, by simp only; omega, hst.1, hst.2⟩ (by simp only; omega)
  · repeat' (first | (refine And.intro (by omega) ?_) | simp -implicitDefEqProofs (disch := omega) only [h7, h8', dT_lt, dF_lt, dT_le, dF_le, dT_eq, dF_eq, push_cast, ↓reduceIte, Nat.reduceEqDiff, reduceCtorEq, Nat.reduceAdd, Nat.reduceSub, Nat.reduceMul, Nat.reduceLeDiff, Nat.reduceLT, Nat.reduceMod, Nat.reduceDiv, Int.reduceToNat, Int.reduceLT, Int.reduceLE, Int.reduceEq, Int.reduceAdd, Int.reduceSub, Int.reduceNeg, Int.reduceMul, Bool.and_self] | split)
    have : m = n := by omega
    subst this
    exact ⟨by rw [ht], _, rfl⟩

theorem shp4 (t : Ty) (rs : List Rc) (n : Nat) (hn : t.len = n) (h1 : 1 ≤ n) (h8 : n ≤ 8) (H : AHeap) : Comp' 120 [.agg (tyR t), .sl 2 (rs.map rcR)] H (.sl 3 (List.replicate n (tyR tyI))) := by
  refine ACall.drop (R := fun x => x = .sl 3 (List.replicate n (tyR tyI))) ?_
  refine enter Try.func120 L120_ok (Nat.le_of_ble_eq_true rfl) ?_
  repeat' (first | (refine And.intro (by omega) ?_) | (refine callF_pure (repeatC tyI n h1 h8 _) ?_) | (refine callQF_pure (repeatC tyI n h1 h8 _) (by first | rfl | simp only [L120, tyR, hn, push_cast]) ?_) | simp -implicitDefEqProofs (disch := omega) only [L120, tyR, hn, dT_lt, dF_lt, dT_le, dF_le, dT_eq, dF_eq, push_cast, ↓reduceIte, Nat.reduceEqDiff, reduceCtorEq, Nat.reduceAdd, Nat.reduceSub, Nat.reduceMul, Nat.reduceLeDiff, Nat.reduceLT, Nat.reduceMod, Nat.reduceDiv, Int.reduceToNat, Int.reduceLT, Int.reduceLE, Int.reduceEq, Int.reduceAdd, Int.reduceSub, Int.reduceNeg, Int.reduceMul, Bool.and_self] | split)
  exact ⟨_, rfl⟩

def shpK : List Value := [.int .i64 1, .int .i64 2, .int .i64 3, .int .i64 4]
def shpX : List AV := [.agg [.fn (.func 117) [] [], .fn (.func 118) [] []], .agg [.fn (.func 117) [] [], .fn (.func 118) [] []], .agg [.fn (.func 119) [] [], .fn (.func 120) [] []], .agg [.fn (.func 122) [] [], .fn (.func 124) [] []]]
theorem shapes (H : AHeap) : Comp' 96 [] H (.mp shpK shpX) := by
  refine ACall.drop (R := fun x => x = .mp shpK shpX) ?_
  refine enter Try.func96 L96_ok (Nat.le_of_ble_eq_true rfl) ?_
  repeat' (first | (refine And.intro (by omega) ?_) | simp -implicitDefEqProofs (disch := omega) only [L96, dT_lt, dF_lt, dT_le, dF_le, dT_eq, dF_eq, push_cast, ↓reduceIte, Nat.reduceEqDiff, reduceCtorEq, Nat.reduceAdd, Nat.reduceSub, Nat.reduceMul, Nat.reduceLeDiff, Nat.reduceLT, Nat.reduceMod, Nat.reduceDiv, Int.reduceToNat, Int.reduceLT, Int.reduceLE, Int.reduceEq, Int.reduceAdd, Int.reduceSub, Int.reduceNeg, Int.reduceMul, Bool.and_self] | split)
  simp [kEq, shpK, shpX]
theorem shp_cmp (n : Int) : (∀ k' ∈ shpK, kCmp (.int .i64 n) k' = true) = True := by simp [shpK, kCmp]
theorem shp_1 : mget (.int .i64 1) shpK shpX = some (.agg [.fn (.func 117) [] [], .fn (.func 118) [] []]) := rfl
theorem shp_2 : mget (.int .i64 2) shpK shpX = some (.agg [.fn (.func 117) [] [], .fn (.func 118) [] []]) := rfl
theorem shp_3 : mget (.int .i64 3) shpK shpX = some (.agg [.fn (.func 119) [] [], .fn (.func 120) [] []]) := rfl
theorem shp_4 : mget (.int .i64 4) shpK shpX = some (.agg [.fn (.func 122) [] [], .fn (.func 124) [] []]) := rfl
theorem shp_no {k : Int} (h : k ≠ 1 ∧ k ≠ 2 ∧ k ≠ 3 ∧ k ≠ 4) : mget (.int .i64 k) shpK shpX = none := by
  simp [mget, shpK, shpX, kEq, h]

/-- Does a type exist? -/
def validF (t : Ty) (rs : List Rc) : Bool :=
  if t.k = 1 ∨ t.k = 2 then decide (t.len = 0) && decide (t.rc = [])
  else if t.k = 3 then decide (1 ≤ t.len) && decide (t.len ≤ 8) && decide (t.rc = [])
  else if t.k = 4 then decide (t.len = 0) && (idxF rs t.rc).isSome
  else false
theorem valid (t : Ty) (rs : List Rc) (H : AHeap) (hl : (rs.length : Int) < 9223372036854775807) : Comp' 71 [.agg (tyR t), .sl 2 (rs.map rcR)] H (bool (validF t rs)) := by
  refine ACall.drop (R := fun x => x = bool (validF t rs)) ?_
  refine enter Try.func71 L71_ok (Nat.le_of_ble_eq_true rfl) ?_
  obtain ⟨k, len, rc⟩ := t
  have hk : k = 1 ∨ k = 2 ∨ k = 3 ∨ k = 4 ∨ (k ≠ 1 ∧ k ≠ 2 ∧ k ≠ 3 ∧ k ≠ 4) := by omega
  rcases hk with rfl | rfl | rfl | rfl | hk
  · repeat' (first | (refine And.intro (by omega) ?_) | (refine callF_pure (shapes _) ?_) | (refine callF_pure (shp1 ⟨1, len, rc⟩ rs _) ?_) | (refine callQF_pure (shapes _) (by first | rfl | simp only [L71, tyR, shp_1, shp_cmp, lookV, push_cast]) ?_) | (refine callQF_pure (shp1 ⟨1, len, rc⟩ rs _) (by first | rfl | simp only [L71, tyR, shp_1, shp_cmp, lookV, push_cast]) ?_) | simp -implicitDefEqProofs (disch := omega) only [L71, tyR, shp_1, shp_cmp, lookV, dT_lt, dF_lt, dT_le, dF_le, dT_eq, dF_eq, push_cast, ↓reduceIte, Nat.reduceEqDiff, reduceCtorEq, Nat.reduceAdd, Nat.reduceSub, Nat.reduceMul, Nat.reduceLeDiff, Nat.reduceLT, Nat.reduceMod, Nat.reduceDiv, Int.reduceToNat, Int.reduceLT, Int.reduceLE, Int.reduceEq, Int.reduceAdd, Int.reduceSub, Int.reduceNeg, Int.reduceMul, Bool.and_self] | split)
    exact ⟨rfl, _, rfl⟩
  · repeat' (first | (refine And.intro (by omega) ?_) | (refine callF_pure (shapes _) ?_) | (refine callF_pure (shp1 ⟨2, len, rc⟩ rs _) ?_) | (refine callQF_pure (shapes _) (by first | rfl | simp only [L71, tyR, shp_2, shp_cmp, lookV, push_cast]) ?_) | (refine callQF_pure (shp1 ⟨2, len, rc⟩ rs _) (by first | rfl | simp only [L71, tyR, shp_2, shp_cmp, lookV, push_cast]) ?_) | simp -implicitDefEqProofs (disch := omega) only [L71, tyR, shp_2, shp_cmp, lookV, dT_lt, dF_lt, dT_le, dF_le, dT_eq, dF_eq, push_cast, ↓reduceIte, Nat.reduceEqDiff, reduceCtorEq, Nat.reduceAdd, Nat.reduceSub, Nat.reduceMul, Nat.reduceLeDiff, Nat.reduceLT, Nat.reduceMod, Nat.reduceDiv, Int.reduceToNat, Int.reduceLT, Int.reduceLE, Int.reduceEq, Int.reduceAdd, Int.reduceSub, Int.reduceNeg, Int.reduceMul, Bool.and_self] | split)
    exact ⟨rfl, _, rfl⟩
  · repeat' (first | (refine And.intro (by omega) ?_) | (refine callF_pure (shapes _) ?_) | (refine callF_pure (shp3 ⟨3, len, rc⟩ rs _) ?_) | (refine callQF_pure (shapes _) (by first | rfl | simp only [L71, tyR, shp_3, shp_cmp, lookV, push_cast]) ?_) | (refine callQF_pure (shp3 ⟨3, len, rc⟩ rs _) (by first | rfl | simp only [L71, tyR, shp_3, shp_cmp, lookV, push_cast]) ?_) | simp -implicitDefEqProofs (disch := omega) only [L71, tyR, shp_3, shp_cmp, lookV, dT_lt, dF_lt, dT_le, dF_le, dT_eq, dF_eq, push_cast, ↓reduceIte, Nat.reduceEqDiff, reduceCtorEq, Nat.reduceAdd, Nat.reduceSub, Nat.reduceMul, Nat.reduceLeDiff, Nat.reduceLT, Nat.reduceMod, Nat.reduceDiv, Int.reduceToNat, Int.reduceLT, Int.reduceLE, Int.reduceEq, Int.reduceAdd, Int.reduceSub, Int.reduceNeg, Int.reduceMul, Bool.and_self] | split)
    exact ⟨rfl, _, rfl⟩
  · repeat' (first | (refine And.intro (by omega) ?_) | (refine callF_pure (shapes _) ?_) | (refine callF_pure (shp5 ⟨4, len, rc⟩ rs _ hl) ?_) | (refine callQF_pure (shapes _) (by first | rfl | simp only [L71, tyR, shp_4, shp_cmp, lookV, push_cast]) ?_) | (refine callQF_pure (shp5 ⟨4, len, rc⟩ rs _ hl) (by first | rfl | simp only [L71, tyR, shp_4, shp_cmp, lookV, push_cast]) ?_) | simp -implicitDefEqProofs (disch := omega) only [L71, tyR, shp_4, shp_cmp, lookV, dT_lt, dF_lt, dT_le, dF_le, dT_eq, dF_eq, push_cast, ↓reduceIte, Nat.reduceEqDiff, reduceCtorEq, Nat.reduceAdd, Nat.reduceSub, Nat.reduceMul, Nat.reduceLeDiff, Nat.reduceLT, Nat.reduceMod, Nat.reduceDiv, Int.reduceToNat, Int.reduceLT, Int.reduceLE, Int.reduceEq, Int.reduceAdd, Int.reduceSub, Int.reduceNeg, Int.reduceMul, Bool.and_self] | split)
    exact ⟨rfl, _, rfl⟩
  · repeat' (first | (refine And.intro (by omega) ?_) | (refine callF_pure (shapes _) ?_) | (refine callQF_pure (shapes _) (by first | rfl | simp only [L71, tyR, shp_no hk, shp_cmp, lookV, push_cast]) ?_) | simp -implicitDefEqProofs (disch := omega) only [L71, tyR, shp_no hk, shp_cmp, lookV, dT_lt, dF_lt, dT_le, dF_le, dT_eq, dF_eq, push_cast, ↓reduceIte, Nat.reduceEqDiff, reduceCtorEq, Nat.reduceAdd, Nat.reduceSub, Nat.reduceMul, Nat.reduceLeDiff, Nat.reduceLT, Nat.reduceMod, Nat.reduceDiv, Int.reduceToNat, Int.reduceLT, Int.reduceLE, Int.reduceEq, Int.reduceAdd, Int.reduceSub, Int.reduceNeg, Int.reduceMul, Bool.and_self] | split)
    exact ⟨by simp [validF, hk], _, rfl⟩
theorem validR (t : Ty) (rs : List Rc) (H : AHeap) (hl : (rs.length : Int) < 9223372036854775807) : Comp' 74 [.agg (tyR t), .sl 2 (rs.map rcR)] H (bool (validF t rs)) := by
  refine ACall.drop (R := fun x => x = bool (validF t rs)) ?_
  refine enter Try.func74 L74_ok (Nat.le_of_ble_eq_true rfl) ?_
  obtain ⟨k, len, rc⟩ := t
  have hk : k = 1 ∨ k = 2 ∨ k = 3 ∨ k = 4 ∨ (k ≠ 1 ∧ k ≠ 2 ∧ k ≠ 3 ∧ k ≠ 4) := by omega
  rcases hk with rfl | rfl | rfl | rfl | hk
  · repeat' (first | (refine And.intro (by omega) ?_) | (refine callF_pure (indexR _ _ _ hl) ?_) | (refine callQF_pure (indexR _ _ _ hl) (by first | rfl | simp only [L74, tyR, push_cast]) ?_) | simp -implicitDefEqProofs (disch := omega) only [L74, tyR, dT_lt, dF_lt, dT_le, dF_le, dT_eq, dF_eq, push_cast, ↓reduceIte, Nat.reduceEqDiff, reduceCtorEq, Nat.reduceAdd, Nat.reduceSub, Nat.reduceMul, Nat.reduceLeDiff, Nat.reduceLT, Nat.reduceMod, Nat.reduceDiv, Int.reduceToNat, Int.reduceLT, Int.reduceLE, Int.reduceEq, Int.reduceAdd, Int.reduceSub, Int.reduceNeg, Int.reduceMul, Bool.and_self] | split)
    all_goals first | exact ⟨_, rfl⟩ | (refine ⟨?_, _, rfl⟩; simp_all [validF]; done) | (refine ⟨?_, _, rfl⟩; simp_all [validF]; omega)
  · repeat' (first | (refine And.intro (by omega) ?_) | (refine callF_pure (indexR _ _ _ hl) ?_) | (refine callQF_pure (indexR _ _ _ hl) (by first | rfl | simp only [L74, tyR, push_cast]) ?_) | simp -implicitDefEqProofs (disch := omega) only [L74, tyR, dT_lt, dF_lt, dT_le, dF_le, dT_eq, dF_eq, push_cast, ↓reduceIte, Nat.reduceEqDiff, reduceCtorEq, Nat.reduceAdd, Nat.reduceSub, Nat.reduceMul, Nat.reduceLeDiff, Nat.reduceLT, Nat.reduceMod, Nat.reduceDiv, Int.reduceToNat, Int.reduceLT, Int.reduceLE, Int.reduceEq, Int.reduceAdd, Int.reduceSub, Int.reduceNeg, Int.reduceMul, Bool.and_self] | split)
    all_goals first | exact ⟨_, rfl⟩ | (refine ⟨?_, _, rfl⟩; simp_all [validF]; done) | (refine ⟨?_, _, rfl⟩; simp_all [validF]; omega)
  · repeat' (first | (refine And.intro (by omega) ?_) | (refine callF_pure (indexR _ _ _ hl) ?_) | (refine callQF_pure (indexR _ _ _ hl) (by first | rfl | simp only [L74, tyR, push_cast]) ?_) | simp -implicitDefEqProofs (disch := omega) only [L74, tyR, dT_lt, dF_lt, dT_le, dF_le, dT_eq, dF_eq, push_cast, ↓reduceIte, Nat.reduceEqDiff, reduceCtorEq, Nat.reduceAdd, Nat.reduceSub, Nat.reduceMul, Nat.reduceLeDiff, Nat.reduceLT, Nat.reduceMod, Nat.reduceDiv, Int.reduceToNat, Int.reduceLT, Int.reduceLE, Int.reduceEq, Int.reduceAdd, Int.reduceSub, Int.reduceNeg, Int.reduceMul, Bool.and_self] | split)
    all_goals first | exact ⟨_, rfl⟩ | (refine ⟨?_, _, rfl⟩; simp_all [validF]; done) | (refine ⟨?_, _, rfl⟩; simp_all [validF]; omega)
  · have hi : idxF rs rc = none ∨ ∃ i, idxF rs rc = some i := by cases idxF rs rc <;> simp
    rcases hi with hi | ⟨i, hi⟩
    · repeat' (first | (refine And.intro (by omega) ?_) | (refine callF_pure (indexR _ _ _ hl) ?_) | (refine callQF_pure (indexR _ _ _ hl) (by first | rfl | simp only [L74, tyR, hi, idxI, push_cast]) ?_) | simp -implicitDefEqProofs (disch := omega) only [L74, tyR, hi, idxI, dT_lt, dF_lt, dT_le, dF_le, dT_eq, dF_eq, push_cast, ↓reduceIte, Nat.reduceEqDiff, reduceCtorEq, Nat.reduceAdd, Nat.reduceSub, Nat.reduceMul, Nat.reduceLeDiff, Nat.reduceLT, Nat.reduceMod, Nat.reduceDiv, Int.reduceToNat, Int.reduceLT, Int.reduceLE, Int.reduceEq, Int.reduceAdd, Int.reduceSub, Int.reduceNeg, Int.reduceMul, Bool.and_self] | split)
      all_goals first | exact ⟨_, rfl⟩ | (refine ⟨?_, _, rfl⟩; simp_all [validF]; done) | (refine ⟨?_, _, rfl⟩; simp_all [validF]; omega)
    · repeat' (first | (refine And.intro (by omega) ?_) | (refine callF_pure (indexR _ _ _ hl) ?_) | (refine callQF_pure (indexR _ _ _ hl) (by first | rfl | simp only [L74, tyR, hi, idxI, push_cast]) ?_) | simp -implicitDefEqProofs (disch := omega) only [L74, tyR, hi, idxI, dT_lt, dF_lt, dT_le, dF_le, dT_eq, dF_eq, push_cast, ↓reduceIte, Nat.reduceEqDiff, reduceCtorEq, Nat.reduceAdd, Nat.reduceSub, Nat.reduceMul, Nat.reduceLeDiff, Nat.reduceLT, Nat.reduceMod, Nat.reduceDiv, Int.reduceToNat, Int.reduceLT, Int.reduceLE, Int.reduceEq, Int.reduceAdd, Int.reduceSub, Int.reduceNeg, Int.reduceMul, Bool.and_self] | split)
      all_goals first | exact ⟨_, rfl⟩ | (refine ⟨?_, _, rfl⟩; simp_all [validF]; done) | (refine ⟨?_, _, rfl⟩; simp_all [validF]; omega)
  · obtain ⟨n1, n2, n3, n4⟩ := hk
    repeat' (first | (refine And.intro (by omega) ?_) | (refine callF_pure (indexR _ _ _ hl) ?_) | (refine callQF_pure (indexR _ _ _ hl) (by first | rfl | simp only [L74, tyR, n1, n2, n3, n4, push_cast]) ?_) | simp -implicitDefEqProofs (disch := omega) only [L74, tyR, n1, n2, n3, n4, dT_lt, dF_lt, dT_le, dF_le, dT_eq, dF_eq, push_cast, ↓reduceIte, Nat.reduceEqDiff, reduceCtorEq, Nat.reduceAdd, Nat.reduceSub, Nat.reduceMul, Nat.reduceLeDiff, Nat.reduceLT, Nat.reduceMod, Nat.reduceDiv, Int.reduceToNat, Int.reduceLT, Int.reduceLE, Int.reduceEq, Int.reduceAdd, Int.reduceSub, Int.reduceNeg, Int.reduceMul, Bool.and_self] | split)
    all_goals first | exact ⟨_, rfl⟩ | (refine ⟨?_, _, rfl⟩; simp_all [validF]; done) | (refine ⟨?_, _, rfl⟩; simp_all [validF]; omega)
end Go.Proofs.Ytnbdogodcjhfiaa

/- Trees and types: the type that a node writes. -/
namespace Go.Proofs.Ytnbdogodcjhfiaa
open Go Go.Ax
set_option maxRecDepth 100000
set_option linter.unusedSimpArgs false
set_option linter.unusedVariables false

/-- The type that a node's text stands for. -/
def rawF (k : Int) (t : List UInt8) : Ty :=
  if k = 10 then ⟨3, if isNum t = true then numN 0 t else 0, []⟩
  else if k = 9 then (if t = [105, 110, 116] then tyI else if t = [98, 111, 111, 108] then tyB else ⟨4, 0, t⟩)
  else ⟨0, 0, []⟩
def writF (n : Nd) (rs : List Rc) : Option Ty := if validF (rawF n.kind n.text) rs = true then some (rawF n.kind n.text) else none
def writV (n : Nd) (rs : List Rc) : AV := match writF n rs with
  | some t => .tup [.agg (tyR t), bool true]
  | none => .tup [.agg (tyR ⟨0, 0, []⟩), bool false]

theorem writV_ok {n : Nd} {rs : List Rc} {t : Ty} (h : rawF n.kind n.text = t) (hv : validF t rs = true) : writV n rs = .tup [.agg (tyR t), bool true] := by
  subst h
  unfold writV writF
  rw [if_pos hv]
theorem writV_no {n : Nd} {rs : List Rc} {t : Ty} (h : rawF n.kind n.text = t) (hv : validF t rs = false) : writV n rs = .tup [.agg [int 0, int 0, str []], bool false] := by
  subst h
  unfold writV writF
  rw [if_neg (by simp [hv])]
  rfl
theorem scalarR (t : List UInt8) (H : AHeap) : Comp' 72 [str t] H (.agg (tyR (if t = [98, 111, 111, 108] then tyB else tyI))) := by
  refine ACall.drop (R := fun x => x = .agg (tyR (if t = [98, 111, 111, 108] then tyB else tyI))) ?_
  refine enter Try.func72 L72_ok (Nat.le_of_ble_eq_true rfl) ?_
  by_cases h : t = [98, 111, 111, 108]
  · subst h
    rw [if_pos rfl]
    repeat' (first | (refine And.intro (by omega) ?_) | simp -implicitDefEqProofs (disch := omega) only [L72, dT_lt, dF_lt, dT_le, dF_le, dT_eq, dF_eq, push_cast, ↓reduceIte, Nat.reduceEqDiff, reduceCtorEq, Nat.reduceAdd, Nat.reduceSub, Nat.reduceMul, Nat.reduceLeDiff, Nat.reduceLT, Nat.reduceMod, Nat.reduceDiv, Int.reduceToNat, Int.reduceLT, Int.reduceLE, Int.reduceEq, Int.reduceAdd, Int.reduceSub, Int.reduceNeg, Int.reduceMul, Bool.and_self] | split)
    all_goals exact ⟨rfl, _, rfl⟩
  · rw [if_neg h]
    repeat' (first | (refine And.intro (by omega) ?_) | simp -implicitDefEqProofs (disch := omega) only [L72, dT_lt, dF_lt, dT_le, dF_le, dT_eq, dF_eq, push_cast, ↓reduceIte, Nat.reduceEqDiff, reduceCtorEq, Nat.reduceAdd, Nat.reduceSub, Nat.reduceMul, Nat.reduceLeDiff, Nat.reduceLT, Nat.reduceMod, Nat.reduceDiv, Int.reduceToNat, Int.reduceLT, Int.reduceLE, Int.reduceEq, Int.reduceAdd, Int.reduceSub, Int.reduceNeg, Int.reduceMul, Bool.and_self] | split)
    all_goals first | exact ⟨rfl, _, rfl⟩ | contradiction
theorem scalarI (H : AHeap) : Comp' 72 [str [105, 110, 116]] H (.agg [int 1, int 0, str []]) := by
  have h := scalarR [105, 110, 116] H
  rw [if_neg (by decide)] at h
  exact h
theorem scalarB (H : AHeap) : Comp' 72 [str [98, 111, 111, 108]] H (.agg [int 2, int 0, str []]) := by
  have h := scalarR [98, 111, 111, 108] H
  rw [if_pos rfl] at h
  exact h
theorem writT (n : Nd) (rs : List Rc) (hn : (n.text.length : Int) < 9223372036854775807) (hl : (rs.length : Int) < 9223372036854775807) (H : AHeap) : Comp' 44 [.agg (ndR n), .sl 2 (rs.map rcR)] H (writV n rs) := by
  refine ACall.drop (R := fun x => x = writV n rs) ?_
  refine enter Try.func44 L44_ok (Nat.le_of_ble_eq_true rfl) ?_
  obtain ⟨k, t, a, e, ks⟩ := n
  have hn : (t.length : Int) < 9223372036854775807 := hn
  have c1 := fun H => number t H hn
  have c2 := fun t H => valid t rs H hl
  unfold numV at c1
  by_cases h10 : k = 10
  · subst h10
    by_cases hnum : isNum t = true
    · have hr : rawF 10 t = ⟨3, numN 0 t, []⟩ := by unfold rawF; rw [if_pos rfl, if_pos hnum]
      simp only [hnum, if_true] at c1
      have c3 := fun H => c2 ⟨3, numN 0 t, []⟩ H
      generalize (numN 0 t : Int) = m at *
      cases hv : validF ⟨3, m, []⟩ rs with
      | true =>
        rw [writV_ok (n := .mk 10 t a e ks) hr hv]
        rw [hv] at c3
        simp only [tyR, tyI, tyB] at c3 ⊢
        repeat' (first | (refine And.intro (by omega) ?_) | (refine callF_pure (c1 _) ?_) | (refine callF_pure (c3 _) ?_) | (refine callQF_pure (c1 _) (by first | rfl | simp only [L44, ndR, splice, push_cast]) ?_) | (refine callQF_pure (c3 _) (by first | rfl | simp only [L44, ndR, splice, push_cast]) ?_) | simp -implicitDefEqProofs (disch := omega) only [L44, ndR, splice, dT_lt, dF_lt, dT_le, dF_le, dT_eq, dF_eq, push_cast, ↓reduceIte, Nat.reduceEqDiff, reduceCtorEq, Nat.reduceAdd, Nat.reduceSub, Nat.reduceMul, Nat.reduceLeDiff, Nat.reduceLT, Nat.reduceMod, Nat.reduceDiv, Int.reduceToNat, Int.reduceLT, Int.reduceLE, Int.reduceEq, Int.reduceAdd, Int.reduceSub, Int.reduceNeg, Int.reduceMul, Bool.and_self] | split)
        exact ⟨_, rfl⟩
      | false =>
        rw [writV_no (n := .mk 10 t a e ks) hr hv]
        rw [hv] at c3
        simp only [tyR, tyI, tyB] at c3
        repeat' (first | (refine And.intro (by omega) ?_) | (refine callF_pure (c1 _) ?_) | (refine callF_pure (c3 _) ?_) | (refine callQF_pure (c1 _) (by first | rfl | simp only [L44, ndR, splice, push_cast]) ?_) | (refine callQF_pure (c3 _) (by first | rfl | simp only [L44, ndR, splice, push_cast]) ?_) | simp -implicitDefEqProofs (disch := omega) only [L44, ndR, splice, dT_lt, dF_lt, dT_le, dF_le, dT_eq, dF_eq, push_cast, ↓reduceIte, Nat.reduceEqDiff, reduceCtorEq, Nat.reduceAdd, Nat.reduceSub, Nat.reduceMul, Nat.reduceLeDiff, Nat.reduceLT, Nat.reduceMod, Nat.reduceDiv, Int.reduceToNat, Int.reduceLT, Int.reduceLE, Int.reduceEq, Int.reduceAdd, Int.reduceSub, Int.reduceNeg, Int.reduceMul, Bool.and_self] | split)
        exact ⟨_, rfl⟩
    · have hr : rawF 10 t = ⟨3, 0, []⟩ := by unfold rawF; rw [if_pos rfl, if_neg hnum]
      simp only [hnum, if_false] at c1
      have c3 := fun H => c2 ⟨3, 0, []⟩ H
      have hv : validF ⟨3, 0, []⟩ rs = false := rfl
      rw [writV_no (n := .mk 10 t a e ks) hr hv]
      rw [hv] at c3
      simp only [tyR] at c3
      repeat' (first | (refine And.intro (by omega) ?_) | (refine callF_pure (c1 _) ?_) | (refine callF_pure (c3 _) ?_) | (refine callQF_pure (c1 _) (by first | rfl | simp only [L44, ndR, splice, push_cast]) ?_) | (refine callQF_pure (c3 _) (by first | rfl | simp only [L44, ndR, splice, push_cast]) ?_) | simp -implicitDefEqProofs (disch := omega) only [L44, ndR, splice, dT_lt, dF_lt, dT_le, dF_le, dT_eq, dF_eq, push_cast, ↓reduceIte, Nat.reduceEqDiff, reduceCtorEq, Nat.reduceAdd, Nat.reduceSub, Nat.reduceMul, Nat.reduceLeDiff, Nat.reduceLT, Nat.reduceMod, Nat.reduceDiv, Int.reduceToNat, Int.reduceLT, Int.reduceLE, Int.reduceEq, Int.reduceAdd, Int.reduceSub, Int.reduceNeg, Int.reduceMul, Bool.and_self] | split)
      exact ⟨_, rfl⟩
  · by_cases h9 : k = 9
    · subst h9
      by_cases hi : t = [105, 110, 116]
      · subst hi
        have hr : rawF 9 [105, 110, 116] = tyI := rfl
        have c3 := fun H => c2 tyI H
        have hv : validF tyI rs = true := rfl
        rw [writV_ok (n := .mk 9 _ a e ks) hr hv]
        rw [hv] at c3
        simp only [tyR, tyI] at c3 ⊢
        repeat' (first | (refine And.intro (by omega) ?_) | (refine callF_pure (c3 _) ?_) | (refine callQF_pure (c3 _) (by first | rfl | simp only [L44, ndR, splice, push_cast]) ?_) | simp -implicitDefEqProofs (disch := omega) only [L44, ndR, splice, dT_lt, dF_lt, dT_le, dF_le, dT_eq, dF_eq, push_cast, ↓reduceIte, Nat.reduceEqDiff, reduceCtorEq, Nat.reduceAdd, Nat.reduceSub, Nat.reduceMul, Nat.reduceLeDiff, Nat.reduceLT, Nat.reduceMod, Nat.reduceDiv, Int.reduceToNat, Int.reduceLT, Int.reduceLE, Int.reduceEq, Int.reduceAdd, Int.reduceSub, Int.reduceNeg, Int.reduceMul, Bool.and_self] | split)
        exact ⟨_, rfl⟩
      · by_cases hb : t = [98, 111, 111, 108]
        · subst hb
          have hr : rawF 9 [98, 111, 111, 108] = tyB := rfl
          have c3 := fun H => c2 tyB H
          have hv : validF tyB rs = true := rfl
          rw [writV_ok (n := .mk 9 _ a e ks) hr hv]
          rw [hv] at c3
          simp only [tyR, tyB] at c3 ⊢
          repeat' (first | (refine And.intro (by omega) ?_) | (refine callF_pure (c3 _) ?_) | (refine callQF_pure (c3 _) (by first | rfl | simp only [L44, ndR, splice, push_cast]) ?_) | simp -implicitDefEqProofs (disch := omega) only [L44, ndR, splice, dT_lt, dF_lt, dT_le, dF_le, dT_eq, dF_eq, push_cast, ↓reduceIte, Nat.reduceEqDiff, reduceCtorEq, Nat.reduceAdd, Nat.reduceSub, Nat.reduceMul, Nat.reduceLeDiff, Nat.reduceLT, Nat.reduceMod, Nat.reduceDiv, Int.reduceToNat, Int.reduceLT, Int.reduceLE, Int.reduceEq, Int.reduceAdd, Int.reduceSub, Int.reduceNeg, Int.reduceMul, Bool.and_self] | split)
          exact ⟨_, rfl⟩
        · have hr : rawF 9 t = ⟨4, 0, t⟩ := by unfold rawF; rw [if_neg (by simp), if_pos rfl, if_neg hi, if_neg hb]
          have c3 := fun H => c2 ⟨4, 0, t⟩ H
          cases hv : validF ⟨4, 0, t⟩ rs with
          | true =>
            rw [writV_ok (n := .mk 9 t a e ks) hr hv]
            rw [hv] at c3
            simp only [tyR, tyI, tyB] at c3 ⊢
            repeat' (first | (refine And.intro (by omega) ?_) | (refine callF_pure (c1 _) ?_) | (refine callF_pure (c3 _) ?_) | (refine callQF_pure (c1 _) (by first | rfl | simp only [L44, ndR, splice, hi, hb, decide_false, push_cast]) ?_) | (refine callQF_pure (c3 _) (by first | rfl | simp only [L44, ndR, splice, hi, hb, decide_false, push_cast]) ?_) | simp -implicitDefEqProofs (disch := omega) only [L44, ndR, splice, hi, hb, decide_false, dT_lt, dF_lt, dT_le, dF_le, dT_eq, dF_eq, push_cast, ↓reduceIte, Nat.reduceEqDiff, reduceCtorEq, Nat.reduceAdd, Nat.reduceSub, Nat.reduceMul, Nat.reduceLeDiff, Nat.reduceLT, Nat.reduceMod, Nat.reduceDiv, Int.reduceToNat, Int.reduceLT, Int.reduceLE, Int.reduceEq, Int.reduceAdd, Int.reduceSub, Int.reduceNeg, Int.reduceMul, Bool.and_self] | split)
            exact ⟨_, rfl⟩
          | false =>
            rw [writV_no (n := .mk 9 t a e ks) hr hv]
            rw [hv] at c3
            simp only [tyR, tyI, tyB] at c3
            repeat' (first | (refine And.intro (by omega) ?_) | (refine callF_pure (c1 _) ?_) | (refine callF_pure (c3 _) ?_) | (refine callQF_pure (c1 _) (by first | rfl | simp only [L44, ndR, splice, hi, hb, decide_false, push_cast]) ?_) | (refine callQF_pure (c3 _) (by first | rfl | simp only [L44, ndR, splice, hi, hb, decide_false, push_cast]) ?_) | simp -implicitDefEqProofs (disch := omega) only [L44, ndR, splice, hi, hb, decide_false, dT_lt, dF_lt, dT_le, dF_le, dT_eq, dF_eq, push_cast, ↓reduceIte, Nat.reduceEqDiff, reduceCtorEq, Nat.reduceAdd, Nat.reduceSub, Nat.reduceMul, Nat.reduceLeDiff, Nat.reduceLT, Nat.reduceMod, Nat.reduceDiv, Int.reduceToNat, Int.reduceLT, Int.reduceLE, Int.reduceEq, Int.reduceAdd, Int.reduceSub, Int.reduceNeg, Int.reduceMul, Bool.and_self] | split)
            exact ⟨_, rfl⟩
    · have hr : rawF k t = ⟨0, 0, []⟩ := by unfold rawF; rw [if_neg h10, if_neg h9]
      have c3 := fun H => c2 ⟨0, 0, []⟩ H
      have hv : validF ⟨0, 0, []⟩ rs = false := rfl
      rw [writV_no (n := .mk k t a e ks) hr hv]
      rw [hv] at c3
      simp only [tyR] at c3
      repeat' (first | (refine And.intro (by omega) ?_) | (refine callF_pure (c3 _) ?_) | (refine callQF_pure (c3 _) (by first | rfl | simp only [L44, ndR, splice, push_cast]) ?_) | simp -implicitDefEqProofs (disch := omega) only [L44, ndR, splice, dT_lt, dF_lt, dT_le, dF_le, dT_eq, dF_eq, push_cast, ↓reduceIte, Nat.reduceEqDiff, reduceCtorEq, Nat.reduceAdd, Nat.reduceSub, Nat.reduceMul, Nat.reduceLeDiff, Nat.reduceLT, Nat.reduceMod, Nat.reduceDiv, Int.reduceToNat, Int.reduceLT, Int.reduceLE, Int.reduceEq, Int.reduceAdd, Int.reduceSub, Int.reduceNeg, Int.reduceMul, Bool.and_self] | split)
      exact ⟨_, rfl⟩
theorem writR (n : Nd) (rs : List Rc) (hn : (n.text.length : Int) < 9223372036854775807) (hl : (rs.length : Int) < 9223372036854775807) (H : AHeap) : Comp' 45 [.agg (ndR n), .sl 2 (rs.map rcR)] H (writV n rs) := by
  refine ACall.drop (R := fun x => x = writV n rs) ?_
  refine enter Try.func45 L45_ok (Nat.le_of_ble_eq_true rfl) ?_
  obtain ⟨k, t, a, e, ks⟩ := n
  have hn : (t.length : Int) < 9223372036854775807 := hn
  have c1 := fun H => numberR t H hn
  have c2 := fun t H => validR t rs H hl
  unfold numV at c1
  by_cases h10 : k = 10
  · subst h10
    by_cases hnum : isNum t = true
    · have hr : rawF 10 t = ⟨3, numN 0 t, []⟩ := by unfold rawF; rw [if_pos rfl, if_pos hnum]
      simp only [hnum, if_true] at c1
      have c3 := fun H => c2 ⟨3, numN 0 t, []⟩ H
      generalize (numN 0 t : Int) = m at *
      cases hv : validF ⟨3, m, []⟩ rs with
      | true =>
        rw [writV_ok (n := .mk 10 t a e ks) hr hv]
        rw [hv] at c3
        simp only [tyR, tyI, tyB] at c3 ⊢
        repeat' (first | (refine And.intro (by omega) ?_) | (refine callF_pure (c1 _) ?_) | (refine callF_pure (c3 _) ?_) | (refine callQF_pure (c1 _) (by first | rfl | simp only [L45, ndR, splice, push_cast]) ?_) | (refine callQF_pure (c3 _) (by first | rfl | simp only [L45, ndR, splice, push_cast]) ?_) | simp -implicitDefEqProofs (disch := omega) only [L45, ndR, splice, dT_lt, dF_lt, dT_le, dF_le, dT_eq, dF_eq, push_cast, ↓reduceIte, Nat.reduceEqDiff, reduceCtorEq, Nat.reduceAdd, Nat.reduceSub, Nat.reduceMul, Nat.reduceLeDiff, Nat.reduceLT, Nat.reduceMod, Nat.reduceDiv, Int.reduceToNat, Int.reduceLT, Int.reduceLE, Int.reduceEq, Int.reduceAdd, Int.reduceSub, Int.reduceNeg, Int.reduceMul, Bool.and_self] | split)
        exact ⟨_, rfl⟩
      | false =>
        rw [writV_no (n := .mk 10 t a e ks) hr hv]
        rw [hv] at c3
        simp only [tyR, tyI, tyB] at c3
        repeat' (first | (refine And.intro (by omega) ?_) | (refine callF_pure (c1 _) ?_) | (refine callF_pure (c3 _) ?_) | (refine callQF_pure (c1 _) (by first | rfl | simp only [L45, ndR, splice, push_cast]) ?_) | (refine callQF_pure (c3 _) (by first | rfl | simp only [L45, ndR, splice, push_cast]) ?_) | simp -implicitDefEqProofs (disch := omega) only [L45, ndR, splice, dT_lt, dF_lt, dT_le, dF_le, dT_eq, dF_eq, push_cast, ↓reduceIte, Nat.reduceEqDiff, reduceCtorEq, Nat.reduceAdd, Nat.reduceSub, Nat.reduceMul, Nat.reduceLeDiff, Nat.reduceLT, Nat.reduceMod, Nat.reduceDiv, Int.reduceToNat, Int.reduceLT, Int.reduceLE, Int.reduceEq, Int.reduceAdd, Int.reduceSub, Int.reduceNeg, Int.reduceMul, Bool.and_self] | split)
        exact ⟨_, rfl⟩
    · have hr : rawF 10 t = ⟨3, 0, []⟩ := by unfold rawF; rw [if_pos rfl, if_neg hnum]
      simp only [hnum, if_false] at c1
      have c3 := fun H => c2 ⟨3, 0, []⟩ H
      have hv : validF ⟨3, 0, []⟩ rs = false := rfl
      rw [writV_no (n := .mk 10 t a e ks) hr hv]
      rw [hv] at c3
      simp only [tyR] at c3
      repeat' (first | (refine And.intro (by omega) ?_) | (refine callF_pure (c1 _) ?_) | (refine callF_pure (c3 _) ?_) | (refine callQF_pure (c1 _) (by first | rfl | simp only [L45, ndR, splice, push_cast]) ?_) | (refine callQF_pure (c3 _) (by first | rfl | simp only [L45, ndR, splice, push_cast]) ?_) | simp -implicitDefEqProofs (disch := omega) only [L45, ndR, splice, dT_lt, dF_lt, dT_le, dF_le, dT_eq, dF_eq, push_cast, ↓reduceIte, Nat.reduceEqDiff, reduceCtorEq, Nat.reduceAdd, Nat.reduceSub, Nat.reduceMul, Nat.reduceLeDiff, Nat.reduceLT, Nat.reduceMod, Nat.reduceDiv, Int.reduceToNat, Int.reduceLT, Int.reduceLE, Int.reduceEq, Int.reduceAdd, Int.reduceSub, Int.reduceNeg, Int.reduceMul, Bool.and_self] | split)
      exact ⟨_, rfl⟩
  · by_cases h9 : k = 9
    · subst h9
      by_cases hi : t = [105, 110, 116]
      · subst hi
        have hr : rawF 9 [105, 110, 116] = tyI := rfl
        have c3 := fun H => c2 tyI H
        have hv : validF tyI rs = true := rfl
        rw [writV_ok (n := .mk 9 _ a e ks) hr hv]
        rw [hv] at c3
        simp only [tyR, tyI] at c3 ⊢
        repeat' (first | (refine And.intro (by omega) ?_) | (refine callF_pure (c3 _) ?_) | (refine callF_pure (scalarI _) ?_) | (refine callQF_pure (c3 _) (by first | rfl | simp only [L45, ndR, splice, push_cast]) ?_) | (refine callQF_pure (scalarI _) (by first | rfl | simp only [L45, ndR, splice, push_cast]) ?_) | simp -implicitDefEqProofs (disch := omega) only [L45, ndR, splice, dT_lt, dF_lt, dT_le, dF_le, dT_eq, dF_eq, push_cast, ↓reduceIte, Nat.reduceEqDiff, reduceCtorEq, Nat.reduceAdd, Nat.reduceSub, Nat.reduceMul, Nat.reduceLeDiff, Nat.reduceLT, Nat.reduceMod, Nat.reduceDiv, Int.reduceToNat, Int.reduceLT, Int.reduceLE, Int.reduceEq, Int.reduceAdd, Int.reduceSub, Int.reduceNeg, Int.reduceMul, Bool.and_self] | split)
        exact ⟨_, rfl⟩
      · by_cases hb : t = [98, 111, 111, 108]
        · subst hb
          have hr : rawF 9 [98, 111, 111, 108] = tyB := rfl
          have c3 := fun H => c2 tyB H
          have hv : validF tyB rs = true := rfl
          rw [writV_ok (n := .mk 9 _ a e ks) hr hv]
          rw [hv] at c3
          simp only [tyR, tyB] at c3 ⊢
          repeat' (first | (refine And.intro (by omega) ?_) | (refine callF_pure (c3 _) ?_) | (refine callF_pure (scalarB _) ?_) | (refine callQF_pure (c3 _) (by first | rfl | simp only [L45, ndR, splice, push_cast]) ?_) | (refine callQF_pure (scalarB _) (by first | rfl | simp only [L45, ndR, splice, push_cast]) ?_) | simp -implicitDefEqProofs (disch := omega) only [L45, ndR, splice, dT_lt, dF_lt, dT_le, dF_le, dT_eq, dF_eq, push_cast, ↓reduceIte, Nat.reduceEqDiff, reduceCtorEq, Nat.reduceAdd, Nat.reduceSub, Nat.reduceMul, Nat.reduceLeDiff, Nat.reduceLT, Nat.reduceMod, Nat.reduceDiv, Int.reduceToNat, Int.reduceLT, Int.reduceLE, Int.reduceEq, Int.reduceAdd, Int.reduceSub, Int.reduceNeg, Int.reduceMul, Bool.and_self] | split)
          exact ⟨_, rfl⟩
        · have hr : rawF 9 t = ⟨4, 0, t⟩ := by unfold rawF; rw [if_neg (by simp), if_pos rfl, if_neg hi, if_neg hb]
          have c3 := fun H => c2 ⟨4, 0, t⟩ H
          cases hv : validF ⟨4, 0, t⟩ rs with
          | true =>
            rw [writV_ok (n := .mk 9 t a e ks) hr hv]
            rw [hv] at c3
            simp only [tyR, tyI, tyB] at c3 ⊢
            repeat' (first | (refine And.intro (by omega) ?_) | (refine callF_pure (c1 _) ?_) | (refine callF_pure (c3 _) ?_) | (refine callQF_pure (c1 _) (by first | rfl | simp only [L45, ndR, splice, hi, hb, decide_false, push_cast]) ?_) | (refine callQF_pure (c3 _) (by first | rfl | simp only [L45, ndR, splice, hi, hb, decide_false, push_cast]) ?_) | simp -implicitDefEqProofs (disch := omega) only [L45, ndR, splice, hi, hb, decide_false, dT_lt, dF_lt, dT_le, dF_le, dT_eq, dF_eq, push_cast, ↓reduceIte, Nat.reduceEqDiff, reduceCtorEq, Nat.reduceAdd, Nat.reduceSub, Nat.reduceMul, Nat.reduceLeDiff, Nat.reduceLT, Nat.reduceMod, Nat.reduceDiv, Int.reduceToNat, Int.reduceLT, Int.reduceLE, Int.reduceEq, Int.reduceAdd, Int.reduceSub, Int.reduceNeg, Int.reduceMul, Bool.and_self] | split)
            exact ⟨_, rfl⟩
          | false =>
            rw [writV_no (n := .mk 9 t a e ks) hr hv]
            rw [hv] at c3
            simp only [tyR, tyI, tyB] at c3
            repeat' (first | (refine And.intro (by omega) ?_) | (refine callF_pure (c1 _) ?_) | (refine callF_pure (c3 _) ?_) | (refine callQF_pure (c1 _) (by first | rfl | simp only [L45, ndR, splice, hi, hb, decide_false, push_cast]) ?_) | (refine callQF_pure (c3 _) (by first | rfl | simp only [L45, ndR, splice, hi, hb, decide_false, push_cast]) ?_) | simp -implicitDefEqProofs (disch := omega) only [L45, ndR, splice, hi, hb, decide_false, dT_lt, dF_lt, dT_le, dF_le, dT_eq, dF_eq, push_cast, ↓reduceIte, Nat.reduceEqDiff, reduceCtorEq, Nat.reduceAdd, Nat.reduceSub, Nat.reduceMul, Nat.reduceLeDiff, Nat.reduceLT, Nat.reduceMod, Nat.reduceDiv, Int.reduceToNat, Int.reduceLT, Int.reduceLE, Int.reduceEq, Int.reduceAdd, Int.reduceSub, Int.reduceNeg, Int.reduceMul, Bool.and_self] | split)
            exact ⟨_, rfl⟩
    · have hr : rawF k t = ⟨0, 0, []⟩ := by unfold rawF; rw [if_neg h10, if_neg h9]
      have c3 := fun H => c2 ⟨0, 0, []⟩ H
      have hv : validF ⟨0, 0, []⟩ rs = false := rfl
      rw [writV_no (n := .mk k t a e ks) hr hv]
      rw [hv] at c3
      simp only [tyR] at c3
      repeat' (first | (refine And.intro (by omega) ?_) | (refine callF_pure (c3 _) ?_) | (refine callQF_pure (c3 _) (by first | rfl | simp only [L45, ndR, splice, push_cast]) ?_) | simp -implicitDefEqProofs (disch := omega) only [L45, ndR, splice, dT_lt, dF_lt, dT_le, dF_le, dT_eq, dF_eq, push_cast, ↓reduceIte, Nat.reduceEqDiff, reduceCtorEq, Nat.reduceAdd, Nat.reduceSub, Nat.reduceMul, Nat.reduceLeDiff, Nat.reduceLT, Nat.reduceMod, Nat.reduceDiv, Int.reduceToNat, Int.reduceLT, Int.reduceLE, Int.reduceEq, Int.reduceAdd, Int.reduceSub, Int.reduceNeg, Int.reduceMul, Bool.and_self] | split)
      exact ⟨_, rfl⟩
end Go.Proofs.Ytnbdogodcjhfiaa

/- Trees and types: what a tree's records hold, in plain Lean. -/
namespace Go.Proofs.Ytnbdogodcjhfiaa
open Go Go.Ax
set_option maxRecDepth 100000
set_option linter.unusedSimpArgs false
set_option linter.unusedVariables false

/-- A field's type: its first kid is the word int or bool. -/
def FieldOk (f : Nd) : Prop := 1 ≤ f.kids.length ∧ (f.kids.getD 0 default).kind = 9 ∧ ((f.kids.getD 0 default).text = intS ∨ (f.kids.getD 0 default).text = boolS)
theorem field_ok {f : Nd} (hk : f.kind = 4) (h : shpF f = true) : FieldOk f := by
  rw [shpF_eq, refP, preP] at h
  simp only [Bool.and_eq_true, decide_eq_true_eq] at h
  obtain ⟨⟨⟨⟨⟨h0, h1⟩, h2⟩, h3⟩, h4⟩, h5⟩ := h
  rw [hk] at h2 h3
  have hm : mostF 4 = (1, 1) := rfl
  rw [hm] at h2 h3
  simp only at h2 h3
  have hl : 1 ≤ f.kids.length := by omega
  unfold kidsF at h4
  rw [List.all_eq_true] at h4
  have h6 := h4 0 (by simp only [List.mem_range]; omega)
  rw [hk] at h6
  have hkid : ∀ m : Nd, kidF 4 0 m = (decide (m.kind = 9) && (decide (m.text = intS) || decide (m.text = boolS))) := fun m => by
    unfold kidF
    rw [if_neg (by decide), if_neg (by decide), if_pos rfl]
  have h7 : kidF 4 0 (f.kids.getD 0 default) = true := h6
  rw [hkid] at h7
  simp only [Bool.and_eq_true, Bool.or_eq_true, decide_eq_true_eq] at h7
  exact ⟨hl, h7.1, h7.2⟩
theorem record_ok {r : Nd} (hk : r.kind = 3) (h : shpF r = true) : ∀ f ∈ r.kids, FieldOk f := by
  intro f hf
  rw [shpF_eq, refP] at h
  simp only [Bool.and_eq_true] at h
  obtain ⟨⟨_, h4⟩, h5⟩ := h
  obtain ⟨j, hj, rfl⟩ := List.mem_iff_getElem.1 hf
  rw [List.all_eq_true] at h5
  refine field_ok ?_ (h5 _ hf)
  unfold kidsF at h4
  rw [List.all_eq_true] at h4
  have h6 := h4 j (by simpa using hj)
  rw [hk] at h6
  have hkid : ∀ (i : Int) (m : Nd), kidF 3 i m = decide (m.kind = 4) := fun i m => by
    unfold kidF
    rw [if_neg (by decide), if_pos rfl]
  rw [hkid] at h6
  have e : r.kids.getD j default = r.kids[j] := by simp [List.getD_eq_getElem?_getD, hj]
  rw [e] at h6
  exact of_decide_eq_true h6
theorem tree_records {n : Nd} (h : shpF n = true) : ∀ r ∈ n.kids, r.kind = 3 → ∀ f ∈ r.kids, FieldOk f := by
  intro r hr hk
  rw [shpF_eq] at h
  simp only [Bool.and_eq_true, List.all_eq_true] at h
  exact record_ok hk (h.2 r hr)
end Go.Proofs.Ytnbdogodcjhfiaa

/- Trees and types: lists of records that are one are equal. -/
namespace Go.Proofs.Ytnbdogodcjhfiaa
open Go Go.Ax
set_option maxRecDepth 100000
set_option linter.unusedSimpArgs false
set_option linter.unusedVariables false

theorem kEq_i (n : Int) : kEq (.int .i64 n) (.int .i64 n) = true := by simp [kEq]
theorem kEq_s (s : ByteArray) : kEq (.string s) (.string s) = true := by simp [kEq]
theorem equalsC (l : List Rc) (hl : l.length ≤ 9223372036854775806) (hf : ∀ r ∈ l, r.fields.length ≤ 9223372036854775806) (H : AHeap) : Comp' 46 [.sl 2 (l.map rcR), .sl 2 (l.map rcR)] H (bool true) := by
  refine enter Try.func46 L46_ok (Nat.le_of_ble_eq_true rfl) ?_
  repeat' (first | (refine And.intro (by omega) ?_) | simp -implicitDefEqProofs (disch := omega) only [L46, dT_lt, dF_lt, dT_le, dF_le, dT_eq, dF_eq, push_cast, ↓reduceIte, Nat.reduceEqDiff, reduceCtorEq, Nat.reduceAdd, Nat.reduceSub, Nat.reduceMul, Nat.reduceLeDiff, Nat.reduceLT, Nat.reduceMod, Nat.reduceDiv, Int.reduceToNat, Int.reduceLT, Int.reduceLE, Int.reduceEq, Int.reduceAdd, Int.reduceSub, Int.reduceNeg, Int.reduceMul, Bool.and_self] | split)
  refine rk_loopS (fun (j : Nat) e' H' => e' 0 = .sl 2 (l.map rcR) ∧ e' 1 = .sl 2 (l.map rcR) ∧ e' 5 = int j ∧ H = H' ∧ j ≤ l.length) (fun j => l.length - j) 0 ?_ ?_
  · exact ⟨rfl, rfl, rfl, rfl, Nat.zero_le _⟩
  rintro j e' H' ⟨h0, h1, h5, rfl, hj⟩
  by_cases hlt : j < l.length
  · have hjl : (j : Int) < l.length := by omega
    have hfl := hf _ (getD_mem' hlt)
    have hr : rcR (l.getD j default) = [str (l.getD j default).name, .sl 4 ((l.getD j default).fields.map fdR)] := rfl
    repeat' (first | (refine And.intro (by omega) ?_) | simp -implicitDefEqProofs (disch := omega) only [h0, h1, h5, rows_getD, hr, List.length_map, dT_lt, dF_lt, dT_le, dF_le, dT_eq, dF_eq, push_cast, ↓reduceIte, Nat.reduceEqDiff, reduceCtorEq, Nat.reduceAdd, Nat.reduceSub, Nat.reduceMul, Nat.reduceLeDiff, Nat.reduceLT, Nat.reduceMod, Nat.reduceDiv, Int.reduceToNat, Int.reduceLT, Int.reduceLE, Int.reduceEq, Int.reduceAdd, Int.reduceSub, Int.reduceNeg, Int.reduceMul, Bool.and_self] | split)
    refine rk_loopS (fun (k : Nat) e' H' => e' 0 = .sl 2 (l.map rcR) ∧ e' 1 = .sl 2 (l.map rcR) ∧ e' 5 = int j ∧ e' 6 = int k ∧ H = H' ∧ k ≤ (l.getD j default).fields.length) (fun k => (l.getD j default).fields.length - k) 0 ?_ ?_
    · exact ⟨h0, h1, h5, rfl, rfl, Nat.zero_le _⟩
    clear h0 h1 h5 e'
    rintro k e' H' ⟨h0, h1, h5, h6, rfl, hk⟩
    generalize (l.getD j default).fields = fs at *
    by_cases hkl : k < fs.length
    · have hkl' : (k : Int) < fs.length := by omega
      have hfd : fdR (fs.getD k default) = [str (fs.getD k default).name, int (fs.getD k default).ty.k, int (fs.getD k default).ty.len, str (fs.getD k default).ty.rc] := rfl
      repeat' (first | (refine And.intro (by omega) ?_) | simp -implicitDefEqProofs (disch := omega) only [h0, h1, h5, h6, rows_getD, hr, hfd, List.length_map, kEq_i, kEq_s, Bool.and_true, Bool.not_true, dT_lt, dF_lt, dT_le, dF_le, dT_eq, dF_eq, push_cast, ↓reduceIte, Nat.reduceEqDiff, reduceCtorEq, Nat.reduceAdd, Nat.reduceSub, Nat.reduceMul, Nat.reduceLeDiff, Nat.reduceLT, Nat.reduceMod, Nat.reduceDiv, Int.reduceToNat, Int.reduceLT, Int.reduceLE, Int.reduceEq, Int.reduceAdd, Int.reduceSub, Int.reduceNeg, Int.reduceMul, Bool.and_self] | split)
      all_goals first | exact .mk (k + 1) ⟨h0, h1, h5, rfl, rfl, hkl⟩ (by omega) | trace_state
    · repeat' (first | (refine And.intro (by omega) ?_) | simp -implicitDefEqProofs (disch := omega) only [h0, h1, h5, h6, rows_getD, hr, List.length_map, dT_lt, dF_lt, dT_le, dF_le, dT_eq, dF_eq, push_cast, ↓reduceIte, Nat.reduceEqDiff, reduceCtorEq, Nat.reduceAdd, Nat.reduceSub, Nat.reduceMul, Nat.reduceLeDiff, Nat.reduceLT, Nat.reduceMod, Nat.reduceDiv, Int.reduceToNat, Int.reduceLT, Int.reduceLE, Int.reduceEq, Int.reduceAdd, Int.reduceSub, Int.reduceNeg, Int.reduceMul, Bool.and_self] | split)
      all_goals first | exact .mk (j + 1) ⟨h0, h1, rfl, rfl, hlt⟩ (by omega) | trace_state
  · repeat' (first | (refine And.intro (by omega) ?_) | simp -implicitDefEqProofs (disch := omega) only [h0, h1, h5, dT_lt, dF_lt, dT_le, dF_le, dT_eq, dF_eq, push_cast, ↓reduceIte, Nat.reduceEqDiff, reduceCtorEq, Nat.reduceAdd, Nat.reduceSub, Nat.reduceMul, Nat.reduceLeDiff, Nat.reduceLT, Nat.reduceMod, Nat.reduceDiv, Int.reduceToNat, Int.reduceLT, Int.reduceLE, Int.reduceEq, Int.reduceAdd, Int.reduceSub, Int.reduceNeg, Int.reduceMul, Bool.and_self] | split)
    all_goals first | rfl | omega
end Go.Proofs.Ytnbdogodcjhfiaa

/- The functions, lowered. Printed by a program (wip/tools/pl.py). -/
namespace Go.Proofs.Ytnbdogodcjhfiaa
open Go Go.Ax
set_option maxRecDepth 100000

/-- assessor_types.Records -/
def L47z : LFn := ⟨58, [(.tmp 2)], (.seq (.ops [⟨(some 1), none, (.box false (.t 0))⟩,
      ⟨(some 2), none, (.mv (.c (.v (.slice none 0 0))))⟩])
    (.seq (.seq (.ops [⟨(some 11), none, (.load true 5 (.t 1))⟩,
      ⟨(some 12), none, (.call (.c (.fn (.func 13) [] [])) [(.t 11)])⟩,
      ⟨(some 13), none, (.not (.t 12))⟩])
    (.cond (.t 13)
    (.seq (.ops [⟨(some 2), none, (.mv (.c (.v (.slice none 0 0))))⟩])
    .ret)
    .skip))
    (.seq (.ops [⟨(some 3), none, (.mv (.c (.v (.slice none 0 0))))⟩,
      ⟨(some 3), none, (.own 2 (.t 3))⟩])
    (.seq (.seq (.ops [⟨(some 14), none, (.faddr 4 (.t 1))⟩,
      ⟨(some 15), none, (.load false 1 (.t 14))⟩,
      ⟨(some 16), none, (.len .slc (.t 15))⟩,
      ⟨(some 17), none, (.mv (.c (.v (.int .i64 0))))⟩])
    (.block 0 (.loop (.seq (.ops [⟨(some 18), none, (.bin .int .lss (.t 17) (.t 16))⟩])
    (.seq (.cond (.t 18)
    .skip
    (.exit 0))
    (.seq (.block 1 (.seq (.ops [⟨(some 19), none, (.iaddr 5 (.t 15) (.t 17))⟩,
      ⟨(some 20), none, (.load true 5 (.t 19))⟩,
      ⟨(some 5), none, (.alloc [(.v (.int .i64 0)), (.v (.string (mkS []))), (.v (.int .i64 0)), (.v (.int .i64 0)), (.v (.slice none 0 0))])⟩,
      ⟨none, none, (.store 5 (.t 5) (.t 20))⟩])
    (.seq (.seq (.ops [⟨(some 21), none, (.faddr 0 (.t 5))⟩,
      ⟨(some 22), none, (.load false 1 (.t 21))⟩,
      ⟨(some 23), none, (.bin .int .neq (.t 22) (.c (.v (.int .i64 3))))⟩])
    (.cond (.t 23)
    (.exit 1)
    .skip))
    (.seq (.ops [⟨(some 24), none, (.faddr 1 (.t 5))⟩,
      ⟨(some 25), none, (.load false 1 (.t 24))⟩,
      ⟨(some 26), none, (.build [(.v (.string (mkS []))), (.v (.slice none 0 0))] [(0, (1, (.t 25)))])⟩,
      ⟨(some 6), none, (.alloc [(.v (.string (mkS []))), (.v (.slice none 0 0))])⟩,
      ⟨none, none, (.store 2 (.t 6) (.t 26))⟩])
    (.seq (.seq (.ops [⟨(some 27), none, (.faddr 4 (.t 5))⟩,
      ⟨(some 28), none, (.load false 1 (.t 27))⟩,
      ⟨(some 29), none, (.len .slc (.t 28))⟩,
      ⟨(some 30), none, (.mv (.c (.v (.int .i64 0))))⟩])
    (.block 2 (.loop (.seq (.ops [⟨(some 31), none, (.bin .int .lss (.t 30) (.t 29))⟩])
    (.seq (.cond (.t 31)
    .skip
    (.exit 2))
    (.seq (.block 3 (.seq (.ops [⟨(some 32), none, (.iaddr 5 (.t 28) (.t 30))⟩,
      ⟨(some 33), none, (.load true 5 (.t 32))⟩,
      ⟨(some 8), none, (.alloc [(.v (.int .i64 0)), (.v (.string (mkS []))), (.v (.int .i64 0)), (.v (.int .i64 0)), (.v (.slice none 0 0))])⟩,
      ⟨none, none, (.store 5 (.t 8) (.t 33))⟩])
    (.seq (.ops [⟨(some 35), none, (.faddr 4 (.t 8))⟩,
      ⟨(some 36), none, (.load false 1 (.t 35))⟩,
      ⟨(some 37), none, (.iaddr 5 (.t 36) (.c (.v (.int .i64 0))))⟩,
      ⟨(some 38), none, (.load true 5 (.t 37))⟩,
      ⟨(some 39), none, (.call (.c (.fn (.func 44) [] [])) [(.t 38), (.c (.v (.slice none 0 0)))])⟩,
      ⟨(some 34), none, (.mv (.t 39))⟩,
      ⟨(some 40), none, (.ext (.t 34) 0)⟩,
      ⟨(some 41), none, (.ext (.t 34) 1)⟩,
      ⟨(some 9), none, (.alloc [(.v (.int .i64 0)), (.v (.int .i64 0)), (.v (.string (mkS [])))])⟩,
      ⟨none, none, (.store 3 (.t 9) (.t 40))⟩,
      ⟨(some 10), none, (.mv (.t 41))⟩])
    (.ops [⟨(some 42), none, (.faddr 1 (.t 6))⟩,
      ⟨(some 43), none, (.load false 1 (.t 42))⟩,
      ⟨(some 44), none, (.faddr 1 (.t 8))⟩,
      ⟨(some 45), none, (.load false 1 (.t 44))⟩,
      ⟨(some 46), none, (.load true 3 (.t 9))⟩,
      ⟨(some 47), none, (.build [(.v (.string (mkS []))), (.v (.int .i64 0)), (.v (.int .i64 0)), (.v (.string (mkS [])))] [(0, (1, (.t 45))), (1, (3, (.t 46)))])⟩,
      ⟨(some 48), none, (.bsl true 4 1 [(.v (.string (mkS []))), (.v (.int .i64 0)), (.v (.int .i64 0)), (.v (.string (mkS [])))] [(0, (.t 47))])⟩,
      ⟨(some 49), none, (.append 4 48 (.t 43) (.t 48))⟩,
      ⟨(some 50), none, (.faddr 1 (.t 6))⟩,
      ⟨none, none, (.store 1 (.t 50) (.t 49))⟩]))))
    (.ops [⟨(some 51), none, (.bin .int .add (.t 30) (.c (.v (.int .i64 1))))⟩,
      ⟨(some 30), none, (.mv (.t 51))⟩])))))))
    (.ops [⟨(some 52), none, (.mv (.t 3))⟩,
      ⟨(some 53), none, (.load true 2 (.t 6))⟩,
      ⟨(some 53), none, (.frzf 4 1 (.t 53))⟩,
      ⟨(some 54), none, (.bsl true 2 1 [(.v (.string (mkS []))), (.v (.slice none 0 0))] [(0, (.t 53))])⟩,
      ⟨(some 55), none, (.append 2 40 (.t 52) (.t 54))⟩,
      ⟨(some 3), none, (.mv (.t 55))⟩]))))))
    (.ops [⟨(some 56), none, (.bin .int .add (.t 17) (.c (.v (.int .i64 1))))⟩,
      ⟨(some 17), none, (.mv (.t 56))⟩])))))))
    (.seq (.ops [⟨(some 57), none, (.mv (.t 3))⟩,
      ⟨(some 2), none, (.mv (.t 57))⟩,
      ⟨(some 2), none, (.frz (.t 2))⟩])
    .ret)))))⟩
theorem L47z_ok : lowFn Try.prog Try.f47 [⟨15, 2, (.pre 53 (.frzf 4 1 (.t 53)))⟩, ⟨13, 6, .imm⟩, ⟨15, 2, .imm⟩, ⟨17, 2, (.pre 2 (.frz (.t 2)))⟩, ⟨3, 1, (.pre 3 (.own 2 (.t 3)))⟩] = some L47z := by kernel_rfl

/-- assessor_assessorref08.Records -/
def L48z : LFn := ⟨72, [(.tmp 2)], (.seq (.ops [⟨(some 1), none, (.box false (.t 0))⟩,
      ⟨(some 2), none, (.mv (.c (.v (.slice none 0 0))))⟩])
    (.seq (.ops [⟨(some 8), none, (.bsl false 2 0 [(.v (.string (mkS []))), (.v (.slice none 0 0))] [])⟩,
      ⟨(some 3), none, (.mv (.t 8))⟩])
    (.seq (.seq (.ops [⟨(some 9), none, (.load true 5 (.t 1))⟩,
      ⟨(some 10), none, (.call (.c (.fn (.func 14) [] [])) [(.t 9)])⟩,
      ⟨(some 11), none, (.not (.t 10))⟩])
    (.cond (.t 11)
    (.seq (.ops [⟨(some 2), none, (.mv (.c (.v (.slice none 0 0))))⟩])
    .ret)
    .skip))
    (.seq (.seq (.ops [⟨(some 4), none, (.mv (.c (.v (.int .i64 0))))⟩])
    (.block 0 (.loop (.seq (.seq (.ops [⟨(some 12), none, (.mv (.t 4))⟩,
      ⟨(some 13), none, (.faddr 4 (.t 1))⟩,
      ⟨(some 14), none, (.load false 1 (.t 13))⟩,
      ⟨(some 15), none, (.len .slc (.t 14))⟩,
      ⟨(some 16), none, (.bin .int .lss (.t 12) (.t 15))⟩])
    (.cond (.t 16)
    .skip
    (.exit 0)))
    (.seq (.block 1 (.seq (.seq (.ops [⟨(some 19), none, (.faddr 4 (.t 1))⟩,
      ⟨(some 20), none, (.load false 1 (.t 19))⟩,
      ⟨(some 21), none, (.mv (.t 4))⟩,
      ⟨(some 22), none, (.iaddr 5 (.t 20) (.t 21))⟩,
      ⟨(some 23), none, (.faddr 0 (.t 22))⟩,
      ⟨(some 24), none, (.load false 1 (.t 23))⟩,
      ⟨(some 25), none, (.bin .int .neq (.t 24) (.c (.v (.int .i64 3))))⟩])
    (.cond (.t 25)
    (.exit 1)
    .skip))
    (.seq (.ops [⟨(some 26), none, (.faddr 4 (.t 1))⟩,
      ⟨(some 27), none, (.load false 1 (.t 26))⟩,
      ⟨(some 28), none, (.mv (.t 4))⟩,
      ⟨(some 29), none, (.iaddr 5 (.t 27) (.t 28))⟩,
      ⟨(some 30), none, (.faddr 1 (.t 29))⟩,
      ⟨(some 31), none, (.load false 1 (.t 30))⟩,
      ⟨(some 32), none, (.build [(.v (.string (mkS []))), (.v (.slice none 0 0))] [(0, (1, (.t 31)))])⟩,
      ⟨(some 5), none, (.alloc [(.v (.string (mkS []))), (.v (.slice none 0 0))])⟩,
      ⟨none, none, (.store 2 (.t 5) (.t 32))⟩])
    (.seq (.seq (.ops [⟨(some 6), none, (.mv (.c (.v (.int .i64 0))))⟩])
    (.block 2 (.loop (.seq (.seq (.ops [⟨(some 33), none, (.mv (.t 6))⟩,
      ⟨(some 34), none, (.faddr 4 (.t 1))⟩,
      ⟨(some 35), none, (.load false 1 (.t 34))⟩,
      ⟨(some 36), none, (.mv (.t 4))⟩,
      ⟨(some 37), none, (.iaddr 5 (.t 35) (.t 36))⟩,
      ⟨(some 38), none, (.faddr 4 (.t 37))⟩,
      ⟨(some 39), none, (.load false 1 (.t 38))⟩,
      ⟨(some 40), none, (.len .slc (.t 39))⟩,
      ⟨(some 41), none, (.bin .int .lss (.t 33) (.t 40))⟩])
    (.cond (.t 41)
    .skip
    (.exit 2)))
    (.seq (.block 3 (.seq (.ops [⟨(some 44), none, (.faddr 4 (.t 1))⟩,
      ⟨(some 45), none, (.load false 1 (.t 44))⟩,
      ⟨(some 46), none, (.mv (.t 4))⟩,
      ⟨(some 47), none, (.iaddr 5 (.t 45) (.t 46))⟩,
      ⟨(some 48), none, (.faddr 4 (.t 47))⟩,
      ⟨(some 49), none, (.load false 1 (.t 48))⟩,
      ⟨(some 50), none, (.mv (.t 6))⟩,
      ⟨(some 51), none, (.iaddr 5 (.t 49) (.t 50))⟩,
      ⟨(some 52), none, (.load true 5 (.t 51))⟩,
      ⟨(some 7), none, (.alloc [(.v (.int .i64 0)), (.v (.string (mkS []))), (.v (.int .i64 0)), (.v (.int .i64 0)), (.v (.slice none 0 0))])⟩,
      ⟨none, none, (.store 5 (.t 7) (.t 52))⟩])
    (.draw [⟨(some 53), none, (.faddr 1 (.t 5))⟩,
      ⟨(some 54), none, (.load false 1 (.t 53))⟩,
      ⟨(some 55), none, (.faddr 1 (.t 7))⟩,
      ⟨(some 56), none, (.load false 1 (.t 55))⟩,
      ⟨(some 57), none, (.faddr 4 (.t 7))⟩,
      ⟨(some 58), none, (.load false 1 (.t 57))⟩,
      ⟨(some 59), none, (.iaddr 5 (.t 58) (.c (.v (.int .i64 0))))⟩,
      ⟨(some 60), none, (.faddr 1 (.t 59))⟩,
      ⟨(some 61), none, (.load false 1 (.t 60))⟩,
      ⟨(some 62), none, (.call (.c (.fn (.func 72) [] [])) [(.t 61)])⟩,
      ⟨(some 63), none, (.build [(.v (.string (mkS []))), (.v (.int .i64 0)), (.v (.int .i64 0)), (.v (.string (mkS [])))] [(0, (1, (.t 56))), (1, (3, (.t 62)))])⟩,
      ⟨(some 64), none, (.bsl true 4 1 [(.v (.string (mkS []))), (.v (.int .i64 0)), (.v (.int .i64 0)), (.v (.string (mkS [])))] [(0, (.t 63))])⟩] [⟨(some 65), none, (.append 4 48 (.t 54) (.t 64))⟩,
      ⟨(some 66), none, (.faddr 1 (.t 5))⟩,
      ⟨none, none, (.store 1 (.t 66) (.t 65))⟩])))
    (.ops [⟨(some 42), none, (.mv (.t 6))⟩,
      ⟨(some 43), none, (.bin .int .add (.t 42) (.c (.v (.int .i64 1))))⟩,
      ⟨(some 6), none, (.mv (.t 43))⟩]))))))
    (.ops [⟨(some 67), none, (.mv (.t 3))⟩,
      ⟨(some 68), none, (.load true 2 (.t 5))⟩,
      ⟨(some 68), none, (.frzf 4 1 (.t 68))⟩,
      ⟨(some 69), none, (.bsl true 2 1 [(.v (.string (mkS []))), (.v (.slice none 0 0))] [(0, (.t 68))])⟩,
      ⟨(some 70), none, (.append 2 40 (.t 67) (.t 69))⟩,
      ⟨(some 3), none, (.mv (.t 70))⟩])))))
    (.ops [⟨(some 17), none, (.mv (.t 4))⟩,
      ⟨(some 18), none, (.bin .int .add (.t 17) (.c (.v (.int .i64 1))))⟩,
      ⟨(some 4), none, (.mv (.t 18))⟩]))))))
    (.seq (.ops [⟨(some 71), none, (.mv (.t 3))⟩,
      ⟨(some 2), none, (.mv (.t 71))⟩,
      ⟨(some 2), none, (.frz (.t 2))⟩])
    .ret)))))⟩
theorem L48z_ok : lowFn Try.prog Try.f48 [⟨14, 2, (.pre 68 (.frzf 4 1 (.t 68)))⟩, ⟨13, 11, .imm⟩, ⟨14, 2, .imm⟩, ⟨15, 2, (.pre 2 (.frz (.t 2)))⟩, ⟨13, 12, .tail⟩] = some L48z := by kernel_rfl

end Go.Proofs.Ytnbdogodcjhfiaa

/- Objects at their places: rules for heaps that grow and are set. -/
namespace Go.Ax
open Go
set_option linter.unusedSimpArgs false
set_option linter.unusedVariables false

theorem hget_app {α : Type} {G l : List α} {i : Nat} (h : i < G.length) : (G ++ l)[i]? = G[i]? := List.getElem?_append_left h
theorem hset_app {α : Type} {G l : List α} {i : Nat} {x : α} (h : i < G.length) : (G ++ l).set i x = G.set i x ++ l := List.set_append_left i x h
theorem hget_ne {α : Type} {G : List α} {i j : Nat} {x : α} (h : ¬ i = j) : (G.set i x)[j]? = G[j]? := List.getElem?_set_ne h
theorem hget_self {α : Type} {G : List α} {i : Nat} {x : α} (h : i < G.length) : (G.set i x)[i]? = some x := List.getElem?_set_self h
theorem hget_sapp {α : Type} {G l : List α} {i j : Nat} {x : α} (h : i < G.length) : (G.set j x ++ l)[i]? = (G.set j x)[i]? := List.getElem?_append_left (by rw [List.length_set]; exact h)
theorem hset_sapp {α : Type} {G l : List α} {i j : Nat} {x y : α} (h : i < G.length) : (G.set j x ++ l).set i y = (G.set j x).set i y ++ l := List.set_append_left i y (by rw [List.length_set]; exact h)
theorem hgets_self {α : Type} {G : List α} {i j : Nat} {x y : α} (h : i < G.length) : ((G.set j x).set i y)[i]? = some y := List.getElem?_set_self (by rw [List.length_set]; exact h)
theorem hget_ssapp {α : Type} {G l : List α} {i j k : Nat} {x y : α} (h : i < G.length) : ((G.set j x).set k y ++ l)[i]? = ((G.set j x).set k y)[i]? := List.getElem?_append_left (by rw [List.length_set, List.length_set]; exact h)
theorem hset_ssapp {α : Type} {G l : List α} {i j k : Nat} {x y z : α} (h : i < G.length) : ((G.set j x).set k y ++ l).set i z = ((G.set j x).set k y).set i z ++ l := List.set_append_left i z (by rw [List.length_set, List.length_set]; exact h)
theorem hgetss_self {α : Type} {G : List α} {i j k : Nat} {x y z : α} (h : i < G.length) : (((G.set j x).set k y).set i z)[i]? = some z := List.getElem?_set_self (by rw [List.length_set, List.length_set]; exact h)
theorem heap_ext' {H G : AHeap} (hl : H.length ≤ G.length) (h : ∀ i, i < H.length → G[i]? = H[i]?) : ∃ rest, G = H ++ rest := by
  refine ⟨G.drop H.length, ?_⟩
  apply List.ext_getElem?
  intro i
  by_cases hi : i < H.length
  · rw [List.getElem?_append_left hi]; exact h i hi
  · rw [List.getElem?_append_right (by omega), List.getElem?_drop]
    congr 1
    omega
end Go.Ax

/- Trees and types: Records of both. -/
namespace Go.Proofs.Ytnbdogodcjhfiaa
open Go Go.Ax
set_option maxRecDepth 100000
set_option linter.unusedSimpArgs false
set_option linter.unusedVariables false

/-! ### What both compute -/
def fdF (f : Nd) : Fd := ⟨f.text, if (f.kids.getD 0 default).text = [98, 111, 111, 108] then tyB else tyI⟩
def rcF (r : Nd) : Rc := ⟨r.text, r.kids.map fdF⟩
def recsG (l : List Nd) : List Rc := (l.filter fun k => decide (k.kind = 3)).map rcF
def recsF (n : Nd) : List Rc := if (decide (n.kind = 2) && shpF n) = true then recsG n.kids else []
theorem recsG_len (l : List Nd) : (recsG l).length ≤ l.length := by
  unfold recsG
  rw [List.length_map]
  exact List.length_filter_le _ _
theorem recsG_yes {l : List Nd} {j : Nat} (h : j < l.length) (hk : (l.getD j default).kind = 3) : recsG (l.take (j + 1)) = recsG (l.take j) ++ [rcF (l.getD j default)] := by
  rw [take_snoc h]
  unfold recsG
  rw [List.filter_append, List.map_append]
  simp only [List.filter_cons, List.filter_nil, hk, decide_true, if_true, List.map_cons, List.map_nil]
theorem recsG_no {l : List Nd} {j : Nat} (h : j < l.length) (hk : (l.getD j default).kind ≠ 3) : recsG (l.take (j + 1)) = recsG (l.take j) := by
  rw [take_snoc h]
  unfold recsG
  rw [List.filter_append, List.map_append]
  simp only [List.filter_cons, List.filter_nil, hk, decide_false, Bool.false_eq_true, if_false, List.map_nil, List.append_nil]

/-- A record under way: its name and its fields so far. -/
def FSt (m : Nat) (nm : List UInt8) (fs : List (List AV)) (y : AV) (G : AHeap) : Prop :=
  m < G.length ∧ G[m]? = some (.box [str nm, y]) ∧ ((fs = [] ∧ y = nilS) ∨ ∃ q ver, y = .os q ver 0 fs.length ∧ m < q ∧ q < G.length ∧ G[q]? = some (.arr ver 4 fs))
/-- The first n objects are those of H. -/
def Old (n : Nat) (H G : AHeap) : Prop := ∀ i, i < n → G[i]? = H[i]?

theorem writ_field {f : Nd} (h : FieldOk f) : writV (f.kids.getD 0 default) [] = .tup [.agg (tyR (fdF f).ty), bool true] := by
  obtain ⟨_, h9, ht⟩ := h
  rcases ht with ht | ht
  · rw [writV_ok (t := tyI) (by unfold rawF; rw [if_neg (by omega), if_pos h9, if_pos ht]) rfl]
    unfold fdF
    rw [ht, if_neg (by decide)]
  · rw [writV_ok (t := tyB) (by unfold rawF; rw [if_neg (by omega), if_pos h9, ht, if_neg (by decide), if_pos (by rfl)]) rfl]
    unfold fdF
    rw [ht, if_pos (by rfl)]
theorem writN (f : Nd) (hf : FieldOk f) (hn : ((f.kids.getD 0 default).text.length : Int) < 9223372036854775807) (H : AHeap) : Comp' 44 [.agg (ndR (f.kids.getD 0 default)), nilS] H (.tup [.agg (tyR (fdF f).ty), bool true]) := by
  have h := writT (f.kids.getD 0 default) [] hn (by decide) H
  rw [writ_field hf] at h
  refine h.args rfl fun i x y hx hy => ?_
  match i with
  | 0 => cases hx; cases hy; exact AV.Le.refl _
  | 1 => cases hx; cases hy; exact AV.Le.nil 2
  | i + 2 => cases hx

theorem rc_row (r : Nd) : rcR (rcF r) = [str r.text, .sl 4 (r.kids.map fun f => fdR (fdF f))] := by
  unfold rcR rcF
  simp only [List.map_map]
  rfl
theorem fds_snoc {l : List Nd} {j : Nat} (h : j < l.length) : (l.take (j + 1)).map (fun f => fdR (fdF f)) = (l.take j).map (fun f => fdR (fdF f)) ++ [fdR (fdF (l.getD j default))] := by
  rw [take_snoc h, List.map_append]; rfl

theorem RecordsT (n : Nd) (hs : Sml n) (hsh : shapedF n = shpF n) (H : AHeap) : Comp' 47 [.agg (ndR n)] H (.sl 2 ((recsF n).map rcR)) := by
  refine (?_ : ACall Try.prog 47 [.agg (ndR n)] H fun x H' => (x = .sl 2 ((recsF n).map rcR) ∨ x = nilS ∧ recsF n = []) ∧ H' = H).resTo fun x H' ⟨h1, h2⟩ => by
    rcases h1 with rfl | ⟨rfl, h⟩
    · exact ⟨_, AV.Le.refl _, rfl, h2⟩
    · exact ⟨_, by rw [h]; exact AV.Le.nil 2, rfl, h2⟩
  refine ACall.drop (R := fun x => x = .sl 2 ((recsF n).map rcR) ∨ x = nilS ∧ recsF n = []) ?_
  refine enter Try.func47 L47z_ok (Nat.le_of_ble_eq_true rfl) ?_
  have cV := fun H => ValidT n hs H
  rw [hsh] at cV
  have hln := sml_len hs
  by_cases hv : (decide (n.kind = 2) && shpF n) = true
  · have hF : recsF n = recsG n.kids := by unfold recsF; rw [if_pos hv]
    rw [hF]
    rw [hv] at cV
    have hrec := tree_records (n := n) (by simp only [Bool.and_eq_true] at hv; exact hv.2)
    repeat' (first | (refine And.intro (by omega) ?_) | (refine callF_pure (cV _) ?_) | (refine callQF_pure (cV _) (by first | rfl | simp only [L47z, cells_agg, nd_c1s, nd_len, nd_cellsV, nd_take, nd_drop4, push_cast]) ?_) | simp -implicitDefEqProofs (disch := omega) only [L47z, cells_agg, nd_c1s, nd_len, nd_cellsV, nd_take, nd_drop4, dT_lt, dF_lt, dT_le, dF_le, dT_eq, dF_eq, push_cast, ↓reduceIte, Nat.reduceEqDiff, reduceCtorEq, Nat.reduceAdd, Nat.reduceSub, Nat.reduceMul, Nat.reduceLeDiff, Nat.reduceLT, Nat.reduceMod, Nat.reduceDiv, Int.reduceToNat, Int.reduceLT, Int.reduceLE, Int.reduceEq, Int.reduceAdd, Int.reduceSub, Int.reduceNeg, Int.reduceMul, Bool.and_self] | split)
    refine rk_loopS (fun (st : Nat × Nat) e' G => e' 3 = .os (H.length + 1) st.2 0 (recsG (n.kids.take st.1)).length ∧ e' 15 = .sl 5 (n.kids.map ndR) ∧ e' 16 = int n.kids.length ∧ e' 17 = int st.1 ∧ Old H.length H G ∧ H.length + 1 < G.length ∧ G[H.length + 1]? = some (.arr st.2 2 ((recsG (n.kids.take st.1)).map rcR)) ∧ st.1 ≤ n.kids.length) (fun st => n.kids.length - st.1) (0, 0) ?_ ?_
    · refine ⟨rfl, rfl, rfl, rfl, fun i hi => hget_app hi, by simp, by rw [get_add]; rfl, Nat.zero_le _⟩
    rintro ⟨j, ver⟩ e' G ⟨h3, h15, h16, h17, hO, hl, hg, hj⟩
    simp only at h3 h17 hg hj
    have hrl : (recsG (n.kids.take j)).length ≤ 1048576 := by
      have := recsG_len (n.kids.take j)
      rw [List.length_take] at this
      omega
    by_cases hlt : j < n.kids.length
    · have hm := getD_mem' hlt
      have hks := sml_len (sml_kid hs hm)
      by_cases h3k : (n.kids.getD j default).kind = 3
      · have hfo := hrec _ hm h3k
        have hsk := fun f hf => sml_kid (sml_kid hs hm) (k := f) hf
        have hsn := recsG_yes hlt h3k
        generalize hkd : n.kids.getD j default = kd at *
        repeat' (first | (refine And.intro (by omega) ?_) | simp -implicitDefEqProofs (disch := omega) only [h3, h15, h16, h17, hg, rows_getD, hkd, cells_agg, nd_c1s, nd_len, nd_cellsV, nd_take, nd_drop1, nd_drop4, nd_drop5, splice, List.append_nil, h3k, dT_lt, dF_lt, dT_le, dF_le, dT_eq, dF_eq, push_cast, ↓reduceIte, Nat.reduceEqDiff, reduceCtorEq, Nat.reduceAdd, Nat.reduceSub, Nat.reduceMul, Nat.reduceLeDiff, Nat.reduceLT, Nat.reduceMod, Nat.reduceDiv, Int.reduceToNat, Int.reduceLT, Int.reduceLE, Int.reduceEq, Int.reduceAdd, Int.reduceSub, Int.reduceNeg, Int.reduceMul, Bool.and_self] | split)
        refine rk_loopS (fun (st : Nat × AV) e' Γ => e' 3 = .os (H.length + 1) ver 0 (recsG (n.kids.take j)).length ∧ e' 15 = .sl 5 (n.kids.map ndR) ∧ e' 16 = int n.kids.length ∧ e' 17 = int j ∧ e' 6 = .ptr (G.length + 1) 0 0 ∧ e' 28 = .sl 5 (kd.kids.map ndR) ∧ e' 29 = int kd.kids.length ∧ e' 30 = int st.1 ∧ Old G.length G Γ ∧ FSt (G.length + 1) kd.text ((kd.kids.take st.1).map fun f => fdR (fdF f)) st.2 Γ ∧ st.1 ≤ kd.kids.length) (fun st => kd.kids.length - st.1) (0, nilS) ?_ ?_
        · refine ⟨h3, h15, h16, h17, rfl, rfl, rfl, rfl, fun i hi => hget_app hi, ⟨by simp, by rw [get_add]; rfl, .inl ⟨rfl, rfl⟩⟩, Nat.zero_le _⟩
        clear h3 h15 h16 h17 e'
        rintro ⟨i, y⟩ e' Γ ⟨h3, h15, h16, h17, h6, h28, h29, h30, hOΓ, ⟨hlΓ, hbΓ, hy⟩, hi⟩
        simp only at h30 hbΓ hy hi
        by_cases hil : i < kd.kids.length
        · have hmf := getD_mem' hil
          have hfo1 := hfo _ hmf
          have hfs := hsk _ hmf
          have hsnoc := fds_snoc hil
          generalize hfe : kd.kids.getD i default = f at *
          have hfk : 0 < f.kids.length := hfo1.1
          have hf0 : Sml (f.kids.getD 0 default) := sml_kid hfs (getD_mem' hfk)
          have hft : ((f.kids.getD 0 default).text.length : Int) < 9223372036854775807 := by
            have := bulk_nd (f.kids.getD 0 default)
            unfold Sml at hf0
            omega
          have cW := fun H => writN f hfo1 hft H
          simp only [tyR] at cW
          have hlen : ((kd.kids.take i).map fun f => fdR (fdF f)).length = i := by rw [List.length_map, List.length_take]; omega
          generalize hfs0 : ((kd.kids.take i).map fun f => fdR (fdF f)) = fs at *
          have hall : fs.take i = fs := List.take_of_length_le (by omega)
          have hgl : Γ[Γ.length]? = none := by simp
          rcases hy with ⟨hf0, rfl⟩ | ⟨q, vq, rfl, hq1, hq2, hq3⟩
          · subst hf0
            repeat' (first | (refine And.intro (by omega) ?_) | (refine callF_pure (cW _) ?_) | (refine callQF_pure (cW _) (by first | rfl | simp only [h3, h15, h16, h17, h6, h28, h29, h30, hbΓ, rows_getD, hfe, cells_agg, nd_c1s, nd_len, nd_cellsV, nd_take, nd_drop1, nd_drop4, nd_drop5, splice, List.append_nil, hget_app, hset_app, hget_ne, hget_self, hget_sapp, hset_sapp, hgets_self, hget_ssapp, hset_ssapp, hgetss_self, push_cast]) ?_) | simp -implicitDefEqProofs (disch := omega) only [h3, h15, h16, h17, h6, h28, h29, h30, hbΓ, rows_getD, hfe, cells_agg, nd_c1s, nd_len, nd_cellsV, nd_take, nd_drop1, nd_drop4, nd_drop5, splice, List.append_nil, hget_app, hset_app, hget_ne, hget_self, hget_sapp, hset_sapp, hgets_self, hget_ssapp, hset_ssapp, hgetss_self, dT_lt, dF_lt, dT_le, dF_le, dT_eq, dF_eq, push_cast, ↓reduceIte, Nat.reduceEqDiff, reduceCtorEq, Nat.reduceAdd, Nat.reduceSub, Nat.reduceMul, Nat.reduceLeDiff, Nat.reduceLT, Nat.reduceMod, Nat.reduceDiv, Int.reduceToNat, Int.reduceLT, Int.reduceLE, Int.reduceEq, Int.reduceAdd, Int.reduceSub, Int.reduceNeg, Int.reduceMul, Bool.and_self] | split)
            refine .mk (i + 1, .os (Γ.length + 2) 0 0 1) ⟨h3, h15, h16, h17, h6, h28, h29, rfl, fun a ha => ?_, ?_, hil⟩ (by simp only; omega)
            · simp (disch := omega) only [hget_app, hset_app, hget_ne, hget_self, hget_sapp, hset_sapp, hgets_self, hget_ssapp, hset_ssapp, hgetss_self]
              exact hOΓ a ha
            · dsimp only
              rw [hsnoc]
              refine ⟨by simp; omega, ?_, .inr ⟨Γ.length + 2, 0, rfl, by omega, by simp, ?_⟩⟩
              · simp (disch := omega) only [hget_app, hset_app, hget_ne, hget_self, hget_sapp, hset_sapp, hgets_self, hget_ssapp, hset_ssapp, hgetss_self]
              · rw [List.getElem?_append_right (by simp)]; simp; rfl
          · repeat' (first | (refine And.intro (by omega) ?_) | (refine callF_pure (cW _) ?_) | (refine callQF_pure (cW _) (by first | rfl | simp only [h3, h15, h16, h17, h6, h28, h29, h30, hbΓ, hq3, hlen, hall, rows_getD, hfe, cells_agg, nd_c1s, nd_len, nd_cellsV, nd_take, nd_drop1, nd_drop4, nd_drop5, splice, List.append_nil, hget_app, hset_app, hget_ne, hget_self, hget_sapp, hset_sapp, hgets_self, hget_ssapp, hset_ssapp, hgetss_self, push_cast]) ?_) | simp -implicitDefEqProofs (disch := omega) only [h3, h15, h16, h17, h6, h28, h29, h30, hbΓ, hq3, hlen, hall, rows_getD, hfe, cells_agg, nd_c1s, nd_len, nd_cellsV, nd_take, nd_drop1, nd_drop4, nd_drop5, splice, List.append_nil, hget_app, hset_app, hget_ne, hget_self, hget_sapp, hset_sapp, hgets_self, hget_ssapp, hset_ssapp, hgetss_self, dT_lt, dF_lt, dT_le, dF_le, dT_eq, dF_eq, push_cast, ↓reduceIte, Nat.reduceEqDiff, reduceCtorEq, Nat.reduceAdd, Nat.reduceSub, Nat.reduceMul, Nat.reduceLeDiff, Nat.reduceLT, Nat.reduceMod, Nat.reduceDiv, Int.reduceToNat, Int.reduceLT, Int.reduceLE, Int.reduceEq, Int.reduceAdd, Int.reduceSub, Int.reduceNeg, Int.reduceMul, Bool.and_self] | split)
            refine .mk (i + 1, .os q (vq + 1) 0 (i + 1)) ⟨h3, h15, h16, h17, h6, h28, h29, rfl, fun a ha => ?_, ?_, hil⟩ (by simp only; omega)
            · simp (disch := omega) only [hget_app, hset_app, hget_ne, hget_self, hget_sapp, hset_sapp, hgets_self, hget_ssapp, hset_ssapp, hgetss_self]
              exact hOΓ a ha
            · dsimp only
              rw [hsnoc]
              refine ⟨by simp; omega, ?_, .inr ⟨q, vq + 1, by rw [List.length_append, hlen]; rfl, by omega, by simp; omega, ?_⟩⟩
              · simp (disch := omega) only [hget_app, hset_app, hget_ne, hget_self, hget_sapp, hset_sapp, hgets_self, hget_ssapp, hset_ssapp, hgetss_self]
              · simp (disch := omega) only [hget_app, hset_app, hget_ne, hget_self, hget_sapp, hset_sapp, hgets_self, hget_ssapp, hset_ssapp, hgetss_self]; rfl
        · have e : i = kd.kids.length := by omega
          subst e
          rw [List.take_length] at hy
          have hlen : (kd.kids.map fun f => fdR (fdF f)).length = kd.kids.length := List.length_map _
          have hgr : Γ[H.length + 1]? = some (.arr ver 2 ((recsG (n.kids.take j)).map rcR)) := (hOΓ _ (by omega)).trans hg
          have hrow := rc_row kd
          have hkl := (recsG_len (n.kids.take j))
          generalize hfs0 : (kd.kids.map fun f => fdR (fdF f)) = fs at *
          have hall : fs.take kd.kids.length = fs := List.take_of_length_le (by omega)
          have hrall : ((recsG (n.kids.take j)).map rcR).take (recsG (n.kids.take j)).length = (recsG (n.kids.take j)).map rcR := List.take_of_length_le (by simp)
          rcases hy with ⟨hf0, rfl⟩ | ⟨q, vq, rfl, hq1, hq2, hq3⟩
          · subst hf0
            repeat' (first | (refine And.intro (by omega) ?_) | simp -implicitDefEqProofs (disch := omega) only [h3, h15, h16, h17, h6, h28, h29, h30, hbΓ, hgr, hrall, List.append_nil, hget_app, hset_app, hget_ne, hget_self, hget_sapp, hset_sapp, hgets_self, hget_ssapp, hset_ssapp, hgetss_self, dT_lt, dF_lt, dT_le, dF_le, dT_eq, dF_eq, push_cast, ↓reduceIte, Nat.reduceEqDiff, reduceCtorEq, Nat.reduceAdd, Nat.reduceSub, Nat.reduceMul, Nat.reduceLeDiff, Nat.reduceLT, Nat.reduceMod, Nat.reduceDiv, Int.reduceToNat, Int.reduceLT, Int.reduceLE, Int.reduceEq, Int.reduceAdd, Int.reduceSub, Int.reduceNeg, Int.reduceMul, Bool.and_self] | split)
            refine .mk (j + 1, ver + 1) ⟨by dsimp only; rw [hsn, List.length_append]; rfl, h15, h16, rfl, fun a ha => ?_, by simp; omega, ?_, hlt⟩ (by simp only; omega)
            · simp (disch := omega) only [hget_app, hset_app, hget_ne, hget_self, hget_sapp, hset_sapp, hgets_self, hget_ssapp, hset_ssapp, hgetss_self]
              exact (hOΓ a (by omega)).trans (hO a ha)
            · dsimp only
              rw [hsn, List.map_append, List.map_cons, List.map_nil, hrow]
              simp (disch := omega) only [hget_app, hset_app, hget_ne, hget_self, hget_sapp, hset_sapp, hgets_self, hget_ssapp, hset_ssapp, hgetss_self]
          · repeat' (first | (refine And.intro (by omega) ?_) | simp -implicitDefEqProofs (disch := omega) only [h3, h15, h16, h17, h6, h28, h29, h30, hbΓ, hq3, hgr, hlen, hall, hrall, List.append_nil, hget_app, hset_app, hget_ne, hget_self, hget_sapp, hset_sapp, hgets_self, hget_ssapp, hset_ssapp, hgetss_self, dT_lt, dF_lt, dT_le, dF_le, dT_eq, dF_eq, push_cast, ↓reduceIte, Nat.reduceEqDiff, reduceCtorEq, Nat.reduceAdd, Nat.reduceSub, Nat.reduceMul, Nat.reduceLeDiff, Nat.reduceLT, Nat.reduceMod, Nat.reduceDiv, Int.reduceToNat, Int.reduceLT, Int.reduceLE, Int.reduceEq, Int.reduceAdd, Int.reduceSub, Int.reduceNeg, Int.reduceMul, Bool.and_self] | split)
            refine .mk (j + 1, ver + 1) ⟨by dsimp only; rw [hsn, List.length_append]; rfl, h15, h16, rfl, fun a ha => ?_, by simp; omega, ?_, hlt⟩ (by simp only; omega)
            · simp (disch := omega) only [hget_app, hset_app, hget_ne, hget_self, hget_sapp, hset_sapp, hgets_self, hget_ssapp, hset_ssapp, hgetss_self]
              exact (hOΓ a (by omega)).trans (hO a ha)
            · dsimp only
              rw [hsn, List.map_append, List.map_cons, List.map_nil, hrow]
              simp (disch := omega) only [hget_app, hset_app, hget_ne, hget_self, hget_sapp, hset_sapp, hgets_self, hget_ssapp, hset_ssapp, hgetss_self]
      · have hsn := recsG_no hlt h3k
        generalize hkd : n.kids.getD j default = kd at *
        repeat' (first | (refine And.intro (by omega) ?_) | simp -implicitDefEqProofs (disch := omega) only [h3, h15, h16, h17, hg, rows_getD, hkd, cells_agg, nd_c1s, nd_len, nd_cellsV, nd_take, nd_drop1, nd_drop4, nd_drop5, splice, List.append_nil, h3k, dT_lt, dF_lt, dT_le, dF_le, dT_eq, dF_eq, push_cast, ↓reduceIte, Nat.reduceEqDiff, reduceCtorEq, Nat.reduceAdd, Nat.reduceSub, Nat.reduceMul, Nat.reduceLeDiff, Nat.reduceLT, Nat.reduceMod, Nat.reduceDiv, Int.reduceToNat, Int.reduceLT, Int.reduceLE, Int.reduceEq, Int.reduceAdd, Int.reduceSub, Int.reduceNeg, Int.reduceMul, Bool.and_self] | split)
        refine .mk (j + 1, ver) ⟨by dsimp only; rw [hsn]; exact h3, h15, h16, rfl, fun a ha => (hget_app (by omega)).trans (hO a ha), by simp; omega, ?_, hlt⟩ (by simp only; omega)
        dsimp only
        rw [hsn, hget_app hl]
        exact hg
    · have e : j = n.kids.length := by omega
      subst e
      rw [List.take_length] at h3 hg
      have hrall : ((recsG n.kids).map rcR).take (recsG n.kids).length = (recsG n.kids).map rcR := List.take_of_length_le (by simp)
      repeat' (first | (refine And.intro (by omega) ?_) | simp -implicitDefEqProofs (disch := omega) only [h3, h15, h16, h17, hg, hrall, dT_lt, dF_lt, dT_le, dF_le, dT_eq, dF_eq, push_cast, ↓reduceIte, Nat.reduceEqDiff, reduceCtorEq, Nat.reduceAdd, Nat.reduceSub, Nat.reduceMul, Nat.reduceLeDiff, Nat.reduceLT, Nat.reduceMod, Nat.reduceDiv, Int.reduceToNat, Int.reduceLT, Int.reduceLE, Int.reduceEq, Int.reduceAdd, Int.reduceSub, Int.reduceNeg, Int.reduceMul, Bool.and_self] | split)
      refine heap_ext' (by simp; omega) fun i hi => ?_
      rw [hget_ne (by omega)]
      exact hO i hi
  · have hv' := Bool.eq_false_iff.2 hv
    have hF : recsF n = [] := by unfold recsF; rw [if_neg hv]
    rw [hF]
    rw [hv'] at cV
    repeat' (first | (refine And.intro (by omega) ?_) | (refine callF_pure (cV _) ?_) | (refine callQF_pure (cV _) (by first | rfl | simp only [L47z, cells_agg, nd_c1s, nd_len, nd_cellsV, nd_take, nd_drop4, push_cast]) ?_) | simp -implicitDefEqProofs (disch := omega) only [L47z, cells_agg, nd_c1s, nd_len, nd_cellsV, nd_take, nd_drop4, dT_lt, dF_lt, dT_le, dF_le, dT_eq, dF_eq, push_cast, ↓reduceIte, Nat.reduceEqDiff, reduceCtorEq, Nat.reduceAdd, Nat.reduceSub, Nat.reduceMul, Nat.reduceLeDiff, Nat.reduceLT, Nat.reduceMod, Nat.reduceDiv, Int.reduceToNat, Int.reduceLT, Int.reduceLE, Int.reduceEq, Int.reduceAdd, Int.reduceSub, Int.reduceNeg, Int.reduceMul, Bool.and_self] | split)
    exact ⟨_, rfl⟩
theorem scalar_field {f : Nd} (h : FieldOk f) (H : AHeap) : Comp' 72 [str (f.kids.getD 0 default).text] H (.agg (tyR (fdF f).ty)) := scalarR _ H
theorem RecordsR (n : Nd) (hs : Sml n) (H : AHeap) : Comp' 48 [.agg (ndR n)] H (.sl 2 ((recsF n).map rcR)) := by
  refine (?_ : ACall Try.prog 48 [.agg (ndR n)] H fun x H' => (x = .sl 2 ((recsF n).map rcR) ∨ x = nilS ∧ recsF n = []) ∧ H' = H).resTo fun x H' ⟨h1, h2⟩ => by
    rcases h1 with rfl | ⟨rfl, h⟩
    · exact ⟨_, AV.Le.refl _, rfl, h2⟩
    · exact ⟨_, by rw [h]; exact AV.Le.nil 2, rfl, h2⟩
  refine ACall.drop (R := fun x => x = .sl 2 ((recsF n).map rcR) ∨ x = nilS ∧ recsF n = []) ?_
  refine enter Try.func48 L48z_ok (Nat.le_of_ble_eq_true rfl) ?_
  have cV := fun H => ValidTR n hs H
  have hln := sml_len hs
  by_cases hv : (decide (n.kind = 2) && shpF n) = true
  · have hF : recsF n = recsG n.kids := by unfold recsF; rw [if_pos hv]
    rw [hF]
    rw [hv] at cV
    have hrec := tree_records (n := n) (by simp only [Bool.and_eq_true] at hv; exact hv.2)
    repeat' (first | (refine And.intro (by omega) ?_) | (refine callF_pure (cV _) ?_) | (refine callQF_pure (cV _) (by first | rfl | simp only [L48z, cells_agg, nd_c1s, nd_len, nd_cellsV, nd_take, nd_drop4, push_cast]) ?_) | simp -implicitDefEqProofs (disch := omega) only [L48z, cells_agg, nd_c1s, nd_len, nd_cellsV, nd_take, nd_drop4, dT_lt, dF_lt, dT_le, dF_le, dT_eq, dF_eq, push_cast, ↓reduceIte, Nat.reduceEqDiff, reduceCtorEq, Nat.reduceAdd, Nat.reduceSub, Nat.reduceMul, Nat.reduceLeDiff, Nat.reduceLT, Nat.reduceMod, Nat.reduceDiv, Int.reduceToNat, Int.reduceLT, Int.reduceLE, Int.reduceEq, Int.reduceAdd, Int.reduceSub, Int.reduceNeg, Int.reduceMul, Bool.and_self] | split)
    refine rk_loopS (fun (st : Nat × Nat) e' G => e' 1 = .ptr H.length 0 0 ∧ e' 3 = .os (H.length + 1) st.2 0 (recsG (n.kids.take st.1)).length ∧ e' 4 = int st.1 ∧ Old H.length H G ∧ H.length + 1 < G.length ∧ G[H.length]? = some (.box (ndR n)) ∧ G[H.length + 1]? = some (.arr st.2 2 ((recsG (n.kids.take st.1)).map rcR)) ∧ st.1 ≤ n.kids.length) (fun st => n.kids.length - st.1) (0, 0) ?_ ?_
    · refine ⟨rfl, rfl, rfl, fun i hi => hget_app hi, by simp, by simp, by rw [get_add]; rfl, Nat.zero_le _⟩
    rintro ⟨j, ver⟩ e' G ⟨h1, h3, h4, hO, hl, hb, hg, hj⟩
    simp only at h3 h4 hg hj
    have hrl : (recsG (n.kids.take j)).length ≤ 1048576 := by
      have := recsG_len (n.kids.take j)
      rw [List.length_take] at this
      omega
    by_cases hlt : j < n.kids.length
    · have hm := getD_mem' hlt
      have hks := sml_len (sml_kid hs hm)
      by_cases h3k : (n.kids.getD j default).kind = 3
      · have hfo := hrec _ hm h3k
        have hsk := fun f hf => sml_kid (sml_kid hs hm) (k := f) hf
        have hsn := recsG_yes hlt h3k
        generalize hkd : n.kids.getD j default = kd at *
        repeat' (first | (refine And.intro (by omega) ?_) | simp -implicitDefEqProofs (disch := omega) only [h1, h3, h4, hb, hg, rows_getD, hkd, cells_agg, nd_c1s, nd_len, nd_cellsV, nd_take, nd_drop1, nd_drop4, nd_drop5, splice, List.append_nil, h3k, dT_lt, dF_lt, dT_le, dF_le, dT_eq, dF_eq, push_cast, ↓reduceIte, Nat.reduceEqDiff, reduceCtorEq, Nat.reduceAdd, Nat.reduceSub, Nat.reduceMul, Nat.reduceLeDiff, Nat.reduceLT, Nat.reduceMod, Nat.reduceDiv, Int.reduceToNat, Int.reduceLT, Int.reduceLE, Int.reduceEq, Int.reduceAdd, Int.reduceSub, Int.reduceNeg, Int.reduceMul, Bool.and_self] | split)
        refine rk_loopS (fun (st : Nat × AV) e' Γ => e' 1 = .ptr H.length 0 0 ∧ e' 3 = .os (H.length + 1) ver 0 (recsG (n.kids.take j)).length ∧ e' 4 = int j ∧ e' 5 = .ptr G.length 0 0 ∧ e' 6 = int st.1 ∧ Old G.length G Γ ∧ FSt G.length kd.text ((kd.kids.take st.1).map fun f => fdR (fdF f)) st.2 Γ ∧ st.1 ≤ kd.kids.length) (fun st => kd.kids.length - st.1) (0, nilS) ?_ ?_
        · refine ⟨h1, h3, h4, rfl, rfl, fun i hi => hget_app hi, ⟨by simp, by simp, .inl ⟨rfl, rfl⟩⟩, Nat.zero_le _⟩
        clear h1 h3 h4 e'
        rintro ⟨i, y⟩ e' Γ ⟨h1, h3, h4, h5, h6, hOΓ, ⟨hlΓ, hbΓ, hy⟩, hi⟩
        simp only at h6 hbΓ hy hi
        have hb' : Γ[H.length]? = some (.box (ndR n)) := (hOΓ _ (by omega)).trans hb
        by_cases hil : i < kd.kids.length
        · have hmf := getD_mem' hil
          have hfo1 := hfo _ hmf
          have hfs := hsk _ hmf
          have hsnoc := fds_snoc hil
          generalize hfe : kd.kids.getD i default = f at *
          have hfk : 0 < f.kids.length := hfo1.1
          have cW := fun H => scalar_field hfo1 H
          simp only [tyR] at cW
          have hlen : ((kd.kids.take i).map fun f => fdR (fdF f)).length = i := by rw [List.length_map, List.length_take]; omega
          generalize hfs0 : ((kd.kids.take i).map fun f => fdR (fdF f)) = fs at *
          have hall : fs.take i = fs := List.take_of_length_le (by omega)
          rcases hy with ⟨hf0, rfl⟩ | ⟨q, vq, rfl, hq1, hq2, hq3⟩
          · subst hf0
            repeat' (first | (refine And.intro (by omega) ?_) | (refine callF_pure (cW _) ?_) | (refine callQF_pure (cW _) (by first | rfl | simp only [h1, h3, h4, h5, h6, hb', hbΓ, rows_getD, hkd, hfe, cells_agg, nd_c1s, nd_len, nd_cellsV, nd_take, nd_drop1, nd_drop4, nd_drop5, splice, List.append_nil, hget_app, hset_app, hget_ne, hget_self, hget_sapp, hset_sapp, hgets_self, hget_ssapp, hset_ssapp, hgetss_self, push_cast]) ?_) | simp -implicitDefEqProofs (disch := omega) only [h1, h3, h4, h5, h6, hb', hbΓ, rows_getD, hkd, hfe, cells_agg, nd_c1s, nd_len, nd_cellsV, nd_take, nd_drop1, nd_drop4, nd_drop5, splice, List.append_nil, hget_app, hset_app, hget_ne, hget_self, hget_sapp, hset_sapp, hgets_self, hget_ssapp, hset_ssapp, hgetss_self, dT_lt, dF_lt, dT_le, dF_le, dT_eq, dF_eq, push_cast, ↓reduceIte, Nat.reduceEqDiff, reduceCtorEq, Nat.reduceAdd, Nat.reduceSub, Nat.reduceMul, Nat.reduceLeDiff, Nat.reduceLT, Nat.reduceMod, Nat.reduceDiv, Int.reduceToNat, Int.reduceLT, Int.reduceLE, Int.reduceEq, Int.reduceAdd, Int.reduceSub, Int.reduceNeg, Int.reduceMul, Bool.and_self] | split)
            refine .mk (i + 1, .os (Γ.length + 1) 0 0 1) ⟨h1, h3, h4, h5, rfl, fun a ha => ?_, ?_, hil⟩ (by simp only; omega)
            · simp (disch := omega) only [hget_app, hset_app, hget_ne, hget_self, hget_sapp, hset_sapp, hgets_self, hget_ssapp, hset_ssapp, hgetss_self]
              exact hOΓ a ha
            · dsimp only
              rw [hsnoc]
              refine ⟨by simp; omega, ?_, .inr ⟨Γ.length + 1, 0, rfl, by omega, by simp, ?_⟩⟩
              · simp (disch := omega) only [hget_app, hset_app, hget_ne, hget_self, hget_sapp, hset_sapp, hgets_self, hget_ssapp, hset_ssapp, hgetss_self]
              · rw [List.getElem?_append_right (by simp)]; simp; rfl
          · repeat' (first | (refine And.intro (by omega) ?_) | (refine callF_pure (cW _) ?_) | (refine callQF_pure (cW _) (by first | rfl | simp only [h1, h3, h4, h5, h6, hb', hbΓ, hq3, hlen, hall, rows_getD, hkd, hfe, cells_agg, nd_c1s, nd_len, nd_cellsV, nd_take, nd_drop1, nd_drop4, nd_drop5, splice, List.append_nil, hget_app, hset_app, hget_ne, hget_self, hget_sapp, hset_sapp, hgets_self, hget_ssapp, hset_ssapp, hgetss_self, push_cast]) ?_) | simp -implicitDefEqProofs (disch := omega) only [h1, h3, h4, h5, h6, hb', hbΓ, hq3, hlen, hall, rows_getD, hkd, hfe, cells_agg, nd_c1s, nd_len, nd_cellsV, nd_take, nd_drop1, nd_drop4, nd_drop5, splice, List.append_nil, hget_app, hset_app, hget_ne, hget_self, hget_sapp, hset_sapp, hgets_self, hget_ssapp, hset_ssapp, hgetss_self, dT_lt, dF_lt, dT_le, dF_le, dT_eq, dF_eq, push_cast, ↓reduceIte, Nat.reduceEqDiff, reduceCtorEq, Nat.reduceAdd, Nat.reduceSub, Nat.reduceMul, Nat.reduceLeDiff, Nat.reduceLT, Nat.reduceMod, Nat.reduceDiv, Int.reduceToNat, Int.reduceLT, Int.reduceLE, Int.reduceEq, Int.reduceAdd, Int.reduceSub, Int.reduceNeg, Int.reduceMul, Bool.and_self] | split)
            refine .mk (i + 1, .os q (vq + 1) 0 (i + 1)) ⟨h1, h3, h4, h5, rfl, fun a ha => ?_, ?_, hil⟩ (by simp only; omega)
            · simp (disch := omega) only [hget_app, hset_app, hget_ne, hget_self, hget_sapp, hset_sapp, hgets_self, hget_ssapp, hset_ssapp, hgetss_self]
              exact hOΓ a ha
            · dsimp only
              rw [hsnoc]
              refine ⟨by simp; omega, ?_, .inr ⟨q, vq + 1, by rw [List.length_append, hlen]; rfl, by omega, by simp; omega, ?_⟩⟩
              · simp (disch := omega) only [hget_app, hset_app, hget_ne, hget_self, hget_sapp, hset_sapp, hgets_self, hget_ssapp, hset_ssapp, hgetss_self]
              · simp (disch := omega) only [hget_app, hset_app, hget_ne, hget_self, hget_sapp, hset_sapp, hgets_self, hget_ssapp, hset_ssapp, hgetss_self]; rfl
        · have e : i = kd.kids.length := by omega
          subst e
          rw [List.take_length] at hy
          have hlen : (kd.kids.map fun f => fdR (fdF f)).length = kd.kids.length := List.length_map _
          have hgr : Γ[H.length + 1]? = some (.arr ver 2 ((recsG (n.kids.take j)).map rcR)) := (hOΓ _ (by omega)).trans hg
          have hrow := rc_row kd
          generalize hfs0 : (kd.kids.map fun f => fdR (fdF f)) = fs at *
          have hall : fs.take kd.kids.length = fs := List.take_of_length_le (by omega)
          have hrall : ((recsG (n.kids.take j)).map rcR).take (recsG (n.kids.take j)).length = (recsG (n.kids.take j)).map rcR := List.take_of_length_le (by simp)
          rcases hy with ⟨hf0, rfl⟩ | ⟨q, vq, rfl, hq1, hq2, hq3⟩
          · subst hf0
            repeat' (first | (refine And.intro (by omega) ?_) | simp -implicitDefEqProofs (disch := omega) only [h1, h3, h4, h5, h6, hb', hbΓ, hgr, hrall, rows_getD, hkd, nd_len, nd_cellsV, nd_take, nd_drop4, List.append_nil, hget_app, hset_app, hget_ne, hget_self, hget_sapp, hset_sapp, hgets_self, hget_ssapp, hset_ssapp, hgetss_self, dT_lt, dF_lt, dT_le, dF_le, dT_eq, dF_eq, push_cast, ↓reduceIte, Nat.reduceEqDiff, reduceCtorEq, Nat.reduceAdd, Nat.reduceSub, Nat.reduceMul, Nat.reduceLeDiff, Nat.reduceLT, Nat.reduceMod, Nat.reduceDiv, Int.reduceToNat, Int.reduceLT, Int.reduceLE, Int.reduceEq, Int.reduceAdd, Int.reduceSub, Int.reduceNeg, Int.reduceMul, Bool.and_self] | split)
            refine .mk (j + 1, ver + 1) ⟨h1, by dsimp only; rw [hsn, List.length_append]; rfl, rfl, fun a ha => ?_, by simp; omega, ?_, ?_, hlt⟩ (by simp only; omega)
            · simp (disch := omega) only [hget_app, hset_app, hget_ne, hget_self, hget_sapp, hset_sapp, hgets_self, hget_ssapp, hset_ssapp, hgetss_self]
              exact (hOΓ a (by omega)).trans (hO a ha)
            · simp (disch := omega) only [hget_app, hset_app, hget_ne, hget_self, hget_sapp, hset_sapp, hgets_self, hget_ssapp, hset_ssapp, hgetss_self]
              exact hb'
            · dsimp only
              rw [hsn, List.map_append, List.map_cons, List.map_nil, hrow]
              simp (disch := omega) only [hget_app, hset_app, hget_ne, hget_self, hget_sapp, hset_sapp, hgets_self, hget_ssapp, hset_ssapp, hgetss_self]
          · repeat' (first | (refine And.intro (by omega) ?_) | simp -implicitDefEqProofs (disch := omega) only [h1, h3, h4, h5, h6, hb', hbΓ, hq3, hgr, hlen, hall, hrall, rows_getD, hkd, nd_len, nd_cellsV, nd_take, nd_drop4, List.append_nil, hget_app, hset_app, hget_ne, hget_self, hget_sapp, hset_sapp, hgets_self, hget_ssapp, hset_ssapp, hgetss_self, dT_lt, dF_lt, dT_le, dF_le, dT_eq, dF_eq, push_cast, ↓reduceIte, Nat.reduceEqDiff, reduceCtorEq, Nat.reduceAdd, Nat.reduceSub, Nat.reduceMul, Nat.reduceLeDiff, Nat.reduceLT, Nat.reduceMod, Nat.reduceDiv, Int.reduceToNat, Int.reduceLT, Int.reduceLE, Int.reduceEq, Int.reduceAdd, Int.reduceSub, Int.reduceNeg, Int.reduceMul, Bool.and_self] | split)
            refine .mk (j + 1, ver + 1) ⟨h1, by dsimp only; rw [hsn, List.length_append]; rfl, rfl, fun a ha => ?_, by simp; omega, ?_, ?_, hlt⟩ (by simp only; omega)
            · simp (disch := omega) only [hget_app, hset_app, hget_ne, hget_self, hget_sapp, hset_sapp, hgets_self, hget_ssapp, hset_ssapp, hgetss_self]
              exact (hOΓ a (by omega)).trans (hO a ha)
            · simp (disch := omega) only [hget_app, hset_app, hget_ne, hget_self, hget_sapp, hset_sapp, hgets_self, hget_ssapp, hset_ssapp, hgetss_self]
              exact hb'
            · dsimp only
              rw [hsn, List.map_append, List.map_cons, List.map_nil, hrow]
              simp (disch := omega) only [hget_app, hset_app, hget_ne, hget_self, hget_sapp, hset_sapp, hgets_self, hget_ssapp, hset_ssapp, hgetss_self]
      · have hsn := recsG_no hlt h3k
        generalize hkd : n.kids.getD j default = kd at *
        repeat' (first | (refine And.intro (by omega) ?_) | simp -implicitDefEqProofs (disch := omega) only [h1, h3, h4, hb, hg, rows_getD, hkd, cells_agg, nd_c1s, nd_len, nd_cellsV, nd_take, nd_drop1, nd_drop4, nd_drop5, splice, List.append_nil, h3k, dT_lt, dF_lt, dT_le, dF_le, dT_eq, dF_eq, push_cast, ↓reduceIte, Nat.reduceEqDiff, reduceCtorEq, Nat.reduceAdd, Nat.reduceSub, Nat.reduceMul, Nat.reduceLeDiff, Nat.reduceLT, Nat.reduceMod, Nat.reduceDiv, Int.reduceToNat, Int.reduceLT, Int.reduceLE, Int.reduceEq, Int.reduceAdd, Int.reduceSub, Int.reduceNeg, Int.reduceMul, Bool.and_self] | split)
        refine .mk (j + 1, ver) ⟨h1, by dsimp only; rw [hsn]; exact h3, rfl, hO, hl, hb, ?_, hlt⟩ (by simp only; omega)
        dsimp only
        rw [hsn]
        exact hg
    · have e : j = n.kids.length := by omega
      subst e
      rw [List.take_length] at h3 hg
      have hrall : ((recsG n.kids).map rcR).take (recsG n.kids).length = (recsG n.kids).map rcR := List.take_of_length_le (by simp)
      repeat' (first | (refine And.intro (by omega) ?_) | simp -implicitDefEqProofs (disch := omega) only [h1, h3, h4, hb, hg, hrall, nd_len, nd_cellsV, nd_take, nd_drop4, dT_lt, dF_lt, dT_le, dF_le, dT_eq, dF_eq, push_cast, ↓reduceIte, Nat.reduceEqDiff, reduceCtorEq, Nat.reduceAdd, Nat.reduceSub, Nat.reduceMul, Nat.reduceLeDiff, Nat.reduceLT, Nat.reduceMod, Nat.reduceDiv, Int.reduceToNat, Int.reduceLT, Int.reduceLE, Int.reduceEq, Int.reduceAdd, Int.reduceSub, Int.reduceNeg, Int.reduceMul, Bool.and_self] | split)
      refine heap_ext' (by simp; omega) fun i hi => ?_
      rw [hget_ne (by omega)]
      exact hO i hi
  · have hv' := Bool.eq_false_iff.2 hv
    have hF : recsF n = [] := by unfold recsF; rw [if_neg hv]
    rw [hF]
    rw [hv'] at cV
    repeat' (first | (refine And.intro (by omega) ?_) | (refine callF_pure (cV _) ?_) | (refine callQF_pure (cV _) (by first | rfl | simp only [L48z, cells_agg, nd_c1s, nd_len, nd_cellsV, nd_take, nd_drop4, push_cast]) ?_) | simp -implicitDefEqProofs (disch := omega) only [L48z, cells_agg, nd_c1s, nd_len, nd_cellsV, nd_take, nd_drop4, dT_lt, dF_lt, dT_le, dF_le, dT_eq, dF_eq, push_cast, ↓reduceIte, Nat.reduceEqDiff, reduceCtorEq, Nat.reduceAdd, Nat.reduceSub, Nat.reduceMul, Nat.reduceLeDiff, Nat.reduceLT, Nat.reduceMod, Nat.reduceDiv, Int.reduceToNat, Int.reduceLT, Int.reduceLE, Int.reduceEq, Int.reduceAdd, Int.reduceSub, Int.reduceNeg, Int.reduceMul, Bool.and_self] | split)
    exact ⟨_, rfl⟩
end Go.Proofs.Ytnbdogodcjhfiaa

/- Types, part 3: scalars. -/
namespace Go.Proofs.Ytnbdogodcjhfiaa
open Go Go.Ax
set_option maxRecDepth 100000
set_option linter.unusedSimpArgs false
set_option linter.unusedVariables false

/-- The scalars of a type that exists. -/
def scal1 (rs : List Rc) (t : Ty) : List Ty :=
  if t.k = 3 then List.replicate t.len.toNat tyI
  else if t.k = 4 then (match idxF rs t.rc with | some i => (rs.getD i default).fields.map fun f => scF f.ty | none => [])
  else [⟨t.k, 0, []⟩]
def scalV (rs : List Rc) (l : List Ty) : AV := if l.all (fun t => validF t rs) = true then .sl 3 ((l.flatMap (scal1 rs)).map tyR) else nilS
structure Few (rs : List Rc) : Prop where
  len : rs.length ≤ 20
  fields : ∀ r ∈ rs, r.fields.length ≤ 20
theorem scal1_len {rs : List Rc} {t : Ty} (hf : Few rs) (hv : validF t rs = true) : (scal1 rs t).length ≤ 20 := by
  unfold scal1
  split
  · rename_i h
    unfold validF at hv
    rw [if_neg (by omega), if_pos h] at hv
    simp at hv
    simp; omega
  · split
    · split
      · rename_i i hi
        simpa using hf.fields _ (getD_mem' (find_lt hi).1)
      · simp
    · simp
theorem valid_kinds {t : Ty} {rs : List Rc} (hv : validF t rs = true) : t.k = 1 ∨ t.k = 2 ∨ (t.k = 3 ∧ 1 ≤ t.len ∧ t.len ≤ 8) ∨ (t.k = 4 ∧ ∃ i, idxF rs t.rc = some i) := by
  unfold validF at hv
  split at hv
  · omega
  · split at hv
    · simp at hv; omega
    · split at hv
      · simp at hv
        obtain ⟨_, h⟩ := hv
        cases hi : idxF rs t.rc with
        | none => rw [hi] at h; simp at h
        | some i => exact .inr (.inr (.inr ⟨‹_›, i, rfl⟩))
      · simp at hv

theorem flat_take {rs : List Rc} {l : List Ty} {j : Nat} (h : j < l.length) : ((l.take j).flatMap (scal1 rs)).map tyR ++ (scal1 rs (l.getD j default)).map tyR = ((l.take (j + 1)).flatMap (scal1 rs)).map tyR := by
  rw [take_snoc h]; simp
theorem flat_len {rs : List Rc} (hf : Few rs) : ∀ {l : List Ty}, (∀ t ∈ l, validF t rs = true) → (l.flatMap (scal1 rs)).length ≤ 20 * l.length
  | [], _ => by simp
  | t :: l, h => by
    have h1 := scal1_len hf (h t (by simp))
    have h2 := flat_len hf (l := l) fun t ht => h t (by simp [ht])
    simp only [List.flatMap_cons, List.length_append, List.length_cons]; omega
theorem all_upto {α : Type} [Inhabited α] {l : List α} {p : α → Prop} {j : Nat} (h : ∀ i, i < j → p (l.getD i default)) (hj : j ≤ l.length) : ∀ t ∈ l.take j, p t := by
  intro t ht
  obtain ⟨i, hi, rfl⟩ := List.mem_iff_getElem.1 ht
  have := h i (by simp at hi; omega)
  simp at hi
  simpa [List.getD_eq_getElem?_getD, show i < l.length by omega] using this
theorem scalV_no {rs : List Rc} {l : List Ty} {j : Nat} (hj : j < l.length) (h : validF (l.getD j default) rs = false) : scalV rs l = nilS := by
  unfold scalV
  rw [if_neg]
  intro hh
  rw [List.all_eq_true] at hh
  rw [hh _ (getD_mem' hj)] at h
  cases h
theorem scalV_yes {rs : List Rc} {l : List Ty} (h : ∀ i, i < l.length → validF (l.getD i default) rs = true) : scalV rs l = .sl 3 ((l.flatMap (scal1 rs)).map tyR) := by
  unfold scalV
  rw [if_pos]
  rw [List.all_eq_true]
  intro t ht
  have := all_upto (p := fun t => validF t rs = true) h (Nat.le_refl _) t (by rw [List.take_length]; exact ht)
  exact this

theorem scalars (rs : List Rc) (l : List Ty) (H : AHeap) (hf : Few rs) (hl : l.length ≤ 20) : Comp' 68 [.sl 2 (rs.map rcR), .sl 3 (l.map tyR)] H (scalV rs l) := by
  refine ACall.drop (R := fun x => x = scalV rs l) ?_
  refine enter Try.func68 L68_ok (Nat.le_of_ble_eq_true rfl) ?_
  have hrl := hf.len
  repeat' (first | (refine And.intro (by omega) ?_) | simp -implicitDefEqProofs (disch := omega) only [L68, dT_lt, dF_lt, dT_le, dF_le, dT_eq, dF_eq, push_cast, ↓reduceIte, Nat.reduceEqDiff, reduceCtorEq, Nat.reduceAdd, Nat.reduceSub, Nat.reduceMul, Nat.reduceLeDiff, Nat.reduceLT, Nat.reduceMod, Nat.reduceDiv, Int.reduceToNat, Int.reduceLT, Int.reduceLE, Int.reduceEq, Int.reduceAdd, Int.reduceSub, Int.reduceNeg, Int.reduceMul, Bool.and_self] | split)
  refine rk_loopS (fun (p : Nat × Nat × List HO) e' H' => e' 0 = .sl 2 (rs.map rcR) ∧ e' 5 = .os H.length p.2.1 0 ((l.take p.1).flatMap (scal1 rs)).length ∧ e' 8 = .sl 3 (l.map tyR) ∧ e' 9 = int l.length ∧ e' 10 = int p.1 ∧ H' = H ++ .arr p.2.1 3 (((l.take p.1).flatMap (scal1 rs)).map tyR) :: p.2.2 ∧ p.1 ≤ l.length ∧ ∀ i, i < p.1 → validF (l.getD i default) rs = true) (fun p => l.length - p.1) (0, 0, []) ?_ ?_
  · exact ⟨rfl, rfl, rfl, rfl, rfl, rfl, Nat.zero_le _, by simp⟩
  rintro ⟨j, ver, rest⟩ e' H' ⟨h0, h5, h8, h9, h10, rfl, hj, hv⟩
  simp only at h0 h5 h8 h9 h10 hj hv
  have hlen := flat_len hf (all_upto (p := fun t => validF t rs = true) hv hj)
  have hl0 : (l.take j).length = j := by simp; omega
  by_cases hlt : j < l.length
  · have hft := flat_take (rs := rs) hlt
    by_cases hvj : validF (l.getD j default) rs = true
    · have hlen1 := scal1_len hf hvj
      have hall := upto_succ (p := fun i => validF (l.getD i default) rs = true) hv hvj
      have hk := valid_kinds hvj
      generalize hte : l.getD j default = t at hft hvj hk hlen1
      obtain ⟨k, len, rc⟩ := t
      simp only at hk
      rcases hk with rfl | rfl | ⟨rfl, hk1, hk2⟩ | ⟨rfl, i, hi⟩
      · have hs : (scal1 rs ⟨1, len, rc⟩).map tyR = [[int 1, int 0, str []]] := by rfl
        rw [hs] at hft
        have hfl : ((l.take j).flatMap (scal1 rs)).length + 1 = ((l.take (j + 1)).flatMap (scal1 rs)).length := by have := congrArg List.length hft; simpa using this
        have hb : 1 ≤ 20 := by have := congrArg List.length hs; simp only [List.length_map] at this; omega
        repeat' (first | (refine And.intro (by omega) ?_) | (refine callF_pure (valid ⟨1, len, rc⟩ rs _ (by omega)) ?_) | (refine callF_pure (shapes _) ?_) | (refine callF_pure (shp2 ⟨1, len, rc⟩ rs _) ?_) | (refine callQF_pure (valid ⟨1, len, rc⟩ rs _ (by omega)) (by first | rfl | simp only [h0, h5, h8, h9, h10, rows_getD, hte, tyR, hvj, shp_1, shp_cmp, lookV, hft, List.length_replicate, push_cast]) ?_) | (refine callQF_pure (shapes _) (by first | rfl | simp only [h0, h5, h8, h9, h10, rows_getD, hte, tyR, hvj, shp_1, shp_cmp, lookV, hft, List.length_replicate, push_cast]) ?_) | (refine callQF_pure (shp2 ⟨1, len, rc⟩ rs _) (by first | rfl | simp only [h0, h5, h8, h9, h10, rows_getD, hte, tyR, hvj, shp_1, shp_cmp, lookV, hft, List.length_replicate, push_cast]) ?_) | simp -implicitDefEqProofs (disch := omega) only [h0, h5, h8, h9, h10, rows_getD, hte, tyR, hvj, shp_1, shp_cmp, lookV, hft, List.length_replicate, dT_lt, dF_lt, dT_le, dF_le, dT_eq, dF_eq, push_cast, ↓reduceIte, Nat.reduceEqDiff, reduceCtorEq, Nat.reduceAdd, Nat.reduceSub, Nat.reduceMul, Nat.reduceLeDiff, Nat.reduceLT, Nat.reduceMod, Nat.reduceDiv, Int.reduceToNat, Int.reduceLT, Int.reduceLE, Int.reduceEq, Int.reduceAdd, Int.reduceSub, Int.reduceNeg, Int.reduceMul, Bool.and_self] | split)
        exact .mk (j + 1, ver + 1, rest ++ [_]) ⟨h0, by rw [← hfl]; rfl, h8, h9, rfl, rfl, hlt, hall⟩ (by simp only; omega)
      · have hs : (scal1 rs ⟨2, len, rc⟩).map tyR = [[int 2, int 0, str []]] := by rfl
        rw [hs] at hft
        have hfl : ((l.take j).flatMap (scal1 rs)).length + 1 = ((l.take (j + 1)).flatMap (scal1 rs)).length := by have := congrArg List.length hft; simpa using this
        have hb : 1 ≤ 20 := by have := congrArg List.length hs; simp only [List.length_map] at this; omega
        repeat' (first | (refine And.intro (by omega) ?_) | (refine callF_pure (valid ⟨2, len, rc⟩ rs _ (by omega)) ?_) | (refine callF_pure (shapes _) ?_) | (refine callF_pure (shp2 ⟨2, len, rc⟩ rs _) ?_) | (refine callQF_pure (valid ⟨2, len, rc⟩ rs _ (by omega)) (by first | rfl | simp only [h0, h5, h8, h9, h10, rows_getD, hte, tyR, hvj, shp_2, shp_cmp, lookV, hft, List.length_replicate, push_cast]) ?_) | (refine callQF_pure (shapes _) (by first | rfl | simp only [h0, h5, h8, h9, h10, rows_getD, hte, tyR, hvj, shp_2, shp_cmp, lookV, hft, List.length_replicate, push_cast]) ?_) | (refine callQF_pure (shp2 ⟨2, len, rc⟩ rs _) (by first | rfl | simp only [h0, h5, h8, h9, h10, rows_getD, hte, tyR, hvj, shp_2, shp_cmp, lookV, hft, List.length_replicate, push_cast]) ?_) | simp -implicitDefEqProofs (disch := omega) only [h0, h5, h8, h9, h10, rows_getD, hte, tyR, hvj, shp_2, shp_cmp, lookV, hft, List.length_replicate, dT_lt, dF_lt, dT_le, dF_le, dT_eq, dF_eq, push_cast, ↓reduceIte, Nat.reduceEqDiff, reduceCtorEq, Nat.reduceAdd, Nat.reduceSub, Nat.reduceMul, Nat.reduceLeDiff, Nat.reduceLT, Nat.reduceMod, Nat.reduceDiv, Int.reduceToNat, Int.reduceLT, Int.reduceLE, Int.reduceEq, Int.reduceAdd, Int.reduceSub, Int.reduceNeg, Int.reduceMul, Bool.and_self] | split)
        exact .mk (j + 1, ver + 1, rest ++ [_]) ⟨h0, by rw [← hfl]; rfl, h8, h9, rfl, rfl, hlt, hall⟩ (by simp only; omega)
      · obtain ⟨n, hn⟩ : ∃ n : Nat, len = n := ⟨len.toNat, by omega⟩
        have hs : (scal1 rs ⟨3, len, rc⟩).map tyR = List.replicate n [int tyI.k, int tyI.len, str tyI.rc] := by simp [scal1, hn, tyR]
        rw [hs] at hft
        have hfl : ((l.take j).flatMap (scal1 rs)).length + n = ((l.take (j + 1)).flatMap (scal1 rs)).length := by have := congrArg List.length hft; simpa using this
        have hb : n ≤ 20 := by have := congrArg List.length hs; simp only [List.length_map] at this; omega
        repeat' (first | (refine And.intro (by omega) ?_) | (refine callF_pure (valid ⟨3, len, rc⟩ rs _ (by omega)) ?_) | (refine callF_pure (shapes _) ?_) | (refine callF_pure (shp4 ⟨3, len, rc⟩ rs n hn (by omega) (by omega) _) ?_) | (refine callQF_pure (valid ⟨3, len, rc⟩ rs _ (by omega)) (by first | rfl | simp only [h0, h5, h8, h9, h10, rows_getD, hte, tyR, hvj, shp_3, shp_cmp, lookV, hft, List.length_replicate, push_cast]) ?_) | (refine callQF_pure (shapes _) (by first | rfl | simp only [h0, h5, h8, h9, h10, rows_getD, hte, tyR, hvj, shp_3, shp_cmp, lookV, hft, List.length_replicate, push_cast]) ?_) | (refine callQF_pure (shp4 ⟨3, len, rc⟩ rs n hn (by omega) (by omega) _) (by first | rfl | simp only [h0, h5, h8, h9, h10, rows_getD, hte, tyR, hvj, shp_3, shp_cmp, lookV, hft, List.length_replicate, push_cast]) ?_) | simp -implicitDefEqProofs (disch := omega) only [h0, h5, h8, h9, h10, rows_getD, hte, tyR, hvj, shp_3, shp_cmp, lookV, hft, List.length_replicate, dT_lt, dF_lt, dT_le, dF_le, dT_eq, dF_eq, push_cast, ↓reduceIte, Nat.reduceEqDiff, reduceCtorEq, Nat.reduceAdd, Nat.reduceSub, Nat.reduceMul, Nat.reduceLeDiff, Nat.reduceLT, Nat.reduceMod, Nat.reduceDiv, Int.reduceToNat, Int.reduceLT, Int.reduceLE, Int.reduceEq, Int.reduceAdd, Int.reduceSub, Int.reduceNeg, Int.reduceMul, Bool.and_self] | split)
        exact .mk (j + 1, ver + 1, rest ++ [_]) ⟨h0, by rw [← hfl]; rfl, h8, h9, rfl, rfl, hlt, hall⟩ (by simp only; omega)
      · have hs : (scal1 rs ⟨4, len, rc⟩).map tyR = (rs.getD i default).fields.map scR := by simp [scal1, show idxF rs rc = some i from hi, scR]
        rw [hs] at hft
        have hfl : ((l.take j).flatMap (scal1 rs)).length + (rs.getD i default).fields.length = ((l.take (j + 1)).flatMap (scal1 rs)).length := by have := congrArg List.length hft; simpa using this
        have hb : (rs.getD i default).fields.length ≤ 20 := by have := congrArg List.length hs; simp only [List.length_map] at this; omega
        repeat' (first | (refine And.intro (by omega) ?_) | (refine callF_pure (valid ⟨4, len, rc⟩ rs _ (by omega)) ?_) | (refine callF_pure (shapes _) ?_) | (refine callF_pure (shp6 ⟨4, len, rc⟩ rs i _ (by omega) hi hf.fields) ?_) | (refine callQF_pure (valid ⟨4, len, rc⟩ rs _ (by omega)) (by first | rfl | simp only [h0, h5, h8, h9, h10, rows_getD, hte, tyR, hvj, shp_4, shp_cmp, lookV, hft, List.length_replicate, push_cast]) ?_) | (refine callQF_pure (shapes _) (by first | rfl | simp only [h0, h5, h8, h9, h10, rows_getD, hte, tyR, hvj, shp_4, shp_cmp, lookV, hft, List.length_replicate, push_cast]) ?_) | (refine callQF_pure (shp6 ⟨4, len, rc⟩ rs i _ (by omega) hi hf.fields) (by first | rfl | simp only [h0, h5, h8, h9, h10, rows_getD, hte, tyR, hvj, shp_4, shp_cmp, lookV, hft, List.length_replicate, push_cast]) ?_) | simp -implicitDefEqProofs (disch := omega) only [h0, h5, h8, h9, h10, rows_getD, hte, tyR, hvj, shp_4, shp_cmp, lookV, hft, List.length_replicate, dT_lt, dF_lt, dT_le, dF_le, dT_eq, dF_eq, push_cast, ↓reduceIte, Nat.reduceEqDiff, reduceCtorEq, Nat.reduceAdd, Nat.reduceSub, Nat.reduceMul, Nat.reduceLeDiff, Nat.reduceLT, Nat.reduceMod, Nat.reduceDiv, Int.reduceToNat, Int.reduceLT, Int.reduceLE, Int.reduceEq, Int.reduceAdd, Int.reduceSub, Int.reduceNeg, Int.reduceMul, Bool.and_self] | split)
        exact .mk (j + 1, ver + 1, rest ++ [_]) ⟨h0, by rw [← hfl]; rfl, h8, h9, rfl, rfl, hlt, hall⟩ (by simp only; omega)
    · have hvj' := Bool.eq_false_iff.2 hvj
      rw [scalV_no hlt hvj']
      repeat' (first | (refine And.intro (by omega) ?_) | (refine callF_pure (valid (l.getD j default) rs _ (by omega)) ?_) | (refine callQF_pure (valid (l.getD j default) rs _ (by omega)) (by first | rfl | simp only [h0, h5, h8, h9, h10, rows_getD, tyR, hvj', push_cast]) ?_) | simp -implicitDefEqProofs (disch := omega) only [h0, h5, h8, h9, h10, rows_getD, tyR, hvj', dT_lt, dF_lt, dT_le, dF_le, dT_eq, dF_eq, push_cast, ↓reduceIte, Nat.reduceEqDiff, reduceCtorEq, Nat.reduceAdd, Nat.reduceSub, Nat.reduceMul, Nat.reduceLeDiff, Nat.reduceLT, Nat.reduceMod, Nat.reduceDiv, Int.reduceToNat, Int.reduceLT, Int.reduceLE, Int.reduceEq, Int.reduceAdd, Int.reduceSub, Int.reduceNeg, Int.reduceMul, Bool.and_self] | split)
      exact ⟨_, rfl⟩
  · rw [scalV_yes fun i hi => hv i (by omega)]
    repeat' (first | (refine And.intro (by omega) ?_) | simp -implicitDefEqProofs (disch := omega) only [h0, h5, h8, h9, h10, dT_lt, dF_lt, dT_le, dF_le, dT_eq, dF_eq, push_cast, ↓reduceIte, Nat.reduceEqDiff, reduceCtorEq, Nat.reduceAdd, Nat.reduceSub, Nat.reduceMul, Nat.reduceLeDiff, Nat.reduceLT, Nat.reduceMod, Nat.reduceDiv, Int.reduceToNat, Int.reduceLT, Int.reduceLE, Int.reduceEq, Int.reduceAdd, Int.reduceSub, Int.reduceNeg, Int.reduceMul, Bool.and_self] | split)
    exact ⟨by rw [all_take l (by omega)], _, rfl⟩
end Go.Proofs.Ytnbdogodcjhfiaa

/- Types, part 4: the reference's scalars, sizes, equal lists. -/
namespace Go.Proofs.Ytnbdogodcjhfiaa
open Go Go.Ax
set_option maxRecDepth 100000
set_option linter.unusedSimpArgs false
set_option linter.unusedVariables false

def sizeF (rs : List Rc) (t : Ty) : Nat := if validF t rs = true then (scal1 rs t).length else 0
theorem sizeF_no {rs : List Rc} {t : Ty} (h : validF t rs = false) : sizeF rs t = 0 := by unfold sizeF; rw [h]; rfl
theorem sizeF_yes {rs : List Rc} {t : Ty} (h : validF t rs = true) : sizeF rs t = (scal1 rs t).length := by unfold sizeF; rw [h]; rfl
theorem scalV_1 {rs : List Rc} {t : Ty} (h : validF t rs = true) : scalV rs [t] = .sl 3 ((scal1 rs t).map tyR) := by simp [scalV, h]
theorem scalV_0 {rs : List Rc} {t : Ty} (h : validF t rs = false) : scalV rs [t] = nilS := by simp [scalV, h]
theorem size (t : Ty) (rs : List Rc) (H : AHeap) (hf : Few rs) : Comp' 93 [.agg (tyR t), .sl 2 (rs.map rcR)] H (int (sizeF rs t)) := by
  refine ACall.drop (R := fun x => x = int (sizeF rs t)) ?_
  refine enter Try.func93 L93_ok (Nat.le_of_ble_eq_true rfl) ?_
  cases hv : validF t rs with
  | true =>
    repeat' (first | (refine And.intro (by omega) ?_) | (refine callF_pure (scalars rs [t] _ hf (by simp)) ?_) | (refine callQF_pure (scalars rs [t] _ hf (by simp)) (by first | rfl | simp only [L93, tyR, scalV_1 hv, sizeF_yes hv, push_cast]) ?_) | simp -implicitDefEqProofs (disch := omega) only [L93, tyR, scalV_1 hv, sizeF_yes hv, dT_lt, dF_lt, dT_le, dF_le, dT_eq, dF_eq, push_cast, ↓reduceIte, Nat.reduceEqDiff, reduceCtorEq, Nat.reduceAdd, Nat.reduceSub, Nat.reduceMul, Nat.reduceLeDiff, Nat.reduceLT, Nat.reduceMod, Nat.reduceDiv, Int.reduceToNat, Int.reduceLT, Int.reduceLE, Int.reduceEq, Int.reduceAdd, Int.reduceSub, Int.reduceNeg, Int.reduceMul, Bool.and_self] | split)
    exact ⟨_, rfl⟩
  | false =>
    repeat' (first | (refine And.intro (by omega) ?_) | (refine callF_pure (scalars rs [t] _ hf (by simp)) ?_) | (refine callQF_pure (scalars rs [t] _ hf (by simp)) (by first | rfl | simp only [L93, tyR, scalV_0 hv, sizeF_no hv, push_cast]) ?_) | simp -implicitDefEqProofs (disch := omega) only [L93, tyR, scalV_0 hv, sizeF_no hv, dT_lt, dF_lt, dT_le, dF_le, dT_eq, dF_eq, push_cast, ↓reduceIte, Nat.reduceEqDiff, reduceCtorEq, Nat.reduceAdd, Nat.reduceSub, Nat.reduceMul, Nat.reduceLeDiff, Nat.reduceLT, Nat.reduceMod, Nat.reduceDiv, Int.reduceToNat, Int.reduceLT, Int.reduceLE, Int.reduceEq, Int.reduceAdd, Int.reduceSub, Int.reduceNeg, Int.reduceMul, Bool.and_self] | split)
    exact ⟨_, rfl⟩
theorem ty_ext {a b : Ty} : a = b ↔ a.k = b.k ∧ a.len = b.len ∧ a.rc = b.rc := by cases a; cases b; simp
theorem equalR (a b : List Ty) (H : AHeap) (ha : (a.length : Int) < 9223372036854775807) (hb : (b.length : Int) < 9223372036854775807) : Comp' 67 [.sl 3 (a.map tyR), .sl 3 (b.map tyR)] H (bool (decide (a = b))) := by
  refine enter Try.func67 L67_ok (Nat.le_of_ble_eq_true rfl) ?_
  by_cases hl : a.length = b.length
  · repeat' (first | (refine And.intro (by omega) ?_) | simp -implicitDefEqProofs (disch := omega) only [L67, dT_lt, dF_lt, dT_le, dF_le, dT_eq, dF_eq, push_cast, ↓reduceIte, Nat.reduceEqDiff, reduceCtorEq, Nat.reduceAdd, Nat.reduceSub, Nat.reduceMul, Nat.reduceLeDiff, Nat.reduceLT, Nat.reduceMod, Nat.reduceDiv, Int.reduceToNat, Int.reduceLT, Int.reduceLE, Int.reduceEq, Int.reduceAdd, Int.reduceSub, Int.reduceNeg, Int.reduceMul, Bool.and_self] | split)
    refine rk_loopS (fun (j : Nat) e' H' => e' 0 = .sl 3 (a.map tyR) ∧ e' 1 = .sl 3 (b.map tyR) ∧ e' 5 = int j ∧ H = H' ∧ j ≤ a.length ∧ a.take j = b.take j) (fun j => a.length - j) 0 ?_ ?_
    · exact ⟨rfl, rfl, rfl, rfl, Nat.zero_le _, rfl⟩
    rintro j e' H' ⟨h0, h1, h5, rfl, hj, hr⟩
    by_cases hlt : j < a.length
    · by_cases he : a.getD j default = b.getD j default
      · repeat' (first | (refine And.intro (by omega) ?_) | simp -implicitDefEqProofs (disch := omega) only [h0, h1, h5, rows_getD, he, tyR, kEqI, kEqS, dT_lt, dF_lt, dT_le, dF_le, dT_eq, dF_eq, push_cast, ↓reduceIte, Nat.reduceEqDiff, reduceCtorEq, Nat.reduceAdd, Nat.reduceSub, Nat.reduceMul, Nat.reduceLeDiff, Nat.reduceLT, Nat.reduceMod, Nat.reduceDiv, Int.reduceToNat, Int.reduceLT, Int.reduceLE, Int.reduceEq, Int.reduceAdd, Int.reduceSub, Int.reduceNeg, Int.reduceMul, Bool.and_self] | split)
        exact .mk (j + 1) ⟨h0, h1, rfl, rfl, hlt, ext_take hr hlt (by omega) he⟩ (by omega)
      · repeat' (first | (refine And.intro (by omega) ?_) | simp -implicitDefEqProofs (disch := omega) only [h0, h1, h5, rows_getD, tyR, kEqI, kEqS, dT_lt, dF_lt, dT_le, dF_le, dT_eq, dF_eq, push_cast, ↓reduceIte, Nat.reduceEqDiff, reduceCtorEq, Nat.reduceAdd, Nat.reduceSub, Nat.reduceMul, Nat.reduceLeDiff, Nat.reduceLT, Nat.reduceMod, Nat.reduceDiv, Int.reduceToNat, Int.reduceLT, Int.reduceLE, Int.reduceEq, Int.reduceAdd, Int.reduceSub, Int.reduceNeg, Int.reduceMul, Bool.and_self] | split)
        · rw [decide_eq_false]
          rintro rfl; exact he rfl
        · rename_i h
          exact absurd (ty_ext.2 (by simpa using h)) he
    · repeat' (first | (refine And.intro (by omega) ?_) | simp -implicitDefEqProofs (disch := omega) only [h0, h1, h5, dT_lt, dF_lt, dT_le, dF_le, dT_eq, dF_eq, push_cast, ↓reduceIte, Nat.reduceEqDiff, reduceCtorEq, Nat.reduceAdd, Nat.reduceSub, Nat.reduceMul, Nat.reduceLeDiff, Nat.reduceLT, Nat.reduceMod, Nat.reduceDiv, Int.reduceToNat, Int.reduceLT, Int.reduceLE, Int.reduceEq, Int.reduceAdd, Int.reduceSub, Int.reduceNeg, Int.reduceMul, Bool.and_self] | split)
      rw [all_take a (by omega), all_take b (by omega)] at hr
      rw [decide_eq_true hr]
  · repeat' (first | (refine And.intro (by omega) ?_) | simp -implicitDefEqProofs (disch := omega) only [L67, dT_lt, dF_lt, dT_le, dF_le, dT_eq, dF_eq, push_cast, ↓reduceIte, Nat.reduceEqDiff, reduceCtorEq, Nat.reduceAdd, Nat.reduceSub, Nat.reduceMul, Nat.reduceLeDiff, Nat.reduceLT, Nat.reduceMod, Nat.reduceDiv, Int.reduceToNat, Int.reduceLT, Int.reduceLE, Int.reduceEq, Int.reduceAdd, Int.reduceSub, Int.reduceNeg, Int.reduceMul, Bool.and_self] | split)
    rw [decide_eq_false]
    rintro rfl; exact hl rfl
end Go.Proofs.Ytnbdogodcjhfiaa

/- Types, part 5: the text of a type. -/
namespace Go.Proofs.Ytnbdogodcjhfiaa
open Go Go.Ax
set_option maxRecDepth 100000
set_option linter.unusedSimpArgs false
set_option linter.unusedVariables false

/-- A number in decimal. -/
def decN : Nat → Nat → List UInt8
  | 0, _ => []
  | f + 1, n => if n < 10 then [UInt8.ofNat (48 + n)] else decN f (n / 10) ++ [UInt8.ofNat (48 + n % 10)]
def decF (n : Nat) : List UInt8 := decN (n + 1) n
theorem decN_fuel : ∀ (f g n : Nat), n < f → n < g → decN f n = decN g n
  | 0, _, _, h, _ => by omega
  | _, 0, _, _, h => by omega
  | f + 1, g + 1, n, h, h' => by
    unfold decN
    split
    · rfl
    · rw [decN_fuel f g (n / 10) (by omega) (by omega)]
theorem decF_small {n : Nat} (h : n < 10) : decF n = [UInt8.ofNat (48 + n)] := by unfold decF decN; rw [if_pos h]
theorem decF_big {n : Nat} (h : ¬ n < 10) : decF n = decF (n / 10) ++ [UInt8.ofNat (48 + n % 10)] := by
  have e : decF n = decN n (n / 10) ++ [UInt8.ofNat (48 + n % 10)] := by
    conv => lhs; unfold decF decN
    rw [if_neg h]
  rw [e, decN_fuel n (n / 10 + 1) (n / 10) (by omega) (by omega)]
  rfl
theorem decF_len : ∀ (k n : Nat), n < 10 ^ (k + 1) → (decF n).length ≤ k + 1
  | 0, n, h => by rw [decF_small (by simpa using h)]; simp
  | k + 1, n, h => by
    by_cases h10 : n < 10
    · rw [decF_small h10]; simp
    · rw [decF_big h10]
      have := decF_len k (n / 10) (by rw [Nat.pow_succ] at h; omega)
      simp; omega
theorem decF_19 {n : Nat} (h : n ≤ 9223372036854775807) : (decF n).length ≤ 19 := by
  have h2 : (10 : Nat) ^ (18 + 1) = 10000000000000000000 := by simp
  exact decF_len 18 n (by omega)
theorem utf8_digit {n : Nat} (h : n < 10) : Utf8.encode (48 + (n : Int)) = mkS [UInt8.ofNat (48 + n)] := by
  have hn : n = 0 ∨ n = 1 ∨ n = 2 ∨ n = 3 ∨ n = 4 ∨ n = 5 ∨ n = 6 ∨ n = 7 ∨ n = 8 ∨ n = 9 := by omega
  rcases hn with rfl | rfl | rfl | rfl | rfl | rfl | rfl | rfl | rfl | rfl <;> decide +kernel
theorem tdiv10 (n : Nat) : (n : Int).tdiv 10 = ((n / 10 : Nat) : Int) := rfl
theorem tmod10 (n : Nat) : (n : Int).tmod 10 = ((n % 10 : Nat) : Int) := rfl

theorem digits (n : Nat) (hn : n ≤ 9223372036854775807) (H : AHeap) : Comp' 97 [int n] H (str (decF n)) := by
  induction n using Nat.strongRecOn generalizing H with
  | _ n ih =>
    refine enter Try.func97 L97_ok (Nat.le_of_ble_eq_true rfl) ?_
    by_cases h : n < 10
    · repeat' (first | (refine And.intro (by omega) ?_) | simp -implicitDefEqProofs (disch := omega) only [L97, utf8_digit h, decF_small h, dT_lt, dF_lt, dT_le, dF_le, dT_eq, dF_eq, push_cast, ↓reduceIte, Nat.reduceEqDiff, reduceCtorEq, Nat.reduceAdd, Nat.reduceSub, Nat.reduceMul, Nat.reduceLeDiff, Nat.reduceLT, Nat.reduceMod, Nat.reduceDiv, Int.reduceToNat, Int.reduceLT, Int.reduceLE, Int.reduceEq, Int.reduceAdd, Int.reduceSub, Int.reduceNeg, Int.reduceMul, Bool.and_self] | split)
    · have h1 := decF_19 (n := n / 10) (by omega)
      have h2 := decF_19 (n := n % 10) (by omega)
      have hw : IntKind.i64.wrap ((n / 10 : Nat) : Int) = ((n / 10 : Nat) : Int) := wrap64_of _ (by omega) (by omega)
      repeat' (first | (refine And.intro (by omega) ?_) | (refine callF_pure (ih (n / 10) (by omega) (by omega) _) ?_) | (refine callF_pure (ih (n % 10) (by omega) (by omega) _) ?_) | (refine callQF_pure (ih (n / 10) (by omega) (by omega) _) (by first | rfl | simp only [L97, tdiv10, tmod10, hw, decF_big h, push_cast]) ?_) | (refine callQF_pure (ih (n % 10) (by omega) (by omega) _) (by first | rfl | simp only [L97, tdiv10, tmod10, hw, decF_big h, push_cast]) ?_) | simp -implicitDefEqProofs (disch := omega) only [L97, tdiv10, tmod10, hw, decF_big h, dT_lt, dF_lt, dT_le, dF_le, dT_eq, dF_eq, push_cast, ↓reduceIte, Nat.reduceEqDiff, reduceCtorEq, Nat.reduceAdd, Nat.reduceSub, Nat.reduceMul, Nat.reduceLeDiff, Nat.reduceLT, Nat.reduceMod, Nat.reduceDiv, Int.reduceToNat, Int.reduceLT, Int.reduceLE, Int.reduceEq, Int.reduceAdd, Int.reduceSub, Int.reduceNeg, Int.reduceMul, Bool.and_self] | split)
      rw [decF_small (n := n % 10) (by omega)]
/-- The text of a type. -/
def formatF (t : Ty) : List UInt8 :=
  if t.k = 1 then [105, 110, 116] else if t.k = 2 then [98, 111, 111, 108]
  else if t.k = 3 then (if 0 ≤ t.len then [105, 110, 116, 91] ++ decF t.len.toNat ++ [93] else [])
  else if t.k = 4 then t.rc else if t.k = 5 then [97, 114, 114, 97, 121] else if t.k = 6 then [105, 110, 116, 32, 111, 114, 32, 98, 111, 111, 108] else []
theorem format (t : Ty) (hl : t.len ≤ 9223372036854775807) (H : AHeap) : Comp' 69 [.agg (tyR t)] H (str (formatF t)) := by
  refine ACall.drop (R := fun x => x = str (formatF t)) ?_
  refine enter Try.func69 L69_ok (Nat.le_of_ble_eq_true rfl) ?_
  obtain ⟨k, len, rc⟩ := t
  have hk : k = 1 ∨ k = 2 ∨ k = 3 ∨ k = 4 ∨ k = 5 ∨ k = 6 ∨ (k ≠ 1 ∧ k ≠ 2 ∧ k ≠ 3 ∧ k ≠ 4 ∧ k ≠ 5 ∧ k ≠ 6) := by omega
  rcases hk with rfl | rfl | rfl | rfl | rfl | rfl | ⟨n1, n2, n3, n4, n5, n6⟩
  · repeat' (first | (refine And.intro (by omega) ?_) | simp -implicitDefEqProofs (disch := omega) only [L69, tyR, dT_lt, dF_lt, dT_le, dF_le, dT_eq, dF_eq, push_cast, ↓reduceIte, Nat.reduceEqDiff, reduceCtorEq, Nat.reduceAdd, Nat.reduceSub, Nat.reduceMul, Nat.reduceLeDiff, Nat.reduceLT, Nat.reduceMod, Nat.reduceDiv, Int.reduceToNat, Int.reduceLT, Int.reduceLE, Int.reduceEq, Int.reduceAdd, Int.reduceSub, Int.reduceNeg, Int.reduceMul, Bool.and_self] | split)
    exact ⟨rfl, _, rfl⟩
  · repeat' (first | (refine And.intro (by omega) ?_) | simp -implicitDefEqProofs (disch := omega) only [L69, tyR, dT_lt, dF_lt, dT_le, dF_le, dT_eq, dF_eq, push_cast, ↓reduceIte, Nat.reduceEqDiff, reduceCtorEq, Nat.reduceAdd, Nat.reduceSub, Nat.reduceMul, Nat.reduceLeDiff, Nat.reduceLT, Nat.reduceMod, Nat.reduceDiv, Int.reduceToNat, Int.reduceLT, Int.reduceLE, Int.reduceEq, Int.reduceAdd, Int.reduceSub, Int.reduceNeg, Int.reduceMul, Bool.and_self] | split)
    exact ⟨rfl, _, rfl⟩
  · by_cases h : 0 ≤ len
    · obtain ⟨n, rfl⟩ : ∃ n : Nat, len = n := ⟨len.toNat, by omega⟩
      have hn : n ≤ 9223372036854775807 := by have hl' : (n : Int) ≤ 9223372036854775807 := hl; omega
      have h1 := decF_19 hn
      repeat' (first | (refine And.intro (by omega) ?_) | (refine callF_pure (digits n hn _) ?_) | (refine callQF_pure (digits n hn _) (by first | rfl | simp only [L69, tyR, push_cast]) ?_) | simp -implicitDefEqProofs (disch := omega) only [L69, tyR, dT_lt, dF_lt, dT_le, dF_le, dT_eq, dF_eq, push_cast, ↓reduceIte, Nat.reduceEqDiff, reduceCtorEq, Nat.reduceAdd, Nat.reduceSub, Nat.reduceMul, Nat.reduceLeDiff, Nat.reduceLT, Nat.reduceMod, Nat.reduceDiv, Int.reduceToNat, Int.reduceLT, Int.reduceLE, Int.reduceEq, Int.reduceAdd, Int.reduceSub, Int.reduceNeg, Int.reduceMul, Bool.and_self] | split)
      exact ⟨rfl, _, rfl⟩
    · repeat' (first | (refine And.intro (by omega) ?_) | simp -implicitDefEqProofs (disch := omega) only [L69, tyR, dT_lt, dF_lt, dT_le, dF_le, dT_eq, dF_eq, push_cast, ↓reduceIte, Nat.reduceEqDiff, reduceCtorEq, Nat.reduceAdd, Nat.reduceSub, Nat.reduceMul, Nat.reduceLeDiff, Nat.reduceLT, Nat.reduceMod, Nat.reduceDiv, Int.reduceToNat, Int.reduceLT, Int.reduceLE, Int.reduceEq, Int.reduceAdd, Int.reduceSub, Int.reduceNeg, Int.reduceMul, Bool.and_self] | split)
      exact ⟨by simp [formatF, h], _, rfl⟩
  · repeat' (first | (refine And.intro (by omega) ?_) | simp -implicitDefEqProofs (disch := omega) only [L69, tyR, dT_lt, dF_lt, dT_le, dF_le, dT_eq, dF_eq, push_cast, ↓reduceIte, Nat.reduceEqDiff, reduceCtorEq, Nat.reduceAdd, Nat.reduceSub, Nat.reduceMul, Nat.reduceLeDiff, Nat.reduceLT, Nat.reduceMod, Nat.reduceDiv, Int.reduceToNat, Int.reduceLT, Int.reduceLE, Int.reduceEq, Int.reduceAdd, Int.reduceSub, Int.reduceNeg, Int.reduceMul, Bool.and_self] | split)
    exact ⟨rfl, _, rfl⟩
  · repeat' (first | (refine And.intro (by omega) ?_) | simp -implicitDefEqProofs (disch := omega) only [L69, tyR, dT_lt, dF_lt, dT_le, dF_le, dT_eq, dF_eq, push_cast, ↓reduceIte, Nat.reduceEqDiff, reduceCtorEq, Nat.reduceAdd, Nat.reduceSub, Nat.reduceMul, Nat.reduceLeDiff, Nat.reduceLT, Nat.reduceMod, Nat.reduceDiv, Int.reduceToNat, Int.reduceLT, Int.reduceLE, Int.reduceEq, Int.reduceAdd, Int.reduceSub, Int.reduceNeg, Int.reduceMul, Bool.and_self] | split)
    exact ⟨rfl, _, rfl⟩
  · repeat' (first | (refine And.intro (by omega) ?_) | simp -implicitDefEqProofs (disch := omega) only [L69, tyR, dT_lt, dF_lt, dT_le, dF_le, dT_eq, dF_eq, push_cast, ↓reduceIte, Nat.reduceEqDiff, reduceCtorEq, Nat.reduceAdd, Nat.reduceSub, Nat.reduceMul, Nat.reduceLeDiff, Nat.reduceLT, Nat.reduceMod, Nat.reduceDiv, Int.reduceToNat, Int.reduceLT, Int.reduceLE, Int.reduceEq, Int.reduceAdd, Int.reduceSub, Int.reduceNeg, Int.reduceMul, Bool.and_self] | split)
    exact ⟨rfl, _, rfl⟩
  · repeat' (first | (refine And.intro (by omega) ?_) | simp -implicitDefEqProofs (disch := omega) only [L69, tyR, n1, n2, n3, n4, n5, n6, dT_lt, dF_lt, dT_le, dF_le, dT_eq, dF_eq, push_cast, ↓reduceIte, Nat.reduceEqDiff, reduceCtorEq, Nat.reduceAdd, Nat.reduceSub, Nat.reduceMul, Nat.reduceLeDiff, Nat.reduceLT, Nat.reduceMod, Nat.reduceDiv, Int.reduceToNat, Int.reduceLT, Int.reduceLE, Int.reduceEq, Int.reduceAdd, Int.reduceSub, Int.reduceNeg, Int.reduceMul, Bool.and_self] | split)
    exact ⟨by simp [formatF, n1, n2, n3, n4, n5, n6], _, rfl⟩
end Go.Proofs.Ytnbdogodcjhfiaa

/- Types, part 6: layouts, members, the examples. -/
namespace Go.Proofs.Ytnbdogodcjhfiaa
open Go Go.Ax
set_option maxRecDepth 100000
set_option linter.unusedSimpArgs false
set_option linter.unusedVariables false

/-- A copy of a list: a new object, but for the empty list. -/
theorem clone (l : List Vr) (H : AHeap) (hl : l.length ≤ 1000) : ACall Try.prog 92 [.sl 8 (l.map vrR)] H fun x H' => (l = [] ∧ x = nilS ∧ H' = H) ∨ ∃ ver, x = .os H.length ver 0 l.length ∧ H' = H ++ [.arr ver 8 (l.map vrR)] := by
  refine enter Try.func92 L92_ok (Nat.le_of_ble_eq_true rfl) ?_
  repeat' (first | (refine And.intro (by omega) ?_) | simp -implicitDefEqProofs (disch := omega) only [L92, dT_lt, dF_lt, dT_le, dF_le, dT_eq, dF_eq, push_cast, ↓reduceIte, Nat.reduceEqDiff, reduceCtorEq, Nat.reduceAdd, Nat.reduceSub, Nat.reduceMul, Nat.reduceLeDiff, Nat.reduceLT, Nat.reduceMod, Nat.reduceDiv, Int.reduceToNat, Int.reduceLT, Int.reduceLE, Int.reduceEq, Int.reduceAdd, Int.reduceSub, Int.reduceNeg, Int.reduceMul, Bool.and_self] | split)
  refine ⟨trivial, fun b hb => ?_⟩
  cases b with
  | true =>
    have he : l = [] := by simpa using hb rfl
    repeat' (first | (refine And.intro (by omega) ?_) | simp -implicitDefEqProofs (disch := omega) only [dT_lt, dF_lt, dT_le, dF_le, dT_eq, dF_eq, push_cast, ↓reduceIte, Nat.reduceEqDiff, reduceCtorEq, Nat.reduceAdd, Nat.reduceSub, Nat.reduceMul, Nat.reduceLeDiff, Nat.reduceLT, Nat.reduceMod, Nat.reduceDiv, Int.reduceToNat, Int.reduceLT, Int.reduceLE, Int.reduceEq, Int.reduceAdd, Int.reduceSub, Int.reduceNeg, Int.reduceMul, Bool.and_self] | split)
    exact .inl he
  | false =>
    repeat' (first | (refine And.intro (by omega) ?_) | simp -implicitDefEqProofs (disch := omega) only [Nat.zero_add, dT_lt, dF_lt, dT_le, dF_le, dT_eq, dF_eq, push_cast, ↓reduceIte, Nat.reduceEqDiff, reduceCtorEq, Nat.reduceAdd, Nat.reduceSub, Nat.reduceMul, Nat.reduceLeDiff, Nat.reduceLT, Nat.reduceMod, Nat.reduceDiv, Int.reduceToNat, Int.reduceLT, Int.reduceLE, Int.reduceEq, Int.reduceAdd, Int.reduceSub, Int.reduceNeg, Int.reduceMul, Bool.and_self] | split)
    exact ⟨_, rfl, rfl⟩

/-- Slots one behind the other. -/
def layN (rs : List Rc) : Nat → List Vr → List Vr
  | _, [] => []
  | at_, v :: l => { v with slot := at_ } :: layN rs (at_ + sizeF rs v.ty) l
def totF (rs : List Rc) : List Vr → Nat
  | [] => 0
  | v :: l => sizeF rs v.ty + totF rs l
theorem layN_app (rs : List Rc) : ∀ (a : Nat) (l m : List Vr), layN rs a (l ++ m) = layN rs a l ++ layN rs (a + totF rs l) m
  | a, [], m => by simp [layN, totF]
  | a, v :: l, m => by simp [layN, totF, layN_app rs _ l m, Nat.add_assoc]
theorem totF_app (rs : List Rc) : ∀ (l m : List Vr), totF rs (l ++ m) = totF rs l + totF rs m
  | [], m => by simp [totF]
  | v :: l, m => by simp [totF, totF_app rs l m, Nat.add_assoc]
theorem layN_len (rs : List Rc) : ∀ (a : Nat) (l : List Vr), (layN rs a l).length = l.length
  | _, [] => rfl
  | a, v :: l => by simp [layN, layN_len rs _ l]
theorem sizeF_le {rs : List Rc} {t : Ty} (hf : Few rs) : sizeF rs t ≤ 20 := by
  unfold sizeF
  split
  · exact scal1_len hf ‹_›
  · omega
theorem totF_le {rs : List Rc} (hf : Few rs) : ∀ l : List Vr, totF rs l ≤ 20 * l.length
  | [] => by simp [totF]
  | v :: l => by
    have := totF_le hf l
    have := sizeF_le (t := v.ty) hf
    simp [totF]; omega
def layA (rs : List Rc) (l : List Vr) (j : Nat) : List Vr := layN rs 0 (l.take j) ++ l.drop j
theorem lay_get {rs : List Rc} {l : List Vr} {j : Nat} (h : j < l.length) : ((layA rs l j).map vrR).getD j [] = vrR (l.getD j default) := by
  have hl : (layN rs 0 (l.take j)).length = j := by rw [layN_len]; simp; omega
  rw [rows_getD (by simp [layA, layN_len]; omega)]
  congr 1
  simp [layA, List.getD_eq_getElem?_getD, List.getElem?_append_right, hl]
theorem lay_set {rs : List Rc} {l : List Vr} {j : Nat} (h : j < l.length) : ((layA rs l j).map vrR).set j (vrR { l.getD j default with slot := totF rs (l.take j) }) = (layA rs l (j + 1)).map vrR := by
  have hl : (layN rs 0 (l.take j)).length = j := by rw [layN_len]; simp; omega
  unfold layA
  rw [take_snoc h, layN_app, drop_cons h, List.map_append, List.set_append_right _ _ (by simp [hl])]
  simp [hl, layN]
theorem lay_len {rs : List Rc} {l : List Vr} {j : Nat} : (layA rs l j).length = l.length := by simp [layA, layN_len]; omega
theorem lay_all {rs : List Rc} {l : List Vr} : layA rs l l.length = layN rs 0 l := by simp [layA]

/-- What Layout hands back. -/
def layV (rs : List Rc) (l : List Vr) : AV := if l.all (fun v => validF v.ty rs) = true then .tup [.sl 8 ((layN rs 0 l).map vrR), int (totF rs l)] else .tup [nilS, int 0]
theorem layV_no {rs : List Rc} {l : List Vr} {j : Nat} (hj : j < l.length) (h : validF (l.getD j default).ty rs = false) : layV rs l = .tup [nilS, int 0] := by
  unfold layV
  rw [if_neg]
  intro hh
  rw [List.all_eq_true] at hh
  rw [hh _ (getD_mem' hj)] at h
  cases h
theorem layV_yes {rs : List Rc} {l : List Vr} (h : ∀ i, i < l.length → validF (l.getD i default).ty rs = true) : layV rs l = .tup [.sl 8 ((layN rs 0 l).map vrR), int (totF rs l)] := by
  unfold layV
  rw [if_pos]
  rw [List.all_eq_true]
  intro t ht
  obtain ⟨i, hi, rfl⟩ := List.mem_iff_getElem.1 ht
  have := h i hi
  simpa [List.getD_eq_getElem?_getD, hi] using this

theorem layout (rs : List Rc) (l : List Vr) (H : AHeap) (hf : Few rs) (hl : l.length ≤ 20) (hne : l ≠ []) : Comp' 64 [.sl 2 (rs.map rcR), .sl 8 (l.map vrR)] H (layV rs l) := by
  refine ACall.drop (R := fun x => x = layV rs l) ?_
  refine enter Try.func64 L64_ok (Nat.le_of_ble_eq_true rfl) ?_
  have hrl := hf.len
  repeat' (first | (refine And.intro (by omega) ?_) | simp -implicitDefEqProofs (disch := omega) only [L64, dT_lt, dF_lt, dT_le, dF_le, dT_eq, dF_eq, push_cast, ↓reduceIte, Nat.reduceEqDiff, reduceCtorEq, Nat.reduceAdd, Nat.reduceSub, Nat.reduceMul, Nat.reduceLeDiff, Nat.reduceLT, Nat.reduceMod, Nat.reduceDiv, Int.reduceToNat, Int.reduceLT, Int.reduceLE, Int.reduceEq, Int.reduceAdd, Int.reduceSub, Int.reduceNeg, Int.reduceMul, Bool.and_self] | split)
  refine callF_mono (clone l _ (by omega)) ?_
  rintro y H' (⟨hl0, -, -⟩ | ⟨ver, rfl, rfl⟩)
  · exact absurd hl0 hne
  repeat' (first | (refine And.intro (by omega) ?_) | simp -implicitDefEqProofs (disch := omega) only [dT_lt, dF_lt, dT_le, dF_le, dT_eq, dF_eq, push_cast, ↓reduceIte, Nat.reduceEqDiff, reduceCtorEq, Nat.reduceAdd, Nat.reduceSub, Nat.reduceMul, Nat.reduceLeDiff, Nat.reduceLT, Nat.reduceMod, Nat.reduceDiv, Int.reduceToNat, Int.reduceLT, Int.reduceLE, Int.reduceEq, Int.reduceAdd, Int.reduceSub, Int.reduceNeg, Int.reduceMul, Bool.and_self] | split)
  refine rk_loopS (fun (p : Nat × List HO) e' H' => e' 0 = .sl 2 (rs.map rcR) ∧ e' 6 = .os H.length ver 0 l.length ∧ e' 7 = int (totF rs (l.take p.1)) ∧ e' 12 = .sl 8 (l.map vrR) ∧ e' 13 = int l.length ∧ e' 14 = int p.1 ∧ H' = H ++ .arr ver 8 ((layA rs l p.1).map vrR) :: p.2 ∧ p.1 ≤ l.length ∧ ∀ i, i < p.1 → validF (l.getD i default).ty rs = true) (fun p => l.length - p.1) (0, []) ?_ ?_
  · exact ⟨rfl, rfl, rfl, rfl, rfl, rfl, rfl, Nat.zero_le _, by simp⟩
  rintro ⟨j, rest⟩ e' H' ⟨h0, h6, h7, h12, h13, h14, rfl, hj, hv⟩
  simp only at h0 h6 h7 h12 h13 h14 hj hv
  have htot := totF_le hf (l.take j)
  have htl : (l.take j).length = j := by simp; omega
  have hll := lay_len (rs := rs) (l := l) (j := j)
  by_cases hlt : j < l.length
  · by_cases hvj : validF (l.getD j default).ty rs = true
    · have hall := upto_succ (p := fun i => validF (l.getD i default).ty rs = true) hv hvj
      have hsz := sizeF_le (t := (l.getD j default).ty) hf
      have hset := lay_set (rs := rs) hlt
      have hget := lay_get (rs := rs) hlt
      have htt : totF rs (l.take (j + 1)) = totF rs (l.take j) + sizeF rs (l.getD j default).ty := by rw [take_snoc hlt, totF_app]; simp [totF]
      have hgd : (layA rs l j).getD j default = l.getD j default := by
        have hln : (layN rs 0 (l.take j)).length = j := by rw [layN_len]; exact htl
        simp [layA, List.getD_eq_getElem?_getD, List.getElem?_append_right, hln]
      simp only [vrR] at hset hget
      repeat' (first | (refine And.intro (by omega) ?_) | (refine callF_pure (valid (l.getD j default).ty rs _ (by omega)) ?_) | (refine callF_pure (size (l.getD j default).ty rs _ hf) ?_) | (refine callQF_pure (valid (l.getD j default).ty rs _ (by omega)) (by first | rfl | simp only [h0, h6, h7, h12, h13, h14, rows_getD, vrR, hvj, hll, hgd, Nat.zero_add, splice, hset, push_cast]) ?_) | (refine callQF_pure (size (l.getD j default).ty rs _ hf) (by first | rfl | simp only [h0, h6, h7, h12, h13, h14, rows_getD, vrR, hvj, hll, hgd, Nat.zero_add, splice, hset, push_cast]) ?_) | simp -implicitDefEqProofs (disch := omega) only [h0, h6, h7, h12, h13, h14, rows_getD, vrR, hvj, hll, hgd, Nat.zero_add, splice, hset, dT_lt, dF_lt, dT_le, dF_le, dT_eq, dF_eq, push_cast, ↓reduceIte, Nat.reduceEqDiff, reduceCtorEq, Nat.reduceAdd, Nat.reduceSub, Nat.reduceMul, Nat.reduceLeDiff, Nat.reduceLT, Nat.reduceMod, Nat.reduceDiv, Int.reduceToNat, Int.reduceLT, Int.reduceLE, Int.reduceEq, Int.reduceAdd, Int.reduceSub, Int.reduceNeg, Int.reduceMul, Bool.and_self] | split)
      exact .mk (j + 1, rest ++ [_]) ⟨h0, h6, by rw [htt]; rfl, h12, h13, rfl, rfl, hlt, hall⟩ (by simp only; omega)
    · have hvj' := Bool.eq_false_iff.2 hvj
      rw [layV_no hlt hvj']
      repeat' (first | (refine And.intro (by omega) ?_) | (refine callF_pure (valid (l.getD j default).ty rs _ (by omega)) ?_) | (refine callQF_pure (valid (l.getD j default).ty rs _ (by omega)) (by first | rfl | simp only [h0, h6, h7, h12, h13, h14, rows_getD, vrR, hvj', push_cast]) ?_) | simp -implicitDefEqProofs (disch := omega) only [h0, h6, h7, h12, h13, h14, rows_getD, vrR, hvj', dT_lt, dF_lt, dT_le, dF_le, dT_eq, dF_eq, push_cast, ↓reduceIte, Nat.reduceEqDiff, reduceCtorEq, Nat.reduceAdd, Nat.reduceSub, Nat.reduceMul, Nat.reduceLeDiff, Nat.reduceLT, Nat.reduceMod, Nat.reduceDiv, Int.reduceToNat, Int.reduceLT, Int.reduceLE, Int.reduceEq, Int.reduceAdd, Int.reduceSub, Int.reduceNeg, Int.reduceMul, Bool.and_self] | split)
      exact ⟨_, rfl⟩
  · obtain rfl : j = l.length := by omega
    rw [layV_yes hv]
    repeat' (first | (refine And.intro (by omega) ?_) | simp -implicitDefEqProofs (disch := omega) only [h0, h6, h7, h12, h13, h14, hll, dT_lt, dF_lt, dT_le, dF_le, dT_eq, dF_eq, push_cast, ↓reduceIte, Nat.reduceEqDiff, reduceCtorEq, Nat.reduceAdd, Nat.reduceSub, Nat.reduceMul, Nat.reduceLeDiff, Nat.reduceLT, Nat.reduceMod, Nat.reduceDiv, Int.reduceToNat, Int.reduceLT, Int.reduceLE, Int.reduceEq, Int.reduceAdd, Int.reduceSub, Int.reduceNeg, Int.reduceMul, Bool.and_self] | split)
    refine ⟨?_, _, rfl⟩
    rw [List.take_of_length_le (by simp [layA, layN_len]), lay_all, List.take_length]
end Go.Proofs.Ytnbdogodcjhfiaa

/- Types, part 7: the examples of the chapter. -/
namespace Go.Proofs.Ytnbdogodcjhfiaa
open Go Go.Ax
set_option maxRecDepth 100000
set_option linter.unusedSimpArgs false
set_option linter.unusedVariables false

theorem indexFuncF (fs : List Fd) (p : Fd → Bool) (f : FuncId) (fa fb : List AV) (H : AHeap) (hl : (fs.length : Int) < 9223372036854775807) (hp : ∀ r, Comp' f (fa ++ .agg (fdR r) :: fb) H (bool (p r))) :
    Comp' 94 [.sl 4 (fs.map fdR), .fn (.func f) fa fb] H (int (idxI (fs.findIdx? p))) := by
  refine enter Try.func94 L94_ok (Nat.le_of_ble_eq_true rfl) ?_
  simp -implicitDefEqProofs (disch := omega) only [L94, push_cast, ↓reduceIte, Nat.reduceEqDiff, reduceCtorEq, Nat.reduceAdd, Nat.reduceSub, Nat.reduceMul, Nat.reduceLeDiff, Nat.reduceLT, Nat.reduceMod, Nat.reduceDiv, Int.reduceToNat, Int.reduceLT, Int.reduceLE, Int.reduceEq, Int.reduceAdd, Int.reduceSub, Int.reduceNeg, Int.reduceMul, Bool.and_self]
  refine rk_loopS (fun (j : Nat) e' H' => e' 0 = .sl 4 (fs.map fdR) ∧ e' 1 = .fn (.func f) fa fb ∧ e' 7 = int fs.length ∧ e' 8 = int j ∧ H = H' ∧ j ≤ fs.length ∧ ∀ i, i < j → p (fs.getD i default) = false) (fun j => fs.length - j) 0 ?_ ?_
  · exact ⟨rfl, rfl, rfl, rfl, rfl, Nat.zero_le _, by simp⟩
  rintro j e' H' ⟨h0, h1, h7, h8, rfl, hj, hr⟩
  have hrow : ∀ r : Fd, (fdR r).take 4 = fdR r := fun r => rfl
  have hlen : ∀ r : Fd, (fdR r).length = 4 := fun r => rfl
  by_cases hlt : j < fs.length
  · by_cases hf : p (fs.getD j default) = true
    · repeat' (first | (refine And.intro (by omega) ?_) | (refine callF_pure (hp _) ?_) | (refine callQF_pure (hp _) (by first | rfl | simp only [h0, h1, h7, h8, rows_getD, hrow, hlen, hf, push_cast]) ?_) | simp -implicitDefEqProofs (disch := omega) only [h0, h1, h7, h8, rows_getD, hrow, hlen, hf, dT_lt, dF_lt, dT_le, dF_le, dT_eq, dF_eq, push_cast, ↓reduceIte, Nat.reduceEqDiff, reduceCtorEq, Nat.reduceAdd, Nat.reduceSub, Nat.reduceMul, Nat.reduceLeDiff, Nat.reduceLT, Nat.reduceMod, Nat.reduceDiv, Int.reduceToNat, Int.reduceLT, Int.reduceLE, Int.reduceEq, Int.reduceAdd, Int.reduceSub, Int.reduceNeg, Int.reduceMul, Bool.and_self] | split)
      rw [show fs.findIdx? p = some j from find_some hlt hf hr]; rfl
    · have hf' := Bool.eq_false_iff.2 hf
      repeat' (first | (refine And.intro (by omega) ?_) | (refine callF_pure (hp _) ?_) | (refine callQF_pure (hp _) (by first | rfl | simp only [h0, h1, h7, h8, rows_getD, hrow, hlen, hf', push_cast]) ?_) | simp -implicitDefEqProofs (disch := omega) only [h0, h1, h7, h8, rows_getD, hrow, hlen, hf', dT_lt, dF_lt, dT_le, dF_le, dT_eq, dF_eq, push_cast, ↓reduceIte, Nat.reduceEqDiff, reduceCtorEq, Nat.reduceAdd, Nat.reduceSub, Nat.reduceMul, Nat.reduceLeDiff, Nat.reduceLT, Nat.reduceMod, Nat.reduceDiv, Int.reduceToNat, Int.reduceLT, Int.reduceLE, Int.reduceEq, Int.reduceAdd, Int.reduceSub, Int.reduceNeg, Int.reduceMul, Bool.and_self] | split)
      exact .mk (j + 1) ⟨h0, h1, h7, rfl, rfl, hlt, upto_succ hr hf'⟩ (by omega)
  · repeat' (first | (refine And.intro (by omega) ?_) | simp -implicitDefEqProofs (disch := omega) only [h0, h1, h7, h8, dT_lt, dF_lt, dT_le, dF_le, dT_eq, dF_eq, push_cast, ↓reduceIte, Nat.reduceEqDiff, reduceCtorEq, Nat.reduceAdd, Nat.reduceSub, Nat.reduceMul, Nat.reduceLeDiff, Nat.reduceLT, Nat.reduceMod, Nat.reduceDiv, Int.reduceToNat, Int.reduceLT, Int.reduceLE, Int.reduceEq, Int.reduceAdd, Int.reduceSub, Int.reduceNeg, Int.reduceMul, Bool.and_self] | split)
    rw [show fs.findIdx? p = none from find_none fun i hi => hr i (by omega)]; rfl
theorem memberC (r : Fd) (nm : List UInt8) (q : Nat) (H : AHeap) (hq : H[q]? = some (.box [str nm])) : Comp' 95 [.agg (fdR r), .ptr q 0 0] H (bool (decide (r.name = nm))) := by
  refine ACall.drop (R := fun x => x = bool (decide (r.name = nm))) ?_
  refine enter Try.func95 L95_ok (Nat.le_of_ble_eq_true rfl) ?_
  have hq' : ∀ l, (H ++ l)[q]? = some (.box [str nm]) := fun l => get_app hq
  repeat' (first | (refine And.intro (by omega) ?_) | simp -implicitDefEqProofs (disch := omega) only [L95, fdR, hq', dT_lt, dF_lt, dT_le, dF_le, dT_eq, dF_eq, push_cast, ↓reduceIte, Nat.reduceEqDiff, reduceCtorEq, Nat.reduceAdd, Nat.reduceSub, Nat.reduceMul, Nat.reduceLeDiff, Nat.reduceLT, Nat.reduceMod, Nat.reduceDiv, Int.reduceToNat, Int.reduceLT, Int.reduceLE, Int.reduceEq, Int.reduceAdd, Int.reduceSub, Int.reduceNeg, Int.reduceMul, Bool.and_self] | split)
  exact ⟨_, rfl⟩

def pnt : Rc := ⟨[112, 111, 105, 110, 116], [⟨[112, 120], tyI⟩, ⟨[112, 98], tyB⟩]⟩
theorem point (H : AHeap) : Comp' 65 [] H (.sl 2 ([pnt].map rcR)) := by
  refine ACall.drop (R := fun x => x = .sl 2 ([pnt].map rcR)) ?_
  refine enter Try.func65 L65_ok (Nat.le_of_ble_eq_true rfl) ?_
  repeat' (first | (refine And.intro (by omega) ?_) | simp -implicitDefEqProofs (disch := omega) only [L65, splice, dT_lt, dF_lt, dT_le, dF_le, dT_eq, dF_eq, push_cast, ↓reduceIte, Nat.reduceEqDiff, reduceCtorEq, Nat.reduceAdd, Nat.reduceSub, Nat.reduceMul, Nat.reduceLeDiff, Nat.reduceLT, Nat.reduceMod, Nat.reduceDiv, Int.reduceToNat, Int.reduceLT, Int.reduceLE, Int.reduceEq, Int.reduceAdd, Int.reduceSub, Int.reduceNeg, Int.reduceMul, Bool.and_self] | split)
  exact ⟨rfl, _, rfl⟩
theorem member (H : AHeap) : Comp' 66 [.sl 2 ([pnt].map rcR), str [112, 98]] H (.tup [str [112, 111, 105, 110, 116], int 1, .agg (tyR tyB), bool true]) := by
  refine ACall.drop (R := fun x => x = .tup [str [112, 111, 105, 110, 116], int 1, .agg (tyR tyB), bool true]) ?_
  refine enter Try.func66 L66_ok (Nat.le_of_ble_eq_true rfl) ?_
  repeat' (first | (refine And.intro (by omega) ?_) | simp -implicitDefEqProofs (disch := omega) only [L66, dT_lt, dF_lt, dT_le, dF_le, dT_eq, dF_eq, push_cast, ↓reduceIte, Nat.reduceEqDiff, reduceCtorEq, Nat.reduceAdd, Nat.reduceSub, Nat.reduceMul, Nat.reduceLeDiff, Nat.reduceLT, Nat.reduceMod, Nat.reduceDiv, Int.reduceToNat, Int.reduceLT, Int.reduceLE, Int.reduceEq, Int.reduceAdd, Int.reduceSub, Int.reduceNeg, Int.reduceMul, Bool.and_self] | split)
  refine rk_loopS (fun (j : Nat) e' H' => e' 3 = .ptr H.length 0 0 ∧ e' 6 = .ptr (H.length + 1) 0 0 ∧ e' 11 = .sl 2 ([pnt].map rcR) ∧ e' 12 = int 1 ∧ e' 13 = int 0 ∧ H' = H ++ [.box [str [112, 98]], .box [int 0, int 0, str []]]) (fun j => 0) 0 ?_ ?_
  · exact ⟨rfl, rfl, rfl, rfl, rfl, rfl⟩
  rintro j e' H' ⟨h3, h6, h11, h12, h13, rfl⟩
  have hfi : pnt.fields.findIdx? (fun r => decide (r.name = [112, 98])) = some 1 := rfl
  repeat' (first | (refine And.intro (by omega) ?_) | (refine callF_pure (indexFuncF pnt.fields (fun r => decide (r.name = [112, 98])) 95 [] [.ptr H.length 0 0] _ (by decide) (fun r => memberC r _ _ _ (by simp))) ?_) | (refine callQF_pure (indexFuncF pnt.fields (fun r => decide (r.name = [112, 98])) 95 [] [.ptr H.length 0 0] _ (by decide) (fun r => memberC r _ _ _ (by simp))) (by first | rfl | simp only [h3, h6, h11, h12, h13, rcR, splice, hfi, idxI, push_cast]) ?_) | simp -implicitDefEqProofs (disch := omega) only [h3, h6, h11, h12, h13, rcR, splice, hfi, idxI, dT_lt, dF_lt, dT_le, dF_le, dT_eq, dF_eq, push_cast, ↓reduceIte, Nat.reduceEqDiff, reduceCtorEq, Nat.reduceAdd, Nat.reduceSub, Nat.reduceMul, Nat.reduceLeDiff, Nat.reduceLT, Nat.reduceMod, Nat.reduceDiv, Int.reduceToNat, Int.reduceLT, Int.reduceLE, Int.reduceEq, Int.reduceAdd, Int.reduceSub, Int.reduceNeg, Int.reduceMul, Bool.and_self] | split)
  exact ⟨by decide, by decide, ⟨rfl, rfl⟩, by decide, rfl, rfl, _, rfl⟩

abbrev tyA : Ty := ⟨3, 2, []⟩
abbrev tyP : Ty := ⟨4, 0, [112, 111, 105, 110, 116]⟩
abbrev vrX : Vr := ⟨[120], tyB, 0, 0, false, false⟩
abbrev vrA : Vr := ⟨[97], tyA, 0, 0, false, false⟩
abbrev vrP : Vr := ⟨[112], tyP, 0, 0, false, false⟩
theorem few_pnt : Few [pnt] := ⟨by decide, by simp [pnt]⟩
theorem lay_pnt : layV [pnt] [vrX, vrA, vrP] = .tup [.sl 8 ([{ vrX with slot := 0 }, { vrA with slot := 1 }, { vrP with slot := 3 }].map vrR), int 5] := by kernel_rfl
theorem scal_pnt : scalV [pnt] [tyA, tyP] = .sl 3 ([tyI, tyI, tyI, tyB].map tyR) := by kernel_rfl
theorem fmt_A : formatF tyA = [105, 110, 116, 91, 50, 93] := by kernel_rfl
theorem awakeT (H : AHeap) : Comp' 43 [] H (bool true) := by
  refine ACall.drop (R := fun x => x = bool true) ?_
  refine enter Try.func43 L43_ok (Nat.le_of_ble_eq_true rfl) ?_
  repeat' (first | (refine And.intro (by omega) ?_) | (refine callF_pure (point _) ?_) | (refine callF_pure (layout [pnt] [vrX, vrA, vrP] _ few_pnt (by decide) (by simp)) ?_) | (refine callF_pure (member _) ?_) | (refine callF_pure (scalars [pnt] [tyA, tyP] _ few_pnt (by decide)) ?_) | (refine callF_pure (equalR [tyI, tyI, tyI, tyB] [tyI, tyI, tyI, tyB] _ (by decide) (by decide)) ?_) | (refine callF_pure (format tyA (by decide) _) ?_) | (refine callQF_pure (point _) (by first | rfl | simp only [L43, splice, lay_pnt, scal_pnt, fmt_A, kEqI, kEqS, tyR, vrR, tyI, tyB, push_cast]) ?_) | (refine callQF_pure (layout [pnt] [vrX, vrA, vrP] _ few_pnt (by decide) (by simp)) (by first | rfl | simp only [L43, splice, lay_pnt, scal_pnt, fmt_A, kEqI, kEqS, tyR, vrR, tyI, tyB, push_cast]) ?_) | (refine callQF_pure (member _) (by first | rfl | simp only [L43, splice, lay_pnt, scal_pnt, fmt_A, kEqI, kEqS, tyR, vrR, tyI, tyB, push_cast]) ?_) | (refine callQF_pure (scalars [pnt] [tyA, tyP] _ few_pnt (by decide)) (by first | rfl | simp only [L43, splice, lay_pnt, scal_pnt, fmt_A, kEqI, kEqS, tyR, vrR, tyI, tyB, push_cast]) ?_) | (refine callQF_pure (equalR [tyI, tyI, tyI, tyB] [tyI, tyI, tyI, tyB] _ (by decide) (by decide)) (by first | rfl | simp only [L43, splice, lay_pnt, scal_pnt, fmt_A, kEqI, kEqS, tyR, vrR, tyI, tyB, push_cast]) ?_) | (refine callQF_pure (format tyA (by decide) _) (by first | rfl | simp only [L43, splice, lay_pnt, scal_pnt, fmt_A, kEqI, kEqS, tyR, vrR, tyI, tyB, push_cast]) ?_) | simp -implicitDefEqProofs (disch := omega) only [L43, splice, lay_pnt, scal_pnt, fmt_A, kEqI, kEqS, tyR, vrR, tyI, tyB, dT_lt, dF_lt, dT_le, dF_le, dT_eq, dF_eq, push_cast, ↓reduceIte, Nat.reduceEqDiff, reduceCtorEq, Nat.reduceAdd, Nat.reduceSub, Nat.reduceMul, Nat.reduceLeDiff, Nat.reduceLT, Nat.reduceMod, Nat.reduceDiv, Int.reduceToNat, Int.reduceLT, Int.reduceLE, Int.reduceEq, Int.reduceAdd, Int.reduceSub, Int.reduceNeg, Int.reduceMul, Bool.and_self] | split)
  exact ⟨_, rfl⟩
end Go.Proofs.Ytnbdogodcjhfiaa

/- Types, part 8: the statements' functions. -/
namespace Go.Proofs.Ytnbdogodcjhfiaa
open Go Go.Ax
set_option maxRecDepth 100000
set_option linter.unusedSimpArgs false
set_option linter.unusedVariables false

end Go.Proofs.Ytnbdogodcjhfiaa

/- Trees and types: the law TypesTrees. -/
namespace Go.Proofs.Ytnbdogodcjhfiaa
open Go Go.Ax
set_option maxRecDepth 100000
set_option linter.unusedSimpArgs false
set_option linter.unusedVariables false

theorem nds_sml {n : Nd} : Sml n → ∀ m ∈ nds n, Sml m := by
  induction n using Nd.ind with
  | h n ih =>
  intro hs m hm
  rw [nds_eq] at hm
  rcases List.mem_cons.1 hm with rfl | hm
  · exact hs
  · obtain ⟨k, hk, hmk⟩ : ∃ k ∈ n.kids, m ∈ nds k := by
      clear ih hs
      generalize n.kids = l at hm
      induction l with
      | nil => simp [ndss] at hm
      | cons x l ihl =>
        simp only [ndss, List.mem_append] at hm
        rcases hm with hm | hm
        · exact ⟨x, by simp, hm⟩
        · obtain ⟨k, hk, h⟩ := ihl hm
          exact ⟨k, by simp [hk], h⟩
    exact ih k hk (sml_kid hs hk) m hmk
theorem writV_form (m : Nd) (rs : List Rc) : ∃ (t : Ty) (b : Bool), writV m rs = .tup [.agg (tyR t), bool b] := by
  unfold writV
  split
  · exact ⟨_, _, rfl⟩
  · exact ⟨_, _, rfl⟩
theorem recsF_len (n : Nd) : (recsF n).length ≤ n.kids.length := by
  unfold recsF
  split
  · exact recsG_len _
  · simp
theorem recsF_fields {n : Nd} (hs : Sml n) : ∀ r ∈ recsF n, r.fields.length ≤ 1048576 := by
  intro r hr
  unfold recsF at hr
  split at hr
  · unfold recsG at hr
    obtain ⟨k, hk, rfl⟩ := List.mem_map.1 hr
    have := sml_len (sml_kid hs ((List.mem_filter.1 hk).1))
    simpa [rcF] using this
  · simp at hr
theorem fewF_len {rs : List Rc} (h : fewF rs = true) : rs.length ≤ 20 := by
  unfold fewF at h
  simp only [Bool.and_eq_true, decide_eq_true_eq] at h
  exact h.1

theorem typesTrees (n : Nd) (rs : List Rc) (hs : Sml n) (hr : rs.length ≤ 9223372036854775807) (H : AHeap) : Comp' 10 [.agg (ndR n), .sl 2 (rs.map rcR)] H (bool true) := by
  refine ACall.drop (R := fun x => x = bool true) ?_
  refine enter Try.func10 L10_ok (Nat.le_of_ble_eq_true rfl) ?_
  have cF := fun H => few rs H (by omega)
  by_cases hf : smallF n 150 = true
  · by_cases hw : fewF rs = true
    · have hc := small_cnt hf
      have hsh := shaped_ref (n := n) (by omega)
      have hl20 := fewF_len hw
      have hcn := sml_cnt hs
      have hlen := nds_len n
      rw [hw] at cF
      have hrl := recsF_len n
      have hkl := sml_len hs
      have hrf := recsF_fields hs
      repeat' (first | (refine And.intro (by omega) ?_) | (refine callF_pure (smallR n 150 hs _) ?_) | (refine callF_pure (cF _) ?_) | (refine callF_pure (nodesR n hs _) ?_) | (refine callQF_pure (smallR n 150 hs _) (by first | rfl | simp only [L10, cells_agg, nd_c1s, nd_len, nd_take, nd_cellsV, nd_clL, hf, hlen, List.length_map, push_cast]) ?_) | (refine callQF_pure (cF _) (by first | rfl | simp only [L10, cells_agg, nd_c1s, nd_len, nd_take, nd_cellsV, nd_clL, hf, hlen, List.length_map, push_cast]) ?_) | (refine callQF_pure (nodesR n hs _) (by first | rfl | simp only [L10, cells_agg, nd_c1s, nd_len, nd_take, nd_cellsV, nd_clL, hf, hlen, List.length_map, push_cast]) ?_) | simp -implicitDefEqProofs (disch := omega) only [L10, cells_agg, nd_c1s, nd_len, nd_take, nd_cellsV, nd_clL, hf, hlen, List.length_map, dT_lt, dF_lt, dT_le, dF_le, dT_eq, dF_eq, push_cast, ↓reduceIte, Nat.reduceEqDiff, reduceCtorEq, Nat.reduceAdd, Nat.reduceSub, Nat.reduceMul, Nat.reduceLeDiff, Nat.reduceLT, Nat.reduceMod, Nat.reduceDiv, Int.reduceToNat, Int.reduceLT, Int.reduceLE, Int.reduceEq, Int.reduceAdd, Int.reduceSub, Int.reduceNeg, Int.reduceMul, Bool.and_self] | split)
      refine rk_loopS (fun (st : Nat × AHeap) e' G => e' 1 = .sl 2 (rs.map rcR) ∧ e' 2 = .ptr H.length 0 0 ∧ e' 21 = .sl 5 ((nds n).map ndR) ∧ e' 22 = int (cnt n) ∧ e' 23 = int st.1 ∧ G = H ++ .box (ndR n) :: st.2 ∧ st.1 ≤ cnt n) (fun st => cnt n - st.1) (0, []) ?_ ?_
      · exact ⟨rfl, rfl, rfl, rfl, rfl, rfl, Nat.zero_le _⟩
      rintro ⟨j, ext⟩ e' G ⟨h1, h2, h21, h22, h23, rfl, hj⟩
      simp only at h23 hj
      by_cases hlt : j < cnt n
      · have hm := getD_mem' (show j < (nds n).length by omega)
        have hms := nds_sml hs _ hm
        have hmt := sml_text hms
        generalize hme : (nds n).getD j default = m at *
        have c1 := fun H => writT m rs (by omega) (by omega) H
        have c2 := fun H => writR m rs (by omega) (by omega) H
        obtain ⟨t, b, hV⟩ := writV_form m rs
        rw [hV] at c1 c2
        simp only [tyR] at c1 c2
        have g0 : ∀ x, (H ++ .box (ndR n) :: (ext ++ x))[H.length]? = some (.box (ndR n)) := fun x => get_len _ _ _
        repeat' (first | (refine And.intro (by omega) ?_) | (refine callF_pure (c1 _) ?_) | (refine callF_pure (c2 _) ?_) | (refine callQF_pure (c1 _) (by first | rfl | simp only [h1, h2, h21, h22, h23, rows_getD, hme, hlen, cells_agg, nd_c1s, nd_len, nd_take, nd_cellsV, nd_clL, nd_drop5, splice, List.append_nil, kEq_i, kEq_s, push_cast]) ?_) | (refine callQF_pure (c2 _) (by first | rfl | simp only [h1, h2, h21, h22, h23, rows_getD, hme, hlen, cells_agg, nd_c1s, nd_len, nd_take, nd_cellsV, nd_clL, nd_drop5, splice, List.append_nil, kEq_i, kEq_s, push_cast]) ?_) | simp -implicitDefEqProofs (disch := omega) only [h1, h2, h21, h22, h23, rows_getD, hme, hlen, cells_agg, nd_c1s, nd_len, nd_take, nd_cellsV, nd_clL, nd_drop5, splice, List.append_nil, kEq_i, kEq_s, dT_lt, dF_lt, dT_le, dF_le, dT_eq, dF_eq, push_cast, ↓reduceIte, Nat.reduceEqDiff, reduceCtorEq, Nat.reduceAdd, Nat.reduceSub, Nat.reduceMul, Nat.reduceLeDiff, Nat.reduceLT, Nat.reduceMod, Nat.reduceDiv, Int.reduceToNat, Int.reduceLT, Int.reduceLE, Int.reduceEq, Int.reduceAdd, Int.reduceSub, Int.reduceNeg, Int.reduceMul, Bool.and_self] | split)
        all_goals first | exact .mk (j + 1, _) ⟨h1, h2, h21, h22, rfl, rfl, hlt⟩ (by simp only; omega) | (simp_all; done)
      · have c3 := fun H => RecordsT n hs hsh H
        have c4 := fun H => RecordsR n hs H
        have c5 := fun H => equalsC (recsF n) (by omega) (fun r h => by have := hrf r h; omega) H
        repeat' (first | (refine And.intro (by omega) ?_) | (refine callF_pure (c3 _) ?_) | (refine callF_pure (c4 _) ?_) | (refine callF_pure (c5 _) ?_) | (refine callF_pure (awakeT _) ?_) | (refine callQF_pure (c3 _) (by first | rfl | simp only [h1, h2, h21, h22, h23, cells_agg, nd_c1s, nd_len, nd_take, nd_cellsV, nd_clL, push_cast]) ?_) | (refine callQF_pure (c4 _) (by first | rfl | simp only [h1, h2, h21, h22, h23, cells_agg, nd_c1s, nd_len, nd_take, nd_cellsV, nd_clL, push_cast]) ?_) | (refine callQF_pure (c5 _) (by first | rfl | simp only [h1, h2, h21, h22, h23, cells_agg, nd_c1s, nd_len, nd_take, nd_cellsV, nd_clL, push_cast]) ?_) | (refine callQF_pure (awakeT _) (by first | rfl | simp only [h1, h2, h21, h22, h23, cells_agg, nd_c1s, nd_len, nd_take, nd_cellsV, nd_clL, push_cast]) ?_) | simp -implicitDefEqProofs (disch := omega) only [h1, h2, h21, h22, h23, cells_agg, nd_c1s, nd_len, nd_take, nd_cellsV, nd_clL, dT_lt, dF_lt, dT_le, dF_le, dT_eq, dF_eq, push_cast, ↓reduceIte, Nat.reduceEqDiff, reduceCtorEq, Nat.reduceAdd, Nat.reduceSub, Nat.reduceMul, Nat.reduceLeDiff, Nat.reduceLT, Nat.reduceMod, Nat.reduceDiv, Int.reduceToNat, Int.reduceLT, Int.reduceLE, Int.reduceEq, Int.reduceAdd, Int.reduceSub, Int.reduceNeg, Int.reduceMul, Bool.and_self] | split)
        exact ⟨_, rfl⟩
    · have hw' := Bool.eq_false_iff.2 hw
      rw [hw'] at cF
      repeat' (first | (refine And.intro (by omega) ?_) | (refine callF_pure (smallR n 150 hs _) ?_) | (refine callF_pure (cF _) ?_) | (refine callF_pure (awakeT _) ?_) | (refine callQF_pure (smallR n 150 hs _) (by first | rfl | simp only [L10, cells_agg, nd_c1s, nd_len, nd_take, nd_cellsV, nd_clL, hf, push_cast]) ?_) | (refine callQF_pure (cF _) (by first | rfl | simp only [L10, cells_agg, nd_c1s, nd_len, nd_take, nd_cellsV, nd_clL, hf, push_cast]) ?_) | (refine callQF_pure (awakeT _) (by first | rfl | simp only [L10, cells_agg, nd_c1s, nd_len, nd_take, nd_cellsV, nd_clL, hf, push_cast]) ?_) | simp -implicitDefEqProofs (disch := omega) only [L10, cells_agg, nd_c1s, nd_len, nd_take, nd_cellsV, nd_clL, hf, dT_lt, dF_lt, dT_le, dF_le, dT_eq, dF_eq, push_cast, ↓reduceIte, Nat.reduceEqDiff, reduceCtorEq, Nat.reduceAdd, Nat.reduceSub, Nat.reduceMul, Nat.reduceLeDiff, Nat.reduceLT, Nat.reduceMod, Nat.reduceDiv, Int.reduceToNat, Int.reduceLT, Int.reduceLE, Int.reduceEq, Int.reduceAdd, Int.reduceSub, Int.reduceNeg, Int.reduceMul, Bool.and_self] | split)
      exact ⟨_, rfl⟩
  · have hf' := Bool.eq_false_iff.2 hf
    repeat' (first | (refine And.intro (by omega) ?_) | (refine callF_pure (smallR n 150 hs _) ?_) | (refine callF_pure (awakeT _) ?_) | (refine callQF_pure (smallR n 150 hs _) (by first | rfl | simp only [L10, cells_agg, nd_c1s, nd_len, nd_take, nd_cellsV, nd_clL, hf', push_cast]) ?_) | (refine callQF_pure (awakeT _) (by first | rfl | simp only [L10, cells_agg, nd_c1s, nd_len, nd_take, nd_cellsV, nd_clL, hf', push_cast]) ?_) | simp -implicitDefEqProofs (disch := omega) only [L10, cells_agg, nd_c1s, nd_len, nd_take, nd_cellsV, nd_clL, hf', dT_lt, dF_lt, dT_le, dF_le, dT_eq, dF_eq, push_cast, ↓reduceIte, Nat.reduceEqDiff, reduceCtorEq, Nat.reduceAdd, Nat.reduceSub, Nat.reduceMul, Nat.reduceLeDiff, Nat.reduceLT, Nat.reduceMod, Nat.reduceDiv, Int.reduceToNat, Int.reduceLT, Int.reduceLE, Int.reduceEq, Int.reduceAdd, Int.reduceSub, Int.reduceNeg, Int.reduceMul, Bool.and_self] | split)
    exact ⟨_, rfl⟩
end Go.Proofs.Ytnbdogodcjhfiaa
