/- Parts, merged by a program (wip/tools/merge.py): Ty2 WrW Ty3 Ty4 Ty5 Ty6 Ty7 Ty8 WrL. -/
import Derived.Test.YteidffcimidinaaM4
/- Types, part 2: repetition, shapes, Valid. -/
namespace Go.Proofs.Yteidffcimidinaa
open Go Go.Ax
set_option maxRecDepth 100000
set_option linter.unusedSimpArgs false
set_option linter.unusedVariables false

abbrev u64 (n : Int) : AV := .v (.int .u64 n)
theorem mul64 (n : Nat) (h1 : 1 ≤ n) (h8 : n ≤ 8) (H : AHeap) : Comp' 133 [u64 1, u64 n] H (.tup [u64 0, u64 n]) := by
  refine enter Try.func133 L133_ok (Nat.le_of_ble_eq_true rfl) ?_
  have hn : n = 1 ∨ n = 2 ∨ n = 3 ∨ n = 4 ∨ n = 5 ∨ n = 6 ∨ n = 7 ∨ n = 8 := by omega
  rcases hn with rfl | rfl | rfl | rfl | rfl | rfl | rfl | rfl
  all_goals
    simp -implicitDefEqProofs (disch := omega) only [L133, push_cast, ↓reduceIte, Nat.reduceEqDiff, reduceCtorEq, Nat.reduceAdd, Nat.reduceSub, Nat.reduceMul, Nat.reduceLeDiff, Nat.reduceLT, Nat.reduceMod, Nat.reduceDiv, Int.reduceToNat, Int.reduceLT, Int.reduceLE, Int.reduceEq, Int.reduceAdd, Int.reduceSub, Int.reduceNeg, Int.reduceMul, Bool.and_self]
    refine congrArg (fun n : Int => AV.tup [u64 n, _]) ?_
    decide +kernel
theorem mulC (n : Nat) (h1 : 1 ≤ n) (h8 : n ≤ 8) (H : AHeap) : Comp' 102 [u64 1, u64 n] H (.tup [u64 0, u64 n]) := by
  refine enter Try.func102 L102_ok (Nat.le_of_ble_eq_true rfl) ?_
  repeat' (first | (refine And.intro (by omega) ?_) | (refine callF_pure (mul64 n h1 h8 _) ?_) | (refine callQF_pure (mul64 n h1 h8 _) (by first | rfl | simp only [L102, push_cast, ↓reduceIte, Nat.reduceEqDiff]) ?_) | simp -implicitDefEqProofs (disch := omega) only [L102, push_cast, ↓reduceIte, Nat.reduceEqDiff, reduceCtorEq, Nat.reduceAdd, Nat.reduceSub, Nat.reduceMul, Nat.reduceLeDiff, Nat.reduceLT, Nat.reduceMod, Nat.reduceDiv, Int.reduceToNat, Int.reduceLT, Int.reduceLE, Int.reduceEq, Int.reduceAdd, Int.reduceSub, Int.reduceNeg, Int.reduceMul, Bool.and_self] | split)

theorem rep_step {row : List AV} {xs : List (List AV)} {m n : Nat} (hl : xs.length = n) (hm : m ≤ n) (ht : xs.take m = List.replicate m row) :
    (xs.take m ++ (xs.take m).take (min m (n - m)) ++ xs.drop (m + min m (n - m))).length = n ∧ (xs.take m ++ (xs.take m).take (min m (n - m)) ++ xs.drop (m + min m (n - m))).take (m + min m (n - m)) = List.replicate (m + min m (n - m)) row := by
  refine ⟨by simp [hl]; omega, ?_⟩
  rw [ht, List.take_replicate, show min (min m (n - m)) m = min m (n - m) by omega, List.replicate_append_replicate]
  rw [List.take_left' (by simp)]

theorem repeatC (t : Ty) (n : Nat) (h1 : 1 ≤ n) (h8 : n ≤ 8) (H : AHeap) : Comp' 65 [.sl 3 [tyR t], int n] H (.sl 3 (List.replicate n (tyR t))) := by
  refine ACall.drop (R := fun x => x = .sl 3 (List.replicate n (tyR t))) ?_
  refine enter Try.func65 L65_ok (Nat.le_of_ble_eq_true rfl) ?_
  have w1 : IntKind.u64.wrap 1 = 1 := by decide
  have w2 : IntKind.u64.wrap n = n := wrapu64_of _ (by omega) (by omega)
  have hmin : min 1 n = 1 := by omega
  repeat' (first | (refine And.intro (by omega) ?_) | (refine callF_pure (mulC n h1 h8 _) ?_) | (refine callQF_pure (mulC n h1 h8 _) (by first | rfl | simp only [L65, w1, w2, hmin, push_cast, ↓reduceIte, Nat.reduceEqDiff]) ?_) | simp -implicitDefEqProofs (disch := omega) only [L65, w1, w2, hmin, dT_lt, dF_lt, dT_le, dF_le, dT_eq, dF_eq, push_cast, ↓reduceIte, Nat.reduceEqDiff, reduceCtorEq, Nat.reduceAdd, Nat.reduceSub, Nat.reduceMul, Nat.reduceLeDiff, Nat.reduceLT, Nat.reduceMod, Nat.reduceDiv, Int.reduceToNat, Int.reduceLT, Int.reduceLE, Int.reduceEq, Int.reduceAdd, Int.reduceSub, Int.reduceNeg, Int.reduceMul, Bool.and_self] | split)
  refine rk_loopS (fun (p : Nat × List (List AV)) e' H' => e' 7 = .os H.length 0 0 n ∧ e' 8 = int p.1 ∧ H' = H ++ [.arr 0 3 p.2] ∧ 1 ≤ p.1 ∧ p.1 ≤ n ∧ p.2.length = n ∧ p.2.take p.1 = List.replicate p.1 (tyR t)) (fun p => n - p.1) (1, tyR t :: List.drop 1 (List.replicate n [int 0, int 0, str []])) ?_ ?_
  · exact ⟨rfl, rfl, rfl, by omega, h1, by simp; omega, rfl⟩
  rintro ⟨m, xs⟩ e' H' ⟨h7, h8', rfl, hm1, hmn, hl, ht⟩
  simp only at h7 h8' hm1 hmn hl ht
  have hst := rep_step hl hmn ht
  by_cases hlt : m < n
  · have e1 : min (xs.take m).length (n - m) = min m (n - m) := by simp; omega
    rw [List.append_assoc] at hst
    repeat' (first | (refine And.intro (by omega) ?_) | simp -implicitDefEqProofs (disch := omega) only [h7, h8', osRows_eq, osRowsO_arr, Nat.zero_add, Nat.sub_zero, e1, dT_lt, dF_lt, dT_le, dF_le, dT_eq, dF_eq, push_cast, ↓reduceIte, Nat.reduceEqDiff, reduceCtorEq, Nat.reduceAdd, Nat.reduceSub, Nat.reduceMul, Nat.reduceLeDiff, Nat.reduceLT, Nat.reduceMod, Nat.reduceDiv, Int.reduceToNat, Int.reduceLT, Int.reduceLE, Int.reduceEq, Int.reduceAdd, Int.reduceSub, Int.reduceNeg, Int.reduceMul, Bool.and_self] | split)
    exact .mk (m + min m (n - m), _) ⟨h7, by simp [up], rfl, by simp only; omega, by simp only; omega, hst.1, hst.2⟩ (by simp only; omega)
  · repeat' (first | (refine And.intro (by omega) ?_) | simp -implicitDefEqProofs (disch := omega) only [h7, h8', dT_lt, dF_lt, dT_le, dF_le, dT_eq, dF_eq, push_cast, ↓reduceIte, Nat.reduceEqDiff, reduceCtorEq, Nat.reduceAdd, Nat.reduceSub, Nat.reduceMul, Nat.reduceLeDiff, Nat.reduceLT, Nat.reduceMod, Nat.reduceDiv, Int.reduceToNat, Int.reduceLT, Int.reduceLE, Int.reduceEq, Int.reduceAdd, Int.reduceSub, Int.reduceNeg, Int.reduceMul, Bool.and_self] | split)
    have : m = n := by omega
    subst this
    exact ⟨by rw [ht], _, rfl⟩

theorem shp4 (t : Ty) (rs : List Rc) (n : Nat) (hn : t.len = n) (h1 : 1 ≤ n) (h8 : n ≤ 8) (H : AHeap) : Comp' 64 [.agg (tyR t), .sl 2 (rs.map rcR)] H (.sl 3 (List.replicate n (tyR tyI))) := by
  refine ACall.drop (R := fun x => x = .sl 3 (List.replicate n (tyR tyI))) ?_
  refine enter Try.func64 L64_ok (Nat.le_of_ble_eq_true rfl) ?_
  repeat' (first | (refine And.intro (by omega) ?_) | (refine callF_pure (repeatC tyI n h1 h8 _) ?_) | (refine callQF_pure (repeatC tyI n h1 h8 _) (by first | rfl | simp only [L64, tyR, hn, push_cast, ↓reduceIte, Nat.reduceEqDiff]) ?_) | simp -implicitDefEqProofs (disch := omega) only [L64, tyR, hn, dT_lt, dF_lt, dT_le, dF_le, dT_eq, dF_eq, push_cast, ↓reduceIte, Nat.reduceEqDiff, reduceCtorEq, Nat.reduceAdd, Nat.reduceSub, Nat.reduceMul, Nat.reduceLeDiff, Nat.reduceLT, Nat.reduceMod, Nat.reduceDiv, Int.reduceToNat, Int.reduceLT, Int.reduceLE, Int.reduceEq, Int.reduceAdd, Int.reduceSub, Int.reduceNeg, Int.reduceMul, Bool.and_self] | split)
  exact ⟨_, rfl⟩

def shpK : List Value := [.int .i64 1, .int .i64 2, .int .i64 3, .int .i64 4]
def shpX : List AV := [.agg [.fn (.func 61) [] [], .fn (.func 62) [] []], .agg [.fn (.func 61) [] [], .fn (.func 62) [] []], .agg [.fn (.func 63) [] [], .fn (.func 64) [] []], .agg [.fn (.func 66) [] [], .fn (.func 68) [] []]]
theorem shapes (H : AHeap) : Comp' 24 [] H (.mp shpK shpX) := by
  refine ACall.drop (R := fun x => x = .mp shpK shpX) ?_
  refine enter Try.func24 L24_ok (Nat.le_of_ble_eq_true rfl) ?_
  repeat' (first | (refine And.intro (by omega) ?_) | simp -implicitDefEqProofs (disch := omega) only [L24, dT_lt, dF_lt, dT_le, dF_le, dT_eq, dF_eq, push_cast, ↓reduceIte, Nat.reduceEqDiff, reduceCtorEq, Nat.reduceAdd, Nat.reduceSub, Nat.reduceMul, Nat.reduceLeDiff, Nat.reduceLT, Nat.reduceMod, Nat.reduceDiv, Int.reduceToNat, Int.reduceLT, Int.reduceLE, Int.reduceEq, Int.reduceAdd, Int.reduceSub, Int.reduceNeg, Int.reduceMul, Bool.and_self] | split)
  simp [kEq, shpK, shpX]
theorem shp_cmp (n : Int) : (∀ k' ∈ shpK, kCmp (.int .i64 n) k' = true) = True := by simp [shpK, kCmp]
theorem shp_1 : mget (.int .i64 1) shpK shpX = some (.agg [.fn (.func 61) [] [], .fn (.func 62) [] []]) := rfl
theorem shp_2 : mget (.int .i64 2) shpK shpX = some (.agg [.fn (.func 61) [] [], .fn (.func 62) [] []]) := rfl
theorem shp_3 : mget (.int .i64 3) shpK shpX = some (.agg [.fn (.func 63) [] [], .fn (.func 64) [] []]) := rfl
theorem shp_4 : mget (.int .i64 4) shpK shpX = some (.agg [.fn (.func 66) [] [], .fn (.func 68) [] []]) := rfl
theorem shp_no {k : Int} (h : k ≠ 1 ∧ k ≠ 2 ∧ k ≠ 3 ∧ k ≠ 4) : mget (.int .i64 k) shpK shpX = none := by
  simp [mget, shpK, shpX, kEq, h]

/-- Does a type exist? -/
def validF (t : Ty) (rs : List Rc) : Bool :=
  if t.k = 1 ∨ t.k = 2 then decide (t.len = 0) && decide (t.rc = [])
  else if t.k = 3 then decide (1 ≤ t.len) && decide (t.len ≤ 8) && decide (t.rc = [])
  else if t.k = 4 then decide (t.len = 0) && (idxF rs t.rc).isSome
  else false
theorem valid (t : Ty) (rs : List Rc) (H : AHeap) (hl : (rs.length : Int) < 9223372036854775807) : Comp' 7 [.agg (tyR t), .sl 2 (rs.map rcR)] H (bool (validF t rs)) := by
  refine ACall.drop (R := fun x => x = bool (validF t rs)) ?_
  refine enter Try.func7 L7_ok (Nat.le_of_ble_eq_true rfl) ?_
  obtain ⟨k, len, rc⟩ := t
  have hk : k = 1 ∨ k = 2 ∨ k = 3 ∨ k = 4 ∨ (k ≠ 1 ∧ k ≠ 2 ∧ k ≠ 3 ∧ k ≠ 4) := by omega
  rcases hk with rfl | rfl | rfl | rfl | hk
  · repeat' (first | (refine And.intro (by omega) ?_) | (refine callF_pure (shapes _) ?_) | (refine callF_pure (shp1 ⟨1, len, rc⟩ rs _) ?_) | (refine callQF_pure (shapes _) (by first | rfl | simp only [L7, tyR, shp_1, shp_cmp, lookV, push_cast, ↓reduceIte, Nat.reduceEqDiff]) ?_) | (refine callQF_pure (shp1 ⟨1, len, rc⟩ rs _) (by first | rfl | simp only [L7, tyR, shp_1, shp_cmp, lookV, push_cast, ↓reduceIte, Nat.reduceEqDiff]) ?_) | simp -implicitDefEqProofs (disch := omega) only [L7, tyR, shp_1, shp_cmp, lookV, dT_lt, dF_lt, dT_le, dF_le, dT_eq, dF_eq, push_cast, ↓reduceIte, Nat.reduceEqDiff, reduceCtorEq, Nat.reduceAdd, Nat.reduceSub, Nat.reduceMul, Nat.reduceLeDiff, Nat.reduceLT, Nat.reduceMod, Nat.reduceDiv, Int.reduceToNat, Int.reduceLT, Int.reduceLE, Int.reduceEq, Int.reduceAdd, Int.reduceSub, Int.reduceNeg, Int.reduceMul, Bool.and_self] | split)
    exact ⟨rfl, _, rfl⟩
  · repeat' (first | (refine And.intro (by omega) ?_) | (refine callF_pure (shapes _) ?_) | (refine callF_pure (shp1 ⟨2, len, rc⟩ rs _) ?_) | (refine callQF_pure (shapes _) (by first | rfl | simp only [L7, tyR, shp_2, shp_cmp, lookV, push_cast, ↓reduceIte, Nat.reduceEqDiff]) ?_) | (refine callQF_pure (shp1 ⟨2, len, rc⟩ rs _) (by first | rfl | simp only [L7, tyR, shp_2, shp_cmp, lookV, push_cast, ↓reduceIte, Nat.reduceEqDiff]) ?_) | simp -implicitDefEqProofs (disch := omega) only [L7, tyR, shp_2, shp_cmp, lookV, dT_lt, dF_lt, dT_le, dF_le, dT_eq, dF_eq, push_cast, ↓reduceIte, Nat.reduceEqDiff, reduceCtorEq, Nat.reduceAdd, Nat.reduceSub, Nat.reduceMul, Nat.reduceLeDiff, Nat.reduceLT, Nat.reduceMod, Nat.reduceDiv, Int.reduceToNat, Int.reduceLT, Int.reduceLE, Int.reduceEq, Int.reduceAdd, Int.reduceSub, Int.reduceNeg, Int.reduceMul, Bool.and_self] | split)
    exact ⟨rfl, _, rfl⟩
  · repeat' (first | (refine And.intro (by omega) ?_) | (refine callF_pure (shapes _) ?_) | (refine callF_pure (shp3 ⟨3, len, rc⟩ rs _) ?_) | (refine callQF_pure (shapes _) (by first | rfl | simp only [L7, tyR, shp_3, shp_cmp, lookV, push_cast, ↓reduceIte, Nat.reduceEqDiff]) ?_) | (refine callQF_pure (shp3 ⟨3, len, rc⟩ rs _) (by first | rfl | simp only [L7, tyR, shp_3, shp_cmp, lookV, push_cast, ↓reduceIte, Nat.reduceEqDiff]) ?_) | simp -implicitDefEqProofs (disch := omega) only [L7, tyR, shp_3, shp_cmp, lookV, dT_lt, dF_lt, dT_le, dF_le, dT_eq, dF_eq, push_cast, ↓reduceIte, Nat.reduceEqDiff, reduceCtorEq, Nat.reduceAdd, Nat.reduceSub, Nat.reduceMul, Nat.reduceLeDiff, Nat.reduceLT, Nat.reduceMod, Nat.reduceDiv, Int.reduceToNat, Int.reduceLT, Int.reduceLE, Int.reduceEq, Int.reduceAdd, Int.reduceSub, Int.reduceNeg, Int.reduceMul, Bool.and_self] | split)
    exact ⟨rfl, _, rfl⟩
  · repeat' (first | (refine And.intro (by omega) ?_) | (refine callF_pure (shapes _) ?_) | (refine callF_pure (shp5 ⟨4, len, rc⟩ rs _ hl) ?_) | (refine callQF_pure (shapes _) (by first | rfl | simp only [L7, tyR, shp_4, shp_cmp, lookV, push_cast, ↓reduceIte, Nat.reduceEqDiff]) ?_) | (refine callQF_pure (shp5 ⟨4, len, rc⟩ rs _ hl) (by first | rfl | simp only [L7, tyR, shp_4, shp_cmp, lookV, push_cast, ↓reduceIte, Nat.reduceEqDiff]) ?_) | simp -implicitDefEqProofs (disch := omega) only [L7, tyR, shp_4, shp_cmp, lookV, dT_lt, dF_lt, dT_le, dF_le, dT_eq, dF_eq, push_cast, ↓reduceIte, Nat.reduceEqDiff, reduceCtorEq, Nat.reduceAdd, Nat.reduceSub, Nat.reduceMul, Nat.reduceLeDiff, Nat.reduceLT, Nat.reduceMod, Nat.reduceDiv, Int.reduceToNat, Int.reduceLT, Int.reduceLE, Int.reduceEq, Int.reduceAdd, Int.reduceSub, Int.reduceNeg, Int.reduceMul, Bool.and_self] | split)
    exact ⟨rfl, _, rfl⟩
  · repeat' (first | (refine And.intro (by omega) ?_) | (refine callF_pure (shapes _) ?_) | (refine callQF_pure (shapes _) (by first | rfl | simp only [L7, tyR, shp_no hk, shp_cmp, lookV, push_cast, ↓reduceIte, Nat.reduceEqDiff]) ?_) | simp -implicitDefEqProofs (disch := omega) only [L7, tyR, shp_no hk, shp_cmp, lookV, dT_lt, dF_lt, dT_le, dF_le, dT_eq, dF_eq, push_cast, ↓reduceIte, Nat.reduceEqDiff, reduceCtorEq, Nat.reduceAdd, Nat.reduceSub, Nat.reduceMul, Nat.reduceLeDiff, Nat.reduceLT, Nat.reduceMod, Nat.reduceDiv, Int.reduceToNat, Int.reduceLT, Int.reduceLE, Int.reduceEq, Int.reduceAdd, Int.reduceSub, Int.reduceNeg, Int.reduceMul, Bool.and_self] | split)
    exact ⟨by simp [validF, hk], _, rfl⟩
end Go.Proofs.Yteidffcimidinaa

/- Types: the type that a node writes (as XTr26, the first half). -/
namespace Go.Proofs.Yteidffcimidinaa
open Go Go.Ax
set_option maxRecDepth 100000
set_option linter.unusedSimpArgs false
set_option linter.unusedVariables false

/-- The type that a node's text stands for. -/
def rawF (k : Int) (t : List UInt8) : Ty :=
  if k = 10 then ⟨3, if isNum t = true then numN 0 t else 0, []⟩
  else if k = 9 then (if t = [105, 110, 116] then tyI else if t = [98, 111, 111, 108] then tyB else ⟨4, 0, t⟩)
  else ⟨0, 0, []⟩
def writF (n : Nd) (rs : List Rc) : Option Ty := if validF (rawF n.kind n.text) rs = true then some (rawF n.kind n.text) else none
def writV (n : Nd) (rs : List Rc) : AV := match writF n rs with
  | some t => .tup [.agg (tyR t), bool true]
  | none => .tup [.agg (tyR ⟨0, 0, []⟩), bool false]

theorem writV_ok {n : Nd} {rs : List Rc} {t : Ty} (h : rawF n.kind n.text = t) (hv : validF t rs = true) : writV n rs = .tup [.agg (tyR t), bool true] := by
  subst h
  unfold writV writF
  rw [if_pos hv]
theorem writV_no {n : Nd} {rs : List Rc} {t : Ty} (h : rawF n.kind n.text = t) (hv : validF t rs = false) : writV n rs = .tup [.agg [int 0, int 0, str []], bool false] := by
  subst h
  unfold writV writF
  rw [if_neg (by simp [hv])]
  rfl
theorem writT (n : Nd) (rs : List Rc) (hn : (n.text.length : Int) < 9223372036854775807) (hl : (rs.length : Int) < 9223372036854775807) (H : AHeap) : Comp' 13 [.agg (ndR n), .sl 2 (rs.map rcR)] H (writV n rs) := by
  refine ACall.drop (R := fun x => x = writV n rs) ?_
  refine enter Try.func13 L13_ok (Nat.le_of_ble_eq_true rfl) ?_
  obtain ⟨k, t, a, e, ks⟩ := n
  have hn : (t.length : Int) < 9223372036854775807 := hn
  have c1 := fun H => number t H hn
  have c2 := fun t H => valid t rs H hl
  unfold numV at c1
  by_cases h10 : k = 10
  · subst h10
    by_cases hnum : isNum t = true
    · have hr : rawF 10 t = ⟨3, numN 0 t, []⟩ := by unfold rawF; rw [if_pos rfl, if_pos hnum]
      simp only [hnum, if_true] at c1
      have c3 := fun H => c2 ⟨3, numN 0 t, []⟩ H
      generalize (numN 0 t : Int) = m at *
      cases hv : validF ⟨3, m, []⟩ rs with
      | true =>
        rw [writV_ok (n := .mk 10 t a e ks) hr hv]
        rw [hv] at c3
        simp only [tyR, tyI, tyB] at c3 ⊢
        repeat' (first | (refine And.intro (by omega) ?_) | (refine callF_pure (c1 _) ?_) | (refine callF_pure (c3 _) ?_) | (refine callQF_pure (c1 _) (by first | rfl | simp only [L13, ndR, splice, push_cast, ↓reduceIte, Nat.reduceEqDiff]) ?_) | (refine callQF_pure (c3 _) (by first | rfl | simp only [L13, ndR, splice, push_cast, ↓reduceIte, Nat.reduceEqDiff]) ?_) | simp -implicitDefEqProofs (disch := omega) only [L13, ndR, splice, dT_lt, dF_lt, dT_le, dF_le, dT_eq, dF_eq, push_cast, ↓reduceIte, Nat.reduceEqDiff, reduceCtorEq, Nat.reduceAdd, Nat.reduceSub, Nat.reduceMul, Nat.reduceLeDiff, Nat.reduceLT, Nat.reduceMod, Nat.reduceDiv, Int.reduceToNat, Int.reduceLT, Int.reduceLE, Int.reduceEq, Int.reduceAdd, Int.reduceSub, Int.reduceNeg, Int.reduceMul, Bool.and_self] | split)
        exact ⟨_, rfl⟩
      | false =>
        rw [writV_no (n := .mk 10 t a e ks) hr hv]
        rw [hv] at c3
        simp only [tyR, tyI, tyB] at c3
        repeat' (first | (refine And.intro (by omega) ?_) | (refine callF_pure (c1 _) ?_) | (refine callF_pure (c3 _) ?_) | (refine callQF_pure (c1 _) (by first | rfl | simp only [L13, ndR, splice, push_cast, ↓reduceIte, Nat.reduceEqDiff]) ?_) | (refine callQF_pure (c3 _) (by first | rfl | simp only [L13, ndR, splice, push_cast, ↓reduceIte, Nat.reduceEqDiff]) ?_) | simp -implicitDefEqProofs (disch := omega) only [L13, ndR, splice, dT_lt, dF_lt, dT_le, dF_le, dT_eq, dF_eq, push_cast, ↓reduceIte, Nat.reduceEqDiff, reduceCtorEq, Nat.reduceAdd, Nat.reduceSub, Nat.reduceMul, Nat.reduceLeDiff, Nat.reduceLT, Nat.reduceMod, Nat.reduceDiv, Int.reduceToNat, Int.reduceLT, Int.reduceLE, Int.reduceEq, Int.reduceAdd, Int.reduceSub, Int.reduceNeg, Int.reduceMul, Bool.and_self] | split)
        exact ⟨_, rfl⟩
    · have hr : rawF 10 t = ⟨3, 0, []⟩ := by unfold rawF; rw [if_pos rfl, if_neg hnum]
      simp only [hnum, if_false] at c1
      have c3 := fun H => c2 ⟨3, 0, []⟩ H
      have hv : validF ⟨3, 0, []⟩ rs = false := rfl
      rw [writV_no (n := .mk 10 t a e ks) hr hv]
      rw [hv] at c3
      simp only [tyR] at c3
      repeat' (first | (refine And.intro (by omega) ?_) | (refine callF_pure (c1 _) ?_) | (refine callF_pure (c3 _) ?_) | (refine callQF_pure (c1 _) (by first | rfl | simp only [L13, ndR, splice, push_cast, ↓reduceIte, Nat.reduceEqDiff]) ?_) | (refine callQF_pure (c3 _) (by first | rfl | simp only [L13, ndR, splice, push_cast, ↓reduceIte, Nat.reduceEqDiff]) ?_) | simp -implicitDefEqProofs (disch := omega) only [L13, ndR, splice, dT_lt, dF_lt, dT_le, dF_le, dT_eq, dF_eq, push_cast, ↓reduceIte, Nat.reduceEqDiff, reduceCtorEq, Nat.reduceAdd, Nat.reduceSub, Nat.reduceMul, Nat.reduceLeDiff, Nat.reduceLT, Nat.reduceMod, Nat.reduceDiv, Int.reduceToNat, Int.reduceLT, Int.reduceLE, Int.reduceEq, Int.reduceAdd, Int.reduceSub, Int.reduceNeg, Int.reduceMul, Bool.and_self] | split)
      exact ⟨_, rfl⟩
  · by_cases h9 : k = 9
    · subst h9
      by_cases hi : t = [105, 110, 116]
      · subst hi
        have hr : rawF 9 [105, 110, 116] = tyI := rfl
        have c3 := fun H => c2 tyI H
        have hv : validF tyI rs = true := rfl
        rw [writV_ok (n := .mk 9 _ a e ks) hr hv]
        rw [hv] at c3
        simp only [tyR, tyI] at c3 ⊢
        repeat' (first | (refine And.intro (by omega) ?_) | (refine callF_pure (c3 _) ?_) | (refine callQF_pure (c3 _) (by first | rfl | simp only [L13, ndR, splice, push_cast, ↓reduceIte, Nat.reduceEqDiff]) ?_) | simp -implicitDefEqProofs (disch := omega) only [L13, ndR, splice, dT_lt, dF_lt, dT_le, dF_le, dT_eq, dF_eq, push_cast, ↓reduceIte, Nat.reduceEqDiff, reduceCtorEq, Nat.reduceAdd, Nat.reduceSub, Nat.reduceMul, Nat.reduceLeDiff, Nat.reduceLT, Nat.reduceMod, Nat.reduceDiv, Int.reduceToNat, Int.reduceLT, Int.reduceLE, Int.reduceEq, Int.reduceAdd, Int.reduceSub, Int.reduceNeg, Int.reduceMul, Bool.and_self] | split)
        exact ⟨_, rfl⟩
      · by_cases hb : t = [98, 111, 111, 108]
        · subst hb
          have hr : rawF 9 [98, 111, 111, 108] = tyB := rfl
          have c3 := fun H => c2 tyB H
          have hv : validF tyB rs = true := rfl
          rw [writV_ok (n := .mk 9 _ a e ks) hr hv]
          rw [hv] at c3
          simp only [tyR, tyB] at c3 ⊢
          repeat' (first | (refine And.intro (by omega) ?_) | (refine callF_pure (c3 _) ?_) | (refine callQF_pure (c3 _) (by first | rfl | simp only [L13, ndR, splice, push_cast, ↓reduceIte, Nat.reduceEqDiff]) ?_) | simp -implicitDefEqProofs (disch := omega) only [L13, ndR, splice, dT_lt, dF_lt, dT_le, dF_le, dT_eq, dF_eq, push_cast, ↓reduceIte, Nat.reduceEqDiff, reduceCtorEq, Nat.reduceAdd, Nat.reduceSub, Nat.reduceMul, Nat.reduceLeDiff, Nat.reduceLT, Nat.reduceMod, Nat.reduceDiv, Int.reduceToNat, Int.reduceLT, Int.reduceLE, Int.reduceEq, Int.reduceAdd, Int.reduceSub, Int.reduceNeg, Int.reduceMul, Bool.and_self] | split)
          exact ⟨_, rfl⟩
        · have hr : rawF 9 t = ⟨4, 0, t⟩ := by unfold rawF; rw [if_neg (by simp), if_pos rfl, if_neg hi, if_neg hb]
          have c3 := fun H => c2 ⟨4, 0, t⟩ H
          cases hv : validF ⟨4, 0, t⟩ rs with
          | true =>
            rw [writV_ok (n := .mk 9 t a e ks) hr hv]
            rw [hv] at c3
            simp only [tyR, tyI, tyB] at c3 ⊢
            repeat' (first | (refine And.intro (by omega) ?_) | (refine callF_pure (c1 _) ?_) | (refine callF_pure (c3 _) ?_) | (refine callQF_pure (c1 _) (by first | rfl | simp only [L13, ndR, splice, hi, hb, decide_false, push_cast, ↓reduceIte, Nat.reduceEqDiff]) ?_) | (refine callQF_pure (c3 _) (by first | rfl | simp only [L13, ndR, splice, hi, hb, decide_false, push_cast, ↓reduceIte, Nat.reduceEqDiff]) ?_) | simp -implicitDefEqProofs (disch := omega) only [L13, ndR, splice, hi, hb, decide_false, dT_lt, dF_lt, dT_le, dF_le, dT_eq, dF_eq, push_cast, ↓reduceIte, Nat.reduceEqDiff, reduceCtorEq, Nat.reduceAdd, Nat.reduceSub, Nat.reduceMul, Nat.reduceLeDiff, Nat.reduceLT, Nat.reduceMod, Nat.reduceDiv, Int.reduceToNat, Int.reduceLT, Int.reduceLE, Int.reduceEq, Int.reduceAdd, Int.reduceSub, Int.reduceNeg, Int.reduceMul, Bool.and_self] | split)
            exact ⟨_, rfl⟩
          | false =>
            rw [writV_no (n := .mk 9 t a e ks) hr hv]
            rw [hv] at c3
            simp only [tyR, tyI, tyB] at c3
            repeat' (first | (refine And.intro (by omega) ?_) | (refine callF_pure (c1 _) ?_) | (refine callF_pure (c3 _) ?_) | (refine callQF_pure (c1 _) (by first | rfl | simp only [L13, ndR, splice, hi, hb, decide_false, push_cast, ↓reduceIte, Nat.reduceEqDiff]) ?_) | (refine callQF_pure (c3 _) (by first | rfl | simp only [L13, ndR, splice, hi, hb, decide_false, push_cast, ↓reduceIte, Nat.reduceEqDiff]) ?_) | simp -implicitDefEqProofs (disch := omega) only [L13, ndR, splice, hi, hb, decide_false, dT_lt, dF_lt, dT_le, dF_le, dT_eq, dF_eq, push_cast, ↓reduceIte, Nat.reduceEqDiff, reduceCtorEq, Nat.reduceAdd, Nat.reduceSub, Nat.reduceMul, Nat.reduceLeDiff, Nat.reduceLT, Nat.reduceMod, Nat.reduceDiv, Int.reduceToNat, Int.reduceLT, Int.reduceLE, Int.reduceEq, Int.reduceAdd, Int.reduceSub, Int.reduceNeg, Int.reduceMul, Bool.and_self] | split)
            exact ⟨_, rfl⟩
    · have hr : rawF k t = ⟨0, 0, []⟩ := by unfold rawF; rw [if_neg h10, if_neg h9]
      have c3 := fun H => c2 ⟨0, 0, []⟩ H
      have hv : validF ⟨0, 0, []⟩ rs = false := rfl
      rw [writV_no (n := .mk k t a e ks) hr hv]
      rw [hv] at c3
      simp only [tyR] at c3
      repeat' (first | (refine And.intro (by omega) ?_) | (refine callF_pure (c3 _) ?_) | (refine callQF_pure (c3 _) (by first | rfl | simp only [L13, ndR, splice, push_cast, ↓reduceIte, Nat.reduceEqDiff]) ?_) | simp -implicitDefEqProofs (disch := omega) only [L13, ndR, splice, dT_lt, dF_lt, dT_le, dF_le, dT_eq, dF_eq, push_cast, ↓reduceIte, Nat.reduceEqDiff, reduceCtorEq, Nat.reduceAdd, Nat.reduceSub, Nat.reduceMul, Nat.reduceLeDiff, Nat.reduceLT, Nat.reduceMod, Nat.reduceDiv, Int.reduceToNat, Int.reduceLT, Int.reduceLE, Int.reduceEq, Int.reduceAdd, Int.reduceSub, Int.reduceNeg, Int.reduceMul, Bool.and_self] | split)
      exact ⟨_, rfl⟩
end Go.Proofs.Yteidffcimidinaa

/- Types, part 3: scalars. -/
namespace Go.Proofs.Yteidffcimidinaa
open Go Go.Ax
set_option maxRecDepth 100000
set_option linter.unusedSimpArgs false
set_option linter.unusedVariables false

/-- The scalars of a type that exists. -/
def scal1 (rs : List Rc) (t : Ty) : List Ty :=
  if t.k = 3 then List.replicate t.len.toNat tyI
  else if t.k = 4 then (match idxF rs t.rc with | some i => (rs.getD i default).fields.map fun f => scF f.ty | none => [])
  else [⟨t.k, 0, []⟩]
def scalV (rs : List Rc) (l : List Ty) : AV := if l.all (fun t => validF t rs) = true then .sl 3 ((l.flatMap (scal1 rs)).map tyR) else nilS
structure Few (rs : List Rc) : Prop where
  len : rs.length ≤ 20
  fields : ∀ r ∈ rs, r.fields.length ≤ 20
theorem scal1_len {rs : List Rc} {t : Ty} (hf : Few rs) (hv : validF t rs = true) : (scal1 rs t).length ≤ 20 := by
  unfold scal1
  split
  · rename_i h
    unfold validF at hv
    rw [if_neg (by omega), if_pos h] at hv
    simp at hv
    simp; omega
  · split
    · split
      · rename_i i hi
        simpa using hf.fields _ (getD_mem' (find_lt hi).1)
      · simp
    · simp
theorem valid_kinds {t : Ty} {rs : List Rc} (hv : validF t rs = true) : t.k = 1 ∨ t.k = 2 ∨ (t.k = 3 ∧ 1 ≤ t.len ∧ t.len ≤ 8) ∨ (t.k = 4 ∧ ∃ i, idxF rs t.rc = some i) := by
  unfold validF at hv
  split at hv
  · omega
  · split at hv
    · simp at hv; omega
    · split at hv
      · simp at hv
        obtain ⟨_, h⟩ := hv
        cases hi : idxF rs t.rc with
        | none => rw [hi] at h; simp at h
        | some i => exact .inr (.inr (.inr ⟨‹_›, i, rfl⟩))
      · simp at hv

theorem flat_take {rs : List Rc} {l : List Ty} {j : Nat} (h : j < l.length) : ((l.take j).flatMap (scal1 rs)).map tyR ++ (scal1 rs (l.getD j default)).map tyR = ((l.take (j + 1)).flatMap (scal1 rs)).map tyR := by
  rw [take_snoc h]; simp
theorem flat_len {rs : List Rc} (hf : Few rs) : ∀ {l : List Ty}, (∀ t ∈ l, validF t rs = true) → (l.flatMap (scal1 rs)).length ≤ 20 * l.length
  | [], _ => by simp
  | t :: l, h => by
    have h1 := scal1_len hf (h t (by simp))
    have h2 := flat_len hf (l := l) fun t ht => h t (by simp [ht])
    simp only [List.flatMap_cons, List.length_append, List.length_cons]; omega
theorem all_upto {α : Type} [Inhabited α] {l : List α} {p : α → Prop} {j : Nat} (h : ∀ i, i < j → p (l.getD i default)) (hj : j ≤ l.length) : ∀ t ∈ l.take j, p t := by
  intro t ht
  obtain ⟨i, hi, rfl⟩ := List.mem_iff_getElem.1 ht
  have := h i (by simp at hi; omega)
  simp at hi
  simpa [List.getD_eq_getElem?_getD, show i < l.length by omega] using this
theorem scalV_no {rs : List Rc} {l : List Ty} {j : Nat} (hj : j < l.length) (h : validF (l.getD j default) rs = false) : scalV rs l = nilS := by
  unfold scalV
  rw [if_neg]
  intro hh
  rw [List.all_eq_true] at hh
  rw [hh _ (getD_mem' hj)] at h
  cases h
theorem scalV_yes {rs : List Rc} {l : List Ty} (h : ∀ i, i < l.length → validF (l.getD i default) rs = true) : scalV rs l = .sl 3 ((l.flatMap (scal1 rs)).map tyR) := by
  unfold scalV
  rw [if_pos]
  rw [List.all_eq_true]
  intro t ht
  have := all_upto (p := fun t => validF t rs = true) h (Nat.le_refl _) t (by rw [List.take_length]; exact ht)
  exact this

theorem scalars (rs : List Rc) (l : List Ty) (H : AHeap) (hf : Few rs) (hl : l.length ≤ 20) : Comp' 32 [.sl 2 (rs.map rcR), .sl 3 (l.map tyR)] H (scalV rs l) := by
  refine ACall.drop (R := fun x => x = scalV rs l) ?_
  refine enter Try.func32 L32_ok (Nat.le_of_ble_eq_true rfl) ?_
  have hrl := hf.len
  repeat' (first | (refine And.intro (by omega) ?_) | simp -implicitDefEqProofs (disch := omega) only [L32, dT_lt, dF_lt, dT_le, dF_le, dT_eq, dF_eq, push_cast, ↓reduceIte, Nat.reduceEqDiff, reduceCtorEq, Nat.reduceAdd, Nat.reduceSub, Nat.reduceMul, Nat.reduceLeDiff, Nat.reduceLT, Nat.reduceMod, Nat.reduceDiv, Int.reduceToNat, Int.reduceLT, Int.reduceLE, Int.reduceEq, Int.reduceAdd, Int.reduceSub, Int.reduceNeg, Int.reduceMul, Bool.and_self] | split)
  refine rk_loopS (fun (p : Nat × Nat × List HO) e' H' => e' 0 = .sl 2 (rs.map rcR) ∧ e' 5 = .os H.length p.2.1 0 ((l.take p.1).flatMap (scal1 rs)).length ∧ e' 8 = .sl 3 (l.map tyR) ∧ e' 9 = int l.length ∧ e' 10 = int p.1 ∧ H' = H ++ .arr p.2.1 3 (((l.take p.1).flatMap (scal1 rs)).map tyR) :: p.2.2 ∧ p.1 ≤ l.length ∧ ∀ i, i < p.1 → validF (l.getD i default) rs = true) (fun p => l.length - p.1) (0, 0, []) ?_ ?_
  · exact ⟨rfl, rfl, rfl, rfl, rfl, rfl, Nat.zero_le _, by simp⟩
  rintro ⟨j, ver, rest⟩ e' H' ⟨h0, h5, h8, h9, h10, rfl, hj, hv⟩
  simp only at h0 h5 h8 h9 h10 hj hv
  have hlen := flat_len hf (all_upto (p := fun t => validF t rs = true) hv hj)
  have hl0 : (l.take j).length = j := by simp; omega
  by_cases hlt : j < l.length
  · have hft := flat_take (rs := rs) hlt
    by_cases hvj : validF (l.getD j default) rs = true
    · have hlen1 := scal1_len hf hvj
      have hall := upto_succ (p := fun i => validF (l.getD i default) rs = true) hv hvj
      have hk := valid_kinds hvj
      generalize hte : l.getD j default = t at hft hvj hk hlen1
      obtain ⟨k, len, rc⟩ := t
      simp only at hk
      rcases hk with rfl | rfl | ⟨rfl, hk1, hk2⟩ | ⟨rfl, i, hi⟩
      · have hs : (scal1 rs ⟨1, len, rc⟩).map tyR = [[int 1, int 0, str []]] := by rfl
        rw [hs] at hft
        have hfl : ((l.take j).flatMap (scal1 rs)).length + 1 = ((l.take (j + 1)).flatMap (scal1 rs)).length := by have := congrArg List.length hft; simpa using this
        have hb : 1 ≤ 20 := by have := congrArg List.length hs; simp only [List.length_map] at this; omega
        repeat' (first | (refine And.intro (by omega) ?_) | (refine callF_pure (valid ⟨1, len, rc⟩ rs _ (by omega)) ?_) | (refine callF_pure (shapes _) ?_) | (refine callF_pure (shp2 ⟨1, len, rc⟩ rs _) ?_) | (refine callQF_pure (valid ⟨1, len, rc⟩ rs _ (by omega)) (by first | rfl | simp only [h0, h5, h8, h9, h10, rows_getD, hte, tyR, hvj, shp_1, shp_cmp, lookV, hft, List.length_replicate, push_cast, ↓reduceIte, Nat.reduceEqDiff]) ?_) | (refine callQF_pure (shapes _) (by first | rfl | simp only [h0, h5, h8, h9, h10, rows_getD, hte, tyR, hvj, shp_1, shp_cmp, lookV, hft, List.length_replicate, push_cast, ↓reduceIte, Nat.reduceEqDiff]) ?_) | (refine callQF_pure (shp2 ⟨1, len, rc⟩ rs _) (by first | rfl | simp only [h0, h5, h8, h9, h10, rows_getD, hte, tyR, hvj, shp_1, shp_cmp, lookV, hft, List.length_replicate, push_cast, ↓reduceIte, Nat.reduceEqDiff]) ?_) | simp -implicitDefEqProofs (disch := omega) only [h0, h5, h8, h9, h10, rows_getD, hte, tyR, hvj, shp_1, shp_cmp, lookV, hft, List.length_replicate, dT_lt, dF_lt, dT_le, dF_le, dT_eq, dF_eq, push_cast, ↓reduceIte, Nat.reduceEqDiff, reduceCtorEq, Nat.reduceAdd, Nat.reduceSub, Nat.reduceMul, Nat.reduceLeDiff, Nat.reduceLT, Nat.reduceMod, Nat.reduceDiv, Int.reduceToNat, Int.reduceLT, Int.reduceLE, Int.reduceEq, Int.reduceAdd, Int.reduceSub, Int.reduceNeg, Int.reduceMul, Bool.and_self] | split)
        exact .mk (j + 1, ver + 1, rest ++ [_]) ⟨h0, by rw [← hfl]; rfl, h8, h9, rfl, rfl, hlt, hall⟩ (by simp only; omega)
      · have hs : (scal1 rs ⟨2, len, rc⟩).map tyR = [[int 2, int 0, str []]] := by rfl
        rw [hs] at hft
        have hfl : ((l.take j).flatMap (scal1 rs)).length + 1 = ((l.take (j + 1)).flatMap (scal1 rs)).length := by have := congrArg List.length hft; simpa using this
        have hb : 1 ≤ 20 := by have := congrArg List.length hs; simp only [List.length_map] at this; omega
        repeat' (first | (refine And.intro (by omega) ?_) | (refine callF_pure (valid ⟨2, len, rc⟩ rs _ (by omega)) ?_) | (refine callF_pure (shapes _) ?_) | (refine callF_pure (shp2 ⟨2, len, rc⟩ rs _) ?_) | (refine callQF_pure (valid ⟨2, len, rc⟩ rs _ (by omega)) (by first | rfl | simp only [h0, h5, h8, h9, h10, rows_getD, hte, tyR, hvj, shp_2, shp_cmp, lookV, hft, List.length_replicate, push_cast, ↓reduceIte, Nat.reduceEqDiff]) ?_) | (refine callQF_pure (shapes _) (by first | rfl | simp only [h0, h5, h8, h9, h10, rows_getD, hte, tyR, hvj, shp_2, shp_cmp, lookV, hft, List.length_replicate, push_cast, ↓reduceIte, Nat.reduceEqDiff]) ?_) | (refine callQF_pure (shp2 ⟨2, len, rc⟩ rs _) (by first | rfl | simp only [h0, h5, h8, h9, h10, rows_getD, hte, tyR, hvj, shp_2, shp_cmp, lookV, hft, List.length_replicate, push_cast, ↓reduceIte, Nat.reduceEqDiff]) ?_) | simp -implicitDefEqProofs (disch := omega) only [h0, h5, h8, h9, h10, rows_getD, hte, tyR, hvj, shp_2, shp_cmp, lookV, hft, List.length_replicate, dT_lt, dF_lt, dT_le, dF_le, dT_eq, dF_eq, push_cast, ↓reduceIte, Nat.reduceEqDiff, reduceCtorEq, Nat.reduceAdd, Nat.reduceSub, Nat.reduceMul, Nat.reduceLeDiff, Nat.reduceLT, Nat.reduceMod, Nat.reduceDiv, Int.reduceToNat, Int.reduceLT, Int.reduceLE, Int.reduceEq, Int.reduceAdd, Int.reduceSub, Int.reduceNeg, Int.reduceMul, Bool.and_self] | split)
        exact .mk (j + 1, ver + 1, rest ++ [_]) ⟨h0, by rw [← hfl]; rfl, h8, h9, rfl, rfl, hlt, hall⟩ (by simp only; omega)
      · obtain ⟨n, hn⟩ : ∃ n : Nat, len = n := ⟨len.toNat, by omega⟩
        have hs : (scal1 rs ⟨3, len, rc⟩).map tyR = List.replicate n [int tyI.k, int tyI.len, str tyI.rc] := by simp [scal1, hn, tyR]
        rw [hs] at hft
        have hfl : ((l.take j).flatMap (scal1 rs)).length + n = ((l.take (j + 1)).flatMap (scal1 rs)).length := by have := congrArg List.length hft; simpa using this
        have hb : n ≤ 20 := by have := congrArg List.length hs; simp only [List.length_map] at this; omega
        repeat' (first | (refine And.intro (by omega) ?_) | (refine callF_pure (valid ⟨3, len, rc⟩ rs _ (by omega)) ?_) | (refine callF_pure (shapes _) ?_) | (refine callF_pure (shp4 ⟨3, len, rc⟩ rs n hn (by omega) (by omega) _) ?_) | (refine callQF_pure (valid ⟨3, len, rc⟩ rs _ (by omega)) (by first | rfl | simp only [h0, h5, h8, h9, h10, rows_getD, hte, tyR, hvj, shp_3, shp_cmp, lookV, hft, List.length_replicate, push_cast, ↓reduceIte, Nat.reduceEqDiff]) ?_) | (refine callQF_pure (shapes _) (by first | rfl | simp only [h0, h5, h8, h9, h10, rows_getD, hte, tyR, hvj, shp_3, shp_cmp, lookV, hft, List.length_replicate, push_cast, ↓reduceIte, Nat.reduceEqDiff]) ?_) | (refine callQF_pure (shp4 ⟨3, len, rc⟩ rs n hn (by omega) (by omega) _) (by first | rfl | simp only [h0, h5, h8, h9, h10, rows_getD, hte, tyR, hvj, shp_3, shp_cmp, lookV, hft, List.length_replicate, push_cast, ↓reduceIte, Nat.reduceEqDiff]) ?_) | simp -implicitDefEqProofs (disch := omega) only [h0, h5, h8, h9, h10, rows_getD, hte, tyR, hvj, shp_3, shp_cmp, lookV, hft, List.length_replicate, dT_lt, dF_lt, dT_le, dF_le, dT_eq, dF_eq, push_cast, ↓reduceIte, Nat.reduceEqDiff, reduceCtorEq, Nat.reduceAdd, Nat.reduceSub, Nat.reduceMul, Nat.reduceLeDiff, Nat.reduceLT, Nat.reduceMod, Nat.reduceDiv, Int.reduceToNat, Int.reduceLT, Int.reduceLE, Int.reduceEq, Int.reduceAdd, Int.reduceSub, Int.reduceNeg, Int.reduceMul, Bool.and_self] | split)
        exact .mk (j + 1, ver + 1, rest ++ [_]) ⟨h0, by rw [← hfl]; rfl, h8, h9, rfl, rfl, hlt, hall⟩ (by simp only; omega)
      · have hs : (scal1 rs ⟨4, len, rc⟩).map tyR = (rs.getD i default).fields.map scR := by simp [scal1, show idxF rs rc = some i from hi, scR]
        rw [hs] at hft
        have hfl : ((l.take j).flatMap (scal1 rs)).length + (rs.getD i default).fields.length = ((l.take (j + 1)).flatMap (scal1 rs)).length := by have := congrArg List.length hft; simpa using this
        have hb : (rs.getD i default).fields.length ≤ 20 := by have := congrArg List.length hs; simp only [List.length_map] at this; omega
        repeat' (first | (refine And.intro (by omega) ?_) | (refine callF_pure (valid ⟨4, len, rc⟩ rs _ (by omega)) ?_) | (refine callF_pure (shapes _) ?_) | (refine callF_pure (shp6 ⟨4, len, rc⟩ rs i _ (by omega) hi hf.fields) ?_) | (refine callQF_pure (valid ⟨4, len, rc⟩ rs _ (by omega)) (by first | rfl | simp only [h0, h5, h8, h9, h10, rows_getD, hte, tyR, hvj, shp_4, shp_cmp, lookV, hft, List.length_replicate, push_cast, ↓reduceIte, Nat.reduceEqDiff]) ?_) | (refine callQF_pure (shapes _) (by first | rfl | simp only [h0, h5, h8, h9, h10, rows_getD, hte, tyR, hvj, shp_4, shp_cmp, lookV, hft, List.length_replicate, push_cast, ↓reduceIte, Nat.reduceEqDiff]) ?_) | (refine callQF_pure (shp6 ⟨4, len, rc⟩ rs i _ (by omega) hi hf.fields) (by first | rfl | simp only [h0, h5, h8, h9, h10, rows_getD, hte, tyR, hvj, shp_4, shp_cmp, lookV, hft, List.length_replicate, push_cast, ↓reduceIte, Nat.reduceEqDiff]) ?_) | simp -implicitDefEqProofs (disch := omega) only [h0, h5, h8, h9, h10, rows_getD, hte, tyR, hvj, shp_4, shp_cmp, lookV, hft, List.length_replicate, dT_lt, dF_lt, dT_le, dF_le, dT_eq, dF_eq, push_cast, ↓reduceIte, Nat.reduceEqDiff, reduceCtorEq, Nat.reduceAdd, Nat.reduceSub, Nat.reduceMul, Nat.reduceLeDiff, Nat.reduceLT, Nat.reduceMod, Nat.reduceDiv, Int.reduceToNat, Int.reduceLT, Int.reduceLE, Int.reduceEq, Int.reduceAdd, Int.reduceSub, Int.reduceNeg, Int.reduceMul, Bool.and_self] | split)
        exact .mk (j + 1, ver + 1, rest ++ [_]) ⟨h0, by rw [← hfl]; rfl, h8, h9, rfl, rfl, hlt, hall⟩ (by simp only; omega)
    · have hvj' := Bool.eq_false_iff.2 hvj
      rw [scalV_no hlt hvj']
      repeat' (first | (refine And.intro (by omega) ?_) | (refine callF_pure (valid (l.getD j default) rs _ (by omega)) ?_) | (refine callQF_pure (valid (l.getD j default) rs _ (by omega)) (by first | rfl | simp only [h0, h5, h8, h9, h10, rows_getD, tyR, hvj', push_cast, ↓reduceIte, Nat.reduceEqDiff]) ?_) | simp -implicitDefEqProofs (disch := omega) only [h0, h5, h8, h9, h10, rows_getD, tyR, hvj', dT_lt, dF_lt, dT_le, dF_le, dT_eq, dF_eq, push_cast, ↓reduceIte, Nat.reduceEqDiff, reduceCtorEq, Nat.reduceAdd, Nat.reduceSub, Nat.reduceMul, Nat.reduceLeDiff, Nat.reduceLT, Nat.reduceMod, Nat.reduceDiv, Int.reduceToNat, Int.reduceLT, Int.reduceLE, Int.reduceEq, Int.reduceAdd, Int.reduceSub, Int.reduceNeg, Int.reduceMul, Bool.and_self] | split)
      exact ⟨_, rfl⟩
  · rw [scalV_yes fun i hi => hv i (by omega)]
    repeat' (first | (refine And.intro (by omega) ?_) | simp -implicitDefEqProofs (disch := omega) only [h0, h5, h8, h9, h10, dT_lt, dF_lt, dT_le, dF_le, dT_eq, dF_eq, push_cast, ↓reduceIte, Nat.reduceEqDiff, reduceCtorEq, Nat.reduceAdd, Nat.reduceSub, Nat.reduceMul, Nat.reduceLeDiff, Nat.reduceLT, Nat.reduceMod, Nat.reduceDiv, Int.reduceToNat, Int.reduceLT, Int.reduceLE, Int.reduceEq, Int.reduceAdd, Int.reduceSub, Int.reduceNeg, Int.reduceMul, Bool.and_self] | split)
    exact ⟨by rw [all_take l (by omega)], _, rfl⟩
end Go.Proofs.Yteidffcimidinaa

/- Types, part 4: the reference's scalars, sizes, equal lists. -/
namespace Go.Proofs.Yteidffcimidinaa
open Go Go.Ax
set_option maxRecDepth 100000
set_option linter.unusedSimpArgs false
set_option linter.unusedVariables false

def sizeF (rs : List Rc) (t : Ty) : Nat := if validF t rs = true then (scal1 rs t).length else 0
theorem sizeF_no {rs : List Rc} {t : Ty} (h : validF t rs = false) : sizeF rs t = 0 := by unfold sizeF; rw [h]; rfl
theorem sizeF_yes {rs : List Rc} {t : Ty} (h : validF t rs = true) : sizeF rs t = (scal1 rs t).length := by unfold sizeF; rw [h]; rfl
theorem scalV_1 {rs : List Rc} {t : Ty} (h : validF t rs = true) : scalV rs [t] = .sl 3 ((scal1 rs t).map tyR) := by simp [scalV, h]
theorem scalV_0 {rs : List Rc} {t : Ty} (h : validF t rs = false) : scalV rs [t] = nilS := by simp [scalV, h]
theorem size (t : Ty) (rs : List Rc) (H : AHeap) (hf : Few rs) : Comp' 76 [.agg (tyR t), .sl 2 (rs.map rcR)] H (int (sizeF rs t)) := by
  refine ACall.drop (R := fun x => x = int (sizeF rs t)) ?_
  refine enter Try.func76 L76_ok (Nat.le_of_ble_eq_true rfl) ?_
  cases hv : validF t rs with
  | true =>
    repeat' (first | (refine And.intro (by omega) ?_) | (refine callF_pure (scalars rs [t] _ hf (by simp)) ?_) | (refine callQF_pure (scalars rs [t] _ hf (by simp)) (by first | rfl | simp only [L76, tyR, scalV_1 hv, sizeF_yes hv, push_cast, ↓reduceIte, Nat.reduceEqDiff]) ?_) | simp -implicitDefEqProofs (disch := omega) only [L76, tyR, scalV_1 hv, sizeF_yes hv, dT_lt, dF_lt, dT_le, dF_le, dT_eq, dF_eq, push_cast, ↓reduceIte, Nat.reduceEqDiff, reduceCtorEq, Nat.reduceAdd, Nat.reduceSub, Nat.reduceMul, Nat.reduceLeDiff, Nat.reduceLT, Nat.reduceMod, Nat.reduceDiv, Int.reduceToNat, Int.reduceLT, Int.reduceLE, Int.reduceEq, Int.reduceAdd, Int.reduceSub, Int.reduceNeg, Int.reduceMul, Bool.and_self] | split)
    exact ⟨_, rfl⟩
  | false =>
    repeat' (first | (refine And.intro (by omega) ?_) | (refine callF_pure (scalars rs [t] _ hf (by simp)) ?_) | (refine callQF_pure (scalars rs [t] _ hf (by simp)) (by first | rfl | simp only [L76, tyR, scalV_0 hv, sizeF_no hv, push_cast, ↓reduceIte, Nat.reduceEqDiff]) ?_) | simp -implicitDefEqProofs (disch := omega) only [L76, tyR, scalV_0 hv, sizeF_no hv, dT_lt, dF_lt, dT_le, dF_le, dT_eq, dF_eq, push_cast, ↓reduceIte, Nat.reduceEqDiff, reduceCtorEq, Nat.reduceAdd, Nat.reduceSub, Nat.reduceMul, Nat.reduceLeDiff, Nat.reduceLT, Nat.reduceMod, Nat.reduceDiv, Int.reduceToNat, Int.reduceLT, Int.reduceLE, Int.reduceEq, Int.reduceAdd, Int.reduceSub, Int.reduceNeg, Int.reduceMul, Bool.and_self] | split)
    exact ⟨_, rfl⟩
theorem ty_ext {a b : Ty} : a = b ↔ a.k = b.k ∧ a.len = b.len ∧ a.rc = b.rc := by cases a; cases b; simp
theorem equalR (a b : List Ty) (H : AHeap) (ha : (a.length : Int) < 9223372036854775807) (hb : (b.length : Int) < 9223372036854775807) : Comp' 31 [.sl 3 (a.map tyR), .sl 3 (b.map tyR)] H (bool (decide (a = b))) := by
  refine enter Try.func31 L31_ok (Nat.le_of_ble_eq_true rfl) ?_
  by_cases hl : a.length = b.length
  · repeat' (first | (refine And.intro (by omega) ?_) | simp -implicitDefEqProofs (disch := omega) only [L31, dT_lt, dF_lt, dT_le, dF_le, dT_eq, dF_eq, push_cast, ↓reduceIte, Nat.reduceEqDiff, reduceCtorEq, Nat.reduceAdd, Nat.reduceSub, Nat.reduceMul, Nat.reduceLeDiff, Nat.reduceLT, Nat.reduceMod, Nat.reduceDiv, Int.reduceToNat, Int.reduceLT, Int.reduceLE, Int.reduceEq, Int.reduceAdd, Int.reduceSub, Int.reduceNeg, Int.reduceMul, Bool.and_self] | split)
    refine rk_loopS (fun (j : Nat) e' H' => e' 0 = .sl 3 (a.map tyR) ∧ e' 1 = .sl 3 (b.map tyR) ∧ e' 5 = int j ∧ H = H' ∧ j ≤ a.length ∧ a.take j = b.take j) (fun j => a.length - j) 0 ?_ ?_
    · exact ⟨rfl, rfl, rfl, rfl, Nat.zero_le _, rfl⟩
    rintro j e' H' ⟨h0, h1, h5, rfl, hj, hr⟩
    by_cases hlt : j < a.length
    · by_cases he : a.getD j default = b.getD j default
      · repeat' (first | (refine And.intro (by omega) ?_) | simp -implicitDefEqProofs (disch := omega) only [h0, h1, h5, rows_getD, he, tyR, kEqI, kEqS, dT_lt, dF_lt, dT_le, dF_le, dT_eq, dF_eq, push_cast, ↓reduceIte, Nat.reduceEqDiff, reduceCtorEq, Nat.reduceAdd, Nat.reduceSub, Nat.reduceMul, Nat.reduceLeDiff, Nat.reduceLT, Nat.reduceMod, Nat.reduceDiv, Int.reduceToNat, Int.reduceLT, Int.reduceLE, Int.reduceEq, Int.reduceAdd, Int.reduceSub, Int.reduceNeg, Int.reduceMul, Bool.and_self] | split)
        exact .mk (j + 1) ⟨h0, h1, rfl, rfl, hlt, ext_take hr hlt (by omega) he⟩ (by omega)
      · repeat' (first | (refine And.intro (by omega) ?_) | simp -implicitDefEqProofs (disch := omega) only [h0, h1, h5, rows_getD, tyR, kEqI, kEqS, dT_lt, dF_lt, dT_le, dF_le, dT_eq, dF_eq, push_cast, ↓reduceIte, Nat.reduceEqDiff, reduceCtorEq, Nat.reduceAdd, Nat.reduceSub, Nat.reduceMul, Nat.reduceLeDiff, Nat.reduceLT, Nat.reduceMod, Nat.reduceDiv, Int.reduceToNat, Int.reduceLT, Int.reduceLE, Int.reduceEq, Int.reduceAdd, Int.reduceSub, Int.reduceNeg, Int.reduceMul, Bool.and_self] | split)
        · rw [decide_eq_false]
          rintro rfl; exact he rfl
        · rename_i h
          exact absurd (ty_ext.2 (by simpa using h)) he
    · repeat' (first | (refine And.intro (by omega) ?_) | simp -implicitDefEqProofs (disch := omega) only [h0, h1, h5, dT_lt, dF_lt, dT_le, dF_le, dT_eq, dF_eq, push_cast, ↓reduceIte, Nat.reduceEqDiff, reduceCtorEq, Nat.reduceAdd, Nat.reduceSub, Nat.reduceMul, Nat.reduceLeDiff, Nat.reduceLT, Nat.reduceMod, Nat.reduceDiv, Int.reduceToNat, Int.reduceLT, Int.reduceLE, Int.reduceEq, Int.reduceAdd, Int.reduceSub, Int.reduceNeg, Int.reduceMul, Bool.and_self] | split)
      rw [all_take a (by omega), all_take b (by omega)] at hr
      rw [decide_eq_true hr]
  · repeat' (first | (refine And.intro (by omega) ?_) | simp -implicitDefEqProofs (disch := omega) only [L31, dT_lt, dF_lt, dT_le, dF_le, dT_eq, dF_eq, push_cast, ↓reduceIte, Nat.reduceEqDiff, reduceCtorEq, Nat.reduceAdd, Nat.reduceSub, Nat.reduceMul, Nat.reduceLeDiff, Nat.reduceLT, Nat.reduceMod, Nat.reduceDiv, Int.reduceToNat, Int.reduceLT, Int.reduceLE, Int.reduceEq, Int.reduceAdd, Int.reduceSub, Int.reduceNeg, Int.reduceMul, Bool.and_self] | split)
    rw [decide_eq_false]
    rintro rfl; exact hl rfl
end Go.Proofs.Yteidffcimidinaa

/- Types, part 5: the text of a type. -/
namespace Go.Proofs.Yteidffcimidinaa
open Go Go.Ax
set_option maxRecDepth 100000
set_option linter.unusedSimpArgs false
set_option linter.unusedVariables false

/-- A number in decimal. -/
def decN : Nat → Nat → List UInt8
  | 0, _ => []
  | f + 1, n => if n < 10 then [UInt8.ofNat (48 + n)] else decN f (n / 10) ++ [UInt8.ofNat (48 + n % 10)]
def decF (n : Nat) : List UInt8 := decN (n + 1) n
theorem decN_fuel : ∀ (f g n : Nat), n < f → n < g → decN f n = decN g n
  | 0, _, _, h, _ => by omega
  | _, 0, _, _, h => by omega
  | f + 1, g + 1, n, h, h' => by
    unfold decN
    split
    · rfl
    · rw [decN_fuel f g (n / 10) (by omega) (by omega)]
theorem decF_small {n : Nat} (h : n < 10) : decF n = [UInt8.ofNat (48 + n)] := by unfold decF decN; rw [if_pos h]
theorem decF_big {n : Nat} (h : ¬ n < 10) : decF n = decF (n / 10) ++ [UInt8.ofNat (48 + n % 10)] := by
  have e : decF n = decN n (n / 10) ++ [UInt8.ofNat (48 + n % 10)] := by
    conv => lhs; unfold decF decN
    rw [if_neg h]
  rw [e, decN_fuel n (n / 10 + 1) (n / 10) (by omega) (by omega)]
  rfl
theorem decF_len : ∀ (k n : Nat), n < 10 ^ (k + 1) → (decF n).length ≤ k + 1
  | 0, n, h => by rw [decF_small (by simpa using h)]; simp
  | k + 1, n, h => by
    by_cases h10 : n < 10
    · rw [decF_small h10]; simp
    · rw [decF_big h10]
      have := decF_len k (n / 10) (by rw [Nat.pow_succ] at h; omega)
      simp; omega
theorem decF_19 {n : Nat} (h : n ≤ 9223372036854775807) : (decF n).length ≤ 19 := by
  have h2 : (10 : Nat) ^ (18 + 1) = 10000000000000000000 := by simp
  exact decF_len 18 n (by omega)
theorem utf8_digit {n : Nat} (h : n < 10) : Utf8.encode (48 + (n : Int)) = mkS [UInt8.ofNat (48 + n)] := by
  have hn : n = 0 ∨ n = 1 ∨ n = 2 ∨ n = 3 ∨ n = 4 ∨ n = 5 ∨ n = 6 ∨ n = 7 ∨ n = 8 ∨ n = 9 := by omega
  rcases hn with rfl | rfl | rfl | rfl | rfl | rfl | rfl | rfl | rfl | rfl <;> decide +kernel
theorem tdiv10 (n : Nat) : (n : Int).tdiv 10 = ((n / 10 : Nat) : Int) := rfl
theorem tmod10 (n : Nat) : (n : Int).tmod 10 = ((n % 10 : Nat) : Int) := rfl

theorem digits (n : Nat) (hn : n ≤ 9223372036854775807) (H : AHeap) : Comp' 43 [int n] H (str (decF n)) := by
  induction n using Nat.strongRecOn generalizing H with
  | _ n ih =>
    refine enter Try.func43 L43_ok (Nat.le_of_ble_eq_true rfl) ?_
    by_cases h : n < 10
    · repeat' (first | (refine And.intro (by omega) ?_) | simp -implicitDefEqProofs (disch := omega) only [L43, utf8_digit h, decF_small h, dT_lt, dF_lt, dT_le, dF_le, dT_eq, dF_eq, push_cast, ↓reduceIte, Nat.reduceEqDiff, reduceCtorEq, Nat.reduceAdd, Nat.reduceSub, Nat.reduceMul, Nat.reduceLeDiff, Nat.reduceLT, Nat.reduceMod, Nat.reduceDiv, Int.reduceToNat, Int.reduceLT, Int.reduceLE, Int.reduceEq, Int.reduceAdd, Int.reduceSub, Int.reduceNeg, Int.reduceMul, Bool.and_self] | split)
    · have h1 := decF_19 (n := n / 10) (by omega)
      have h2 := decF_19 (n := n % 10) (by omega)
      have hw : IntKind.i64.wrap ((n / 10 : Nat) : Int) = ((n / 10 : Nat) : Int) := wrap64_of _ (by omega) (by omega)
      repeat' (first | (refine And.intro (by omega) ?_) | (refine callF_pure (ih (n / 10) (by omega) (by omega) _) ?_) | (refine callF_pure (ih (n % 10) (by omega) (by omega) _) ?_) | (refine callQF_pure (ih (n / 10) (by omega) (by omega) _) (by first | rfl | simp only [L43, tdiv10, tmod10, hw, decF_big h, push_cast, ↓reduceIte, Nat.reduceEqDiff]) ?_) | (refine callQF_pure (ih (n % 10) (by omega) (by omega) _) (by first | rfl | simp only [L43, tdiv10, tmod10, hw, decF_big h, push_cast, ↓reduceIte, Nat.reduceEqDiff]) ?_) | simp -implicitDefEqProofs (disch := omega) only [L43, tdiv10, tmod10, hw, decF_big h, dT_lt, dF_lt, dT_le, dF_le, dT_eq, dF_eq, push_cast, ↓reduceIte, Nat.reduceEqDiff, reduceCtorEq, Nat.reduceAdd, Nat.reduceSub, Nat.reduceMul, Nat.reduceLeDiff, Nat.reduceLT, Nat.reduceMod, Nat.reduceDiv, Int.reduceToNat, Int.reduceLT, Int.reduceLE, Int.reduceEq, Int.reduceAdd, Int.reduceSub, Int.reduceNeg, Int.reduceMul, Bool.and_self] | split)
      rw [decF_small (n := n % 10) (by omega)]
/-- The text of a type. -/
def formatF (t : Ty) : List UInt8 :=
  if t.k = 1 then [105, 110, 116] else if t.k = 2 then [98, 111, 111, 108]
  else if t.k = 3 then (if 0 ≤ t.len then [105, 110, 116, 91] ++ decF t.len.toNat ++ [93] else [])
  else if t.k = 4 then t.rc else if t.k = 5 then [97, 114, 114, 97, 121] else if t.k = 6 then [105, 110, 116, 32, 111, 114, 32, 98, 111, 111, 108] else []
theorem format (t : Ty) (hl : t.len ≤ 9223372036854775807) (H : AHeap) : Comp' 11 [.agg (tyR t)] H (str (formatF t)) := by
  refine ACall.drop (R := fun x => x = str (formatF t)) ?_
  refine enter Try.func11 L11_ok (Nat.le_of_ble_eq_true rfl) ?_
  obtain ⟨k, len, rc⟩ := t
  have hk : k = 1 ∨ k = 2 ∨ k = 3 ∨ k = 4 ∨ k = 5 ∨ k = 6 ∨ (k ≠ 1 ∧ k ≠ 2 ∧ k ≠ 3 ∧ k ≠ 4 ∧ k ≠ 5 ∧ k ≠ 6) := by omega
  rcases hk with rfl | rfl | rfl | rfl | rfl | rfl | ⟨n1, n2, n3, n4, n5, n6⟩
  · repeat' (first | (refine And.intro (by omega) ?_) | simp -implicitDefEqProofs (disch := omega) only [L11, tyR, dT_lt, dF_lt, dT_le, dF_le, dT_eq, dF_eq, push_cast, ↓reduceIte, Nat.reduceEqDiff, reduceCtorEq, Nat.reduceAdd, Nat.reduceSub, Nat.reduceMul, Nat.reduceLeDiff, Nat.reduceLT, Nat.reduceMod, Nat.reduceDiv, Int.reduceToNat, Int.reduceLT, Int.reduceLE, Int.reduceEq, Int.reduceAdd, Int.reduceSub, Int.reduceNeg, Int.reduceMul, Bool.and_self] | split)
    exact ⟨rfl, _, rfl⟩
  · repeat' (first | (refine And.intro (by omega) ?_) | simp -implicitDefEqProofs (disch := omega) only [L11, tyR, dT_lt, dF_lt, dT_le, dF_le, dT_eq, dF_eq, push_cast, ↓reduceIte, Nat.reduceEqDiff, reduceCtorEq, Nat.reduceAdd, Nat.reduceSub, Nat.reduceMul, Nat.reduceLeDiff, Nat.reduceLT, Nat.reduceMod, Nat.reduceDiv, Int.reduceToNat, Int.reduceLT, Int.reduceLE, Int.reduceEq, Int.reduceAdd, Int.reduceSub, Int.reduceNeg, Int.reduceMul, Bool.and_self] | split)
    exact ⟨rfl, _, rfl⟩
  · by_cases h : 0 ≤ len
    · obtain ⟨n, rfl⟩ : ∃ n : Nat, len = n := ⟨len.toNat, by omega⟩
      have hn : n ≤ 9223372036854775807 := by have hl' : (n : Int) ≤ 9223372036854775807 := hl; omega
      have h1 := decF_19 hn
      repeat' (first | (refine And.intro (by omega) ?_) | (refine callF_pure (digits n hn _) ?_) | (refine callQF_pure (digits n hn _) (by first | rfl | simp only [L11, tyR, push_cast, ↓reduceIte, Nat.reduceEqDiff]) ?_) | simp -implicitDefEqProofs (disch := omega) only [L11, tyR, dT_lt, dF_lt, dT_le, dF_le, dT_eq, dF_eq, push_cast, ↓reduceIte, Nat.reduceEqDiff, reduceCtorEq, Nat.reduceAdd, Nat.reduceSub, Nat.reduceMul, Nat.reduceLeDiff, Nat.reduceLT, Nat.reduceMod, Nat.reduceDiv, Int.reduceToNat, Int.reduceLT, Int.reduceLE, Int.reduceEq, Int.reduceAdd, Int.reduceSub, Int.reduceNeg, Int.reduceMul, Bool.and_self] | split)
      exact ⟨rfl, _, rfl⟩
    · repeat' (first | (refine And.intro (by omega) ?_) | simp -implicitDefEqProofs (disch := omega) only [L11, tyR, dT_lt, dF_lt, dT_le, dF_le, dT_eq, dF_eq, push_cast, ↓reduceIte, Nat.reduceEqDiff, reduceCtorEq, Nat.reduceAdd, Nat.reduceSub, Nat.reduceMul, Nat.reduceLeDiff, Nat.reduceLT, Nat.reduceMod, Nat.reduceDiv, Int.reduceToNat, Int.reduceLT, Int.reduceLE, Int.reduceEq, Int.reduceAdd, Int.reduceSub, Int.reduceNeg, Int.reduceMul, Bool.and_self] | split)
      exact ⟨by simp [formatF, h], _, rfl⟩
  · repeat' (first | (refine And.intro (by omega) ?_) | simp -implicitDefEqProofs (disch := omega) only [L11, tyR, dT_lt, dF_lt, dT_le, dF_le, dT_eq, dF_eq, push_cast, ↓reduceIte, Nat.reduceEqDiff, reduceCtorEq, Nat.reduceAdd, Nat.reduceSub, Nat.reduceMul, Nat.reduceLeDiff, Nat.reduceLT, Nat.reduceMod, Nat.reduceDiv, Int.reduceToNat, Int.reduceLT, Int.reduceLE, Int.reduceEq, Int.reduceAdd, Int.reduceSub, Int.reduceNeg, Int.reduceMul, Bool.and_self] | split)
    exact ⟨rfl, _, rfl⟩
  · repeat' (first | (refine And.intro (by omega) ?_) | simp -implicitDefEqProofs (disch := omega) only [L11, tyR, dT_lt, dF_lt, dT_le, dF_le, dT_eq, dF_eq, push_cast, ↓reduceIte, Nat.reduceEqDiff, reduceCtorEq, Nat.reduceAdd, Nat.reduceSub, Nat.reduceMul, Nat.reduceLeDiff, Nat.reduceLT, Nat.reduceMod, Nat.reduceDiv, Int.reduceToNat, Int.reduceLT, Int.reduceLE, Int.reduceEq, Int.reduceAdd, Int.reduceSub, Int.reduceNeg, Int.reduceMul, Bool.and_self] | split)
    exact ⟨rfl, _, rfl⟩
  · repeat' (first | (refine And.intro (by omega) ?_) | simp -implicitDefEqProofs (disch := omega) only [L11, tyR, dT_lt, dF_lt, dT_le, dF_le, dT_eq, dF_eq, push_cast, ↓reduceIte, Nat.reduceEqDiff, reduceCtorEq, Nat.reduceAdd, Nat.reduceSub, Nat.reduceMul, Nat.reduceLeDiff, Nat.reduceLT, Nat.reduceMod, Nat.reduceDiv, Int.reduceToNat, Int.reduceLT, Int.reduceLE, Int.reduceEq, Int.reduceAdd, Int.reduceSub, Int.reduceNeg, Int.reduceMul, Bool.and_self] | split)
    exact ⟨rfl, _, rfl⟩
  · repeat' (first | (refine And.intro (by omega) ?_) | simp -implicitDefEqProofs (disch := omega) only [L11, tyR, n1, n2, n3, n4, n5, n6, dT_lt, dF_lt, dT_le, dF_le, dT_eq, dF_eq, push_cast, ↓reduceIte, Nat.reduceEqDiff, reduceCtorEq, Nat.reduceAdd, Nat.reduceSub, Nat.reduceMul, Nat.reduceLeDiff, Nat.reduceLT, Nat.reduceMod, Nat.reduceDiv, Int.reduceToNat, Int.reduceLT, Int.reduceLE, Int.reduceEq, Int.reduceAdd, Int.reduceSub, Int.reduceNeg, Int.reduceMul, Bool.and_self] | split)
    exact ⟨by simp [formatF, n1, n2, n3, n4, n5, n6], _, rfl⟩
end Go.Proofs.Yteidffcimidinaa

/- Types, part 6: layouts, members, the examples. -/
namespace Go.Proofs.Yteidffcimidinaa
open Go Go.Ax
set_option maxRecDepth 100000
set_option linter.unusedSimpArgs false
set_option linter.unusedVariables false

/-- A copy of a list: a new object, but for the empty list. -/
theorem clone (l : List Vr) (H : AHeap) (hl : l.length ≤ 1000) : ACall Try.prog 75 [.sl 8 (l.map vrR)] H fun x H' => (l = [] ∧ x = nilS ∧ H' = H) ∨ ∃ ver, x = .os H.length ver 0 l.length ∧ H' = H ++ [.arr ver 8 (l.map vrR)] := by
  refine enter Try.func75 L75_ok (Nat.le_of_ble_eq_true rfl) ?_
  repeat' (first | (refine And.intro (by omega) ?_) | simp -implicitDefEqProofs (disch := omega) only [L75, dT_lt, dF_lt, dT_le, dF_le, dT_eq, dF_eq, push_cast, ↓reduceIte, Nat.reduceEqDiff, reduceCtorEq, Nat.reduceAdd, Nat.reduceSub, Nat.reduceMul, Nat.reduceLeDiff, Nat.reduceLT, Nat.reduceMod, Nat.reduceDiv, Int.reduceToNat, Int.reduceLT, Int.reduceLE, Int.reduceEq, Int.reduceAdd, Int.reduceSub, Int.reduceNeg, Int.reduceMul, Bool.and_self] | split)
  refine ⟨trivial, fun b hb => ?_⟩
  cases b with
  | true =>
    have he : l = [] := by simpa using hb rfl
    repeat' (first | (refine And.intro (by omega) ?_) | simp -implicitDefEqProofs (disch := omega) only [dT_lt, dF_lt, dT_le, dF_le, dT_eq, dF_eq, push_cast, ↓reduceIte, Nat.reduceEqDiff, reduceCtorEq, Nat.reduceAdd, Nat.reduceSub, Nat.reduceMul, Nat.reduceLeDiff, Nat.reduceLT, Nat.reduceMod, Nat.reduceDiv, Int.reduceToNat, Int.reduceLT, Int.reduceLE, Int.reduceEq, Int.reduceAdd, Int.reduceSub, Int.reduceNeg, Int.reduceMul, Bool.and_self] | split)
    exact .inl he
  | false =>
    repeat' (first | (refine And.intro (by omega) ?_) | simp -implicitDefEqProofs (disch := omega) only [Nat.zero_add, dT_lt, dF_lt, dT_le, dF_le, dT_eq, dF_eq, push_cast, ↓reduceIte, Nat.reduceEqDiff, reduceCtorEq, Nat.reduceAdd, Nat.reduceSub, Nat.reduceMul, Nat.reduceLeDiff, Nat.reduceLT, Nat.reduceMod, Nat.reduceDiv, Int.reduceToNat, Int.reduceLT, Int.reduceLE, Int.reduceEq, Int.reduceAdd, Int.reduceSub, Int.reduceNeg, Int.reduceMul, Bool.and_self] | split)
    exact ⟨_, rfl, rfl⟩

/-- Slots one behind the other. -/
def layN (rs : List Rc) : Nat → List Vr → List Vr
  | _, [] => []
  | at_, v :: l => { v with slot := at_ } :: layN rs (at_ + sizeF rs v.ty) l
def totF (rs : List Rc) : List Vr → Nat
  | [] => 0
  | v :: l => sizeF rs v.ty + totF rs l
theorem layN_app (rs : List Rc) : ∀ (a : Nat) (l m : List Vr), layN rs a (l ++ m) = layN rs a l ++ layN rs (a + totF rs l) m
  | a, [], m => by simp [layN, totF]
  | a, v :: l, m => by simp [layN, totF, layN_app rs _ l m, Nat.add_assoc]
theorem totF_app (rs : List Rc) : ∀ (l m : List Vr), totF rs (l ++ m) = totF rs l + totF rs m
  | [], m => by simp [totF]
  | v :: l, m => by simp [totF, totF_app rs l m, Nat.add_assoc]
theorem layN_len (rs : List Rc) : ∀ (a : Nat) (l : List Vr), (layN rs a l).length = l.length
  | _, [] => rfl
  | a, v :: l => by simp [layN, layN_len rs _ l]
theorem sizeF_le {rs : List Rc} {t : Ty} (hf : Few rs) : sizeF rs t ≤ 20 := by
  unfold sizeF
  split
  · exact scal1_len hf ‹_›
  · omega
theorem totF_le {rs : List Rc} (hf : Few rs) : ∀ l : List Vr, totF rs l ≤ 20 * l.length
  | [] => by simp [totF]
  | v :: l => by
    have := totF_le hf l
    have := sizeF_le (t := v.ty) hf
    simp [totF]; omega
def layA (rs : List Rc) (l : List Vr) (j : Nat) : List Vr := layN rs 0 (l.take j) ++ l.drop j
theorem lay_get {rs : List Rc} {l : List Vr} {j : Nat} (h : j < l.length) : ((layA rs l j).map vrR).getD j [] = vrR (l.getD j default) := by
  have hl : (layN rs 0 (l.take j)).length = j := by rw [layN_len]; simp; omega
  rw [rows_getD (by simp [layA, layN_len]; omega)]
  congr 1
  simp [layA, List.getD_eq_getElem?_getD, List.getElem?_append_right, hl]
theorem lay_set {rs : List Rc} {l : List Vr} {j : Nat} (h : j < l.length) : ((layA rs l j).map vrR).set j (vrR { l.getD j default with slot := totF rs (l.take j) }) = (layA rs l (j + 1)).map vrR := by
  have hl : (layN rs 0 (l.take j)).length = j := by rw [layN_len]; simp; omega
  unfold layA
  rw [take_snoc h, layN_app, drop_cons h, List.map_append, List.set_append_right _ _ (by simp [hl])]
  simp [hl, layN]
theorem lay_len {rs : List Rc} {l : List Vr} {j : Nat} : (layA rs l j).length = l.length := by simp [layA, layN_len]; omega
theorem lay_all {rs : List Rc} {l : List Vr} : layA rs l l.length = layN rs 0 l := by simp [layA]

/-- What Layout hands back. -/
def layV (rs : List Rc) (l : List Vr) : AV := if l.all (fun v => validF v.ty rs) = true then .tup [.sl 8 ((layN rs 0 l).map vrR), int (totF rs l)] else .tup [nilS, int 0]
theorem layV_no {rs : List Rc} {l : List Vr} {j : Nat} (hj : j < l.length) (h : validF (l.getD j default).ty rs = false) : layV rs l = .tup [nilS, int 0] := by
  unfold layV
  rw [if_neg]
  intro hh
  rw [List.all_eq_true] at hh
  rw [hh _ (getD_mem' hj)] at h
  cases h
theorem layV_yes {rs : List Rc} {l : List Vr} (h : ∀ i, i < l.length → validF (l.getD i default).ty rs = true) : layV rs l = .tup [.sl 8 ((layN rs 0 l).map vrR), int (totF rs l)] := by
  unfold layV
  rw [if_pos]
  rw [List.all_eq_true]
  intro t ht
  obtain ⟨i, hi, rfl⟩ := List.mem_iff_getElem.1 ht
  have := h i hi
  simpa [List.getD_eq_getElem?_getD, hi] using this

theorem layout (rs : List Rc) (l : List Vr) (H : AHeap) (hf : Few rs) (hl : l.length ≤ 20) (hne : l ≠ []) : Comp' 28 [.sl 2 (rs.map rcR), .sl 8 (l.map vrR)] H (layV rs l) := by
  refine ACall.drop (R := fun x => x = layV rs l) ?_
  refine enter Try.func28 L28_ok (Nat.le_of_ble_eq_true rfl) ?_
  have hrl := hf.len
  repeat' (first | (refine And.intro (by omega) ?_) | simp -implicitDefEqProofs (disch := omega) only [L28, dT_lt, dF_lt, dT_le, dF_le, dT_eq, dF_eq, push_cast, ↓reduceIte, Nat.reduceEqDiff, reduceCtorEq, Nat.reduceAdd, Nat.reduceSub, Nat.reduceMul, Nat.reduceLeDiff, Nat.reduceLT, Nat.reduceMod, Nat.reduceDiv, Int.reduceToNat, Int.reduceLT, Int.reduceLE, Int.reduceEq, Int.reduceAdd, Int.reduceSub, Int.reduceNeg, Int.reduceMul, Bool.and_self] | split)
  refine callF_mono (clone l _ (by omega)) ?_
  rintro y H' (⟨hl0, -, -⟩ | ⟨ver, rfl, rfl⟩)
  · exact absurd hl0 hne
  repeat' (first | (refine And.intro (by omega) ?_) | simp -implicitDefEqProofs (disch := omega) only [dT_lt, dF_lt, dT_le, dF_le, dT_eq, dF_eq, push_cast, ↓reduceIte, Nat.reduceEqDiff, reduceCtorEq, Nat.reduceAdd, Nat.reduceSub, Nat.reduceMul, Nat.reduceLeDiff, Nat.reduceLT, Nat.reduceMod, Nat.reduceDiv, Int.reduceToNat, Int.reduceLT, Int.reduceLE, Int.reduceEq, Int.reduceAdd, Int.reduceSub, Int.reduceNeg, Int.reduceMul, Bool.and_self] | split)
  refine rk_loopS (fun (p : Nat × List HO) e' H' => e' 0 = .sl 2 (rs.map rcR) ∧ e' 6 = .os H.length ver 0 l.length ∧ e' 7 = int (totF rs (l.take p.1)) ∧ e' 12 = .sl 8 (l.map vrR) ∧ e' 13 = int l.length ∧ e' 14 = int p.1 ∧ H' = H ++ .arr ver 8 ((layA rs l p.1).map vrR) :: p.2 ∧ p.1 ≤ l.length ∧ ∀ i, i < p.1 → validF (l.getD i default).ty rs = true) (fun p => l.length - p.1) (0, []) ?_ ?_
  · exact ⟨rfl, rfl, rfl, rfl, rfl, rfl, rfl, Nat.zero_le _, by simp⟩
  rintro ⟨j, rest⟩ e' H' ⟨h0, h6, h7, h12, h13, h14, rfl, hj, hv⟩
  simp only at h0 h6 h7 h12 h13 h14 hj hv
  have htot := totF_le hf (l.take j)
  have htl : (l.take j).length = j := by simp; omega
  have hll := lay_len (rs := rs) (l := l) (j := j)
  by_cases hlt : j < l.length
  · by_cases hvj : validF (l.getD j default).ty rs = true
    · have hall := upto_succ (p := fun i => validF (l.getD i default).ty rs = true) hv hvj
      have hsz := sizeF_le (t := (l.getD j default).ty) hf
      have hset := lay_set (rs := rs) hlt
      have hget := lay_get (rs := rs) hlt
      have htt : totF rs (l.take (j + 1)) = totF rs (l.take j) + sizeF rs (l.getD j default).ty := by rw [take_snoc hlt, totF_app]; simp [totF]
      have hgd : (layA rs l j).getD j default = l.getD j default := by
        have hln : (layN rs 0 (l.take j)).length = j := by rw [layN_len]; exact htl
        simp [layA, List.getD_eq_getElem?_getD, List.getElem?_append_right, hln]
      simp only [vrR] at hset hget
      repeat' (first | (refine And.intro (by omega) ?_) | (refine callF_pure (valid (l.getD j default).ty rs _ (by omega)) ?_) | (refine callF_pure (size (l.getD j default).ty rs _ hf) ?_) | (refine callQF_pure (valid (l.getD j default).ty rs _ (by omega)) (by first | rfl | simp only [h0, h6, h7, h12, h13, h14, rows_getD, vrR, hvj, hll, hgd, Nat.zero_add, splice, hset, push_cast, ↓reduceIte, Nat.reduceEqDiff]) ?_) | (refine callQF_pure (size (l.getD j default).ty rs _ hf) (by first | rfl | simp only [h0, h6, h7, h12, h13, h14, rows_getD, vrR, hvj, hll, hgd, Nat.zero_add, splice, hset, push_cast, ↓reduceIte, Nat.reduceEqDiff]) ?_) | simp -implicitDefEqProofs (disch := omega) only [h0, h6, h7, h12, h13, h14, rows_getD, vrR, hvj, hll, hgd, Nat.zero_add, splice, hset, dT_lt, dF_lt, dT_le, dF_le, dT_eq, dF_eq, push_cast, ↓reduceIte, Nat.reduceEqDiff, reduceCtorEq, Nat.reduceAdd, Nat.reduceSub, Nat.reduceMul, Nat.reduceLeDiff, Nat.reduceLT, Nat.reduceMod, Nat.reduceDiv, Int.reduceToNat, Int.reduceLT, Int.reduceLE, Int.reduceEq, Int.reduceAdd, Int.reduceSub, Int.reduceNeg, Int.reduceMul, Bool.and_self] | split)
      exact .mk (j + 1, rest ++ [_]) ⟨h0, h6, by rw [htt]; rfl, h12, h13, rfl, rfl, hlt, hall⟩ (by simp only; omega)
    · have hvj' := Bool.eq_false_iff.2 hvj
      rw [layV_no hlt hvj']
      repeat' (first | (refine And.intro (by omega) ?_) | (refine callF_pure (valid (l.getD j default).ty rs _ (by omega)) ?_) | (refine callQF_pure (valid (l.getD j default).ty rs _ (by omega)) (by first | rfl | simp only [h0, h6, h7, h12, h13, h14, rows_getD, vrR, hvj', push_cast, ↓reduceIte, Nat.reduceEqDiff]) ?_) | simp -implicitDefEqProofs (disch := omega) only [h0, h6, h7, h12, h13, h14, rows_getD, vrR, hvj', dT_lt, dF_lt, dT_le, dF_le, dT_eq, dF_eq, push_cast, ↓reduceIte, Nat.reduceEqDiff, reduceCtorEq, Nat.reduceAdd, Nat.reduceSub, Nat.reduceMul, Nat.reduceLeDiff, Nat.reduceLT, Nat.reduceMod, Nat.reduceDiv, Int.reduceToNat, Int.reduceLT, Int.reduceLE, Int.reduceEq, Int.reduceAdd, Int.reduceSub, Int.reduceNeg, Int.reduceMul, Bool.and_self] | split)
      exact ⟨_, rfl⟩
  · obtain rfl : j = l.length := by omega
    rw [layV_yes hv]
    repeat' (first | (refine And.intro (by omega) ?_) | simp -implicitDefEqProofs (disch := omega) only [h0, h6, h7, h12, h13, h14, hll, dT_lt, dF_lt, dT_le, dF_le, dT_eq, dF_eq, push_cast, ↓reduceIte, Nat.reduceEqDiff, reduceCtorEq, Nat.reduceAdd, Nat.reduceSub, Nat.reduceMul, Nat.reduceLeDiff, Nat.reduceLT, Nat.reduceMod, Nat.reduceDiv, Int.reduceToNat, Int.reduceLT, Int.reduceLE, Int.reduceEq, Int.reduceAdd, Int.reduceSub, Int.reduceNeg, Int.reduceMul, Bool.and_self] | split)
    refine ⟨?_, _, rfl⟩
    rw [List.take_of_length_le (by simp [layA, layN_len]), lay_all, List.take_length]
end Go.Proofs.Yteidffcimidinaa

/- Types, part 7: the examples of the chapter. -/
namespace Go.Proofs.Yteidffcimidinaa
open Go Go.Ax
set_option maxRecDepth 100000
set_option linter.unusedSimpArgs false
set_option linter.unusedVariables false

theorem indexFuncF (fs : List Fd) (p : Fd → Bool) (f : FuncId) (fa fb : List AV) (H : AHeap) (hl : (fs.length : Int) < 9223372036854775807) (hp : ∀ r, Comp' f (fa ++ .agg (fdR r) :: fb) H (bool (p r))) :
    Comp' 77 [.sl 4 (fs.map fdR), .fn (.func f) fa fb] H (int (idxI (fs.findIdx? p))) := by
  refine enter Try.func77 L77_ok (Nat.le_of_ble_eq_true rfl) ?_
  simp -implicitDefEqProofs (disch := omega) only [L77, push_cast, ↓reduceIte, Nat.reduceEqDiff, reduceCtorEq, Nat.reduceAdd, Nat.reduceSub, Nat.reduceMul, Nat.reduceLeDiff, Nat.reduceLT, Nat.reduceMod, Nat.reduceDiv, Int.reduceToNat, Int.reduceLT, Int.reduceLE, Int.reduceEq, Int.reduceAdd, Int.reduceSub, Int.reduceNeg, Int.reduceMul, Bool.and_self]
  refine rk_loopS (fun (j : Nat) e' H' => e' 0 = .sl 4 (fs.map fdR) ∧ e' 1 = .fn (.func f) fa fb ∧ e' 7 = int fs.length ∧ e' 8 = int j ∧ H = H' ∧ j ≤ fs.length ∧ ∀ i, i < j → p (fs.getD i default) = false) (fun j => fs.length - j) 0 ?_ ?_
  · exact ⟨rfl, rfl, rfl, rfl, rfl, Nat.zero_le _, by simp⟩
  rintro j e' H' ⟨h0, h1, h7, h8, rfl, hj, hr⟩
  have hrow : ∀ r : Fd, (fdR r).take 4 = fdR r := fun r => rfl
  have hlen : ∀ r : Fd, (fdR r).length = 4 := fun r => rfl
  by_cases hlt : j < fs.length
  · by_cases hf : p (fs.getD j default) = true
    · repeat' (first | (refine And.intro (by omega) ?_) | (refine callF_pure (hp _) ?_) | (refine callQF_pure (hp _) (by first | rfl | simp only [h0, h1, h7, h8, rows_getD, hrow, hlen, hf, push_cast, ↓reduceIte, Nat.reduceEqDiff]) ?_) | simp -implicitDefEqProofs (disch := omega) only [h0, h1, h7, h8, rows_getD, hrow, hlen, hf, dT_lt, dF_lt, dT_le, dF_le, dT_eq, dF_eq, push_cast, ↓reduceIte, Nat.reduceEqDiff, reduceCtorEq, Nat.reduceAdd, Nat.reduceSub, Nat.reduceMul, Nat.reduceLeDiff, Nat.reduceLT, Nat.reduceMod, Nat.reduceDiv, Int.reduceToNat, Int.reduceLT, Int.reduceLE, Int.reduceEq, Int.reduceAdd, Int.reduceSub, Int.reduceNeg, Int.reduceMul, Bool.and_self] | split)
      rw [show fs.findIdx? p = some j from find_some hlt hf hr]; rfl
    · have hf' := Bool.eq_false_iff.2 hf
      repeat' (first | (refine And.intro (by omega) ?_) | (refine callF_pure (hp _) ?_) | (refine callQF_pure (hp _) (by first | rfl | simp only [h0, h1, h7, h8, rows_getD, hrow, hlen, hf', push_cast, ↓reduceIte, Nat.reduceEqDiff]) ?_) | simp -implicitDefEqProofs (disch := omega) only [h0, h1, h7, h8, rows_getD, hrow, hlen, hf', dT_lt, dF_lt, dT_le, dF_le, dT_eq, dF_eq, push_cast, ↓reduceIte, Nat.reduceEqDiff, reduceCtorEq, Nat.reduceAdd, Nat.reduceSub, Nat.reduceMul, Nat.reduceLeDiff, Nat.reduceLT, Nat.reduceMod, Nat.reduceDiv, Int.reduceToNat, Int.reduceLT, Int.reduceLE, Int.reduceEq, Int.reduceAdd, Int.reduceSub, Int.reduceNeg, Int.reduceMul, Bool.and_self] | split)
      exact .mk (j + 1) ⟨h0, h1, h7, rfl, rfl, hlt, upto_succ hr hf'⟩ (by omega)
  · repeat' (first | (refine And.intro (by omega) ?_) | simp -implicitDefEqProofs (disch := omega) only [h0, h1, h7, h8, dT_lt, dF_lt, dT_le, dF_le, dT_eq, dF_eq, push_cast, ↓reduceIte, Nat.reduceEqDiff, reduceCtorEq, Nat.reduceAdd, Nat.reduceSub, Nat.reduceMul, Nat.reduceLeDiff, Nat.reduceLT, Nat.reduceMod, Nat.reduceDiv, Int.reduceToNat, Int.reduceLT, Int.reduceLE, Int.reduceEq, Int.reduceAdd, Int.reduceSub, Int.reduceNeg, Int.reduceMul, Bool.and_self] | split)
    rw [show fs.findIdx? p = none from find_none fun i hi => hr i (by omega)]; rfl
theorem memberC (r : Fd) (nm : List UInt8) (q : Nat) (H : AHeap) (hq : H[q]? = some (.box [str nm])) : Comp' 78 [.agg (fdR r), .ptr q 0 0] H (bool (decide (r.name = nm))) := by
  refine ACall.drop (R := fun x => x = bool (decide (r.name = nm))) ?_
  refine enter Try.func78 L78_ok (Nat.le_of_ble_eq_true rfl) ?_
  have hq' : ∀ l, (H ++ l)[q]? = some (.box [str nm]) := fun l => get_app hq
  repeat' (first | (refine And.intro (by omega) ?_) | simp -implicitDefEqProofs (disch := omega) only [L78, fdR, hq', dT_lt, dF_lt, dT_le, dF_le, dT_eq, dF_eq, push_cast, ↓reduceIte, Nat.reduceEqDiff, reduceCtorEq, Nat.reduceAdd, Nat.reduceSub, Nat.reduceMul, Nat.reduceLeDiff, Nat.reduceLT, Nat.reduceMod, Nat.reduceDiv, Int.reduceToNat, Int.reduceLT, Int.reduceLE, Int.reduceEq, Int.reduceAdd, Int.reduceSub, Int.reduceNeg, Int.reduceMul, Bool.and_self] | split)
  exact ⟨_, rfl⟩

def pnt : Rc := ⟨[112, 111, 105, 110, 116], [⟨[112, 120], tyI⟩, ⟨[112, 98], tyB⟩]⟩
theorem point (H : AHeap) : Comp' 29 [] H (.sl 2 ([pnt].map rcR)) := by
  refine ACall.drop (R := fun x => x = .sl 2 ([pnt].map rcR)) ?_
  refine enter Try.func29 L29_ok (Nat.le_of_ble_eq_true rfl) ?_
  repeat' (first | (refine And.intro (by omega) ?_) | simp -implicitDefEqProofs (disch := omega) only [L29, splice, dT_lt, dF_lt, dT_le, dF_le, dT_eq, dF_eq, push_cast, ↓reduceIte, Nat.reduceEqDiff, reduceCtorEq, Nat.reduceAdd, Nat.reduceSub, Nat.reduceMul, Nat.reduceLeDiff, Nat.reduceLT, Nat.reduceMod, Nat.reduceDiv, Int.reduceToNat, Int.reduceLT, Int.reduceLE, Int.reduceEq, Int.reduceAdd, Int.reduceSub, Int.reduceNeg, Int.reduceMul, Bool.and_self] | split)
  exact ⟨rfl, _, rfl⟩
theorem member (H : AHeap) : Comp' 30 [.sl 2 ([pnt].map rcR), str [112, 98]] H (.tup [str [112, 111, 105, 110, 116], int 1, .agg (tyR tyB), bool true]) := by
  refine ACall.drop (R := fun x => x = .tup [str [112, 111, 105, 110, 116], int 1, .agg (tyR tyB), bool true]) ?_
  refine enter Try.func30 L30_ok (Nat.le_of_ble_eq_true rfl) ?_
  repeat' (first | (refine And.intro (by omega) ?_) | simp -implicitDefEqProofs (disch := omega) only [L30, dT_lt, dF_lt, dT_le, dF_le, dT_eq, dF_eq, push_cast, ↓reduceIte, Nat.reduceEqDiff, reduceCtorEq, Nat.reduceAdd, Nat.reduceSub, Nat.reduceMul, Nat.reduceLeDiff, Nat.reduceLT, Nat.reduceMod, Nat.reduceDiv, Int.reduceToNat, Int.reduceLT, Int.reduceLE, Int.reduceEq, Int.reduceAdd, Int.reduceSub, Int.reduceNeg, Int.reduceMul, Bool.and_self] | split)
  refine rk_loopS (fun (j : Nat) e' H' => e' 3 = .ptr H.length 0 0 ∧ e' 6 = .ptr (H.length + 1) 0 0 ∧ e' 11 = .sl 2 ([pnt].map rcR) ∧ e' 12 = int 1 ∧ e' 13 = int 0 ∧ H' = H ++ [.box [str [112, 98]], .box [int 0, int 0, str []]]) (fun j => 0) 0 ?_ ?_
  · exact ⟨rfl, rfl, rfl, rfl, rfl, rfl⟩
  rintro j e' H' ⟨h3, h6, h11, h12, h13, rfl⟩
  have hfi : pnt.fields.findIdx? (fun r => decide (r.name = [112, 98])) = some 1 := rfl
  repeat' (first | (refine And.intro (by omega) ?_) | (refine callF_pure (indexFuncF pnt.fields (fun r => decide (r.name = [112, 98])) 78 [] [.ptr H.length 0 0] _ (by decide) (fun r => memberC r _ _ _ (by simp))) ?_) | (refine callQF_pure (indexFuncF pnt.fields (fun r => decide (r.name = [112, 98])) 78 [] [.ptr H.length 0 0] _ (by decide) (fun r => memberC r _ _ _ (by simp))) (by first | rfl | simp only [h3, h6, h11, h12, h13, rcR, splice, hfi, idxI, push_cast, ↓reduceIte, Nat.reduceEqDiff]) ?_) | simp -implicitDefEqProofs (disch := omega) only [h3, h6, h11, h12, h13, rcR, splice, hfi, idxI, dT_lt, dF_lt, dT_le, dF_le, dT_eq, dF_eq, push_cast, ↓reduceIte, Nat.reduceEqDiff, reduceCtorEq, Nat.reduceAdd, Nat.reduceSub, Nat.reduceMul, Nat.reduceLeDiff, Nat.reduceLT, Nat.reduceMod, Nat.reduceDiv, Int.reduceToNat, Int.reduceLT, Int.reduceLE, Int.reduceEq, Int.reduceAdd, Int.reduceSub, Int.reduceNeg, Int.reduceMul, Bool.and_self] | split)
  exact ⟨by decide, by decide, ⟨rfl, rfl⟩, by decide, rfl, rfl, _, rfl⟩

abbrev tyA : Ty := ⟨3, 2, []⟩
abbrev tyP : Ty := ⟨4, 0, [112, 111, 105, 110, 116]⟩
abbrev vrX : Vr := ⟨[120], tyB, 0, 0, false, false⟩
abbrev vrA : Vr := ⟨[97], tyA, 0, 0, false, false⟩
abbrev vrP : Vr := ⟨[112], tyP, 0, 0, false, false⟩
theorem few_pnt : Few [pnt] := ⟨by decide, by simp [pnt]⟩
theorem lay_pnt : layV [pnt] [vrX, vrA, vrP] = .tup [.sl 8 ([{ vrX with slot := 0 }, { vrA with slot := 1 }, { vrP with slot := 3 }].map vrR), int 5] := by kernel_rfl
theorem scal_pnt : scalV [pnt] [tyA, tyP] = .sl 3 ([tyI, tyI, tyI, tyB].map tyR) := by kernel_rfl
theorem fmt_A : formatF tyA = [105, 110, 116, 91, 50, 93] := by kernel_rfl
theorem awakeT (H : AHeap) : Comp' 9 [] H (bool true) := by
  refine ACall.drop (R := fun x => x = bool true) ?_
  refine enter Try.func9 L9_ok (Nat.le_of_ble_eq_true rfl) ?_
  repeat' (first | (refine And.intro (by omega) ?_) | (refine callF_pure (point _) ?_) | (refine callF_pure (layout [pnt] [vrX, vrA, vrP] _ few_pnt (by decide) (by simp)) ?_) | (refine callF_pure (member _) ?_) | (refine callF_pure (scalars [pnt] [tyA, tyP] _ few_pnt (by decide)) ?_) | (refine callF_pure (equalR [tyI, tyI, tyI, tyB] [tyI, tyI, tyI, tyB] _ (by decide) (by decide)) ?_) | (refine callF_pure (format tyA (by decide) _) ?_) | (refine callQF_pure (point _) (by first | rfl | simp only [L9, splice, lay_pnt, scal_pnt, fmt_A, kEqI, kEqS, tyR, vrR, tyI, tyB, push_cast, ↓reduceIte, Nat.reduceEqDiff]) ?_) | (refine callQF_pure (layout [pnt] [vrX, vrA, vrP] _ few_pnt (by decide) (by simp)) (by first | rfl | simp only [L9, splice, lay_pnt, scal_pnt, fmt_A, kEqI, kEqS, tyR, vrR, tyI, tyB, push_cast, ↓reduceIte, Nat.reduceEqDiff]) ?_) | (refine callQF_pure (member _) (by first | rfl | simp only [L9, splice, lay_pnt, scal_pnt, fmt_A, kEqI, kEqS, tyR, vrR, tyI, tyB, push_cast, ↓reduceIte, Nat.reduceEqDiff]) ?_) | (refine callQF_pure (scalars [pnt] [tyA, tyP] _ few_pnt (by decide)) (by first | rfl | simp only [L9, splice, lay_pnt, scal_pnt, fmt_A, kEqI, kEqS, tyR, vrR, tyI, tyB, push_cast, ↓reduceIte, Nat.reduceEqDiff]) ?_) | (refine callQF_pure (equalR [tyI, tyI, tyI, tyB] [tyI, tyI, tyI, tyB] _ (by decide) (by decide)) (by first | rfl | simp only [L9, splice, lay_pnt, scal_pnt, fmt_A, kEqI, kEqS, tyR, vrR, tyI, tyB, push_cast, ↓reduceIte, Nat.reduceEqDiff]) ?_) | (refine callQF_pure (format tyA (by decide) _) (by first | rfl | simp only [L9, splice, lay_pnt, scal_pnt, fmt_A, kEqI, kEqS, tyR, vrR, tyI, tyB, push_cast, ↓reduceIte, Nat.reduceEqDiff]) ?_) | simp -implicitDefEqProofs (disch := omega) only [L9, splice, lay_pnt, scal_pnt, fmt_A, kEqI, kEqS, tyR, vrR, tyI, tyB, dT_lt, dF_lt, dT_le, dF_le, dT_eq, dF_eq, push_cast, ↓reduceIte, Nat.reduceEqDiff, reduceCtorEq, Nat.reduceAdd, Nat.reduceSub, Nat.reduceMul, Nat.reduceLeDiff, Nat.reduceLT, Nat.reduceMod, Nat.reduceDiv, Int.reduceToNat, Int.reduceLT, Int.reduceLE, Int.reduceEq, Int.reduceAdd, Int.reduceSub, Int.reduceNeg, Int.reduceMul, Bool.and_self] | split)
  exact ⟨_, rfl⟩
end Go.Proofs.Yteidffcimidinaa

/- Types, part 8: the statements' functions. -/
namespace Go.Proofs.Yteidffcimidinaa
open Go Go.Ax
set_option maxRecDepth 100000
set_option linter.unusedSimpArgs false
set_option linter.unusedVariables false

theorem few_of {rs : List Rc} (h : fewF rs = true) : Few rs := ⟨(fewF_iff.1 h).1, (fewF_iff.1 h).2⟩

end Go.Proofs.Yteidffcimidinaa

/- TypesWritten: the law. -/
namespace Go.Proofs.Yteidffcimidinaa
open Go Go.Ax
set_option maxRecDepth 100000
set_option linter.unusedSimpArgs false
set_option linter.unusedVariables false

/-- The type's node in what the parser reads. -/
structure LawP (t : Ty) (r m : Nd) : Prop where
  parse : ∀ H, Comp' 10 [str (lawS (formatF t))] H (.tup [.agg (ndR r), .sl 5 [], int 0])
  get : getL r [0, 0, 0, 0] = some m
  sml : Sml r
  text : m.text.length ≤ 16
  raw : rawF m.kind m.text = t
  len : (formatF t).length ≤ 16
theorem fix_sml (kd : Int) (w : List UInt8) (n : Nat) (hw : w.length ≤ 16) : Sml (fixN kd w n) := by
  unfold Sml fixN
  simp only [bulk_nd, Nd.text, Nd.kids, List.map_cons, List.map_nil, bulkRR, List.length_cons, List.length_nil]
  omega
theorem fix_get (kd : Int) (w : List UInt8) (n : Nat) : getL (fixN kd w n) [0, 0, 0, 0] = some (.mk kd w 10 (10 + n) []) := rfl
theorem comp_ext {f : FuncId} {args : List AV} {x : AV} (h : ∀ H, Comp f args H x) (H : AHeap) : Comp' f args H x :=
  h H
theorem law_parse (t : Ty) (rs : List Rc) (hv : validF t rs = true) (hn : t.k = 4 → isName t.rc = true) : ∃ r m : Nd, LawP t r m := by
  obtain ⟨k, len, rc⟩ := t
  by_cases h4 : k = 4
  · subst h4
    have hnm := hn rfl
    have hl0 : len = 0 := by
      simp only [validF] at hv
      simp at hv
      exact hv.1
    subst hl0
    have hf : formatF ⟨4, 0, rc⟩ = rc := rfl
    obtain ⟨h1, h2, h3, h4, h5⟩ := name_all hnm
    have h5 : rc.length ≤ 16 := h5
    have h4 : isK rc = false := h4
    refine ⟨rootN (lawS rc) (scanF (lawS rc)) rc, .mk 9 rc _ _ [], fun H => ?_, rfl, ?_, h5, ?_, h5⟩
    · rw [hf]; exact lawRec hnm H
    · unfold Sml rootN procN parN
      simp only [bulk_nd, Nd.text, Nd.kids, List.map_cons, List.map_nil, bulkRR, List.length_cons, List.length_nil]
      omega
    · have kb : ¬ rc = [98, 111, 111, 108] := fun e => by rw [e] at h4; revert h4; decide
      have ki : ¬ rc = [105, 110, 116] := fun e => by rw [e] at h4; revert h4; decide
      show rawF 9 rc = _
      unfold rawF
      rw [if_neg (by decide), if_pos rfl, if_neg ki, if_neg kb]
  · have hc : (k = 1 ∧ len = 0 ∧ rc = []) ∨ (k = 2 ∧ len = 0 ∧ rc = []) ∨ (k = 3 ∧ 1 ≤ len ∧ len ≤ 8 ∧ rc = []) := by
      by_cases h1 : k = 1
      · exact .inl ⟨h1, by simpa [validF, h1] using hv⟩
      · by_cases h2 : k = 2
        · exact .inr (.inl ⟨h2, by simpa [validF, h2] using hv⟩)
        · by_cases h3 : k = 3
          · exact .inr (.inr ⟨h3, by simpa [validF, h3, and_assoc] using hv⟩)
          · simp [validF, h1, h2, h3, h4] at hv
    rcases hc with ⟨rfl, rfl, rfl⟩ | ⟨rfl, rfl, rfl⟩ | ⟨rfl, h1, h8, rfl⟩
    · exact ⟨_, _, comp_ext fix0, fix_get _ _ _, fix_sml _ _ _ (by decide), by decide, rfl, by decide⟩
    · exact ⟨_, _, comp_ext fix1, fix_get _ _ _, fix_sml _ _ _ (by decide), by decide, rfl, by decide⟩
    · have hc : len = 1 ∨ len = 2 ∨ len = 3 ∨ len = 4 ∨ len = 5 ∨ len = 6 ∨ len = 7 ∨ len = 8 := by omega
      rcases hc with rfl | rfl | rfl | rfl | rfl | rfl | rfl | rfl
      · exact ⟨_, _, comp_ext fix2, fix_get _ _ _, fix_sml _ _ _ (by decide), by decide, rfl, by decide⟩
      · exact ⟨_, _, comp_ext fix3, fix_get _ _ _, fix_sml _ _ _ (by decide), by decide, rfl, by decide⟩
      · exact ⟨_, _, comp_ext fix4, fix_get _ _ _, fix_sml _ _ _ (by decide), by decide, rfl, by decide⟩
      · exact ⟨_, _, comp_ext fix5, fix_get _ _ _, fix_sml _ _ _ (by decide), by decide, rfl, by decide⟩
      · exact ⟨_, _, comp_ext fix6, fix_get _ _ _, fix_sml _ _ _ (by decide), by decide, rfl, by decide⟩
      · exact ⟨_, _, comp_ext fix7, fix_get _ _ _, fix_sml _ _ _ (by decide), by decide, rfl, by decide⟩
      · exact ⟨_, _, comp_ext fix8, fix_get _ _ _, fix_sml _ _ _ (by decide), by decide, rfl, by decide⟩
      · exact ⟨_, _, comp_ext fix9, fix_get _ _ _, fix_sml _ _ _ (by decide), by decide, rfl, by decide⟩
theorem valid_len {t : Ty} {rs : List Rc} (hv : validF t rs = true) : t.len ≤ 9223372036854775807 := by
  unfold validF at hv
  split at hv
  · simp at hv; omega
  · split at hv
    · simp at hv; omega
    · split at hv
      · simp at hv; omega
      · simp at hv
theorem nameAny (s : List UInt8) (hs : big s.length) (H : AHeap) : Comp' 8 [str s] H (bool (isName s)) := by
  by_cases h : s.length ≤ 16
  · exact comp_ext (fun H => nameR s H (by omega)) H
  · have e : isName s = false := Bool.eq_false_iff.2 fun hh => h (isName_iff.1 hh).2.1
    rw [e]
    refine ACall.drop (R := fun x => x = bool false) ?_
    refine enter Try.func8 L8_ok (Nat.le_of_ble_eq_true rfl) ?_
    unfold big at hs
    repeat' (first | (refine And.intro (by omega) ?_) | simp -implicitDefEqProofs (disch := omega) only [L8, dT_lt, dF_lt, dT_le, dF_le, dT_eq, dF_eq, push_cast, ↓reduceIte, Nat.reduceEqDiff, reduceCtorEq, Nat.reduceAdd, Nat.reduceSub, Nat.reduceMul, Nat.reduceLeDiff, Nat.reduceLT, Nat.reduceMod, Nat.reduceDiv, Int.reduceToNat, Int.reduceLT, Int.reduceLE, Int.reduceEq, Int.reduceAdd, Int.reduceSub, Int.reduceNeg, Int.reduceMul, Bool.and_self] | split)
    exact ⟨[], (List.append_nil _).symm⟩
theorem typesWritten (t : Ty) (rs : List Rc) (hrl : rs.length ≤ 9223372036854775807) (hrc : big t.rc.length) (H : AHeap) :
    Comp' 3 [.agg (tyR t), .sl 2 (rs.map rcR)] H (bool true) := by
  refine ACall.drop (R := fun x => x = bool true) ?_
  refine enter Try.func3 L3_ok (Nat.le_of_ble_eq_true rfl) ?_
  have cf := fun H => few rs H hrl
  have cn := fun H => nameAny t.rc hrc H
  by_cases hf : fewF rs = true
  · rw [hf] at cf
    have hlen : (rs.length : Int) < 9223372036854775807 := by have := (few_of hf).len; omega
    have cv := fun H => valid t rs H hlen
    cases hv : validF t rs with
    | true =>
      rw [hv] at cv
      have main : (t.k = 4 → isName t.rc = true) → ∃ (s : List UInt8) (r1 r2 r3 : Int) (rt : List UInt8) (rk : List (List AV)) (m1 m2 m3 : Int) (mt : List UInt8) (mk : List (List AV)), s.length ≤ 16 ∧ (∀ H, Comp' 11 [.agg (tyR t)] H (str s)) ∧
          (∀ H, Comp' 10 [str (112 :: 114 :: 111 :: 99 :: 32 :: 102 :: 40 :: 120 :: 58 :: 32 :: (s ++ [41, 32, 123, 32, 125]))] H (.tup [.agg [int r1, str rt, int r2, int r3, .sl 5 rk], .sl 5 [], int 0])) ∧
          (∀ H, Comp' 12 [.agg [int r1, str rt, int r2, int r3, .sl 5 rk], .sl 1 [[int 0], [int 0], [int 0], [int 0]]] H (.tup [.agg [int m1, str mt, int m2, int m3, .sl 5 mk], bool true])) ∧
          (∀ H, Comp' 13 [.agg [int m1, str mt, int m2, int m3, .sl 5 mk], .sl 2 (rs.map rcR)] H (.tup [.agg (tyR t), bool true])) := by
        intro hn
        obtain ⟨r, m, p1, p2, p3, p4, p5, p6⟩ := law_parse t rs hv hn
        have hfm := fun H => format t (valid_len hv) H
        have hg := fun H => getR r [0, 0, 0, 0] p3 (by decide) H
        rw [p2] at hg
        have hw := fun H => writT m rs (by omega) hlen H
        rw [show writV m rs = .tup [.agg (tyR t), bool true] from writV_ok p5 hv] at hw
        obtain ⟨rk, rt, ra, re, rks⟩ := r
        obtain ⟨mk, mt, ma, me, mks⟩ := m
        exact ⟨_, _, _, _, _, _, _, _, _, _, _, p6, hfm, p1, hg, hw⟩
      obtain ⟨k, len, rc⟩ := t
      simp only at main cn
      by_cases h4 : k = 4
      · by_cases hn : isName rc = true
        · obtain ⟨s, r1, r2, r3, rt, rk, m1, m2, m3, mt, mk, q0, q1, q2, q3, q4⟩ := main fun _ => hn
          rw [hn] at cn
          simp only [tyR] at cv q1 q4
          repeat' (first | (refine And.intro (by omega) ?_) | (refine callF_pure (cf _) ?_) | (refine callF_pure (cv _) ?_) | (refine callF_pure (cn _) ?_) | (refine callF_pure (q1 _) ?_) | (refine callF_pure (q2 _) ?_) | (refine callF_pure (q3 _) ?_) | (refine callF_pure (q4 _) ?_) | (refine callF_pure (awakeT _) ?_) | (refine callQF_pure (cf _) (by first | rfl | simp only [L3, tyR, push_cast, ↓reduceIte, Nat.reduceEqDiff]) ?_) | (refine callQF_pure (cv _) (by first | rfl | simp only [L3, tyR, push_cast, ↓reduceIte, Nat.reduceEqDiff]) ?_) | (refine callQF_pure (cn _) (by first | rfl | simp only [L3, tyR, push_cast, ↓reduceIte, Nat.reduceEqDiff]) ?_) | (refine callQF_pure (q1 _) (by first | rfl | simp only [L3, tyR, push_cast, ↓reduceIte, Nat.reduceEqDiff]) ?_) | (refine callQF_pure (q2 _) (by first | rfl | simp only [L3, tyR, push_cast, ↓reduceIte, Nat.reduceEqDiff]) ?_) | (refine callQF_pure (q3 _) (by first | rfl | simp only [L3, tyR, push_cast, ↓reduceIte, Nat.reduceEqDiff]) ?_) | (refine callQF_pure (q4 _) (by first | rfl | simp only [L3, tyR, push_cast, ↓reduceIte, Nat.reduceEqDiff]) ?_) | (refine callQF_pure (awakeT _) (by first | rfl | simp only [L3, tyR, push_cast, ↓reduceIte, Nat.reduceEqDiff]) ?_) | simp -implicitDefEqProofs (disch := omega) only [L3, tyR, dT_lt, dF_lt, dT_le, dF_le, dT_eq, dF_eq, push_cast, ↓reduceIte, Nat.reduceEqDiff, reduceCtorEq, Nat.reduceAdd, Nat.reduceSub, Nat.reduceMul, Nat.reduceLeDiff, Nat.reduceLT, Nat.reduceMod, Nat.reduceDiv, Int.reduceToNat, Int.reduceLT, Int.reduceLE, Int.reduceEq, Int.reduceAdd, Int.reduceSub, Int.reduceNeg, Int.reduceMul, Bool.and_self] | split)
          all_goals first | exact ⟨_, rfl⟩ | exact ⟨rfl, _, rfl⟩ | (exfalso; simp_all [kEq, kEqI, kEqS]; done)
        · rw [Bool.eq_false_iff.2 hn] at cn
          simp only [tyR] at cv
          repeat' (first | (refine And.intro (by omega) ?_) | (refine callF_pure (cf _) ?_) | (refine callF_pure (cv _) ?_) | (refine callF_pure (cn _) ?_) | (refine callF_pure (awakeT _) ?_) | (refine callQF_pure (cf _) (by first | rfl | simp only [L3, tyR, push_cast, ↓reduceIte, Nat.reduceEqDiff]) ?_) | (refine callQF_pure (cv _) (by first | rfl | simp only [L3, tyR, push_cast, ↓reduceIte, Nat.reduceEqDiff]) ?_) | (refine callQF_pure (cn _) (by first | rfl | simp only [L3, tyR, push_cast, ↓reduceIte, Nat.reduceEqDiff]) ?_) | (refine callQF_pure (awakeT _) (by first | rfl | simp only [L3, tyR, push_cast, ↓reduceIte, Nat.reduceEqDiff]) ?_) | simp -implicitDefEqProofs (disch := omega) only [L3, tyR, dT_lt, dF_lt, dT_le, dF_le, dT_eq, dF_eq, push_cast, ↓reduceIte, Nat.reduceEqDiff, reduceCtorEq, Nat.reduceAdd, Nat.reduceSub, Nat.reduceMul, Nat.reduceLeDiff, Nat.reduceLT, Nat.reduceMod, Nat.reduceDiv, Int.reduceToNat, Int.reduceLT, Int.reduceLE, Int.reduceEq, Int.reduceAdd, Int.reduceSub, Int.reduceNeg, Int.reduceMul, Bool.and_self] | split)
          all_goals first | exact ⟨_, rfl⟩ | exact ⟨rfl, _, rfl⟩ | (exfalso; simp_all [kEq, kEqI, kEqS]; done)
      · obtain ⟨s, r1, r2, r3, rt, rk, m1, m2, m3, mt, mk, q0, q1, q2, q3, q4⟩ := main fun h => absurd h h4
        simp only [tyR] at cv q1 q4
        repeat' (first | (refine And.intro (by omega) ?_) | (refine callF_pure (cf _) ?_) | (refine callF_pure (cv _) ?_) | (refine callF_pure (q1 _) ?_) | (refine callF_pure (q2 _) ?_) | (refine callF_pure (q3 _) ?_) | (refine callF_pure (q4 _) ?_) | (refine callF_pure (awakeT _) ?_) | (refine callQF_pure (cf _) (by first | rfl | simp only [L3, tyR, push_cast, ↓reduceIte, Nat.reduceEqDiff]) ?_) | (refine callQF_pure (cv _) (by first | rfl | simp only [L3, tyR, push_cast, ↓reduceIte, Nat.reduceEqDiff]) ?_) | (refine callQF_pure (q1 _) (by first | rfl | simp only [L3, tyR, push_cast, ↓reduceIte, Nat.reduceEqDiff]) ?_) | (refine callQF_pure (q2 _) (by first | rfl | simp only [L3, tyR, push_cast, ↓reduceIte, Nat.reduceEqDiff]) ?_) | (refine callQF_pure (q3 _) (by first | rfl | simp only [L3, tyR, push_cast, ↓reduceIte, Nat.reduceEqDiff]) ?_) | (refine callQF_pure (q4 _) (by first | rfl | simp only [L3, tyR, push_cast, ↓reduceIte, Nat.reduceEqDiff]) ?_) | (refine callQF_pure (awakeT _) (by first | rfl | simp only [L3, tyR, push_cast, ↓reduceIte, Nat.reduceEqDiff]) ?_) | simp -implicitDefEqProofs (disch := omega) only [L3, tyR, dT_lt, dF_lt, dT_le, dF_le, dT_eq, dF_eq, push_cast, ↓reduceIte, Nat.reduceEqDiff, reduceCtorEq, Nat.reduceAdd, Nat.reduceSub, Nat.reduceMul, Nat.reduceLeDiff, Nat.reduceLT, Nat.reduceMod, Nat.reduceDiv, Int.reduceToNat, Int.reduceLT, Int.reduceLE, Int.reduceEq, Int.reduceAdd, Int.reduceSub, Int.reduceNeg, Int.reduceMul, Bool.and_self] | split)
        all_goals first | exact ⟨_, rfl⟩ | exact ⟨rfl, _, rfl⟩ | (exfalso; simp_all [kEq, kEqI, kEqS]; done)
    | false =>
      rw [hv] at cv
      simp only [tyR] at cv
      repeat' (first | (refine And.intro (by omega) ?_) | (refine callF_pure (cf _) ?_) | (refine callF_pure (cv _) ?_) | (refine callF_pure (awakeT _) ?_) | (refine callQF_pure (cf _) (by first | rfl | simp only [L3, tyR, push_cast, ↓reduceIte, Nat.reduceEqDiff]) ?_) | (refine callQF_pure (cv _) (by first | rfl | simp only [L3, tyR, push_cast, ↓reduceIte, Nat.reduceEqDiff]) ?_) | (refine callQF_pure (awakeT _) (by first | rfl | simp only [L3, tyR, push_cast, ↓reduceIte, Nat.reduceEqDiff]) ?_) | simp -implicitDefEqProofs (disch := omega) only [L3, tyR, dT_lt, dF_lt, dT_le, dF_le, dT_eq, dF_eq, push_cast, ↓reduceIte, Nat.reduceEqDiff, reduceCtorEq, Nat.reduceAdd, Nat.reduceSub, Nat.reduceMul, Nat.reduceLeDiff, Nat.reduceLT, Nat.reduceMod, Nat.reduceDiv, Int.reduceToNat, Int.reduceLT, Int.reduceLE, Int.reduceEq, Int.reduceAdd, Int.reduceSub, Int.reduceNeg, Int.reduceMul, Bool.and_self] | split)
      all_goals first | exact ⟨_, rfl⟩ | exact ⟨rfl, _, rfl⟩ | (exfalso; simp_all [kEq, kEqI, kEqS]; done)
  · rw [Bool.eq_false_iff.2 hf] at cf
    repeat' (first | (refine And.intro (by omega) ?_) | (refine callF_pure (cf _) ?_) | (refine callF_pure (awakeT _) ?_) | (refine callQF_pure (cf _) (by first | rfl | simp only [L3, tyR, push_cast, ↓reduceIte, Nat.reduceEqDiff]) ?_) | (refine callQF_pure (awakeT _) (by first | rfl | simp only [L3, tyR, push_cast, ↓reduceIte, Nat.reduceEqDiff]) ?_) | simp -implicitDefEqProofs (disch := omega) only [L3, tyR, dT_lt, dF_lt, dT_le, dF_le, dT_eq, dF_eq, push_cast, ↓reduceIte, Nat.reduceEqDiff, reduceCtorEq, Nat.reduceAdd, Nat.reduceSub, Nat.reduceMul, Nat.reduceLeDiff, Nat.reduceLT, Nat.reduceMod, Nat.reduceDiv, Int.reduceToNat, Int.reduceLT, Int.reduceLE, Int.reduceEq, Int.reduceAdd, Int.reduceSub, Int.reduceNeg, Int.reduceMul, Bool.and_self] | split)
    all_goals first | exact ⟨_, rfl⟩ | exact ⟨rfl, _, rfl⟩ | (exfalso; simp_all [kEq, kEqI, kEqS]; done)
end Go.Proofs.Yteidffcimidinaa
