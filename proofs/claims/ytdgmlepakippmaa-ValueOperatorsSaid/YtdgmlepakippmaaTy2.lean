/- Types, part 2: repetition, shapes, Valid. -/
import Derived.Test.YtdgmlepakippmaaTy1
namespace Go.Proofs.Ytdgmlepakippmaa
open Go Go.Ax
set_option maxRecDepth 100000
set_option linter.unusedSimpArgs false
set_option linter.unusedVariables false

abbrev u64 (n : Int) : AV := .v (.int .u64 n)
theorem mul64 (n : Nat) (h1 : 1 ≤ n) (h8 : n ≤ 8) (H : AHeap) : Comp' 118 [u64 1, u64 n] H (.tup [u64 0, u64 n]) := by
  refine enter Try.func118 L118_ok (Nat.le_of_ble_eq_true rfl) ?_
  have hn : n = 1 ∨ n = 2 ∨ n = 3 ∨ n = 4 ∨ n = 5 ∨ n = 6 ∨ n = 7 ∨ n = 8 := by omega
  rcases hn with rfl | rfl | rfl | rfl | rfl | rfl | rfl | rfl
  all_goals
    simp -implicitDefEqProofs (disch := omega) only [L118, push_cast, ↓reduceIte, Nat.reduceEqDiff, reduceCtorEq, Nat.reduceAdd, Nat.reduceSub, Nat.reduceMul, Nat.reduceLeDiff, Nat.reduceLT, Nat.reduceMod, Nat.reduceDiv, Int.reduceToNat, Int.reduceLT, Int.reduceLE, Int.reduceEq, Int.reduceAdd, Int.reduceSub, Int.reduceNeg, Int.reduceMul, Bool.and_self]
    refine congrArg (fun n : Int => AV.tup [u64 n, _]) ?_
    decide +kernel
theorem mulC (n : Nat) (h1 : 1 ≤ n) (h8 : n ≤ 8) (H : AHeap) : Comp' 111 [u64 1, u64 n] H (.tup [u64 0, u64 n]) := by
  refine enter Try.func111 L111_ok (Nat.le_of_ble_eq_true rfl) ?_
  repeat' (first | (refine And.intro (by omega) ?_) | (refine callF_pure (mul64 n h1 h8 _) ?_) | (refine callQF_pure (mul64 n h1 h8 _) rfl ?_) | simp -implicitDefEqProofs (disch := omega) only [L111, push_cast, ↓reduceIte, Nat.reduceEqDiff, reduceCtorEq, Nat.reduceAdd, Nat.reduceSub, Nat.reduceMul, Nat.reduceLeDiff, Nat.reduceLT, Nat.reduceMod, Nat.reduceDiv, Int.reduceToNat, Int.reduceLT, Int.reduceLE, Int.reduceEq, Int.reduceAdd, Int.reduceSub, Int.reduceNeg, Int.reduceMul, Bool.and_self] | split)

theorem rep_step {row : List AV} {xs : List (List AV)} {m n : Nat} (hl : xs.length = n) (hm : m ≤ n) (ht : xs.take m = List.replicate m row) :
    (xs.take m ++ (xs.take m).take (min m (n - m)) ++ xs.drop (m + min m (n - m))).length = n ∧ (xs.take m ++ (xs.take m).take (min m (n - m)) ++ xs.drop (m + min m (n - m))).take (m + min m (n - m)) = List.replicate (m + min m (n - m)) row := by
  refine ⟨by simp [hl]; omega, ?_⟩
  rw [ht, List.take_replicate, show min (min m (n - m)) m = min m (n - m) by omega, List.replicate_append_replicate]
  rw [List.take_left' (by simp)]

theorem repeatC (t : Ty) (n : Nat) (h1 : 1 ≤ n) (h8 : n ≤ 8) (H : AHeap) : Comp' 94 [.sl 3 [tyR t], int n] H (.sl 3 (List.replicate n (tyR t))) := by
  refine ACall.drop (R := fun x => x = .sl 3 (List.replicate n (tyR t))) ?_
  refine enter Try.func94 L94_ok (Nat.le_of_ble_eq_true rfl) ?_
  have w1 : IntKind.u64.wrap 1 = 1 := by decide
  have w2 : IntKind.u64.wrap n = n := wrapu64_of _ (by omega) (by omega)
  have hmin : min 1 n = 1 := by omega
  repeat' (first | (refine And.intro (by omega) ?_) | (refine callF_pure (mulC n h1 h8 _) ?_) | (refine callQF_pure (mulC n h1 h8 _) rfl ?_) | simp -implicitDefEqProofs (disch := omega) only [L94, w1, w2, hmin, dT_lt, dF_lt, dT_le, dF_le, dT_eq, dF_eq, push_cast, ↓reduceIte, Nat.reduceEqDiff, reduceCtorEq, Nat.reduceAdd, Nat.reduceSub, Nat.reduceMul, Nat.reduceLeDiff, Nat.reduceLT, Nat.reduceMod, Nat.reduceDiv, Int.reduceToNat, Int.reduceLT, Int.reduceLE, Int.reduceEq, Int.reduceAdd, Int.reduceSub, Int.reduceNeg, Int.reduceMul, Bool.and_self] | split)
  refine rk_loopS (fun (p : Nat × List (List AV)) e' H' => e' 7 = .os H.length 0 0 n ∧ e' 8 = int p.1 ∧ H' = H ++ [.arr 0 3 p.2] ∧ 1 ≤ p.1 ∧ p.1 ≤ n ∧ p.2.length = n ∧ p.2.take p.1 = List.replicate p.1 (tyR t)) (fun p => n - p.1) (1, tyR t :: List.drop 1 (List.replicate n [int 0, int 0, str []])) ?_ ?_
  · exact ⟨rfl, rfl, rfl, by omega, h1, by simp; omega, rfl⟩
  rintro ⟨m, xs⟩ e' H' ⟨h7, h8', rfl, hm1, hmn, hl, ht⟩
  simp only at h7 h8' hm1 hmn hl ht
  have hst := rep_step hl hmn ht
  by_cases hlt : m < n
  · have e1 : min (xs.take m).length (n - m) = min m (n - m) := by simp; omega
    rw [List.append_assoc] at hst
    repeat' (first | (refine And.intro (by omega) ?_) | simp -implicitDefEqProofs (disch := omega) only [h7, h8', osRows_eq, osRowsO_arr, Nat.zero_add, Nat.sub_zero, e1, dT_lt, dF_lt, dT_le, dF_le, dT_eq, dF_eq, push_cast, ↓reduceIte, Nat.reduceEqDiff, reduceCtorEq, Nat.reduceAdd, Nat.reduceSub, Nat.reduceMul, Nat.reduceLeDiff, Nat.reduceLT, Nat.reduceMod, Nat.reduceDiv, Int.reduceToNat, Int.reduceLT, Int.reduceLE, Int.reduceEq, Int.reduceAdd, Int.reduceSub, Int.reduceNeg, Int.reduceMul, Bool.and_self] | split)
    exact .mk (m + min m (n - m), _) ⟨h7, by simp [up], rfl, by simp only; omega, by simp only; omega, hst.1, hst.2⟩ (by simp only; omega)
  · repeat' (first | (refine And.intro (by omega) ?_) | simp -implicitDefEqProofs (disch := omega) only [h7, h8', dT_lt, dF_lt, dT_le, dF_le, dT_eq, dF_eq, push_cast, ↓reduceIte, Nat.reduceEqDiff, reduceCtorEq, Nat.reduceAdd, Nat.reduceSub, Nat.reduceMul, Nat.reduceLeDiff, Nat.reduceLT, Nat.reduceMod, Nat.reduceDiv, Int.reduceToNat, Int.reduceLT, Int.reduceLE, Int.reduceEq, Int.reduceAdd, Int.reduceSub, Int.reduceNeg, Int.reduceMul, Bool.and_self] | split)
    have : m = n := by omega
    subst this
    exact ⟨by rw [ht], _, rfl⟩

theorem shp4 (t : Ty) (rs : List Rc) (n : Nat) (hn : t.len = n) (h1 : 1 ≤ n) (h8 : n ≤ 8) (H : AHeap) : Comp' 93 [.agg (tyR t), .sl 2 (rs.map rcR)] H (.sl 3 (List.replicate n (tyR tyI))) := by
  refine ACall.drop (R := fun x => x = .sl 3 (List.replicate n (tyR tyI))) ?_
  refine enter Try.func93 L93_ok (Nat.le_of_ble_eq_true rfl) ?_
  repeat' (first | (refine And.intro (by omega) ?_) | (refine callF_pure (repeatC tyI n h1 h8 _) ?_) | (refine callQF_pure (repeatC tyI n h1 h8 _) rfl ?_) | simp -implicitDefEqProofs (disch := omega) only [L93, tyR, hn, dT_lt, dF_lt, dT_le, dF_le, dT_eq, dF_eq, push_cast, ↓reduceIte, Nat.reduceEqDiff, reduceCtorEq, Nat.reduceAdd, Nat.reduceSub, Nat.reduceMul, Nat.reduceLeDiff, Nat.reduceLT, Nat.reduceMod, Nat.reduceDiv, Int.reduceToNat, Int.reduceLT, Int.reduceLE, Int.reduceEq, Int.reduceAdd, Int.reduceSub, Int.reduceNeg, Int.reduceMul, Bool.and_self] | split)
  exact ⟨_, rfl⟩

def shpK : List Value := [.int .i64 1, .int .i64 2, .int .i64 3, .int .i64 4]
def shpX : List AV := [.agg [.fn (.func 90) [] [], .fn (.func 91) [] []], .agg [.fn (.func 90) [] [], .fn (.func 91) [] []], .agg [.fn (.func 92) [] [], .fn (.func 93) [] []], .agg [.fn (.func 95) [] [], .fn (.func 97) [] []]]
theorem shapes (H : AHeap) : Comp' 76 [] H (.mp shpK shpX) := by
  refine ACall.drop (R := fun x => x = .mp shpK shpX) ?_
  refine enter Try.func76 L76_ok (Nat.le_of_ble_eq_true rfl) ?_
  repeat' (first | (refine And.intro (by omega) ?_) | simp -implicitDefEqProofs (disch := omega) only [L76, dT_lt, dF_lt, dT_le, dF_le, dT_eq, dF_eq, push_cast, ↓reduceIte, Nat.reduceEqDiff, reduceCtorEq, Nat.reduceAdd, Nat.reduceSub, Nat.reduceMul, Nat.reduceLeDiff, Nat.reduceLT, Nat.reduceMod, Nat.reduceDiv, Int.reduceToNat, Int.reduceLT, Int.reduceLE, Int.reduceEq, Int.reduceAdd, Int.reduceSub, Int.reduceNeg, Int.reduceMul, Bool.and_self] | split)
  simp [kEq, shpK, shpX]
theorem shp_cmp (n : Int) : (∀ k' ∈ shpK, kCmp (.int .i64 n) k' = true) = True := by simp [shpK, kCmp]
theorem shp_1 : mget (.int .i64 1) shpK shpX = some (.agg [.fn (.func 90) [] [], .fn (.func 91) [] []]) := rfl
theorem shp_2 : mget (.int .i64 2) shpK shpX = some (.agg [.fn (.func 90) [] [], .fn (.func 91) [] []]) := rfl
theorem shp_3 : mget (.int .i64 3) shpK shpX = some (.agg [.fn (.func 92) [] [], .fn (.func 93) [] []]) := rfl
theorem shp_4 : mget (.int .i64 4) shpK shpX = some (.agg [.fn (.func 95) [] [], .fn (.func 97) [] []]) := rfl
theorem shp_no {k : Int} (h : k ≠ 1 ∧ k ≠ 2 ∧ k ≠ 3 ∧ k ≠ 4) : mget (.int .i64 k) shpK shpX = none := by
  simp [mget, shpK, shpX, kEq, h]

/-- Does a type exist? -/
def validF (t : Ty) (rs : List Rc) : Bool :=
  if t.k = 1 ∨ t.k = 2 then decide (t.len = 0) && decide (t.rc = [])
  else if t.k = 3 then decide (1 ≤ t.len) && decide (t.len ≤ 8) && decide (t.rc = [])
  else if t.k = 4 then decide (t.len = 0) && (idxF rs t.rc).isSome
  else false
theorem valid (t : Ty) (rs : List Rc) (H : AHeap) (hl : (rs.length : Int) < 9223372036854775807) : Comp' 44 [.agg (tyR t), .sl 2 (rs.map rcR)] H (bool (validF t rs)) := by
  refine ACall.drop (R := fun x => x = bool (validF t rs)) ?_
  refine enter Try.func44 L44_ok (Nat.le_of_ble_eq_true rfl) ?_
  obtain ⟨k, len, rc⟩ := t
  have hk : k = 1 ∨ k = 2 ∨ k = 3 ∨ k = 4 ∨ (k ≠ 1 ∧ k ≠ 2 ∧ k ≠ 3 ∧ k ≠ 4) := by omega
  rcases hk with rfl | rfl | rfl | rfl | hk
  · repeat' (first | (refine And.intro (by omega) ?_) | (refine callF_pure (shapes _) ?_) | (refine callF_pure (shp1 ⟨1, len, rc⟩ rs _) ?_) | (refine callQF_pure (shapes _) rfl ?_) | (refine callQF_pure (shp1 ⟨1, len, rc⟩ rs _) rfl ?_) | simp -implicitDefEqProofs (disch := omega) only [L44, tyR, shp_1, shp_cmp, lookV, dT_lt, dF_lt, dT_le, dF_le, dT_eq, dF_eq, push_cast, ↓reduceIte, Nat.reduceEqDiff, reduceCtorEq, Nat.reduceAdd, Nat.reduceSub, Nat.reduceMul, Nat.reduceLeDiff, Nat.reduceLT, Nat.reduceMod, Nat.reduceDiv, Int.reduceToNat, Int.reduceLT, Int.reduceLE, Int.reduceEq, Int.reduceAdd, Int.reduceSub, Int.reduceNeg, Int.reduceMul, Bool.and_self] | split)
    exact ⟨rfl, _, rfl⟩
  · repeat' (first | (refine And.intro (by omega) ?_) | (refine callF_pure (shapes _) ?_) | (refine callF_pure (shp1 ⟨2, len, rc⟩ rs _) ?_) | (refine callQF_pure (shapes _) rfl ?_) | (refine callQF_pure (shp1 ⟨2, len, rc⟩ rs _) rfl ?_) | simp -implicitDefEqProofs (disch := omega) only [L44, tyR, shp_2, shp_cmp, lookV, dT_lt, dF_lt, dT_le, dF_le, dT_eq, dF_eq, push_cast, ↓reduceIte, Nat.reduceEqDiff, reduceCtorEq, Nat.reduceAdd, Nat.reduceSub, Nat.reduceMul, Nat.reduceLeDiff, Nat.reduceLT, Nat.reduceMod, Nat.reduceDiv, Int.reduceToNat, Int.reduceLT, Int.reduceLE, Int.reduceEq, Int.reduceAdd, Int.reduceSub, Int.reduceNeg, Int.reduceMul, Bool.and_self] | split)
    exact ⟨rfl, _, rfl⟩
  · repeat' (first | (refine And.intro (by omega) ?_) | (refine callF_pure (shapes _) ?_) | (refine callF_pure (shp3 ⟨3, len, rc⟩ rs _) ?_) | (refine callQF_pure (shapes _) rfl ?_) | (refine callQF_pure (shp3 ⟨3, len, rc⟩ rs _) rfl ?_) | simp -implicitDefEqProofs (disch := omega) only [L44, tyR, shp_3, shp_cmp, lookV, dT_lt, dF_lt, dT_le, dF_le, dT_eq, dF_eq, push_cast, ↓reduceIte, Nat.reduceEqDiff, reduceCtorEq, Nat.reduceAdd, Nat.reduceSub, Nat.reduceMul, Nat.reduceLeDiff, Nat.reduceLT, Nat.reduceMod, Nat.reduceDiv, Int.reduceToNat, Int.reduceLT, Int.reduceLE, Int.reduceEq, Int.reduceAdd, Int.reduceSub, Int.reduceNeg, Int.reduceMul, Bool.and_self] | split)
    exact ⟨rfl, _, rfl⟩
  · repeat' (first | (refine And.intro (by omega) ?_) | (refine callF_pure (shapes _) ?_) | (refine callF_pure (shp5 ⟨4, len, rc⟩ rs _ hl) ?_) | (refine callQF_pure (shapes _) rfl ?_) | (refine callQF_pure (shp5 ⟨4, len, rc⟩ rs _ hl) rfl ?_) | simp -implicitDefEqProofs (disch := omega) only [L44, tyR, shp_4, shp_cmp, lookV, dT_lt, dF_lt, dT_le, dF_le, dT_eq, dF_eq, push_cast, ↓reduceIte, Nat.reduceEqDiff, reduceCtorEq, Nat.reduceAdd, Nat.reduceSub, Nat.reduceMul, Nat.reduceLeDiff, Nat.reduceLT, Nat.reduceMod, Nat.reduceDiv, Int.reduceToNat, Int.reduceLT, Int.reduceLE, Int.reduceEq, Int.reduceAdd, Int.reduceSub, Int.reduceNeg, Int.reduceMul, Bool.and_self] | split)
    exact ⟨rfl, _, rfl⟩
  · repeat' (first | (refine And.intro (by omega) ?_) | (refine callF_pure (shapes _) ?_) | (refine callQF_pure (shapes _) rfl ?_) | simp -implicitDefEqProofs (disch := omega) only [L44, tyR, shp_no hk, shp_cmp, lookV, dT_lt, dF_lt, dT_le, dF_le, dT_eq, dF_eq, push_cast, ↓reduceIte, Nat.reduceEqDiff, reduceCtorEq, Nat.reduceAdd, Nat.reduceSub, Nat.reduceMul, Nat.reduceLeDiff, Nat.reduceLT, Nat.reduceMod, Nat.reduceDiv, Int.reduceToNat, Int.reduceLT, Int.reduceLE, Int.reduceEq, Int.reduceAdd, Int.reduceSub, Int.reduceNeg, Int.reduceMul, Bool.and_self] | split)
    exact ⟨by simp [validF, hk], _, rfl⟩
end Go.Proofs.Ytdgmlepakippmaa
