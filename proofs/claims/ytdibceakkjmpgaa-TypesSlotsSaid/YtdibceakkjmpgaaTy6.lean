/- Types, part 6: layouts, members, the examples. -/
import Derived.Test.YtdibceakkjmpgaaTy5
namespace Go.Proofs.Ytdibceakkjmpgaa
open Go Go.Ax
set_option maxRecDepth 100000
set_option linter.unusedSimpArgs false
set_option linter.unusedVariables false

/-- A copy of a list: a new object, but for the empty list. -/
theorem clone (l : List Vr) (H : AHeap) (hl : l.length ≤ 1000) : ACall Try.prog 52 [.sl 8 (l.map vrR)] H fun x H' => (l = [] ∧ x = nilS ∧ H' = H) ∨ ∃ ver, x = .os H.length ver 0 l.length ∧ H' = H ++ [.arr ver 8 (l.map vrR)] := by
  refine enter Try.func52 L52_ok (Nat.le_of_ble_eq_true rfl) ?_
  repeat' (first | (refine And.intro (by omega) ?_) | simp -implicitDefEqProofs (disch := omega) only [L52, dT_lt, dF_lt, dT_le, dF_le, dT_eq, dF_eq, push_cast, ↓reduceIte, Nat.reduceEqDiff, reduceCtorEq, Nat.reduceAdd, Nat.reduceSub, Nat.reduceMul, Nat.reduceLeDiff, Nat.reduceLT, Nat.reduceMod, Nat.reduceDiv, Int.reduceToNat, Int.reduceLT, Int.reduceLE, Int.reduceEq, Int.reduceAdd, Int.reduceSub, Int.reduceNeg, Int.reduceMul, Bool.and_self] | split)
  refine ⟨trivial, fun b hb => ?_⟩
  cases b with
  | true =>
    have he : l = [] := by simpa using hb rfl
    repeat' (first | (refine And.intro (by omega) ?_) | simp -implicitDefEqProofs (disch := omega) only [dT_lt, dF_lt, dT_le, dF_le, dT_eq, dF_eq, push_cast, ↓reduceIte, Nat.reduceEqDiff, reduceCtorEq, Nat.reduceAdd, Nat.reduceSub, Nat.reduceMul, Nat.reduceLeDiff, Nat.reduceLT, Nat.reduceMod, Nat.reduceDiv, Int.reduceToNat, Int.reduceLT, Int.reduceLE, Int.reduceEq, Int.reduceAdd, Int.reduceSub, Int.reduceNeg, Int.reduceMul, Bool.and_self] | split)
    exact .inl he
  | false =>
    repeat' (first | (refine And.intro (by omega) ?_) | simp -implicitDefEqProofs (disch := omega) only [Nat.zero_add, dT_lt, dF_lt, dT_le, dF_le, dT_eq, dF_eq, push_cast, ↓reduceIte, Nat.reduceEqDiff, reduceCtorEq, Nat.reduceAdd, Nat.reduceSub, Nat.reduceMul, Nat.reduceLeDiff, Nat.reduceLT, Nat.reduceMod, Nat.reduceDiv, Int.reduceToNat, Int.reduceLT, Int.reduceLE, Int.reduceEq, Int.reduceAdd, Int.reduceSub, Int.reduceNeg, Int.reduceMul, Bool.and_self] | split)
    exact ⟨_, rfl, rfl⟩

/-- Slots one behind the other. -/
def layN (rs : List Rc) : Nat → List Vr → List Vr
  | _, [] => []
  | at_, v :: l => { v with slot := at_ } :: layN rs (at_ + sizeF rs v.ty) l
def totF (rs : List Rc) : List Vr → Nat
  | [] => 0
  | v :: l => sizeF rs v.ty + totF rs l
theorem layN_app (rs : List Rc) : ∀ (a : Nat) (l m : List Vr), layN rs a (l ++ m) = layN rs a l ++ layN rs (a + totF rs l) m
  | a, [], m => by simp [layN, totF]
  | a, v :: l, m => by simp [layN, totF, layN_app rs _ l m, Nat.add_assoc]
theorem totF_app (rs : List Rc) : ∀ (l m : List Vr), totF rs (l ++ m) = totF rs l + totF rs m
  | [], m => by simp [totF]
  | v :: l, m => by simp [totF, totF_app rs l m, Nat.add_assoc]
theorem layN_len (rs : List Rc) : ∀ (a : Nat) (l : List Vr), (layN rs a l).length = l.length
  | _, [] => rfl
  | a, v :: l => by simp [layN, layN_len rs _ l]
theorem sizeF_le {rs : List Rc} {t : Ty} (hf : Few rs) : sizeF rs t ≤ 20 := by
  unfold sizeF
  split
  · exact scal1_len hf ‹_›
  · omega
theorem totF_le {rs : List Rc} (hf : Few rs) : ∀ l : List Vr, totF rs l ≤ 20 * l.length
  | [] => by simp [totF]
  | v :: l => by
    have := totF_le hf l
    have := sizeF_le (t := v.ty) hf
    simp [totF]; omega
def layA (rs : List Rc) (l : List Vr) (j : Nat) : List Vr := layN rs 0 (l.take j) ++ l.drop j
theorem lay_get {rs : List Rc} {l : List Vr} {j : Nat} (h : j < l.length) : ((layA rs l j).map vrR).getD j [] = vrR (l.getD j default) := by
  have hl : (layN rs 0 (l.take j)).length = j := by rw [layN_len]; simp; omega
  rw [rows_getD (by simp [layA, layN_len]; omega)]
  congr 1
  simp [layA, List.getD_eq_getElem?_getD, List.getElem?_append_right, hl]
theorem lay_set {rs : List Rc} {l : List Vr} {j : Nat} (h : j < l.length) : ((layA rs l j).map vrR).set j (vrR { l.getD j default with slot := totF rs (l.take j) }) = (layA rs l (j + 1)).map vrR := by
  have hl : (layN rs 0 (l.take j)).length = j := by rw [layN_len]; simp; omega
  unfold layA
  rw [take_snoc h, layN_app, drop_cons h, List.map_append, List.set_append_right _ _ (by simp [hl])]
  simp [hl, layN]
theorem lay_len {rs : List Rc} {l : List Vr} {j : Nat} : (layA rs l j).length = l.length := by simp [layA, layN_len]; omega
theorem lay_0 {rs : List Rc} {l : List Vr} : layA rs l 0 = l := rfl
theorem lay_all {rs : List Rc} {l : List Vr} : layA rs l l.length = layN rs 0 l := by simp [layA]

/-- What Layout hands back. -/
def layV (rs : List Rc) (l : List Vr) : AV := if l.all (fun v => validF v.ty rs) = true then .tup [.sl 8 ((layN rs 0 l).map vrR), int (totF rs l)] else .tup [nilS, int 0]
theorem layV_no {rs : List Rc} {l : List Vr} {j : Nat} (hj : j < l.length) (h : validF (l.getD j default).ty rs = false) : layV rs l = .tup [nilS, int 0] := by
  unfold layV
  rw [if_neg]
  intro hh
  rw [List.all_eq_true] at hh
  rw [hh _ (getD_mem' hj)] at h
  cases h
theorem layV_yes {rs : List Rc} {l : List Vr} (h : ∀ i, i < l.length → validF (l.getD i default).ty rs = true) : layV rs l = .tup [.sl 8 ((layN rs 0 l).map vrR), int (totF rs l)] := by
  unfold layV
  rw [if_pos]
  rw [List.all_eq_true]
  intro t ht
  obtain ⟨i, hi, rfl⟩ := List.mem_iff_getElem.1 ht
  have := h i hi
  simpa [List.getD_eq_getElem?_getD, hi] using this

theorem layout (rs : List Rc) (l : List Vr) (H : AHeap) (hf : Few rs) (hl : l.length ≤ 20) (hne : l ≠ []) : Comp' 28 [.sl 2 (rs.map rcR), .sl 8 (l.map vrR)] H (layV rs l) := by
  refine ACall.drop (R := fun x => x = layV rs l) ?_
  refine enter Try.func28 L28_ok (Nat.le_of_ble_eq_true rfl) ?_
  have hrl := hf.len
  repeat' (first | (refine And.intro (by omega) ?_) | simp -implicitDefEqProofs (disch := omega) only [L28, dT_lt, dF_lt, dT_le, dF_le, dT_eq, dF_eq, push_cast, ↓reduceIte, Nat.reduceEqDiff, reduceCtorEq, Nat.reduceAdd, Nat.reduceSub, Nat.reduceMul, Nat.reduceLeDiff, Nat.reduceLT, Nat.reduceMod, Nat.reduceDiv, Int.reduceToNat, Int.reduceLT, Int.reduceLE, Int.reduceEq, Int.reduceAdd, Int.reduceSub, Int.reduceNeg, Int.reduceMul, Bool.and_self] | split)
  refine callF_mono (clone l _ (by omega)) ?_
  rintro y H' (⟨hl0, -, -⟩ | ⟨ver, rfl, rfl⟩)
  · exact absurd hl0 hne
  repeat' (first | (refine And.intro (by omega) ?_) | simp -implicitDefEqProofs (disch := omega) only [dT_lt, dF_lt, dT_le, dF_le, dT_eq, dF_eq, push_cast, ↓reduceIte, Nat.reduceEqDiff, reduceCtorEq, Nat.reduceAdd, Nat.reduceSub, Nat.reduceMul, Nat.reduceLeDiff, Nat.reduceLT, Nat.reduceMod, Nat.reduceDiv, Int.reduceToNat, Int.reduceLT, Int.reduceLE, Int.reduceEq, Int.reduceAdd, Int.reduceSub, Int.reduceNeg, Int.reduceMul, Bool.and_self] | split)
  refine rk_loopS (fun (p : Nat × List HO) e' H' => e' 0 = .sl 2 (rs.map rcR) ∧ e' 6 = .os H.length ver 0 l.length ∧ e' 7 = int (totF rs (l.take p.1)) ∧ e' 12 = .sl 8 (l.map vrR) ∧ e' 13 = int l.length ∧ e' 14 = int p.1 ∧ H' = H ++ .arr ver 8 ((layA rs l p.1).map vrR) :: p.2 ∧ p.1 ≤ l.length ∧ ∀ i, i < p.1 → validF (l.getD i default).ty rs = true) (fun p => l.length - p.1) (0, []) ?_ ?_
  · exact ⟨rfl, rfl, rfl, rfl, rfl, rfl, rfl, Nat.zero_le _, by simp⟩
  rintro ⟨j, rest⟩ e' H' ⟨h0, h6, h7, h12, h13, h14, rfl, hj, hv⟩
  simp only at h0 h6 h7 h12 h13 h14 hj hv
  have htot := totF_le hf (l.take j)
  have htl : (l.take j).length = j := by simp; omega
  have hll := lay_len (rs := rs) (l := l) (j := j)
  by_cases hlt : j < l.length
  · by_cases hvj : validF (l.getD j default).ty rs = true
    · have hall := upto_succ (p := fun i => validF (l.getD i default).ty rs = true) hv hvj
      have hsz := sizeF_le (t := (l.getD j default).ty) hf
      have hset := lay_set (rs := rs) hlt
      have hget := lay_get (rs := rs) hlt
      have htt : totF rs (l.take (j + 1)) = totF rs (l.take j) + sizeF rs (l.getD j default).ty := by rw [take_snoc hlt, totF_app]; simp [totF]
      have hgd : (layA rs l j).getD j default = l.getD j default := by
        have hln : (layN rs 0 (l.take j)).length = j := by rw [layN_len]; exact htl
        simp [layA, List.getD_eq_getElem?_getD, List.getElem?_append_right, hln]
      simp only [vrR] at hset hget
      repeat' (first | (refine And.intro (by omega) ?_) | (refine callF_pure (valid (l.getD j default).ty rs _ (by omega)) ?_) | (refine callF_pure (size (l.getD j default).ty rs _ hf) ?_) | (refine callQF_pure (valid (l.getD j default).ty rs _ (by omega)) rfl ?_) | (refine callQF_pure (size (l.getD j default).ty rs _ hf) rfl ?_) | simp -implicitDefEqProofs (disch := omega) only [h0, h6, h7, h12, h13, h14, rows_getD, vrR, hvj, hll, hgd, Nat.zero_add, splice, hset, dT_lt, dF_lt, dT_le, dF_le, dT_eq, dF_eq, push_cast, ↓reduceIte, Nat.reduceEqDiff, reduceCtorEq, Nat.reduceAdd, Nat.reduceSub, Nat.reduceMul, Nat.reduceLeDiff, Nat.reduceLT, Nat.reduceMod, Nat.reduceDiv, Int.reduceToNat, Int.reduceLT, Int.reduceLE, Int.reduceEq, Int.reduceAdd, Int.reduceSub, Int.reduceNeg, Int.reduceMul, Bool.and_self] | split)
      exact .mk (j + 1, rest ++ [_]) ⟨h0, h6, by rw [htt]; rfl, h12, h13, rfl, rfl, hlt, hall⟩ (by simp only; omega)
    · have hvj' := Bool.eq_false_iff.2 hvj
      rw [layV_no hlt hvj']
      repeat' (first | (refine And.intro (by omega) ?_) | (refine callF_pure (valid (l.getD j default).ty rs _ (by omega)) ?_) | (refine callQF_pure (valid (l.getD j default).ty rs _ (by omega)) rfl ?_) | simp -implicitDefEqProofs (disch := omega) only [h0, h6, h7, h12, h13, h14, rows_getD, vrR, hvj', dT_lt, dF_lt, dT_le, dF_le, dT_eq, dF_eq, push_cast, ↓reduceIte, Nat.reduceEqDiff, reduceCtorEq, Nat.reduceAdd, Nat.reduceSub, Nat.reduceMul, Nat.reduceLeDiff, Nat.reduceLT, Nat.reduceMod, Nat.reduceDiv, Int.reduceToNat, Int.reduceLT, Int.reduceLE, Int.reduceEq, Int.reduceAdd, Int.reduceSub, Int.reduceNeg, Int.reduceMul, Bool.and_self] | split)
      exact ⟨_, rfl⟩
  · obtain rfl : j = l.length := by omega
    rw [layV_yes hv]
    repeat' (first | (refine And.intro (by omega) ?_) | simp -implicitDefEqProofs (disch := omega) only [h0, h6, h7, h12, h13, h14, hll, dT_lt, dF_lt, dT_le, dF_le, dT_eq, dF_eq, push_cast, ↓reduceIte, Nat.reduceEqDiff, reduceCtorEq, Nat.reduceAdd, Nat.reduceSub, Nat.reduceMul, Nat.reduceLeDiff, Nat.reduceLT, Nat.reduceMod, Nat.reduceDiv, Int.reduceToNat, Int.reduceLT, Int.reduceLE, Int.reduceEq, Int.reduceAdd, Int.reduceSub, Int.reduceNeg, Int.reduceMul, Bool.and_self] | split)
    refine ⟨?_, _, rfl⟩
    rw [List.take_of_length_le (by simp [layA, layN_len]), lay_all, List.take_length]
def LayNil (x : AV) : Prop := ∃ sz, x = .tup [.sl sz [], int 0]
theorem layout_nil (rs : List Rc) (H : AHeap) : ACall Try.prog 28 [.sl 2 (rs.map rcR), .sl 8 []] H fun x H' => LayNil x ∧ H' = H := by
  refine ACall.drop (R := LayNil) ?_
  refine enter Try.func28 L28_ok (Nat.le_of_ble_eq_true rfl) ?_
  repeat' (first | (refine And.intro (by omega) ?_) | simp -implicitDefEqProofs (disch := omega) only [L28, dT_lt, dF_lt, dT_le, dF_le, dT_eq, dF_eq, push_cast, ↓reduceIte, Nat.reduceEqDiff, reduceCtorEq, Nat.reduceAdd, Nat.reduceSub, Nat.reduceMul, Nat.reduceLeDiff, Nat.reduceLT, Nat.reduceMod, Nat.reduceDiv, Int.reduceToNat, Int.reduceLT, Int.reduceLE, Int.reduceEq, Int.reduceAdd, Int.reduceSub, Int.reduceNeg, Int.reduceMul, Bool.and_self] | split)
  refine callF_mono (clone [] _ (by simp)) ?_
  rintro y H' (⟨-, rfl, hH⟩ | ⟨ver, rfl, rfl⟩)
  · obtain rfl : H = H' := hH.symm
    repeat' (first | (refine And.intro (by omega) ?_) | simp -implicitDefEqProofs (disch := omega) only [dT_lt, dF_lt, dT_le, dF_le, dT_eq, dF_eq, push_cast, ↓reduceIte, Nat.reduceEqDiff, reduceCtorEq, Nat.reduceAdd, Nat.reduceSub, Nat.reduceMul, Nat.reduceLeDiff, Nat.reduceLT, Nat.reduceMod, Nat.reduceDiv, Int.reduceToNat, Int.reduceLT, Int.reduceLE, Int.reduceEq, Int.reduceAdd, Int.reduceSub, Int.reduceNeg, Int.reduceMul, Bool.and_self] | split)
    refine rk_loopS (fun (p : Nat) e' H' => e' 6 = nilS ∧ e' 7 = int 0 ∧ e' 13 = int 0 ∧ e' 14 = int 0 ∧ H = H') (fun p => 0) 0 ?_ ?_
    · exact ⟨rfl, rfl, rfl, rfl, rfl⟩
    rintro p e' H' ⟨h6, h7, h13, h14, rfl⟩
    repeat' (first | (refine And.intro (by omega) ?_) | simp -implicitDefEqProofs (disch := omega) only [h6, h7, h13, h14, dT_lt, dF_lt, dT_le, dF_le, dT_eq, dF_eq, push_cast, ↓reduceIte, Nat.reduceEqDiff, reduceCtorEq, Nat.reduceAdd, Nat.reduceSub, Nat.reduceMul, Nat.reduceLeDiff, Nat.reduceLT, Nat.reduceMod, Nat.reduceDiv, Int.reduceToNat, Int.reduceLT, Int.reduceLE, Int.reduceEq, Int.reduceAdd, Int.reduceSub, Int.reduceNeg, Int.reduceMul, Bool.and_self] | split)
    exact ⟨⟨_, rfl⟩, [], by simp⟩
  · repeat' (first | (refine And.intro (by omega) ?_) | simp -implicitDefEqProofs (disch := omega) only [dT_lt, dF_lt, dT_le, dF_le, dT_eq, dF_eq, push_cast, ↓reduceIte, Nat.reduceEqDiff, reduceCtorEq, Nat.reduceAdd, Nat.reduceSub, Nat.reduceMul, Nat.reduceLeDiff, Nat.reduceLT, Nat.reduceMod, Nat.reduceDiv, Int.reduceToNat, Int.reduceLT, Int.reduceLE, Int.reduceEq, Int.reduceAdd, Int.reduceSub, Int.reduceNeg, Int.reduceMul, Bool.and_self] | split)
    refine rk_loopS (fun (p : Nat) e' H' => e' 6 = .os H.length ver 0 0 ∧ e' 7 = int 0 ∧ e' 13 = int 0 ∧ e' 14 = int 0 ∧ H' = H ++ [.arr ver 8 []]) (fun p => 0) 0 ?_ ?_
    · exact ⟨rfl, rfl, rfl, rfl, rfl⟩
    rintro p e' H' ⟨h6, h7, h13, h14, rfl⟩
    repeat' (first | (refine And.intro (by omega) ?_) | simp -implicitDefEqProofs (disch := omega) only [h6, h7, h13, h14, dT_lt, dF_lt, dT_le, dF_le, dT_eq, dF_eq, push_cast, ↓reduceIte, Nat.reduceEqDiff, reduceCtorEq, Nat.reduceAdd, Nat.reduceSub, Nat.reduceMul, Nat.reduceLeDiff, Nat.reduceLT, Nat.reduceMod, Nat.reduceDiv, Int.reduceToNat, Int.reduceLT, Int.reduceLE, Int.reduceEq, Int.reduceAdd, Int.reduceSub, Int.reduceNeg, Int.reduceMul, Bool.and_self] | split)
    exact ⟨⟨_, rfl⟩, _, rfl⟩

/-- The fields of the record with a name. -/
def fldF (rs : List Rc) (nm : List UInt8) : List Fd := match idxF rs nm with | some i => (rs.getD i default).fields | none => []
theorem fd_ext {a b : Fd} : a = b ↔ a.name = b.name ∧ a.ty.k = b.ty.k ∧ a.ty.len = b.ty.len ∧ a.ty.rc = b.ty.rc := by
  cases a with | mk n t => cases t; cases b with | mk m u => cases u; simp
theorem equalF (a b : List Fd) (H : AHeap) (ha : (a.length : Int) < 9223372036854775807) (hb : (b.length : Int) < 9223372036854775807) : Comp' 54 [.sl 4 (a.map fdR), .sl 4 (b.map fdR)] H (bool (decide (a = b))) := by
  refine enter Try.func54 L54_ok (Nat.le_of_ble_eq_true rfl) ?_
  by_cases hl : a.length = b.length
  · repeat' (first | (refine And.intro (by omega) ?_) | simp -implicitDefEqProofs (disch := omega) only [L54, dT_lt, dF_lt, dT_le, dF_le, dT_eq, dF_eq, push_cast, ↓reduceIte, Nat.reduceEqDiff, reduceCtorEq, Nat.reduceAdd, Nat.reduceSub, Nat.reduceMul, Nat.reduceLeDiff, Nat.reduceLT, Nat.reduceMod, Nat.reduceDiv, Int.reduceToNat, Int.reduceLT, Int.reduceLE, Int.reduceEq, Int.reduceAdd, Int.reduceSub, Int.reduceNeg, Int.reduceMul, Bool.and_self] | split)
    refine rk_loopS (fun (j : Nat) e' H' => e' 0 = .sl 4 (a.map fdR) ∧ e' 1 = .sl 4 (b.map fdR) ∧ e' 12 = int a.length ∧ e' 13 = int j ∧ H = H' ∧ j ≤ a.length ∧ a.take j = b.take j) (fun j => a.length - j) 0 ?_ ?_
    · exact ⟨rfl, rfl, rfl, rfl, rfl, Nat.zero_le _, rfl⟩
    rintro j e' H' ⟨h0, h1, h12, h13, rfl, hj, hr⟩
    by_cases hlt : j < a.length
    · by_cases he : a.getD j default = b.getD j default
      · repeat' (first | (refine And.intro (by omega) ?_) | simp -implicitDefEqProofs (disch := omega) only [h0, h1, h12, h13, rows_getD, he, fdR, kEqI, kEqS, dT_lt, dF_lt, dT_le, dF_le, dT_eq, dF_eq, push_cast, ↓reduceIte, Nat.reduceEqDiff, reduceCtorEq, Nat.reduceAdd, Nat.reduceSub, Nat.reduceMul, Nat.reduceLeDiff, Nat.reduceLT, Nat.reduceMod, Nat.reduceDiv, Int.reduceToNat, Int.reduceLT, Int.reduceLE, Int.reduceEq, Int.reduceAdd, Int.reduceSub, Int.reduceNeg, Int.reduceMul, Bool.and_self] | split)
        exact .mk (j + 1) ⟨h0, h1, h12, rfl, rfl, hlt, ext_take hr hlt (by omega) he⟩ (by omega)
      · repeat' (first | (refine And.intro (by omega) ?_) | simp -implicitDefEqProofs (disch := omega) only [h0, h1, h12, h13, rows_getD, fdR, kEqI, kEqS, dT_lt, dF_lt, dT_le, dF_le, dT_eq, dF_eq, push_cast, ↓reduceIte, Nat.reduceEqDiff, reduceCtorEq, Nat.reduceAdd, Nat.reduceSub, Nat.reduceMul, Nat.reduceLeDiff, Nat.reduceLT, Nat.reduceMod, Nat.reduceDiv, Int.reduceToNat, Int.reduceLT, Int.reduceLE, Int.reduceEq, Int.reduceAdd, Int.reduceSub, Int.reduceNeg, Int.reduceMul, Bool.and_self] | split)
        · rw [decide_eq_false]
          rintro rfl; exact he rfl
        · rename_i h
          exact absurd (fd_ext.2 (by simpa using h)) he
    · repeat' (first | (refine And.intro (by omega) ?_) | simp -implicitDefEqProofs (disch := omega) only [h0, h1, h12, h13, dT_lt, dF_lt, dT_le, dF_le, dT_eq, dF_eq, push_cast, ↓reduceIte, Nat.reduceEqDiff, reduceCtorEq, Nat.reduceAdd, Nat.reduceSub, Nat.reduceMul, Nat.reduceLeDiff, Nat.reduceLT, Nat.reduceMod, Nat.reduceDiv, Int.reduceToNat, Int.reduceLT, Int.reduceLE, Int.reduceEq, Int.reduceAdd, Int.reduceSub, Int.reduceNeg, Int.reduceMul, Bool.and_self] | split)
      rw [all_take a (by omega), all_take b (by omega)] at hr
      rw [decide_eq_true hr]
  · repeat' (first | (refine And.intro (by omega) ?_) | simp -implicitDefEqProofs (disch := omega) only [L54, dT_lt, dF_lt, dT_le, dF_le, dT_eq, dF_eq, push_cast, ↓reduceIte, Nat.reduceEqDiff, reduceCtorEq, Nat.reduceAdd, Nat.reduceSub, Nat.reduceMul, Nat.reduceLeDiff, Nat.reduceLT, Nat.reduceMod, Nat.reduceDiv, Int.reduceToNat, Int.reduceLT, Int.reduceLE, Int.reduceEq, Int.reduceAdd, Int.reduceSub, Int.reduceNeg, Int.reduceMul, Bool.and_self] | split)
    rw [decide_eq_false]
    rintro rfl; exact hl rfl

def sameF (a : Ty) (ra : List Rc) (b : Ty) (rb : List Rc) : Bool := validF a ra && validF b rb && decide (a = b) && (!decide (a.k = 4) || decide (fldF ra a.rc = fldF rb b.rc))
theorem same (a : Ty) (ra : List Rc) (b : Ty) (rb : List Rc) (H : AHeap) (hfa : Few ra) (hfb : Few rb) : Comp' 29 [.agg (tyR a), .sl 2 (ra.map rcR), .agg (tyR b), .sl 2 (rb.map rcR)] H (bool (sameF a ra b rb)) := by
  refine ACall.drop (R := fun x => x = bool (sameF a ra b rb)) ?_
  refine enter Try.func29 L29_ok (Nat.le_of_ble_eq_true rfl) ?_
  have h1 := hfa.len
  have h2 := hfb.len
  by_cases hva : validF a ra = true
  · by_cases hvb : validF b rb = true
    · by_cases he : a = b
      · subst he
        by_cases hk : a.k = 4
        · have hka := valid_kinds hva
          have hkb := valid_kinds hvb
          obtain ⟨i, hi⟩ : ∃ i, idxF ra a.rc = some i := by rcases hka with h | h | h | h <;> first | omega | exact h.2
          obtain ⟨j, hj⟩ : ∃ i, idxF rb a.rc = some i := by rcases hkb with h | h | h | h <;> first | omega | exact h.2
          have hra : recV ra a.rc = .tup [.agg (rcR (ra.getD i default)), bool true] := by unfold recV; rw [hi]
          have hrb : recV rb a.rc = .tup [.agg (rcR (rb.getD j default)), bool true] := by unfold recV; rw [hj]
          have hla := hfa.fields _ (getD_mem' (find_lt hi).1)
          have hlb := hfb.fields _ (getD_mem' (find_lt hj).1)
          have hs : sameF a ra a rb = decide ((ra.getD i default).fields = (rb.getD j default).fields) := by simp [sameF, hva, hvb, hk, fldF, hi, hj]
          repeat' (first | (refine And.intro (by omega) ?_) | (refine callF_pure (valid a ra _ (by omega)) ?_) | (refine callF_pure (valid a rb _ (by omega)) ?_) | (refine callF_pure (record ra a.rc _ (by omega)) ?_) | (refine callF_pure (record rb a.rc _ (by omega)) ?_) | (refine callF_pure (equalF _ _ _ (by omega) (by omega)) ?_) | (refine callQF_pure (valid a ra _ (by omega)) rfl ?_) | (refine callQF_pure (valid a rb _ (by omega)) rfl ?_) | (refine callQF_pure (record ra a.rc _ (by omega)) rfl ?_) | (refine callQF_pure (record rb a.rc _ (by omega)) rfl ?_) | (refine callQF_pure (equalF _ _ _ (by omega) (by omega)) rfl ?_) | simp -implicitDefEqProofs (disch := omega) only [L29, tyR, hva, hvb, kEqI, kEqS, hra, hrb, rcR, dT_lt, dF_lt, dT_le, dF_le, dT_eq, dF_eq, push_cast, ↓reduceIte, Nat.reduceEqDiff, reduceCtorEq, Nat.reduceAdd, Nat.reduceSub, Nat.reduceMul, Nat.reduceLeDiff, Nat.reduceLT, Nat.reduceMod, Nat.reduceDiv, Int.reduceToNat, Int.reduceLT, Int.reduceLE, Int.reduceEq, Int.reduceAdd, Int.reduceSub, Int.reduceNeg, Int.reduceMul, Bool.and_self] | split)
          exact ⟨by rw [hs], _, rfl⟩
        · have hs : sameF a ra a rb = true := by simp [sameF, hva, hvb, hk]
          have hra : ∃ x y p, recV ra a.rc = .tup [.agg [str x, y], bool p] ∧ c1 y = true ∧ y.cl = true := by
            unfold recV; split
            · exact ⟨_, _, _, rfl, rfl, rfl⟩
            · exact ⟨_, _, _, rfl, rfl, rfl⟩
          have hrb : ∃ x y p, recV rb a.rc = .tup [.agg [str x, y], bool p] ∧ c1 y = true ∧ y.cl = true := by
            unfold recV; split
            · exact ⟨_, _, _, rfl, rfl, rfl⟩
            · exact ⟨_, _, _, rfl, rfl, rfl⟩
          obtain ⟨x1, y1, p1, hra, c1a, c1b⟩ := hra
          obtain ⟨x2, y2, p2, hrb, c2a, c2b⟩ := hrb
          repeat' (first | (refine And.intro (by omega) ?_) | (refine callF_pure (valid a ra _ (by omega)) ?_) | (refine callF_pure (valid a rb _ (by omega)) ?_) | (refine callF_pure (record ra a.rc _ (by omega)) ?_) | (refine callF_pure (record rb a.rc _ (by omega)) ?_) | (refine callQF_pure (valid a ra _ (by omega)) rfl ?_) | (refine callQF_pure (valid a rb _ (by omega)) rfl ?_) | (refine callQF_pure (record ra a.rc _ (by omega)) rfl ?_) | (refine callQF_pure (record rb a.rc _ (by omega)) rfl ?_) | simp -implicitDefEqProofs (disch := omega) only [L29, tyR, hva, hvb, kEqI, kEqS, hra, hrb, c1a, c2a, c1b, c2b, dT_lt, dF_lt, dT_le, dF_le, dT_eq, dF_eq, push_cast, ↓reduceIte, Nat.reduceEqDiff, reduceCtorEq, Nat.reduceAdd, Nat.reduceSub, Nat.reduceMul, Nat.reduceLeDiff, Nat.reduceLT, Nat.reduceMod, Nat.reduceDiv, Int.reduceToNat, Int.reduceLT, Int.reduceLE, Int.reduceEq, Int.reduceAdd, Int.reduceSub, Int.reduceNeg, Int.reduceMul, Bool.and_self] | split)
          all_goals first | exact ⟨_, rfl⟩ | exact ⟨by rw [hs], _, rfl⟩ | exact ⟨by rw [hs]; rfl, _, rfl⟩ | exact absurd (ty_ext.2 (by simpa using ‹¬ _ = false›)) he | skip
      · have hs : sameF a ra b rb = false := by simp [sameF, he]
        repeat' (first | (refine And.intro (by omega) ?_) | (refine callF_pure (valid a ra _ (by omega)) ?_) | (refine callF_pure (valid b rb _ (by omega)) ?_) | (refine callQF_pure (valid a ra _ (by omega)) rfl ?_) | (refine callQF_pure (valid b rb _ (by omega)) rfl ?_) | simp -implicitDefEqProofs (disch := omega) only [L29, tyR, hva, hvb, kEqI, kEqS, dT_lt, dF_lt, dT_le, dF_le, dT_eq, dF_eq, push_cast, ↓reduceIte, Nat.reduceEqDiff, reduceCtorEq, Nat.reduceAdd, Nat.reduceSub, Nat.reduceMul, Nat.reduceLeDiff, Nat.reduceLT, Nat.reduceMod, Nat.reduceDiv, Int.reduceToNat, Int.reduceLT, Int.reduceLE, Int.reduceEq, Int.reduceAdd, Int.reduceSub, Int.reduceNeg, Int.reduceMul, Bool.and_self] | split)
        · exact ⟨by rw [hs], _, rfl⟩
        · rename_i h
          simp only [Bool.not_eq_false, Bool.and_eq_true, decide_eq_true_eq] at h
          exact absurd (ty_ext.2 h) he
    · have hvb' := Bool.eq_false_iff.2 hvb
      have hs : sameF a ra b rb = false := by simp [sameF, hvb']
      repeat' (first | (refine And.intro (by omega) ?_) | (refine callF_pure (valid a ra _ (by omega)) ?_) | (refine callF_pure (valid b rb _ (by omega)) ?_) | (refine callQF_pure (valid a ra _ (by omega)) rfl ?_) | (refine callQF_pure (valid b rb _ (by omega)) rfl ?_) | simp -implicitDefEqProofs (disch := omega) only [L29, tyR, hva, hvb', hs, dT_lt, dF_lt, dT_le, dF_le, dT_eq, dF_eq, push_cast, ↓reduceIte, Nat.reduceEqDiff, reduceCtorEq, Nat.reduceAdd, Nat.reduceSub, Nat.reduceMul, Nat.reduceLeDiff, Nat.reduceLT, Nat.reduceMod, Nat.reduceDiv, Int.reduceToNat, Int.reduceLT, Int.reduceLE, Int.reduceEq, Int.reduceAdd, Int.reduceSub, Int.reduceNeg, Int.reduceMul, Bool.and_self] | split)
      all_goals first | exact ⟨_, rfl⟩ | exact ⟨by rw [hs], _, rfl⟩ | exact ⟨by rw [hs]; rfl, _, rfl⟩ | exact absurd (ty_ext.2 (by simpa using ‹¬ _ = false›)) he | skip
  · have hva' := Bool.eq_false_iff.2 hva
    have hs : sameF a ra b rb = false := by simp [sameF, hva']
    repeat' (first | (refine And.intro (by omega) ?_) | (refine callF_pure (valid a ra _ (by omega)) ?_) | (refine callF_pure (valid b rb _ (by omega)) ?_) | (refine callQF_pure (valid a ra _ (by omega)) rfl ?_) | (refine callQF_pure (valid b rb _ (by omega)) rfl ?_) | simp -implicitDefEqProofs (disch := omega) only [L29, tyR, hva', hs, dT_lt, dF_lt, dT_le, dF_le, dT_eq, dF_eq, push_cast, ↓reduceIte, Nat.reduceEqDiff, reduceCtorEq, Nat.reduceAdd, Nat.reduceSub, Nat.reduceMul, Nat.reduceLeDiff, Nat.reduceLT, Nat.reduceMod, Nat.reduceDiv, Int.reduceToNat, Int.reduceLT, Int.reduceLE, Int.reduceEq, Int.reduceAdd, Int.reduceSub, Int.reduceNeg, Int.reduceMul, Bool.and_self] | split)
    all_goals first | exact ⟨_, rfl⟩ | exact ⟨by rw [hs], _, rfl⟩ | exact ⟨by rw [hs]; rfl, _, rfl⟩ | exact absurd (ty_ext.2 (by simpa using ‹¬ _ = false›)) he | skip
end Go.Proofs.Ytdibceakkjmpgaa
