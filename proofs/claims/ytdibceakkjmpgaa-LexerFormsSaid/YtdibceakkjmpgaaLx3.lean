/- The lexer's functions, and those of its reference: what each computes. Part 3: symbols. -/
import Derived.Test.YtdibceakkjmpgaaLx2
import Derived.Test.YtdibceakkjmpgaaAx23
namespace Go.Proofs.Ytdibceakkjmpgaa
open Go Go.Ax
set_option maxRecDepth 100000
set_option linter.unusedSimpArgs false
set_option linter.unusedVariables false

/-- The size of the symbol at a place, or 0. -/
def symL : List UInt8 := [60, 62, 61, 43, 45, 42, 47, 37, 40, 41, 123, 125, 91, 93, 44, 59, 58, 46]
def is2 (c : UInt8) : Bool := decide (c.toNat = 61) || decide (c.toNat = 33) || decide (c.toNat = 60) || decide (c.toNat = 62)
def symF (s : List UInt8) (i : Nat) : Nat :=
  if i + 1 < s.length ∧ (s.getD (i + 1) 0).toNat = 61 ∧ is2 (s.getD i 0) = true then 2 else if s.getD i 0 ∈ symL then 1 else 0

theorem sub2 {s : List UInt8} {i : Nat} (h : i + 1 < s.length) : ((s.drop i).take 2) = [s.getD i 0, s.getD (i + 1) 0] := by
  rw [List.drop_eq_getElem_cons (by omega), List.drop_eq_getElem_cons h, List.take_succ_cons, List.take_succ_cons, List.take_zero]
  simp [List.getD_eq_getElem?_getD, h, show i < s.length by omega]
theorem sub1 {s : List UInt8} {i : Nat} (h : i < s.length) : ((s.drop i).take 1) = [s.getD i 0] := by
  rw [List.drop_eq_getElem_cons h, List.take_succ_cons, List.take_zero]
  simp [List.getD_eq_getElem?_getD, h]
theorem symF_is {s : List UInt8} {i : Nat} (h : i + 1 < s.length) : symF s i = if [s.getD i 0, s.getD (i + 1) 0] ∈ [[61, 61], [33, 61], [60, 61], [(62 : UInt8), 61]] then 2 else if s.getD i 0 ∈ symL then 1 else 0 := by
  unfold symF
  have e : (i + 1 < s.length ∧ (s.getD (i + 1) 0).toNat = 61 ∧ is2 (s.getD i 0) = true) = ([s.getD i 0, s.getD (i + 1) 0] ∈ [[61, 61], [33, 61], [60, 61], [(62 : UInt8), 61]]) := by
    generalize s.getD (i + 1) 0 = b
    generalize s.getD i 0 = a
    simp [is2, h, ← UInt8.toNat_inj]
    omega
  simp only [e]

theorem symbolR (s : List UInt8) (i : Nat) (H : AHeap) (hl : (s.length : Int) < 9223372036854775806) (hi : i < s.length) : Comp 68 [str s, int i] H (int (symF s i)) := by
  refine enter Try.func68 L68_ok (Nat.le_of_ble_eq_true rfl) ?_
  simp -implicitDefEqProofs (disch := omega) only [L68, push_cast, ↓reduceIte, Nat.reduceEqDiff, reduceCtorEq, Nat.reduceAdd, Nat.reduceSub, Nat.reduceMul, Nat.reduceLeDiff, Nat.reduceLT, Nat.reduceMod, Nat.reduceDiv, Int.reduceToNat, Int.reduceLT, Int.reduceLE, Int.reduceEq, Int.reduceAdd, Int.reduceSub, Int.reduceNeg, Int.reduceMul, Bool.and_self]
  have hm : ∀ c : UInt8, ([c] ∈ symL.map fun c => [c]) ↔ c ∈ symL := fun c => by simp
  split
  · rename_i h1
    have h1' : i + 1 < s.length := by omega
    refine ⟨by omega, callF_pure (hasR [[61, 61], [33, 61], [60, 61], [62, 61]] _ _ (by decide)) ?_⟩
    simp -implicitDefEqProofs (disch := omega) only [push_cast, ↓reduceIte, Nat.reduceEqDiff, reduceCtorEq, Nat.reduceAdd, Nat.reduceSub, Nat.reduceMul, Nat.reduceLeDiff, Nat.reduceLT, Nat.reduceMod, Nat.reduceDiv, Int.reduceToNat, Int.reduceLT, Int.reduceLE, Int.reduceEq, Int.reduceAdd, Int.reduceSub, Int.reduceNeg, Int.reduceMul, Bool.and_self]
    rw [sub2 h1']
    split
    · rename_i h2
      rw [symF_is h1', if_pos (by simpa using h2)]
      rfl
    · rename_i h2
      refine ⟨by omega, callF_pure (hasR (symL.map fun c => [c]) _ _ (by decide)) ?_⟩
      simp -implicitDefEqProofs (disch := omega) only [push_cast, ↓reduceIte, Nat.reduceEqDiff, reduceCtorEq, Nat.reduceAdd, Nat.reduceSub, Nat.reduceMul, Nat.reduceLeDiff, Nat.reduceLT, Nat.reduceMod, Nat.reduceDiv, Int.reduceToNat, Int.reduceLT, Int.reduceLE, Int.reduceEq, Int.reduceAdd, Int.reduceSub, Int.reduceNeg, Int.reduceMul, Bool.and_self]
      have e := symF_is h1'
      rw [if_neg (show ¬ _ from by simpa using h2)] at e
      rw [sub1 hi, e]
      simp only [hm]
      split <;> rfl
  · rename_i h1
    refine ⟨by omega, callF_pure (hasR (symL.map fun c => [c]) _ _ (by decide)) ?_⟩
    simp -implicitDefEqProofs (disch := omega) only [push_cast, ↓reduceIte, Nat.reduceEqDiff, reduceCtorEq, Nat.reduceAdd, Nat.reduceSub, Nat.reduceMul, Nat.reduceLeDiff, Nat.reduceLT, Nat.reduceMod, Nat.reduceDiv, Int.reduceToNat, Int.reduceLT, Int.reduceLE, Int.reduceEq, Int.reduceAdd, Int.reduceSub, Int.reduceNeg, Int.reduceMul, Bool.and_self]
    unfold symF
    have e : symF s i = if s.getD i 0 ∈ symL then 1 else 0 := if_neg (by omega)
    rw [sub1 hi]
    simp only [hm]
    rw [show (if i + 1 < s.length ∧ (s.getD (i + 1) 0).toNat = 61 ∧ is2 (s.getD i 0) = true then 2 else if s.getD i 0 ∈ symL then 1 else 0) = _ from e]
    split <;> rfl

theorem bytes_getD {rows : List UInt8} {j : Nat} (h : j < rows.length) : (rows.map byteRow).getD (0 + j) [] = [by8 (rows.getD j 0)] := by
  simp [byteRow, List.getD_eq_getElem?_getD, h]
/-- A loop over bytes that looks for the byte at a place. -/
theorem find_loop (s : List UInt8) (i : Nat) (rows : List UInt8) (H : AHeap) {e : Env} (hl : (rows.length : Int) < 9223372036854775806) (hi : i < s.length) (h0 : e 0 = str s) (h1 : e 1 = int i) (h44 : e 44 = .os H.length 0 0 rows.length) (h45 : e 45 = int rows.length) (h46 : e 46 = int 0) {R : AV → AHeap → Prop}
    (hR : R (int (if s.getD i 0 ∈ rows then (1 : Nat) else 0)) (H ++ [.arr 0 1 (rows.map byteRow)])) :
    runK Try.prog [.code (L96.body.sub [1, 1, 0, 1, 0]), .blk 0, .code (L96.body.sub [1, 1, 1])] (retQ L96.res R) .normal e (H ++ [.arr 0 1 (rows.map byteRow)]) := by
  simp -implicitDefEqProofs (disch := omega) only [L96, LCode.sub, push_cast, ↓reduceIte, Nat.reduceEqDiff, reduceCtorEq, Nat.reduceAdd, Nat.reduceSub, Nat.reduceMul, Nat.reduceLeDiff, Nat.reduceLT, Nat.reduceMod, Nat.reduceDiv, Int.reduceToNat, Int.reduceLT, Int.reduceLE, Int.reduceEq, Int.reduceAdd, Int.reduceSub, Int.reduceNeg, Int.reduceMul, Bool.and_self]
  refine rk_loopS (fun (j : Nat) e' H' => e' 0 = str s ∧ e' 1 = int i ∧ e' 44 = .os H.length 0 0 rows.length ∧ e' 45 = int rows.length ∧ e' 46 = int j ∧ H' = H ++ [.arr 0 1 (rows.map byteRow)] ∧ j ≤ rows.length ∧ s.getD i 0 ∉ rows.take j) (fun j => rows.length - j) 0 ⟨h0, h1, h44, h45, h46, rfl, Nat.zero_le _, by simp⟩ ?_
  rintro j e' H' ⟨g0, g1, g2, g3, g4, rfl, hj, hr⟩
  repeat' (first | (refine ⟨by omega, ?_⟩) | simp -implicitDefEqProofs (disch := omega) only [g0, g1, g2, g3, g4, bytes_getD, push_cast, ↓reduceIte, Nat.reduceEqDiff, reduceCtorEq, Nat.reduceAdd, Nat.reduceSub, Nat.reduceMul, Nat.reduceLeDiff, Nat.reduceLT, Nat.reduceMod, Nat.reduceDiv, Int.reduceToNat, Int.reduceLT, Int.reduceLE, Int.reduceEq, Int.reduceAdd, Int.reduceSub, Int.reduceNeg, Int.reduceMul, Bool.and_self] | split)
  · rename_i h3 h4
    rw [if_pos] at hR
    · exact hR
    · have h5 : s.getD i 0 = rows.getD j 0 := UInt8.toNat_inj.1 (by omega)
      rw [h5]
      simp [List.getD_eq_getElem?_getD, show j < rows.length by omega]
  · rename_i h3 h4
    have hlt : j < rows.length := by omega
    refine Nx.mk (j + 1) ⟨g0, g1, g2, g3, rfl, rfl, by omega, take_mem hlt hr fun h => h4 ?_⟩ (by omega)
    rw [← h]
    simp [List.getD_eq_getElem?_getD, hlt]
  · rename_i h3
    rw [List.take_of_length_le (by omega)] at hr
    rw [if_neg hr] at hR
    exact hR

theorem symF_2 {s : List UInt8} {i : Nat} (h : i + 1 < s.length) (h1 : (s.getD (i + 1) 0).toNat = 61) (h2 : is2 (s.getD i 0) = true) : symF s i = 2 := if_pos ⟨h, h1, h2⟩
theorem symF_1 {s : List UInt8} {i : Nat} (h : ¬ (i + 1 < s.length ∧ (s.getD (i + 1) 0).toNat = 61 ∧ is2 (s.getD i 0) = true)) : symF s i = if s.getD i 0 ∈ symL then 1 else 0 := if_neg h
theorem is2_iff {c : UInt8} : is2 c = true ↔ c.toNat = 61 ∨ c.toNat = 33 ∨ c.toNat = 60 ∨ c.toNat = 62 := by simp [is2, or_assoc]

theorem symbol (s : List UInt8) (i : Nat) (H : AHeap) (hl : (s.length : Int) < 9223372036854775806) (hi : i < s.length) : Comp 96 [str s, int i] H (int (symF s i)) := by
  refine ACall.drop (R := fun x => x = int (symF s i)) ?_
  refine enter Try.func96 L96_ok (Nat.le_of_ble_eq_true rfl) ?_
  repeat' (first | (refine ⟨by omega, ?_⟩) | simp -implicitDefEqProofs (disch := omega) only [L96, push_cast, ↓reduceIte, Nat.reduceEqDiff, reduceCtorEq, Nat.reduceAdd, Nat.reduceSub, Nat.reduceMul, Nat.reduceLeDiff, Nat.reduceLT, Nat.reduceMod, Nat.reduceDiv, Int.reduceToNat, Int.reduceLT, Int.reduceLE, Int.reduceEq, Int.reduceAdd, Int.reduceSub, Int.reduceNeg, Int.reduceMul, Bool.and_self] | split)
  all_goals first
    | exact ⟨by rw [symF_2 (by omega) (by omega) (is2_iff.2 (by omega))]; rfl, [], by simp⟩
    | exact find_loop s i symL H (by decide) hi rfl rfl rfl rfl rfl ⟨by rw [symF_1 (by rw [is2_iff]; omega)]; split <;> rfl, rfl, _, rfl⟩
end Go.Proofs.Ytdibceakkjmpgaa
