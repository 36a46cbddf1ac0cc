/- Values, part 5: Next. -/
import Derived.Test.YtdgmlepakippmaaVa4
namespace Go.Proofs.Ytdgmlepakippmaa
open Go Go.Ax
set_option maxRecDepth 100000
set_option linter.unusedSimpArgs false
set_option linter.unusedVariables false

def nxt (low high : List Int) : Nat → List Int → Option (List Int)
  | 0, out => none
  | k + 1, out => if out.getD k default < high.getD k default then some (out.set k (out.getD k default + 1)) else nxt low high k (out.set k (low.getD k default))
def within (low high l : List Int) : Prop := low.length = l.length ∧ high.length = l.length ∧ ∀ i, i < l.length → low.getD i default ≤ l.getD i default ∧ l.getD i default ≤ high.getD i default
instance (low high l : List Int) : Decidable (within low high l) := inferInstanceAs (Decidable (_ ∧ _ ∧ _))
def nextF (low high l : List Int) : Option (List Int) := if within low high l then nxt low high l.length l else none
def nextA : Option (List Int) → AV
  | some l => .tup [.sl 1 (l.map iR), bool true]
  | none => .tup [nilS, bool false]
def allR (l : List Int) : Prop := ∀ i, i < l.length → i64R (l.getD i default)

theorem nextC (low high l : List Int) (hl : l.length ≤ 1000) (h1 : allR low) (h2 : allR high) (h3 : allR l) (H : AHeap) : Comp' 10 [.sl 1 (low.map iR), .sl 1 (high.map iR), .sl 1 (l.map iR)] H (nextA (nextF low high l)) := by
  refine ACall.drop (R := fun x => x = nextA (nextF low high l)) ?_
  refine enter Try.func10 L10_ok (Nat.le_of_ble_eq_true rfl) ?_
  by_cases g1 : low.length = l.length
  · by_cases g2 : high.length = l.length
    · repeat' (first | (refine And.intro (by omega) ?_) | simp -implicitDefEqProofs (disch := omega) only [L10, dT_lt, dF_lt, dT_le, dF_le, dT_eq, dF_eq, push_cast, ↓reduceIte, Nat.reduceEqDiff, reduceCtorEq, Nat.reduceAdd, Nat.reduceSub, Nat.reduceMul, Nat.reduceLeDiff, Nat.reduceLT, Nat.reduceMod, Nat.reduceDiv, Int.reduceToNat, Int.reduceLT, Int.reduceLE, Int.reduceEq, Int.reduceAdd, Int.reduceSub, Int.reduceNeg, Int.reduceMul, Bool.and_self] | split)
      refine rk_loopS (fun (j : Nat) e' H' => e' 0 = .sl 1 (low.map iR) ∧ e' 1 = .sl 1 (high.map iR) ∧ e' 2 = .sl 1 (l.map iR) ∧ e' 24 = .sl 1 (l.map iR) ∧ e' 25 = int l.length ∧ e' 26 = int j ∧ H = H' ∧ j ≤ l.length ∧ ∀ i, i < j → low.getD i default ≤ l.getD i default ∧ l.getD i default ≤ high.getD i default) (fun j => l.length - j) 0 ?_ ?_
      · exact ⟨rfl, rfl, rfl, rfl, rfl, rfl, rfl, Nat.zero_le _, by simp⟩
      rintro j e' H' ⟨e0, e1, e2, e24, e25, e26, rfl, hj, hv⟩
      by_cases hlt : j < l.length
      · by_cases ga : low.getD j default ≤ l.getD j default
        · by_cases gb : l.getD j default ≤ high.getD j default
          · repeat' (first | (refine And.intro (by omega) ?_) | simp -implicitDefEqProofs (disch := omega) only [e0, e1, e2, e24, e25, e26, rows_getD, iR, dT_lt, dF_lt, dT_le, dF_le, dT_eq, dF_eq, push_cast, ↓reduceIte, Nat.reduceEqDiff, reduceCtorEq, Nat.reduceAdd, Nat.reduceSub, Nat.reduceMul, Nat.reduceLeDiff, Nat.reduceLT, Nat.reduceMod, Nat.reduceDiv, Int.reduceToNat, Int.reduceLT, Int.reduceLE, Int.reduceEq, Int.reduceAdd, Int.reduceSub, Int.reduceNeg, Int.reduceMul, Bool.and_self] | split)
            refine .mk (j + 1) ⟨e0, e1, e2, e24, e25, rfl, rfl, hlt, fun i hi => ?_⟩ (by omega)
            by_cases hij : i = j
            · subst hij; exact ⟨ga, gb⟩
            · exact hv i (by omega)
          · have e : nextF low high l = none := by unfold nextF; rw [if_neg (fun h => gb (h.2.2 j hlt).2)]
            rw [e]
            repeat' (first | (refine And.intro (by omega) ?_) | simp -implicitDefEqProofs (disch := omega) only [e0, e1, e2, e24, e25, e26, rows_getD, iR, dT_lt, dF_lt, dT_le, dF_le, dT_eq, dF_eq, push_cast, ↓reduceIte, Nat.reduceEqDiff, reduceCtorEq, Nat.reduceAdd, Nat.reduceSub, Nat.reduceMul, Nat.reduceLeDiff, Nat.reduceLT, Nat.reduceMod, Nat.reduceDiv, Int.reduceToNat, Int.reduceLT, Int.reduceLE, Int.reduceEq, Int.reduceAdd, Int.reduceSub, Int.reduceNeg, Int.reduceMul, Bool.and_self] | split)
            exact ⟨rfl, [], (List.append_nil _).symm⟩
        · have e : nextF low high l = none := by unfold nextF; rw [if_neg (fun h => ga (h.2.2 j hlt).1)]
          rw [e]
          repeat' (first | (refine And.intro (by omega) ?_) | simp -implicitDefEqProofs (disch := omega) only [e0, e1, e2, e24, e25, e26, rows_getD, iR, dT_lt, dF_lt, dT_le, dF_le, dT_eq, dF_eq, push_cast, ↓reduceIte, Nat.reduceEqDiff, reduceCtorEq, Nat.reduceAdd, Nat.reduceSub, Nat.reduceMul, Nat.reduceLeDiff, Nat.reduceLT, Nat.reduceMod, Nat.reduceDiv, Int.reduceToNat, Int.reduceLT, Int.reduceLE, Int.reduceEq, Int.reduceAdd, Int.reduceSub, Int.reduceNeg, Int.reduceMul, Bool.and_self] | split)
          exact ⟨rfl, [], (List.append_nil _).symm⟩
      · have hw : within low high l := ⟨g1, g2, fun i hi => hv i (by omega)⟩
        have e : nextF low high l = nxt low high l.length l := by unfold nextF; rw [if_pos hw]
        repeat' (first | (refine And.intro (by omega) ?_) | simp -implicitDefEqProofs (disch := omega) only [e0, e1, e2, e24, e25, e26, dT_lt, dF_lt, dT_le, dF_le, dT_eq, dF_eq, push_cast, ↓reduceIte, Nat.reduceEqDiff, reduceCtorEq, Nat.reduceAdd, Nat.reduceSub, Nat.reduceMul, Nat.reduceLeDiff, Nat.reduceLT, Nat.reduceMod, Nat.reduceDiv, Int.reduceToNat, Int.reduceLT, Int.reduceLE, Int.reduceEq, Int.reduceAdd, Int.reduceSub, Int.reduceNeg, Int.reduceMul, Bool.and_self] | split)
        rw [e]
        refine rk_loopS (fun (p : Nat × List Int) e' H' => e' 0 = .sl 1 (low.map iR) ∧ e' 1 = .sl 1 (high.map iR) ∧ e' 10 = .os H.length 1 0 l.length ∧ e' 11 = int ((p.1 : Int) - 1) ∧ H' = H ++ [.arr 1 1 (p.2.map iR)] ∧ p.1 ≤ l.length ∧ p.2.length = l.length ∧ (∀ i, i < p.1 → p.2.getD i default = l.getD i default) ∧ nxt low high l.length l = nxt low high p.1 p.2) (fun p => p.1) (l.length, l) ?_ ?_
        · exact ⟨e0, e1, by simp [up], rfl, rfl, Nat.le_refl _, rfl, fun i hi => rfl, rfl⟩
        rintro ⟨k, out⟩ e' H' ⟨e0, e1, e10, e11, rfl, hk, hlen, hsame, hn⟩
        simp only at e0 e1 e10 e11 hk hlen hsame hn
        rw [hn]
        cases k with
        | zero =>
          repeat' (first | (refine And.intro (by omega) ?_) | simp -implicitDefEqProofs (disch := omega) only [e0, e1, e10, e11, dT_lt, dF_lt, dT_le, dF_le, dT_eq, dF_eq, push_cast, ↓reduceIte, Nat.reduceEqDiff, reduceCtorEq, Nat.reduceAdd, Nat.reduceSub, Nat.reduceMul, Nat.reduceLeDiff, Nat.reduceLT, Nat.reduceMod, Nat.reduceDiv, Int.reduceToNat, Int.reduceLT, Int.reduceLE, Int.reduceEq, Int.reduceAdd, Int.reduceSub, Int.reduceNeg, Int.reduceMul, Bool.and_self] | split)
          exact ⟨rfl, _, rfl⟩
        | succ k =>
          have hk1 : (((k + 1 : Nat) : Int) - 1) = (k : Int) := by omega
          rw [hk1] at e11
          by_cases hc : out.getD k default < high.getD k default
          · have e : nxt low high (k + 1) out = some (out.set k (out.getD k default + 1)) := by rw [nxt, if_pos hc]
            rw [e]
            have hr := h2 k (by omega)
            have hr' := h3 k (by omega)
            rw [← hsame k (by omega)] at hr'
            unfold i64R at hr hr'
            have hw : IntKind.i64.wrap (out.getD k default + 1) = out.getD k default + 1 := wrap64_of _ (by omega) (by omega)
            repeat' (first | (refine And.intro (by omega) ?_) | simp -implicitDefEqProofs (disch := omega) only [e0, e1, e10, e11, rows_getD, iR, hw, Nat.zero_add, dT_lt, dF_lt, dT_le, dF_le, dT_eq, dF_eq, push_cast, ↓reduceIte, Nat.reduceEqDiff, reduceCtorEq, Nat.reduceAdd, Nat.reduceSub, Nat.reduceMul, Nat.reduceLeDiff, Nat.reduceLT, Nat.reduceMod, Nat.reduceDiv, Int.reduceToNat, Int.reduceLT, Int.reduceLE, Int.reduceEq, Int.reduceAdd, Int.reduceSub, Int.reduceNeg, Int.reduceMul, Bool.and_self] | split)
            exact ⟨by rw [List.take_of_length_le (by simp; omega), nextA, List.map_set]; rfl, _, rfl⟩
          · have e : nxt low high (k + 1) out = nxt low high k (out.set k (low.getD k default)) := by rw [nxt, if_neg hc]
            rw [e]
            repeat' (first | (refine And.intro (by omega) ?_) | simp -implicitDefEqProofs (disch := omega) only [e0, e1, e10, e11, rows_getD, iR, Nat.zero_add, dT_lt, dF_lt, dT_le, dF_le, dT_eq, dF_eq, push_cast, ↓reduceIte, Nat.reduceEqDiff, reduceCtorEq, Nat.reduceAdd, Nat.reduceSub, Nat.reduceMul, Nat.reduceLeDiff, Nat.reduceLT, Nat.reduceMod, Nat.reduceDiv, Int.reduceToNat, Int.reduceLT, Int.reduceLE, Int.reduceEq, Int.reduceAdd, Int.reduceSub, Int.reduceNeg, Int.reduceMul, Bool.and_self] | split)
            refine .mk (k, out.set k (low.getD k default)) ⟨e0, e1, e10, rfl, by rw [List.map_set]; rfl, by omega, by simpa using hlen, fun i hi => ?_, rfl⟩ (by simp)
            rw [← hsame i (by omega)]
            simp [List.getD, List.getElem?_set_ne (show k ≠ i by omega)]
    · have e : nextF low high l = none := by unfold nextF; rw [if_neg (fun h => g2 h.2.1)]
      rw [e]
      repeat' (first | (refine And.intro (by omega) ?_) | simp -implicitDefEqProofs (disch := omega) only [L10, dT_lt, dF_lt, dT_le, dF_le, dT_eq, dF_eq, push_cast, ↓reduceIte, Nat.reduceEqDiff, reduceCtorEq, Nat.reduceAdd, Nat.reduceSub, Nat.reduceMul, Nat.reduceLeDiff, Nat.reduceLT, Nat.reduceMod, Nat.reduceDiv, Int.reduceToNat, Int.reduceLT, Int.reduceLE, Int.reduceEq, Int.reduceAdd, Int.reduceSub, Int.reduceNeg, Int.reduceMul, Bool.and_self] | split)
      exact ⟨rfl, [], (List.append_nil _).symm⟩
  · have e : nextF low high l = none := by unfold nextF; rw [if_neg (fun h => g1 h.1)]
    rw [e]
    repeat' (first | (refine And.intro (by omega) ?_) | simp -implicitDefEqProofs (disch := omega) only [L10, dT_lt, dF_lt, dT_le, dF_le, dT_eq, dF_eq, push_cast, ↓reduceIte, Nat.reduceEqDiff, reduceCtorEq, Nat.reduceAdd, Nat.reduceSub, Nat.reduceMul, Nat.reduceLeDiff, Nat.reduceLT, Nat.reduceMod, Nat.reduceDiv, Int.reduceToNat, Int.reduceLT, Int.reduceLE, Int.reduceEq, Int.reduceAdd, Int.reduceSub, Int.reduceNeg, Int.reduceMul, Bool.and_self] | split)
    exact ⟨rfl, [], (List.append_nil _).symm⟩

theorem nextR (low high l : List Int) (hl : l.length ≤ 1000) (h1 : allR low) (h2 : allR high) (h3 : allR l) (H : AHeap) : Comp' 11 [.sl 1 (low.map iR), .sl 1 (high.map iR), .sl 1 (l.map iR)] H (nextA (nextF low high l)) := by
  refine ACall.drop (R := fun x => x = nextA (nextF low high l)) ?_
  refine enter Try.func11 L11_ok (Nat.le_of_ble_eq_true rfl) ?_
  by_cases g1 : low.length = l.length
  · by_cases g2 : high.length = l.length
    · repeat' (first | (refine And.intro (by omega) ?_) | simp -implicitDefEqProofs (disch := omega) only [L11, dT_lt, dF_lt, dT_le, dF_le, dT_eq, dF_eq, push_cast, ↓reduceIte, Nat.reduceEqDiff, reduceCtorEq, Nat.reduceAdd, Nat.reduceSub, Nat.reduceMul, Nat.reduceLeDiff, Nat.reduceLT, Nat.reduceMod, Nat.reduceDiv, Int.reduceToNat, Int.reduceLT, Int.reduceLE, Int.reduceEq, Int.reduceAdd, Int.reduceSub, Int.reduceNeg, Int.reduceMul, Bool.and_self] | split)
      refine rk_loopS (fun (j : Nat) e' H' => e' 0 = .sl 1 (low.map iR) ∧ e' 1 = .sl 1 (high.map iR) ∧ e' 2 = .sl 1 (l.map iR) ∧ e' 8 = int j ∧ H = H' ∧ j ≤ l.length ∧ ∀ i, i < j → low.getD i default ≤ l.getD i default ∧ l.getD i default ≤ high.getD i default) (fun j => l.length - j) 0 ?_ ?_
      · exact ⟨rfl, rfl, rfl, rfl, rfl, Nat.zero_le _, by simp⟩
      rintro j e' H' ⟨e0, e1, e2, e26, rfl, hj, hv⟩
      by_cases hlt : j < l.length
      · by_cases ga : low.getD j default ≤ l.getD j default
        · by_cases gb : l.getD j default ≤ high.getD j default
          · repeat' (first | (refine And.intro (by omega) ?_) | simp -implicitDefEqProofs (disch := omega) only [e0, e1, e2, e26, rows_getD, iR, dT_lt, dF_lt, dT_le, dF_le, dT_eq, dF_eq, push_cast, ↓reduceIte, Nat.reduceEqDiff, reduceCtorEq, Nat.reduceAdd, Nat.reduceSub, Nat.reduceMul, Nat.reduceLeDiff, Nat.reduceLT, Nat.reduceMod, Nat.reduceDiv, Int.reduceToNat, Int.reduceLT, Int.reduceLE, Int.reduceEq, Int.reduceAdd, Int.reduceSub, Int.reduceNeg, Int.reduceMul, Bool.and_self] | split)
            refine .mk (j + 1) ⟨e0, e1, e2, rfl, rfl, hlt, fun i hi => ?_⟩ (by omega)
            by_cases hij : i = j
            · subst hij; exact ⟨ga, gb⟩
            · exact hv i (by omega)
          · have e : nextF low high l = none := by unfold nextF; rw [if_neg (fun h => gb (h.2.2 j hlt).2)]
            rw [e]
            repeat' (first | (refine And.intro (by omega) ?_) | simp -implicitDefEqProofs (disch := omega) only [e0, e1, e2, e26, rows_getD, iR, dT_lt, dF_lt, dT_le, dF_le, dT_eq, dF_eq, push_cast, ↓reduceIte, Nat.reduceEqDiff, reduceCtorEq, Nat.reduceAdd, Nat.reduceSub, Nat.reduceMul, Nat.reduceLeDiff, Nat.reduceLT, Nat.reduceMod, Nat.reduceDiv, Int.reduceToNat, Int.reduceLT, Int.reduceLE, Int.reduceEq, Int.reduceAdd, Int.reduceSub, Int.reduceNeg, Int.reduceMul, Bool.and_self] | split)
            exact ⟨rfl, [], (List.append_nil _).symm⟩
        · have e : nextF low high l = none := by unfold nextF; rw [if_neg (fun h => ga (h.2.2 j hlt).1)]
          rw [e]
          repeat' (first | (refine And.intro (by omega) ?_) | simp -implicitDefEqProofs (disch := omega) only [e0, e1, e2, e26, rows_getD, iR, dT_lt, dF_lt, dT_le, dF_le, dT_eq, dF_eq, push_cast, ↓reduceIte, Nat.reduceEqDiff, reduceCtorEq, Nat.reduceAdd, Nat.reduceSub, Nat.reduceMul, Nat.reduceLeDiff, Nat.reduceLT, Nat.reduceMod, Nat.reduceDiv, Int.reduceToNat, Int.reduceLT, Int.reduceLE, Int.reduceEq, Int.reduceAdd, Int.reduceSub, Int.reduceNeg, Int.reduceMul, Bool.and_self] | split)
          exact ⟨rfl, [], (List.append_nil _).symm⟩
      · have hw : within low high l := ⟨g1, g2, fun i hi => hv i (by omega)⟩
        have e : nextF low high l = nxt low high l.length l := by unfold nextF; rw [if_pos hw]
        repeat' (first | (refine And.intro (by omega) ?_) | simp -implicitDefEqProofs (disch := omega) only [e0, e1, e2, e26, dT_lt, dF_lt, dT_le, dF_le, dT_eq, dF_eq, push_cast, ↓reduceIte, Nat.reduceEqDiff, reduceCtorEq, Nat.reduceAdd, Nat.reduceSub, Nat.reduceMul, Nat.reduceLeDiff, Nat.reduceLT, Nat.reduceMod, Nat.reduceDiv, Int.reduceToNat, Int.reduceLT, Int.reduceLE, Int.reduceEq, Int.reduceAdd, Int.reduceSub, Int.reduceNeg, Int.reduceMul, Bool.and_self] | split)
        rw [e]
        refine rk_loopS (fun (p : Nat × List Int) e' H' => e' 0 = .sl 1 (low.map iR) ∧ e' 1 = .sl 1 (high.map iR) ∧ e' 9 = .os H.length 1 0 l.length ∧ e' 10 = int ((p.1 : Int) - 1) ∧ H' = H ++ [.arr 1 1 (p.2.map iR)] ∧ p.1 ≤ l.length ∧ p.2.length = l.length ∧ (∀ i, i < p.1 → p.2.getD i default = l.getD i default) ∧ nxt low high l.length l = nxt low high p.1 p.2) (fun p => p.1) (l.length, l) ?_ ?_
        · exact ⟨e0, e1, by simp [up], rfl, rfl, Nat.le_refl _, rfl, fun i hi => rfl, rfl⟩
        rintro ⟨k, out⟩ e' H' ⟨e0, e1, e10, e11, rfl, hk, hlen, hsame, hn⟩
        simp only at e0 e1 e10 e11 hk hlen hsame hn
        rw [hn]
        cases k with
        | zero =>
          repeat' (first | (refine And.intro (by omega) ?_) | simp -implicitDefEqProofs (disch := omega) only [e0, e1, e10, e11, dT_lt, dF_lt, dT_le, dF_le, dT_eq, dF_eq, push_cast, ↓reduceIte, Nat.reduceEqDiff, reduceCtorEq, Nat.reduceAdd, Nat.reduceSub, Nat.reduceMul, Nat.reduceLeDiff, Nat.reduceLT, Nat.reduceMod, Nat.reduceDiv, Int.reduceToNat, Int.reduceLT, Int.reduceLE, Int.reduceEq, Int.reduceAdd, Int.reduceSub, Int.reduceNeg, Int.reduceMul, Bool.and_self] | split)
          exact ⟨rfl, _, rfl⟩
        | succ k =>
          have hk1 : (((k + 1 : Nat) : Int) - 1) = (k : Int) := by omega
          rw [hk1] at e11
          by_cases hc : out.getD k default < high.getD k default
          · have e : nxt low high (k + 1) out = some (out.set k (out.getD k default + 1)) := by rw [nxt, if_pos hc]
            rw [e]
            have hr := h2 k (by omega)
            have hr' := h3 k (by omega)
            rw [← hsame k (by omega)] at hr'
            unfold i64R at hr hr'
            have hw : IntKind.i64.wrap (out.getD k default + 1) = out.getD k default + 1 := wrap64_of _ (by omega) (by omega)
            repeat' (first | (refine And.intro (by omega) ?_) | simp -implicitDefEqProofs (disch := omega) only [e0, e1, e10, e11, rows_getD, iR, hw, Nat.zero_add, dT_lt, dF_lt, dT_le, dF_le, dT_eq, dF_eq, push_cast, ↓reduceIte, Nat.reduceEqDiff, reduceCtorEq, Nat.reduceAdd, Nat.reduceSub, Nat.reduceMul, Nat.reduceLeDiff, Nat.reduceLT, Nat.reduceMod, Nat.reduceDiv, Int.reduceToNat, Int.reduceLT, Int.reduceLE, Int.reduceEq, Int.reduceAdd, Int.reduceSub, Int.reduceNeg, Int.reduceMul, Bool.and_self] | split)
            exact ⟨by rw [List.take_of_length_le (by simp; omega), nextA, List.map_set]; rfl, _, rfl⟩
          · have e : nxt low high (k + 1) out = nxt low high k (out.set k (low.getD k default)) := by rw [nxt, if_neg hc]
            rw [e]
            repeat' (first | (refine And.intro (by omega) ?_) | simp -implicitDefEqProofs (disch := omega) only [e0, e1, e10, e11, rows_getD, iR, Nat.zero_add, dT_lt, dF_lt, dT_le, dF_le, dT_eq, dF_eq, push_cast, ↓reduceIte, Nat.reduceEqDiff, reduceCtorEq, Nat.reduceAdd, Nat.reduceSub, Nat.reduceMul, Nat.reduceLeDiff, Nat.reduceLT, Nat.reduceMod, Nat.reduceDiv, Int.reduceToNat, Int.reduceLT, Int.reduceLE, Int.reduceEq, Int.reduceAdd, Int.reduceSub, Int.reduceNeg, Int.reduceMul, Bool.and_self] | split)
            refine .mk (k, out.set k (low.getD k default)) ⟨e0, e1, e10, rfl, by rw [List.map_set]; rfl, by omega, by simpa using hlen, fun i hi => ?_, rfl⟩ (by simp)
            rw [← hsame i (by omega)]
            simp [List.getD, List.getElem?_set_ne (show k ≠ i by omega)]
    · have e : nextF low high l = none := by unfold nextF; rw [if_neg (fun h => g2 h.2.1)]
      rw [e]
      repeat' (first | (refine And.intro (by omega) ?_) | simp -implicitDefEqProofs (disch := omega) only [L11, dT_lt, dF_lt, dT_le, dF_le, dT_eq, dF_eq, push_cast, ↓reduceIte, Nat.reduceEqDiff, reduceCtorEq, Nat.reduceAdd, Nat.reduceSub, Nat.reduceMul, Nat.reduceLeDiff, Nat.reduceLT, Nat.reduceMod, Nat.reduceDiv, Int.reduceToNat, Int.reduceLT, Int.reduceLE, Int.reduceEq, Int.reduceAdd, Int.reduceSub, Int.reduceNeg, Int.reduceMul, Bool.and_self] | split)
      exact ⟨rfl, [], (List.append_nil _).symm⟩
  · have e : nextF low high l = none := by unfold nextF; rw [if_neg (fun h => g1 h.1)]
    rw [e]
    repeat' (first | (refine And.intro (by omega) ?_) | simp -implicitDefEqProofs (disch := omega) only [L11, dT_lt, dF_lt, dT_le, dF_le, dT_eq, dF_eq, push_cast, ↓reduceIte, Nat.reduceEqDiff, reduceCtorEq, Nat.reduceAdd, Nat.reduceSub, Nat.reduceMul, Nat.reduceLeDiff, Nat.reduceLT, Nat.reduceMod, Nat.reduceDiv, Int.reduceToNat, Int.reduceLT, Int.reduceLE, Int.reduceEq, Int.reduceAdd, Int.reduceSub, Int.reduceNeg, Int.reduceMul, Bool.and_self] | split)
    exact ⟨rfl, [], (List.append_nil _).symm⟩
end Go.Proofs.Ytdgmlepakippmaa
