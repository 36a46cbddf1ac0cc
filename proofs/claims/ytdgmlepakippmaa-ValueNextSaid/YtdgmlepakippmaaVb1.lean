/- Values: the law ValueNext. -/
import Derived.Test.YtdgmlepakippmaaVa7
namespace Go.Proofs.Ytdgmlepakippmaa
open Go Go.Ax
set_option maxRecDepth 100000
set_option linter.unusedSimpArgs false
set_option linter.unusedVariables false

theorem open_ints {xs : List AV} (h : Val Try.prog 22 xs) : ∃ l : List Int, xs = [.sl 1 (l.map iR)] ∧ big l.length ∧ allR l := by
  obtain ⟨rows, rfl, hl, hr⟩ := val_sl Try.underlying22 c_int h
  obtain ⟨l, rfl, hn⟩ := val_rows hr fun x hx => by
    obtain ⟨n, rfl, hn⟩ := val_int Try.underlying3 hx
    exact (⟨n, rfl, hn⟩ : ∃ a : Int, [int n] = iR a ∧ i64R a)
  refine ⟨l, rfl, by simpa [big] using hl, fun i hi => ?_⟩
  have e : l.getD i default = l[i] := by simp [List.getD, List.getElem?_eq_getElem hi]
  rw [e]
  exact hn _ (List.getElem_mem hi)

theorem nxt_len {low high : List Int} : ∀ {k : Nat} {l m : List Int}, nxt low high k l = some m → m.length = l.length
  | 0, l, m, h => by cases h
  | k + 1, l, m, h => by
    unfold nxt at h
    split at h
    · cases h; simp
    · have := nxt_len h; simpa using this
theorem nextF_len {low high l m : List Int} (h : nextF low high l = some m) : m.length = l.length := by
  unfold nextF at h
  split at h
  · exact nxt_len h
  · cases h

theorem valueNext (low high l : List Int) (b1 : big low.length) (b2 : big high.length) (b3 : big l.length) (h1 : allR low) (h2 : allR high) (h3 : allR l) (H : AHeap) :
    Comp' 3 [.sl 1 (low.map iR), .sl 1 (high.map iR), .sl 1 (l.map iR)] H (bool true) := by
  refine enter Try.func3 L3_ok (Nat.le_of_ble_eq_true rfl) ?_
  by_cases g1 : 40 < low.length
  · repeat' (first | (refine And.intro (by omega) ?_) | (refine callF_pure (awakeV _) ?_) | (refine callQF_pure (awakeV _) rfl ?_) | simp -implicitDefEqProofs (disch := omega) only [L3, dT_lt, dF_lt, dT_le, dF_le, dT_eq, dF_eq, push_cast, ↓reduceIte, Nat.reduceEqDiff, reduceCtorEq, Nat.reduceAdd, Nat.reduceSub, Nat.reduceMul, Nat.reduceLeDiff, Nat.reduceLT, Nat.reduceMod, Nat.reduceDiv, Int.reduceToNat, Int.reduceLT, Int.reduceLE, Int.reduceEq, Int.reduceAdd, Int.reduceSub, Int.reduceNeg, Int.reduceMul, Bool.and_self] | split)
  · by_cases g2 : 40 < high.length
    · repeat' (first | (refine And.intro (by omega) ?_) | (refine callF_pure (awakeV _) ?_) | (refine callQF_pure (awakeV _) rfl ?_) | simp -implicitDefEqProofs (disch := omega) only [L3, dT_lt, dF_lt, dT_le, dF_le, dT_eq, dF_eq, push_cast, ↓reduceIte, Nat.reduceEqDiff, reduceCtorEq, Nat.reduceAdd, Nat.reduceSub, Nat.reduceMul, Nat.reduceLeDiff, Nat.reduceLT, Nat.reduceMod, Nat.reduceDiv, Int.reduceToNat, Int.reduceLT, Int.reduceLE, Int.reduceEq, Int.reduceAdd, Int.reduceSub, Int.reduceNeg, Int.reduceMul, Bool.and_self] | split)
    · by_cases g3 : 40 < l.length
      · repeat' (first | (refine And.intro (by omega) ?_) | (refine callF_pure (awakeV _) ?_) | (refine callQF_pure (awakeV _) rfl ?_) | simp -implicitDefEqProofs (disch := omega) only [L3, dT_lt, dF_lt, dT_le, dF_le, dT_eq, dF_eq, push_cast, ↓reduceIte, Nat.reduceEqDiff, reduceCtorEq, Nat.reduceAdd, Nat.reduceSub, Nat.reduceMul, Nat.reduceLeDiff, Nat.reduceLT, Nat.reduceMod, Nat.reduceDiv, Int.reduceToNat, Int.reduceLT, Int.reduceLE, Int.reduceEq, Int.reduceAdd, Int.reduceSub, Int.reduceNeg, Int.reduceMul, Bool.and_self] | split)
      · have n1 := fun H => nextC low high l (by omega) h1 h2 h3 H
        have n2 := fun H => nextR low high l (by omega) h1 h2 h3 H
        cases hn : nextF low high l with
        | none =>
          rw [hn] at n1 n2
          simp only [nextA] at n1 n2
          repeat' (first | (refine And.intro (by omega) ?_) | (refine callF_pure (awakeV _) ?_) | (refine callF_pure (n1 _) ?_) | (refine callF_pure (n2 _) ?_) | (refine callF_pure (intsC_nil _) ?_) | (refine callQF_pure (awakeV _) rfl ?_) | (refine callQF_pure (n1 _) rfl ?_) | (refine callQF_pure (n2 _) rfl ?_) | (refine callQF_pure (intsC_nil _) rfl ?_) | simp -implicitDefEqProofs (disch := omega) only [L3, dT_lt, dF_lt, dT_le, dF_le, dT_eq, dF_eq, push_cast, ↓reduceIte, Nat.reduceEqDiff, reduceCtorEq, Nat.reduceAdd, Nat.reduceSub, Nat.reduceMul, Nat.reduceLeDiff, Nat.reduceLT, Nat.reduceMod, Nat.reduceDiv, Int.reduceToNat, Int.reduceLT, Int.reduceLE, Int.reduceEq, Int.reduceAdd, Int.reduceSub, Int.reduceNeg, Int.reduceMul, Bool.and_self] | split)
        | some m =>
          rw [hn] at n1 n2
          simp only [nextA] at n1 n2
          have hm := nextF_len hn
          have i1 := fun H => intsC m m (by unfold big at *; omega) H
          rw [show decide (m = m) = true by simp] at i1
          repeat' (first | (refine And.intro (by omega) ?_) | (refine callF_pure (awakeV _) ?_) | (refine callF_pure (n1 _) ?_) | (refine callF_pure (n2 _) ?_) | (refine callF_pure (i1 _) ?_) | (refine callQF_pure (awakeV _) rfl ?_) | (refine callQF_pure (n1 _) rfl ?_) | (refine callQF_pure (n2 _) rfl ?_) | (refine callQF_pure (i1 _) rfl ?_) | simp -implicitDefEqProofs (disch := omega) only [L3, dT_lt, dF_lt, dT_le, dF_le, dT_eq, dF_eq, push_cast, ↓reduceIte, Nat.reduceEqDiff, reduceCtorEq, Nat.reduceAdd, Nat.reduceSub, Nat.reduceMul, Nat.reduceLeDiff, Nat.reduceLT, Nat.reduceMod, Nat.reduceDiv, Int.reduceToNat, Int.reduceLT, Int.reduceLE, Int.reduceEq, Int.reduceAdd, Int.reduceSub, Int.reduceNeg, Int.reduceMul, Bool.and_self] | split)
end Go.Proofs.Ytdgmlepakippmaa
