/- The lexer's functions, and those of its reference: what each computes. Part 7: the examples, and the statement's function. -/
import Derived.Test.YtdibceakkjmpgaaLx6
import Derived.KernelRfl
namespace Go.Proofs.Ytdibceakkjmpgaa
open Go Go.Ax
set_option maxRecDepth 100000
set_option linter.unusedSimpArgs false
set_option linter.unusedVariables false

def exA : List UInt8 := [120, 61, 45, 49, 32, 35, 32, 97]
def exB : List UInt8 := [97, 36, 36, 98]
theorem scan_A : scanF [120, 61, 45, 49, 32, 35, 32, 97] = [⟨0, 0, 0, 1⟩, ⟨3, 1, 1, 2⟩, ⟨3, 2, 2, 3⟩, ⟨2, 3, 3, 4⟩, ⟨5, 4, 8, 8⟩] := by kernel_rfl
theorem scan_B : scanF [97, 36, 36, 98] = [⟨0, 0, 0, 1⟩, ⟨4, 1, 1, 3⟩, ⟨0, 3, 3, 4⟩, ⟨5, 4, 4, 4⟩] := by kernel_rfl
theorem words_B : wordsF [97, 36, 36, 98] [⟨0, 0, 0, 1⟩, ⟨4, 1, 1, 3⟩, ⟨0, 3, 3, 4⟩, ⟨5, 4, 4, 4⟩] = [[97], [36, 36], [98], []] := by kernel_rfl
theorem space_A : spaceV [120] [61] = str [] := by kernel_rfl
theorem space_B : spaceV [61] [61] = str [32] := by kernel_rfl
theorem space_C : spaceV [120] [49] = str [32] := by kernel_rfl

theorem awake (H : AHeap) : Comp 8 [] H (bool true) := by
  refine enter Try.func8 L8_ok (Nat.le_of_ble_eq_true rfl) ?_
  repeat' (first | (refine ⟨by omega, ?_⟩) | (refine callF_pure (scan _ _ (by decide)) ?_) | (refine callF_pure (words _ [⟨0, 0, 0, 1⟩, ⟨4, 1, 1, 3⟩, ⟨0, 3, 3, 4⟩, ⟨5, 4, 4, 4⟩] _ (by decide) (by decide) (by decide)) ?_) | (refine callF_pure (textsR [[97], [36, 36], [98], []] [[97], [36, 36], [98], []] _ (by decide) (by decide)) ?_) | (refine callF_pure (space _ _ _ (by decide)) ?_) | (refine callQF_pure (scan _ _ (by decide)) rfl ?_) | (refine callQF_pure (words _ [⟨0, 0, 0, 1⟩, ⟨4, 1, 1, 3⟩, ⟨0, 3, 3, 4⟩, ⟨5, 4, 4, 4⟩] _ (by decide) (by decide) (by decide)) rfl ?_) | (refine callQF_pure (textsR [[97], [36, 36], [98], []] [[97], [36, 36], [98], []] _ (by decide) (by decide)) rfl ?_) | (refine callQF_pure (space _ _ _ (by decide)) rfl ?_) | simp -implicitDefEqProofs (disch := omega) only [L8, scan_A, scan_B, words_B, space_A, space_B, space_C, tokR, strs, push_cast, ↓reduceIte, Nat.reduceEqDiff, reduceCtorEq, Nat.reduceAdd, Nat.reduceSub, Nat.reduceMul, Nat.reduceLeDiff, Nat.reduceLT, Nat.reduceMod, Nat.reduceDiv, Int.reduceToNat, Int.reduceLT, Int.reduceLE, Int.reduceEq, Int.reduceAdd, Int.reduceSub, Int.reduceNeg, Int.reduceMul, Bool.and_self] | split)
  rfl

theorem lexerForms (a b : List UInt8) (H : AHeap) : Comp 3 [str a, str b] H (bool true) := by
  refine enter Try.func3 L3_ok (Nat.le_of_ble_eq_true rfl) ?_
  have hn : (∃ n : Nat, numV a = .tup [int n, bool true]) ∨ numV a = .tup [int 0, bool false] := by
    unfold numV; split
    · exact .inl ⟨_, rfl⟩
    · exact .inr rfl
  rcases hn with ⟨n, hn⟩ | hn
  all_goals
    repeat' (first | (refine ⟨by omega, ?_⟩) | (refine callF_pure (number _ _ (by omega)) ?_) | (refine callF_pure (numberR _ _ (by omega)) ?_) | (refine callF_pure (keyword _ _) ?_) | (refine callF_pure (keywordR _ _) ?_) | (refine callF_pure (name _ _ (by omega)) ?_) | (refine callF_pure (nameR _ _ (by omega)) ?_) | (refine callF_pure (space _ _ _ (by omega)) ?_) | (refine callF_pure (spaceR _ _ _ (by omega)) ?_) | (refine callF_pure (awake _) ?_) | (refine callQF_pure (number _ _ (by omega)) rfl ?_) | (refine callQF_pure (numberR _ _ (by omega)) rfl ?_) | (refine callQF_pure (keyword _ _) rfl ?_) | (refine callQF_pure (keywordR _ _) rfl ?_) | (refine callQF_pure (name _ _ (by omega)) rfl ?_) | (refine callQF_pure (nameR _ _ (by omega)) rfl ?_) | (refine callQF_pure (space _ _ _ (by omega)) rfl ?_) | (refine callQF_pure (spaceR _ _ _ (by omega)) rfl ?_) | (refine callQF_pure (awake _) rfl ?_) | simp -implicitDefEqProofs (disch := omega) only [L3, hn, spaceV, push_cast, ↓reduceIte, Nat.reduceEqDiff, reduceCtorEq, Nat.reduceAdd, Nat.reduceSub, Nat.reduceMul, Nat.reduceLeDiff, Nat.reduceLT, Nat.reduceMod, Nat.reduceDiv, Int.reduceToNat, Int.reduceLT, Int.reduceLE, Int.reduceEq, Int.reduceAdd, Int.reduceSub, Int.reduceNeg, Int.reduceMul, Bool.and_self] | split)
end Go.Proofs.Ytdibceakkjmpgaa
