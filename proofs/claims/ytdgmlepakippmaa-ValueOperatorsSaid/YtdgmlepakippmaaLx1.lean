/- The lexer's functions, and those of its reference: what each computes. Part 1: bytes, strings. -/
import Derived.Test.YtdgmlepakippmaaFl
import Derived.Test.YtdgmlepakippmaaAx3
import Derived.Test.YtdgmlepakippmaaAx22
namespace Go.Proofs.Ytdgmlepakippmaa
open Go Go.Ax
set_option maxRecDepth 100000
set_option linter.unusedSimpArgs false
set_option linter.unusedVariables false

/-- A byte as the program sees it. -/
abbrev by8 (c : UInt8) : AV := u8 c.toNat
def isL (c : UInt8) : Bool := decide (97 ≤ c.toNat) && decide (c.toNat ≤ 122)
def isD (c : UInt8) : Bool := decide (48 ≤ c.toNat) && decide (c.toNat ≤ 57)
def isW (c : UInt8) : Bool := decide (c.toNat = 9) || decide (c.toNat = 10) || decide (c.toNat = 13) || decide (c.toNat = 32)
def isN (c : UInt8) : Bool := isL c || isD c || decide (c.toNat = 95)
def isC (c : UInt8) : Bool := !decide (c.toNat = 10)
abbrev Comp (k : FuncId) (args : List AV) (H : AHeap) (x : AV) : Prop := ACall Try.prog k args H fun y H' => y = x ∧ H' = H

theorem letter (c : UInt8) (H : AHeap) : Comp 101 [by8 c] H (bool (isL c)) := by
  refine enter Try.func101 L101_ok (Nat.le_of_ble_eq_true rfl) ?_
  repeat' (first | (refine And.intro (by omega) ?_) | simp -implicitDefEqProofs (disch := omega) only [L101, push_cast, ↓reduceIte, Nat.reduceEqDiff, reduceCtorEq, Nat.reduceAdd, Nat.reduceSub, Nat.reduceMul, Nat.reduceLeDiff, Nat.reduceLT, Nat.reduceMod, Nat.reduceDiv, Int.reduceToNat, Int.reduceLT, Int.reduceLE, Int.reduceEq, Int.reduceAdd, Int.reduceSub, Int.reduceNeg, Int.reduceMul, Bool.and_self] | split)
  all_goals (refine bool_eq ?_; simp [isL] <;> omega)
theorem letterR (c : UInt8) (H : AHeap) : Comp 46 [by8 c] H (bool (isL c)) := by
  refine enter Try.func46 L46_ok (Nat.le_of_ble_eq_true rfl) ?_
  repeat' (first | (refine And.intro (by omega) ?_) | simp -implicitDefEqProofs (disch := omega) only [L46, push_cast, ↓reduceIte, Nat.reduceEqDiff, reduceCtorEq, Nat.reduceAdd, Nat.reduceSub, Nat.reduceMul, Nat.reduceLeDiff, Nat.reduceLT, Nat.reduceMod, Nat.reduceDiv, Int.reduceToNat, Int.reduceLT, Int.reduceLE, Int.reduceEq, Int.reduceAdd, Int.reduceSub, Int.reduceNeg, Int.reduceMul, Bool.and_self] | split)
  all_goals (refine bool_eq ?_; simp [isL] <;> omega)
theorem digit (c : UInt8) (H : AHeap) : Comp 86 [by8 c] H (bool (isD c)) := by
  refine enter Try.func86 L86_ok (Nat.le_of_ble_eq_true rfl) ?_
  repeat' (first | (refine And.intro (by omega) ?_) | simp -implicitDefEqProofs (disch := omega) only [L86, push_cast, ↓reduceIte, Nat.reduceEqDiff, reduceCtorEq, Nat.reduceAdd, Nat.reduceSub, Nat.reduceMul, Nat.reduceLeDiff, Nat.reduceLT, Nat.reduceMod, Nat.reduceDiv, Int.reduceToNat, Int.reduceLT, Int.reduceLE, Int.reduceEq, Int.reduceAdd, Int.reduceSub, Int.reduceNeg, Int.reduceMul, Bool.and_self] | split)
  all_goals (refine bool_eq ?_; simp [isD] <;> omega)
theorem digitR (c : UInt8) (H : AHeap) : Comp 77 [by8 c] H (bool (isD c)) := by
  refine enter Try.func77 L77_ok (Nat.le_of_ble_eq_true rfl) ?_
  repeat' (first | (refine And.intro (by omega) ?_) | simp -implicitDefEqProofs (disch := omega) only [L77, push_cast, ↓reduceIte, Nat.reduceEqDiff, reduceCtorEq, Nat.reduceAdd, Nat.reduceSub, Nat.reduceMul, Nat.reduceLeDiff, Nat.reduceLT, Nat.reduceMod, Nat.reduceDiv, Int.reduceToNat, Int.reduceLT, Int.reduceLE, Int.reduceEq, Int.reduceAdd, Int.reduceSub, Int.reduceNeg, Int.reduceMul, Bool.and_self] | split)
  all_goals (refine bool_eq ?_; simp [isD] <;> omega)
theorem white (c : UInt8) (H : AHeap) : Comp 99 [by8 c] H (bool (isW c)) := by
  refine enter Try.func99 L99_ok (Nat.le_of_ble_eq_true rfl) ?_
  repeat' (first | (refine And.intro (by omega) ?_) | simp -implicitDefEqProofs (disch := omega) only [L99, push_cast, ↓reduceIte, Nat.reduceEqDiff, reduceCtorEq, Nat.reduceAdd, Nat.reduceSub, Nat.reduceMul, Nat.reduceLeDiff, Nat.reduceLT, Nat.reduceMod, Nat.reduceDiv, Int.reduceToNat, Int.reduceLT, Int.reduceLE, Int.reduceEq, Int.reduceAdd, Int.reduceSub, Int.reduceNeg, Int.reduceMul, Bool.and_self] | split)
  all_goals (refine bool_eq ?_; simp [isW] <;> omega)
theorem blankR (c : UInt8) (H : AHeap) : Comp 79 [by8 c] H (bool (isW c)) := by
  refine enter Try.func79 L79_ok (Nat.le_of_ble_eq_true rfl) ?_
  repeat' (first | (refine And.intro (by omega) ?_) | simp -implicitDefEqProofs (disch := omega) only [L79, push_cast, ↓reduceIte, Nat.reduceEqDiff, reduceCtorEq, Nat.reduceAdd, Nat.reduceSub, Nat.reduceMul, Nat.reduceLeDiff, Nat.reduceLT, Nat.reduceMod, Nat.reduceDiv, Int.reduceToNat, Int.reduceLT, Int.reduceLE, Int.reduceEq, Int.reduceAdd, Int.reduceSub, Int.reduceNeg, Int.reduceMul, Bool.and_self] | split)
  all_goals (refine bool_eq ?_; simp [isW] <;> omega)
theorem tokenC (c : UInt8) (H : AHeap) : Comp 102 [by8 c] H (bool (isN c)) := by
  refine enter Try.func102 L102_ok (Nat.le_of_ble_eq_true rfl) ?_
  repeat' (first | (refine And.intro (by omega) ?_) | (refine callF_pure (letter _ _) ?_) | (refine callF_pure (digit _ _) ?_) | (refine callQF_pure (letter _ _) rfl ?_) | (refine callQF_pure (digit _ _) rfl ?_) | simp -implicitDefEqProofs (disch := omega) only [L102, push_cast, ↓reduceIte, Nat.reduceEqDiff, reduceCtorEq, Nat.reduceAdd, Nat.reduceSub, Nat.reduceMul, Nat.reduceLeDiff, Nat.reduceLT, Nat.reduceMod, Nat.reduceDiv, Int.reduceToNat, Int.reduceLT, Int.reduceLE, Int.reduceEq, Int.reduceAdd, Int.reduceSub, Int.reduceNeg, Int.reduceMul, Bool.and_self] | split)
  all_goals (refine bool_eq ?_; simp_all [isN] <;> omega)
theorem skipC (c : UInt8) (H : AHeap) : Comp 100 [by8 c] H (bool (isC c)) := by
  refine enter Try.func100 L100_ok (Nat.le_of_ble_eq_true rfl) ?_
  repeat' (first | (refine And.intro (by omega) ?_) | simp -implicitDefEqProofs (disch := omega) only [L100, push_cast, ↓reduceIte, Nat.reduceEqDiff, reduceCtorEq, Nat.reduceAdd, Nat.reduceSub, Nat.reduceMul, Nat.reduceLeDiff, Nat.reduceLT, Nat.reduceMod, Nat.reduceDiv, Int.reduceToNat, Int.reduceLT, Int.reduceLE, Int.reduceEq, Int.reduceAdd, Int.reduceSub, Int.reduceNeg, Int.reduceMul, Bool.and_self] | split)
  all_goals (refine bool_eq ?_; simp [isC] <;> omega)

/-- The place behind bytes with a property. -/
def runF (p : UInt8 → Bool) (l : List UInt8) (i : Nat) : Nat := i + ((l.drop i).takeWhile p).length
theorem runF_step {p : UInt8 → Bool} {l : List UInt8} {i : Nat} (h : i < l.length) (hp : p (l.getD i 0) = true) : runF p l (i + 1) = runF p l i := by
  simp only [runF]
  rw [List.drop_eq_getElem_cons h, List.takeWhile_cons]
  simp [List.getD, h] at hp
  simp [hp]; omega
theorem runF_stop {p : UInt8 → Bool} {l : List UInt8} {i : Nat} (h : i < l.length → p (l.getD i 0) = false) : runF p l i = i := by
  simp only [runF]
  by_cases hi : i < l.length
  · have := h hi
    rw [List.drop_eq_getElem_cons hi, List.takeWhile_cons]
    simp [List.getD, hi] at this
    simp [this]
  · simp [List.drop_eq_nil_of_le (Nat.le_of_not_lt hi)]
theorem runF_le {p : UInt8 → Bool} {l : List UInt8} {i : Nat} (h : i ≤ l.length) : runF p l i ≤ l.length := by
  simp only [runF]
  have := (List.takeWhile_sublist p (l := l.drop i)).length_le
  simp at this
  omega

theorem run (l : List UInt8) (i : Nat) (p : UInt8 → Bool) (f : FuncId) (H : AHeap) (hl : (l.length : Int) < 9223372036854775807) (hi : i ≤ l.length)
    (hp : ∀ c : UInt8, Comp f [by8 c] H (bool (p c))) :
    Comp 85 [str l, int i, .fn (.func f) [] []] H (int (runF p l i)) := by
  refine enter Try.func85 L85_ok (Nat.le_of_ble_eq_true rfl) ?_
  simp -implicitDefEqProofs (disch := omega) only [L85, push_cast, ↓reduceIte, Nat.reduceEqDiff, reduceCtorEq, Nat.reduceAdd, Nat.reduceSub, Nat.reduceMul, Nat.reduceLeDiff, Nat.reduceLT, Nat.reduceMod, Nat.reduceDiv, Int.reduceToNat, Int.reduceLT, Int.reduceLE, Int.reduceEq, Int.reduceAdd, Int.reduceSub, Int.reduceNeg, Int.reduceMul, Bool.and_self]
  refine rk_loop (fun e' H' => ∃ j : Nat, e' 0 = str l ∧ e' 1 = int j ∧ e' 2 = .fn (.func f) [] [] ∧ H' = H ∧ j ≤ l.length ∧ runF p l j = runF p l i) (fun e' _ => match e' 1 with | .v (.int _ n) => l.length - n.toNat | _ => 0) ⟨i, by simp -implicitDefEqProofs (disch := omega) only [push_cast, ↓reduceIte, Nat.reduceEqDiff, reduceCtorEq, Nat.reduceAdd, Nat.reduceSub, Nat.reduceMul, Nat.reduceLeDiff, Nat.reduceLT, Nat.reduceMod, Nat.reduceDiv, Int.reduceToNat, Int.reduceLT, Int.reduceLE, Int.reduceEq, Int.reduceAdd, Int.reduceSub, Int.reduceNeg, Int.reduceMul, Bool.and_self], by simp -implicitDefEqProofs (disch := omega) only [push_cast, ↓reduceIte, Nat.reduceEqDiff, reduceCtorEq, Nat.reduceAdd, Nat.reduceSub, Nat.reduceMul, Nat.reduceLeDiff, Nat.reduceLT, Nat.reduceMod, Nat.reduceDiv, Int.reduceToNat, Int.reduceLT, Int.reduceLE, Int.reduceEq, Int.reduceAdd, Int.reduceSub, Int.reduceNeg, Int.reduceMul, Bool.and_self], by simp -implicitDefEqProofs (disch := omega) only [push_cast, ↓reduceIte, Nat.reduceEqDiff, reduceCtorEq, Nat.reduceAdd, Nat.reduceSub, Nat.reduceMul, Nat.reduceLeDiff, Nat.reduceLT, Nat.reduceMod, Nat.reduceDiv, Int.reduceToNat, Int.reduceLT, Int.reduceLE, Int.reduceEq, Int.reduceAdd, Int.reduceSub, Int.reduceNeg, Int.reduceMul, Bool.and_self], rfl, hi, rfl⟩ ?_
  rintro e' H' ⟨j, h0, h1, h2, rfl, hj, hr⟩
  repeat' (first | (refine And.intro (by omega) ?_) | (refine callF_pure (hp _) ?_) | (refine callQF_pure (hp _) rfl ?_) | simp -implicitDefEqProofs (disch := omega) only [h0, h1, h2, push_cast, ↓reduceIte, Nat.reduceEqDiff, reduceCtorEq, Nat.reduceAdd, Nat.reduceSub, Nat.reduceMul, Nat.reduceLeDiff, Nat.reduceLT, Nat.reduceMod, Nat.reduceDiv, Int.reduceToNat, Int.reduceLT, Int.reduceLE, Int.reduceEq, Int.reduceAdd, Int.reduceSub, Int.reduceNeg, Int.reduceMul, Bool.and_self] | split)
  · exact ⟨⟨j + 1, by simp, by omega, by rw [runF_step (by omega) ‹_›]; exact hr⟩, by omega⟩
  · rename_i h3
    rw [← hr, runF_stop fun _ => Bool.eq_false_iff.2 h3]
  · rw [← hr, runF_stop fun _ => by omega]
end Go.Proofs.Ytdgmlepakippmaa
