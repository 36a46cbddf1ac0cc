/- The lexer's functions, and those of its reference: what each computes. Part 2: keywords. -/
import Derived.Test.YtdgmlepakippmaaLx1
namespace Go.Proofs.Ytdgmlepakippmaa
open Go Go.Ax
set_option maxRecDepth 100000
set_option linter.unusedSimpArgs false
set_option linter.unusedVariables false

def strs (ls : List (List UInt8)) : List (List AV) := ls.map fun s => [str s]
theorem strs_getD {ls : List (List UInt8)} {j : Nat} (h : j < ls.length) : (strs ls).getD j [] = [str (ls.getD j [])] := by
  simp [strs, List.getD_eq_getElem?_getD, h]
theorem strs_len (ls : List (List UInt8)) : (strs ls).length = ls.length := by simp [strs]
theorem take_mem {α : Type} {ls : List α} {s : α} {j : Nat} (hj : j < ls.length) (h : s ∉ ls.take j) (hne : ls[j] ≠ s) : s ∉ ls.take (j + 1) := by
  rw [List.take_succ_eq_append_getElem hj]
  simp only [List.mem_append, List.mem_singleton, not_or]
  exact ⟨h, fun h => hne h.symm⟩

/-- 'Has'. -/
theorem hasR (ls : List (List UInt8)) (s : List UInt8) (H : AHeap) (hl : (ls.length : Int) < 9223372036854775807) : Comp 38 [.sl 1 (strs ls), str s] H (bool (decide (s ∈ ls))) := by
  refine enter Try.func38 L38_ok (Nat.le_of_ble_eq_true rfl) ?_
  simp -implicitDefEqProofs (disch := omega) only [L38, push_cast, ↓reduceIte, Nat.reduceEqDiff, reduceCtorEq, Nat.reduceAdd, Nat.reduceSub, Nat.reduceMul, Nat.reduceLeDiff, Nat.reduceLT, Nat.reduceMod, Nat.reduceDiv, Int.reduceToNat, Int.reduceLT, Int.reduceLE, Int.reduceEq, Int.reduceAdd, Int.reduceSub, Int.reduceNeg, Int.reduceMul, Bool.and_self]
  refine rk_loop (fun e' H' => ∃ j : Nat, e' 0 = .sl 1 (strs ls) ∧ e' 1 = str s ∧ e' 5 = int j ∧ H' = H ∧ j ≤ ls.length ∧ s ∉ ls.take j) (fun e' _ => match e' 5 with | .v (.int _ n) => ls.length - n.toNat | _ => 0) ⟨0, by simp -implicitDefEqProofs (disch := omega) only [push_cast, ↓reduceIte, Nat.reduceEqDiff, reduceCtorEq, Nat.reduceAdd, Nat.reduceSub, Nat.reduceMul, Nat.reduceLeDiff, Nat.reduceLT, Nat.reduceMod, Nat.reduceDiv, Int.reduceToNat, Int.reduceLT, Int.reduceLE, Int.reduceEq, Int.reduceAdd, Int.reduceSub, Int.reduceNeg, Int.reduceMul, Bool.and_self], by simp -implicitDefEqProofs (disch := omega) only [push_cast, ↓reduceIte, Nat.reduceEqDiff, reduceCtorEq, Nat.reduceAdd, Nat.reduceSub, Nat.reduceMul, Nat.reduceLeDiff, Nat.reduceLT, Nat.reduceMod, Nat.reduceDiv, Int.reduceToNat, Int.reduceLT, Int.reduceLE, Int.reduceEq, Int.reduceAdd, Int.reduceSub, Int.reduceNeg, Int.reduceMul, Bool.and_self], by simp -implicitDefEqProofs (disch := omega) only [Int.natCast_zero, push_cast, ↓reduceIte, Nat.reduceEqDiff, reduceCtorEq, Nat.reduceAdd, Nat.reduceSub, Nat.reduceMul, Nat.reduceLeDiff, Nat.reduceLT, Nat.reduceMod, Nat.reduceDiv, Int.reduceToNat, Int.reduceLT, Int.reduceLE, Int.reduceEq, Int.reduceAdd, Int.reduceSub, Int.reduceNeg, Int.reduceMul, Bool.and_self], rfl, Nat.zero_le _, by simp⟩ ?_
  rintro e' H' ⟨j, h0, h1, h2, rfl, hj, hr⟩
  repeat' (first | (refine And.intro (by omega) ?_) | simp -implicitDefEqProofs (disch := omega) only [h0, h1, h2, strs_len, strs_getD, push_cast, ↓reduceIte, Nat.reduceEqDiff, reduceCtorEq, Nat.reduceAdd, Nat.reduceSub, Nat.reduceMul, Nat.reduceLeDiff, Nat.reduceLT, Nat.reduceMod, Nat.reduceDiv, Int.reduceToNat, Int.reduceLT, Int.reduceLE, Int.reduceEq, Int.reduceAdd, Int.reduceSub, Int.reduceNeg, Int.reduceMul, Bool.and_self] | split)
  · rename_i h3 h4
    refine bool_eq ⟨fun _ => decide_eq_true ?_, fun _ => rfl⟩
    rw [← h4]
    simp [List.getD_eq_getElem?_getD, show j < ls.length by omega]
  · rename_i h3 h4
    have hlt : j < ls.length := by omega
    refine ⟨⟨j + 1, by simp, by omega, take_mem hlt hr ?_⟩, by omega⟩
    simpa [List.getD_eq_getElem?_getD, hlt] using h4
  · rename_i h3
    rw [List.take_of_length_le (by omega)] at hr
    simp [hr]
def kwL : List (List UInt8) := [[114, 101, 99, 111, 114, 100], [112, 114, 111, 99], [118, 97, 114], [105, 102], [101, 108, 115, 101], [119, 104, 105, 108, 101], [102, 111, 114], [116, 111], [114, 101, 116, 117, 114, 110], [97, 115, 115, 101, 114, 116], [97, 110, 100], [111, 114], [110, 111, 116], [116, 114, 117, 101], [102, 97, 108, 115, 101], [105, 110, 116], [98, 111, 111, 108], [108, 101, 110]]
def isK (s : List UInt8) : Bool := decide (s ∈ kwL)

theorem keywordR (s : List UInt8) (H : AHeap) : Comp 47 [str s] H (bool (isK s)) := by
  refine enter Try.func47 L47_ok (Nat.le_of_ble_eq_true rfl) ?_
  simp -implicitDefEqProofs (disch := omega) only [L47, push_cast, ↓reduceIte, Nat.reduceEqDiff, reduceCtorEq, Nat.reduceAdd, Nat.reduceSub, Nat.reduceMul, Nat.reduceLeDiff, Nat.reduceLT, Nat.reduceMod, Nat.reduceDiv, Int.reduceToNat, Int.reduceLT, Int.reduceLE, Int.reduceEq, Int.reduceAdd, Int.reduceSub, Int.reduceNeg, Int.reduceMul, Bool.and_self]
  refine callF_pure (hasR kwL s H (by decide)) ?_
  simp -implicitDefEqProofs (disch := omega) only [isK, push_cast, ↓reduceIte, Nat.reduceEqDiff, reduceCtorEq, Nat.reduceAdd, Nat.reduceSub, Nat.reduceMul, Nat.reduceLeDiff, Nat.reduceLT, Nat.reduceMod, Nat.reduceDiv, Int.reduceToNat, Int.reduceLT, Int.reduceLE, Int.reduceEq, Int.reduceAdd, Int.reduceSub, Int.reduceNeg, Int.reduceMul, Bool.and_self]

theorem keywords (H : AHeap) : Comp 114 [] H (.mp (kwL.map fun s => .string (mkS s)) (kwL.map fun _ => bool true)) := by
  refine (ACall.drop (R := fun x => x = .mp (kwL.map fun s => .string (mkS s)) (kwL.map fun _ => bool true)) ?_)
  refine enter Try.func114 L114_ok (Nat.le_of_ble_eq_true rfl) ?_
  simp -implicitDefEqProofs (disch := omega) only [L114, push_cast, ↓reduceIte, Nat.reduceEqDiff, reduceCtorEq, Nat.reduceAdd, Nat.reduceSub, Nat.reduceMul, Nat.reduceLeDiff, Nat.reduceLT, Nat.reduceMod, Nat.reduceDiv, Int.reduceToNat, Int.reduceLT, Int.reduceLE, Int.reduceEq, Int.reduceAdd, Int.reduceSub, Int.reduceNeg, Int.reduceMul, Bool.and_self]
  simp [kEq, bs_mkS, kwL]

theorem mget_strs (s : List UInt8) : ∀ ls : List (List UInt8), mget (.string (mkS s)) (ls.map fun s => .string (mkS s)) (ls.map fun _ => bool true) = if s ∈ ls then some (bool true) else none
  | [] => by simp [mget]
  | x :: l => by
    simp only [List.map_cons, mget, kEq, bs_mkS, beq_iff_eq, List.mem_cons]
    by_cases h : s = x
    · simp [h]
    · simp [h, mget_strs s l]

theorem keyword (s : List UInt8) (H : AHeap) : Comp 103 [str s] H (bool (isK s)) := by
  refine enter Try.func103 L103_ok (Nat.le_of_ble_eq_true rfl) ?_
  simp -implicitDefEqProofs (disch := omega) only [L103, push_cast, ↓reduceIte, Nat.reduceEqDiff, reduceCtorEq, Nat.reduceAdd, Nat.reduceSub, Nat.reduceMul, Nat.reduceLeDiff, Nat.reduceLT, Nat.reduceMod, Nat.reduceDiv, Int.reduceToNat, Int.reduceLT, Int.reduceLE, Int.reduceEq, Int.reduceAdd, Int.reduceSub, Int.reduceNeg, Int.reduceMul, Bool.and_self]
  refine callF_pure (keywords H) ?_
  simp -implicitDefEqProofs (disch := omega) only [mget_strs, push_cast, ↓reduceIte, Nat.reduceEqDiff, reduceCtorEq, Nat.reduceAdd, Nat.reduceSub, Nat.reduceMul, Nat.reduceLeDiff, Nat.reduceLT, Nat.reduceMod, Nat.reduceDiv, Int.reduceToNat, Int.reduceLT, Int.reduceLE, Int.reduceEq, Int.reduceAdd, Int.reduceSub, Int.reduceNeg, Int.reduceMul, Bool.and_self]
  refine ⟨fun k hk => ?_, ?_⟩
  · obtain ⟨x, _, rfl⟩ := List.mem_map.1 hk; rfl
  · unfold isK
    by_cases h : s ∈ kwL <;> simp [h, lookV]

end Go.Proofs.Ytdgmlepakippmaa
