/- Types, part 7: the examples of the chapter. -/
import Derived.Test.YtdibceakkjmpgaaTy6
namespace Go.Proofs.Ytdibceakkjmpgaa
open Go Go.Ax
set_option maxRecDepth 100000
set_option linter.unusedSimpArgs false
set_option linter.unusedVariables false

theorem indexFuncF (fs : List Fd) (p : Fd → Bool) (f : FuncId) (fa fb : List AV) (H : AHeap) (hl : (fs.length : Int) < 9223372036854775807) (hp : ∀ r, Comp' f (fa ++ .agg (fdR r) :: fb) H (bool (p r))) :
    Comp' 72 [.sl 4 (fs.map fdR), .fn (.func f) fa fb] H (int (idxI (fs.findIdx? p))) := by
  refine enter Try.func72 L72_ok (Nat.le_of_ble_eq_true rfl) ?_
  simp -implicitDefEqProofs (disch := omega) only [L72, push_cast, ↓reduceIte, Nat.reduceEqDiff, reduceCtorEq, Nat.reduceAdd, Nat.reduceSub, Nat.reduceMul, Nat.reduceLeDiff, Nat.reduceLT, Nat.reduceMod, Nat.reduceDiv, Int.reduceToNat, Int.reduceLT, Int.reduceLE, Int.reduceEq, Int.reduceAdd, Int.reduceSub, Int.reduceNeg, Int.reduceMul, Bool.and_self]
  refine rk_loopS (fun (j : Nat) e' H' => e' 0 = .sl 4 (fs.map fdR) ∧ e' 1 = .fn (.func f) fa fb ∧ e' 7 = int fs.length ∧ e' 8 = int j ∧ H = H' ∧ j ≤ fs.length ∧ ∀ i, i < j → p (fs.getD i default) = false) (fun j => fs.length - j) 0 ?_ ?_
  · exact ⟨rfl, rfl, rfl, rfl, rfl, Nat.zero_le _, by simp⟩
  rintro j e' H' ⟨h0, h1, h7, h8, rfl, hj, hr⟩
  have hrow : ∀ r : Fd, (fdR r).take 4 = fdR r := fun r => rfl
  have hlen : ∀ r : Fd, (fdR r).length = 4 := fun r => rfl
  by_cases hlt : j < fs.length
  · by_cases hf : p (fs.getD j default) = true
    · repeat' (first | (refine And.intro (by omega) ?_) | (refine callF_pure (hp _) ?_) | (refine callQF_pure (hp _) rfl ?_) | simp -implicitDefEqProofs (disch := omega) only [h0, h1, h7, h8, rows_getD, hrow, hlen, hf, dT_lt, dF_lt, dT_le, dF_le, dT_eq, dF_eq, push_cast, ↓reduceIte, Nat.reduceEqDiff, reduceCtorEq, Nat.reduceAdd, Nat.reduceSub, Nat.reduceMul, Nat.reduceLeDiff, Nat.reduceLT, Nat.reduceMod, Nat.reduceDiv, Int.reduceToNat, Int.reduceLT, Int.reduceLE, Int.reduceEq, Int.reduceAdd, Int.reduceSub, Int.reduceNeg, Int.reduceMul, Bool.and_self] | split)
      rw [show fs.findIdx? p = some j from find_some hlt hf hr]; rfl
    · have hf' := Bool.eq_false_iff.2 hf
      repeat' (first | (refine And.intro (by omega) ?_) | (refine callF_pure (hp _) ?_) | (refine callQF_pure (hp _) rfl ?_) | simp -implicitDefEqProofs (disch := omega) only [h0, h1, h7, h8, rows_getD, hrow, hlen, hf', dT_lt, dF_lt, dT_le, dF_le, dT_eq, dF_eq, push_cast, ↓reduceIte, Nat.reduceEqDiff, reduceCtorEq, Nat.reduceAdd, Nat.reduceSub, Nat.reduceMul, Nat.reduceLeDiff, Nat.reduceLT, Nat.reduceMod, Nat.reduceDiv, Int.reduceToNat, Int.reduceLT, Int.reduceLE, Int.reduceEq, Int.reduceAdd, Int.reduceSub, Int.reduceNeg, Int.reduceMul, Bool.and_self] | split)
      exact .mk (j + 1) ⟨h0, h1, h7, rfl, rfl, hlt, upto_succ hr hf'⟩ (by omega)
  · repeat' (first | (refine And.intro (by omega) ?_) | simp -implicitDefEqProofs (disch := omega) only [h0, h1, h7, h8, dT_lt, dF_lt, dT_le, dF_le, dT_eq, dF_eq, push_cast, ↓reduceIte, Nat.reduceEqDiff, reduceCtorEq, Nat.reduceAdd, Nat.reduceSub, Nat.reduceMul, Nat.reduceLeDiff, Nat.reduceLT, Nat.reduceMod, Nat.reduceDiv, Int.reduceToNat, Int.reduceLT, Int.reduceLE, Int.reduceEq, Int.reduceAdd, Int.reduceSub, Int.reduceNeg, Int.reduceMul, Bool.and_self] | split)
    rw [show fs.findIdx? p = none from find_none fun i hi => hr i (by omega)]; rfl
theorem memberC (r : Fd) (nm : List UInt8) (q : Nat) (H : AHeap) (hq : H[q]? = some (.box [str nm])) : Comp' 73 [.agg (fdR r), .ptr q 0 0] H (bool (decide (r.name = nm))) := by
  refine ACall.drop (R := fun x => x = bool (decide (r.name = nm))) ?_
  refine enter Try.func73 L73_ok (Nat.le_of_ble_eq_true rfl) ?_
  have hq' : ∀ l, (H ++ l)[q]? = some (.box [str nm]) := fun l => get_app hq
  repeat' (first | (refine And.intro (by omega) ?_) | simp -implicitDefEqProofs (disch := omega) only [L73, fdR, hq', dT_lt, dF_lt, dT_le, dF_le, dT_eq, dF_eq, push_cast, ↓reduceIte, Nat.reduceEqDiff, reduceCtorEq, Nat.reduceAdd, Nat.reduceSub, Nat.reduceMul, Nat.reduceLeDiff, Nat.reduceLT, Nat.reduceMod, Nat.reduceDiv, Int.reduceToNat, Int.reduceLT, Int.reduceLE, Int.reduceEq, Int.reduceAdd, Int.reduceSub, Int.reduceNeg, Int.reduceMul, Bool.and_self] | split)
  exact ⟨_, rfl⟩

def pnt : Rc := ⟨[112, 111, 105, 110, 116], [⟨[112, 120], tyI⟩, ⟨[112, 98], tyB⟩]⟩
theorem point (H : AHeap) : Comp' 46 [] H (.sl 2 ([pnt].map rcR)) := by
  refine ACall.drop (R := fun x => x = .sl 2 ([pnt].map rcR)) ?_
  refine enter Try.func46 L46_ok (Nat.le_of_ble_eq_true rfl) ?_
  repeat' (first | (refine And.intro (by omega) ?_) | simp -implicitDefEqProofs (disch := omega) only [L46, splice, dT_lt, dF_lt, dT_le, dF_le, dT_eq, dF_eq, push_cast, ↓reduceIte, Nat.reduceEqDiff, reduceCtorEq, Nat.reduceAdd, Nat.reduceSub, Nat.reduceMul, Nat.reduceLeDiff, Nat.reduceLT, Nat.reduceMod, Nat.reduceDiv, Int.reduceToNat, Int.reduceLT, Int.reduceLE, Int.reduceEq, Int.reduceAdd, Int.reduceSub, Int.reduceNeg, Int.reduceMul, Bool.and_self] | split)
  exact ⟨rfl, _, rfl⟩
theorem member (H : AHeap) : Comp' 47 [.sl 2 ([pnt].map rcR), str [112, 98]] H (.tup [str [112, 111, 105, 110, 116], int 1, .agg (tyR tyB), bool true]) := by
  refine ACall.drop (R := fun x => x = .tup [str [112, 111, 105, 110, 116], int 1, .agg (tyR tyB), bool true]) ?_
  refine enter Try.func47 L47_ok (Nat.le_of_ble_eq_true rfl) ?_
  repeat' (first | (refine And.intro (by omega) ?_) | simp -implicitDefEqProofs (disch := omega) only [L47, dT_lt, dF_lt, dT_le, dF_le, dT_eq, dF_eq, push_cast, ↓reduceIte, Nat.reduceEqDiff, reduceCtorEq, Nat.reduceAdd, Nat.reduceSub, Nat.reduceMul, Nat.reduceLeDiff, Nat.reduceLT, Nat.reduceMod, Nat.reduceDiv, Int.reduceToNat, Int.reduceLT, Int.reduceLE, Int.reduceEq, Int.reduceAdd, Int.reduceSub, Int.reduceNeg, Int.reduceMul, Bool.and_self] | split)
  refine rk_loopS (fun (j : Nat) e' H' => e' 3 = .ptr H.length 0 0 ∧ e' 6 = .ptr (H.length + 1) 0 0 ∧ e' 11 = .sl 2 ([pnt].map rcR) ∧ e' 12 = int 1 ∧ e' 13 = int 0 ∧ H' = H ++ [.box [str [112, 98]], .box [int 0, int 0, str []]]) (fun j => 0) 0 ?_ ?_
  · exact ⟨rfl, rfl, rfl, rfl, rfl, rfl⟩
  rintro j e' H' ⟨h3, h6, h11, h12, h13, rfl⟩
  have hfi : pnt.fields.findIdx? (fun r => decide (r.name = [112, 98])) = some 1 := rfl
  repeat' (first | (refine And.intro (by omega) ?_) | (refine callF_pure (indexFuncF pnt.fields (fun r => decide (r.name = [112, 98])) 73 [] [.ptr H.length 0 0] _ (by decide) (fun r => memberC r _ _ _ (by simp))) ?_) | (refine callQF_pure (indexFuncF pnt.fields (fun r => decide (r.name = [112, 98])) 73 [] [.ptr H.length 0 0] _ (by decide) (fun r => memberC r _ _ _ (by simp))) rfl ?_) | simp -implicitDefEqProofs (disch := omega) only [h3, h6, h11, h12, h13, rcR, splice, hfi, idxI, dT_lt, dF_lt, dT_le, dF_le, dT_eq, dF_eq, push_cast, ↓reduceIte, Nat.reduceEqDiff, reduceCtorEq, Nat.reduceAdd, Nat.reduceSub, Nat.reduceMul, Nat.reduceLeDiff, Nat.reduceLT, Nat.reduceMod, Nat.reduceDiv, Int.reduceToNat, Int.reduceLT, Int.reduceLE, Int.reduceEq, Int.reduceAdd, Int.reduceSub, Int.reduceNeg, Int.reduceMul, Bool.and_self] | split)
  exact ⟨by decide, by decide, ⟨rfl, rfl⟩, by decide, rfl, rfl, _, rfl⟩

abbrev tyA : Ty := ⟨3, 2, []⟩
abbrev tyP : Ty := ⟨4, 0, [112, 111, 105, 110, 116]⟩
abbrev vrX : Vr := ⟨[120], tyB, 0, 0, false, false⟩
abbrev vrA : Vr := ⟨[97], tyA, 0, 0, false, false⟩
abbrev vrP : Vr := ⟨[112], tyP, 0, 0, false, false⟩
theorem few_pnt : Few [pnt] := ⟨by decide, by simp [pnt]⟩
theorem lay_pnt : layV [pnt] [vrX, vrA, vrP] = .tup [.sl 8 ([{ vrX with slot := 0 }, { vrA with slot := 1 }, { vrP with slot := 3 }].map vrR), int 5] := by kernel_rfl
theorem scal_pnt : scalV [pnt] [tyA, tyP] = .sl 3 ([tyI, tyI, tyI, tyB].map tyR) := by kernel_rfl
theorem fmt_A : formatF tyA = [105, 110, 116, 91, 50, 93] := by kernel_rfl
theorem awakeT (H : AHeap) : Comp' 18 [] H (bool true) := by
  refine ACall.drop (R := fun x => x = bool true) ?_
  refine enter Try.func18 L18_ok (Nat.le_of_ble_eq_true rfl) ?_
  repeat' (first | (refine And.intro (by omega) ?_) | (refine callF_pure (point _) ?_) | (refine callF_pure (layout [pnt] [vrX, vrA, vrP] _ few_pnt (by decide) (by simp)) ?_) | (refine callF_pure (member _) ?_) | (refine callF_pure (scalars [pnt] [tyA, tyP] _ few_pnt (by decide)) ?_) | (refine callF_pure (equalR [tyI, tyI, tyI, tyB] [tyI, tyI, tyI, tyB] _ (by decide) (by decide)) ?_) | (refine callF_pure (format tyA (by decide) _) ?_) | (refine callQF_pure (point _) rfl ?_) | (refine callQF_pure (layout [pnt] [vrX, vrA, vrP] _ few_pnt (by decide) (by simp)) rfl ?_) | (refine callQF_pure (member _) rfl ?_) | (refine callQF_pure (scalars [pnt] [tyA, tyP] _ few_pnt (by decide)) rfl ?_) | (refine callQF_pure (equalR [tyI, tyI, tyI, tyB] [tyI, tyI, tyI, tyB] _ (by decide) (by decide)) rfl ?_) | (refine callQF_pure (format tyA (by decide) _) rfl ?_) | simp -implicitDefEqProofs (disch := omega) only [L18, splice, lay_pnt, scal_pnt, fmt_A, kEqI, kEqS, tyR, vrR, tyI, tyB, dT_lt, dF_lt, dT_le, dF_le, dT_eq, dF_eq, push_cast, ↓reduceIte, Nat.reduceEqDiff, reduceCtorEq, Nat.reduceAdd, Nat.reduceSub, Nat.reduceMul, Nat.reduceLeDiff, Nat.reduceLT, Nat.reduceMod, Nat.reduceDiv, Int.reduceToNat, Int.reduceLT, Int.reduceLE, Int.reduceEq, Int.reduceAdd, Int.reduceSub, Int.reduceNeg, Int.reduceMul, Bool.and_self] | split)
  exact ⟨_, rfl⟩
end Go.Proofs.Ytdibceakkjmpgaa
