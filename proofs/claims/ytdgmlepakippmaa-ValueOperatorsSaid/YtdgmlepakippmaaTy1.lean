/- Types, records and variables as plain data; what the functions of types and of its reference compute. Part 1: records, Valid. -/
import Derived.Test.YtdgmlepakippmaaFt
import Derived.Test.YtdgmlepakippmaaAx26
import Derived.KernelRfl
namespace Go.Proofs.Ytdgmlepakippmaa
open Go Go.Ax
set_option maxRecDepth 100000
set_option linter.unusedSimpArgs false
set_option linter.unusedVariables false
abbrev Comp' (k : FuncId) (args : List AV) (H : AHeap) (x : AV) : Prop := ACall Try.prog k args H fun y H' => y = x ∧ H' = H

structure Ty where
  k : Int
  len : Int
  rc : List UInt8
  deriving Inhabited, DecidableEq
structure Fd where
  name : List UInt8
  ty : Ty
  deriving Inhabited, DecidableEq
structure Rc where
  name : List UInt8
  fields : List Fd
  deriving Inhabited, DecidableEq
structure Vr where
  name : List UInt8
  ty : Ty
  slot : Int
  node : Int
  var_ : Bool
  loop_ : Bool
  deriving Inhabited, DecidableEq
def tyR (t : Ty) : List AV := [int t.k, int t.len, str t.rc]
def fdR (f : Fd) : List AV := [str f.name, int f.ty.k, int f.ty.len, str f.ty.rc]
def rcR (r : Rc) : List AV := [str r.name, .sl 4 (r.fields.map fdR)]
def vrR (v : Vr) : List AV := [str v.name, int v.ty.k, int v.ty.len, str v.ty.rc, int v.slot, int v.node, bool v.var_, bool v.loop_]
/-- Nothing is longer, or greater, than a value of its type. -/
def big (n : Nat) : Prop := n ≤ 9223372036854775807
structure Ty.Ok (t : Ty) : Prop where
  k : i64R t.k
  len : i64R t.len
  rc : big t.rc.length
structure Fd.Ok (f : Fd) : Prop where
  name : big f.name.length
  ty : f.ty.Ok
structure Rc.Ok (r : Rc) : Prop where
  name : big r.name.length
  len : big r.fields.length
  fields : ∀ f ∈ r.fields, f.Ok
structure Vr.Ok (v : Vr) : Prop where
  name : big v.name.length
  ty : v.ty.Ok
  slot : i64R v.slot
  node : i64R v.node

theorem c_int : Try.prog.cellsOf 3 = 1 := by kernel_rfl
theorem c_str : Try.prog.cellsOf 9 = 1 := by kernel_rfl
theorem c_bool : Try.prog.cellsOf 4 = 1 := by kernel_rfl
theorem c_ty : Try.prog.cellsOf 39 = 3 := by kernel_rfl
theorem c_fd : Try.prog.cellsOf 54 = 4 := by kernel_rfl
theorem c_rc : Try.prog.cellsOf 57 = 2 := by kernel_rfl
theorem c_fds : Try.prog.cellsOf 55 = 1 := by kernel_rfl

theorem list3 {α : Type} {l : List α} (h : l.length = 3) : ∃ a b c, l = [a, b, c] := by
  match l, h with
  | [a, b, c], _ => exact ⟨a, b, c, rfl⟩
theorem list4 {α : Type} {l : List α} (h : l.length = 4) : ∃ a b c d, l = [a, b, c, d] := by
  match l, h with
  | [a, b, c, d], _ => exact ⟨a, b, c, d, rfl⟩
theorem list2 {α : Type} {l : List α} (h : l.length = 2) : ∃ a b, l = [a, b] := by
  match l, h with
  | [a, b], _ => exact ⟨a, b, rfl⟩
theorem list8 {α : Type} {l : List α} (h : l.length = 8) : ∃ a b c d e f g i, l = [a, b, c, d, e, f, g, i] := by
  match l, h with
  | [a, b, c, d, e, f, g, i], _ => exact ⟨a, b, c, d, e, f, g, i, rfl⟩

theorem open_ty {xs : List AV} (h : Val Try.prog 39 xs) : ∃ t : Ty, xs = tyR t ∧ t.Ok := by
  obtain ⟨hl, hf⟩ := val_st Try.underlying39 c_ty h
  obtain ⟨a, b, c, rfl⟩ := list3 hl
  obtain ⟨x, hx, hx'⟩ := val_int Try.underlying3 (val_fld hf 0 3 0 1 rfl c_int)
  obtain ⟨y, hy, hy'⟩ := val_int Try.underlying3 (val_fld hf 1 3 1 1 rfl c_int)
  obtain ⟨z, hz, hz'⟩ := val_str Try.underlying9 (val_fld hf 2 9 2 1 rfl c_str)
  simp only [List.drop_succ_cons, List.drop_zero, List.take_succ_cons, List.take_zero, List.cons.injEq, and_true] at hx hy hz
  exact ⟨⟨x, y, z⟩, by simp [tyR, hx, hy, hz], hx', hy', hz'⟩
theorem open_fd {xs : List AV} (h : Val Try.prog 54 xs) : ∃ f : Fd, xs = fdR f ∧ f.Ok := by
  obtain ⟨hl, hf⟩ := val_st Try.underlying54 c_fd h
  obtain ⟨a, b, c, d, rfl⟩ := list4 hl
  obtain ⟨x, hx, hx'⟩ := val_str Try.underlying9 (val_fld hf 0 9 0 1 rfl c_str)
  obtain ⟨y, hy, hy'⟩ := open_ty (val_fld hf 1 39 1 3 rfl c_ty)
  simp only [tyR, List.drop_succ_cons, List.drop_zero, List.take_succ_cons, List.take_zero, List.cons.injEq, and_true] at hx hy
  exact ⟨⟨x, y⟩, by simp [fdR, hx, hy], hx', hy'⟩
theorem open_rc {xs : List AV} (h : Val Try.prog 57 xs) : ∃ r : Rc, xs = rcR r ∧ r.Ok := by
  obtain ⟨hl, hf⟩ := val_st Try.underlying57 c_rc h
  obtain ⟨a, b, rfl⟩ := list2 hl
  obtain ⟨x, hx, hx'⟩ := val_str Try.underlying9 (val_fld hf 0 9 0 1 rfl c_str)
  obtain ⟨rows, hy, hy', hrows⟩ := val_sl Try.underlying55 c_fd (val_fld hf 1 55 1 1 rfl c_fds)
  obtain ⟨l, rfl, hl'⟩ := val_rows hrows fun x => open_fd
  simp only [List.drop_succ_cons, List.drop_zero, List.take_succ_cons, List.take_zero, List.cons.injEq, and_true] at hx hy
  exact ⟨⟨x, l⟩, by simp [rcR, hx, hy], hx', by simpa [big] using hy', hl'⟩
/-- At most 20 records with at most 20 fields. -/
def fewF (rs : List Rc) : Bool := decide (rs.length ≤ 20) && rs.all fun r => decide (r.fields.length ≤ 20)
theorem few (rs : List Rc) (H : AHeap) (hl : rs.length ≤ 9223372036854775807) : Comp' 24 [.sl 2 (rs.map rcR)] H (bool (fewF rs)) := by
  refine enter Try.func24 L24_ok (Nat.le_of_ble_eq_true rfl) ?_
  simp -implicitDefEqProofs (disch := omega) only [L24, push_cast, ↓reduceIte, Nat.reduceEqDiff, reduceCtorEq, Nat.reduceAdd, Nat.reduceSub, Nat.reduceMul, Nat.reduceLeDiff, Nat.reduceLT, Nat.reduceMod, Nat.reduceDiv, Int.reduceToNat, Int.reduceLT, Int.reduceLE, Int.reduceEq, Int.reduceAdd, Int.reduceSub, Int.reduceNeg, Int.reduceMul, Bool.and_self]
  refine rk_loopS (fun (j : Nat) e' H' => e' 0 = .sl 2 (rs.map rcR) ∧ e' 3 = int j ∧ H = H' ∧ j ≤ rs.length ∧ ∀ i, i < j → (rs.getD i default).fields.length ≤ 20) (fun j => rs.length - j) 0 ?_ ?_
  · exact ⟨rfl, rfl, rfl, Nat.zero_le _, by simp⟩
  rintro j e' H' ⟨h0, h3, rfl, hj, hr⟩
  by_cases hlt : j < rs.length
  · by_cases hf : (rs.getD j default).fields.length ≤ 20
    · repeat' (first | (refine And.intro (by omega) ?_) | simp -implicitDefEqProofs (disch := omega) only [h0, h3, rows_getD, rcR, dT_lt, dF_lt, dT_le, dF_le, dT_eq, dF_eq, push_cast, ↓reduceIte, Nat.reduceEqDiff, reduceCtorEq, Nat.reduceAdd, Nat.reduceSub, Nat.reduceMul, Nat.reduceLeDiff, Nat.reduceLT, Nat.reduceMod, Nat.reduceDiv, Int.reduceToNat, Int.reduceLT, Int.reduceLE, Int.reduceEq, Int.reduceAdd, Int.reduceSub, Int.reduceNeg, Int.reduceMul, Bool.and_self] | split)
      exact .mk (j + 1) ⟨h0, rfl, rfl, hlt, upto_succ hr hf⟩ (by omega)
    · repeat' (first | (refine And.intro (by omega) ?_) | simp -implicitDefEqProofs (disch := omega) only [h0, h3, rows_getD, rcR, dT_lt, dF_lt, dT_le, dF_le, dT_eq, dF_eq, push_cast, ↓reduceIte, Nat.reduceEqDiff, reduceCtorEq, Nat.reduceAdd, Nat.reduceSub, Nat.reduceMul, Nat.reduceLeDiff, Nat.reduceLT, Nat.reduceMod, Nat.reduceDiv, Int.reduceToNat, Int.reduceLT, Int.reduceLE, Int.reduceEq, Int.reduceAdd, Int.reduceSub, Int.reduceNeg, Int.reduceMul, Bool.and_self] | split)
      rw [show fewF rs = false from Bool.eq_false_iff.2 fun h => hf ?_]
      simp only [fewF, Bool.and_eq_true, List.all_eq_true, decide_eq_true_eq] at h
      exact h.2 _ (getD_mem' hlt)
  · repeat' (first | (refine And.intro (by omega) ?_) | simp -implicitDefEqProofs (disch := omega) only [h0, h3, dT_lt, dF_lt, dT_le, dF_le, dT_eq, dF_eq, push_cast, ↓reduceIte, Nat.reduceEqDiff, reduceCtorEq, Nat.reduceAdd, Nat.reduceSub, Nat.reduceMul, Nat.reduceLeDiff, Nat.reduceLT, Nat.reduceMod, Nat.reduceDiv, Int.reduceToNat, Int.reduceLT, Int.reduceLE, Int.reduceEq, Int.reduceAdd, Int.reduceSub, Int.reduceNeg, Int.reduceMul, Bool.and_self] | split)
    refine bool_eq ?_
    simp only [fewF, Bool.and_eq_true, List.all_eq_true, decide_eq_true_eq]
    refine ⟨fun h => ⟨by omega, fun r hr' => ?_⟩, fun h => by omega⟩
    obtain ⟨i, hi, rfl⟩ := List.mem_iff_getElem.1 hr'
    have := hr i (by omega)
    simpa [List.getD_eq_getElem?_getD, hi] using this
theorem fewF_iff {rs : List Rc} : fewF rs = true ↔ rs.length ≤ 20 ∧ ∀ r ∈ rs, r.fields.length ≤ 20 := by
  simp only [fewF, Bool.and_eq_true, List.all_eq_true, decide_eq_true_eq]

/-- The index of the record with a name. -/
def idxF (rs : List Rc) (nm : List UInt8) : Option Nat := rs.findIdx? fun r => decide (r.name = nm)
/-- The library's search. -/
theorem indexFunc (rs : List Rc) (p : Rc → Bool) (f : FuncId) (fa fb : List AV) (H : AHeap) (hl : (rs.length : Int) < 9223372036854775807) (hp : ∀ r, Comp' f (fa ++ .agg (rcR r) :: fb) H (bool (p r))) :
    Comp' 112 [.sl 2 (rs.map rcR), .fn (.func f) fa fb] H (int (idxI (rs.findIdx? p))) := by
  refine enter Try.func112 L112_ok (Nat.le_of_ble_eq_true rfl) ?_
  simp -implicitDefEqProofs (disch := omega) only [L112, push_cast, ↓reduceIte, Nat.reduceEqDiff, reduceCtorEq, Nat.reduceAdd, Nat.reduceSub, Nat.reduceMul, Nat.reduceLeDiff, Nat.reduceLT, Nat.reduceMod, Nat.reduceDiv, Int.reduceToNat, Int.reduceLT, Int.reduceLE, Int.reduceEq, Int.reduceAdd, Int.reduceSub, Int.reduceNeg, Int.reduceMul, Bool.and_self]
  refine rk_loopS (fun (j : Nat) e' H' => e' 0 = .sl 2 (rs.map rcR) ∧ e' 1 = .fn (.func f) fa fb ∧ e' 7 = int rs.length ∧ e' 8 = int j ∧ H = H' ∧ j ≤ rs.length ∧ ∀ i, i < j → p (rs.getD i default) = false) (fun j => rs.length - j) 0 ?_ ?_
  · exact ⟨rfl, rfl, rfl, rfl, rfl, Nat.zero_le _, by simp⟩
  rintro j e' H' ⟨h0, h1, h7, h8, rfl, hj, hr⟩
  have hrow : ∀ r : Rc, (rcR r).take 2 = rcR r := fun r => rfl
  have hlen : ∀ r : Rc, (rcR r).length = 2 := fun r => rfl
  by_cases hlt : j < rs.length
  · by_cases hf : p (rs.getD j default) = true
    · repeat' (first | (refine And.intro (by omega) ?_) | (refine callF_pure (hp _) ?_) | (refine callQF_pure (hp _) rfl ?_) | simp -implicitDefEqProofs (disch := omega) only [h0, h1, h7, h8, rows_getD, hrow, hlen, hf, dT_lt, dF_lt, dT_le, dF_le, dT_eq, dF_eq, push_cast, ↓reduceIte, Nat.reduceEqDiff, reduceCtorEq, Nat.reduceAdd, Nat.reduceSub, Nat.reduceMul, Nat.reduceLeDiff, Nat.reduceLT, Nat.reduceMod, Nat.reduceDiv, Int.reduceToNat, Int.reduceLT, Int.reduceLE, Int.reduceEq, Int.reduceAdd, Int.reduceSub, Int.reduceNeg, Int.reduceMul, Bool.and_self] | split)
      rw [show rs.findIdx? p = some j from find_some hlt hf hr]; rfl
    · have hf' := Bool.eq_false_iff.2 hf
      repeat' (first | (refine And.intro (by omega) ?_) | (refine callF_pure (hp _) ?_) | (refine callQF_pure (hp _) rfl ?_) | simp -implicitDefEqProofs (disch := omega) only [h0, h1, h7, h8, rows_getD, hrow, hlen, hf', dT_lt, dF_lt, dT_le, dF_le, dT_eq, dF_eq, push_cast, ↓reduceIte, Nat.reduceEqDiff, reduceCtorEq, Nat.reduceAdd, Nat.reduceSub, Nat.reduceMul, Nat.reduceLeDiff, Nat.reduceLT, Nat.reduceMod, Nat.reduceDiv, Int.reduceToNat, Int.reduceLT, Int.reduceLE, Int.reduceEq, Int.reduceAdd, Int.reduceSub, Int.reduceNeg, Int.reduceMul, Bool.and_self] | split)
      exact .mk (j + 1) ⟨h0, h1, h7, rfl, rfl, hlt, upto_succ hr hf'⟩ (by omega)
  · repeat' (first | (refine And.intro (by omega) ?_) | simp -implicitDefEqProofs (disch := omega) only [h0, h1, h7, h8, dT_lt, dF_lt, dT_le, dF_le, dT_eq, dF_eq, push_cast, ↓reduceIte, Nat.reduceEqDiff, reduceCtorEq, Nat.reduceAdd, Nat.reduceSub, Nat.reduceMul, Nat.reduceLeDiff, Nat.reduceLT, Nat.reduceMod, Nat.reduceDiv, Int.reduceToNat, Int.reduceLT, Int.reduceLE, Int.reduceEq, Int.reduceAdd, Int.reduceSub, Int.reduceNeg, Int.reduceMul, Bool.and_self] | split)
    rw [show rs.findIdx? p = none from find_none fun i hi => hr i (by omega)]; rfl

theorem recordC (r : Rc) (nm : List UInt8) (q : Nat) (H : AHeap) (hq : H[q]? = some (.box [str nm])) : Comp' 113 [.agg (rcR r), .ptr q 0 0] H (bool (decide (r.name = nm))) := by
  refine ACall.drop (R := fun x => x = bool (decide (r.name = nm))) ?_
  refine enter Try.func113 L113_ok (Nat.le_of_ble_eq_true rfl) ?_
  have hq' : ∀ l, (H ++ l)[q]? = some (.box [str nm]) := fun l => get_app hq
  repeat' (first | (refine And.intro (by omega) ?_) | simp -implicitDefEqProofs (disch := omega) only [L113, rcR, hq', dT_lt, dF_lt, dT_le, dF_le, dT_eq, dF_eq, push_cast, ↓reduceIte, Nat.reduceEqDiff, reduceCtorEq, Nat.reduceAdd, Nat.reduceSub, Nat.reduceMul, Nat.reduceLeDiff, Nat.reduceLT, Nat.reduceMod, Nat.reduceDiv, Int.reduceToNat, Int.reduceLT, Int.reduceLE, Int.reduceEq, Int.reduceAdd, Int.reduceSub, Int.reduceNeg, Int.reduceMul, Bool.and_self] | split)
  exact ⟨_, rfl⟩

/-- The record with a name, if there is one. -/
def recV (rs : List Rc) (nm : List UInt8) : AV := match idxF rs nm with
  | some i => .tup [.agg (rcR (rs.getD i default)), bool true]
  | none => .tup [.agg [str [], nilS], bool false]
theorem record (rs : List Rc) (nm : List UInt8) (H : AHeap) (hl : (rs.length : Int) < 9223372036854775807) : Comp' 96 [.sl 2 (rs.map rcR), str nm] H (recV rs nm) := by
  refine ACall.drop (R := fun x => x = recV rs nm) ?_
  refine enter Try.func96 L96_ok (Nat.le_of_ble_eq_true rfl) ?_
  have hc : ∀ r : Rc, Comp' 113 [.agg (rcR r), .ptr H.length 0 0] (H ++ [.box [str nm], .box [str [], nilS]]) (bool (decide (r.name = nm))) := fun r => recordC r nm _ _ (by simp)
  have hrow : ∀ r : Rc, (rcR r).take 2 = rcR r := fun r => rfl
  have hlen : ∀ r : Rc, (rcR r).length = 2 := fun r => rfl
  cases hi : idxF rs nm with
  | none =>
    have hi' : rs.findIdx? (fun r => decide (r.name = nm)) = none := hi
    repeat' (first | (refine And.intro (by omega) ?_) | (refine callF_pure (indexFunc rs (fun r => decide (r.name = nm)) 113 [] [.ptr H.length 0 0] _ hl hc) ?_) | (refine callQF_pure (indexFunc rs (fun r => decide (r.name = nm)) 113 [] [.ptr H.length 0 0] _ hl hc) rfl ?_) | simp -implicitDefEqProofs (disch := omega) only [L96, hi', idxI, dT_lt, dF_lt, dT_le, dF_le, dT_eq, dF_eq, push_cast, ↓reduceIte, Nat.reduceEqDiff, reduceCtorEq, Nat.reduceAdd, Nat.reduceSub, Nat.reduceMul, Nat.reduceLeDiff, Nat.reduceLT, Nat.reduceMod, Nat.reduceDiv, Int.reduceToNat, Int.reduceLT, Int.reduceLE, Int.reduceEq, Int.reduceAdd, Int.reduceSub, Int.reduceNeg, Int.reduceMul, Bool.and_self] | split)
    exact ⟨by unfold recV; rw [hi], _, rfl⟩
  | some i =>
    have hi' : rs.findIdx? (fun r => decide (r.name = nm)) = some i := hi
    have hlt := (find_lt hi).1
    repeat' (first | (refine And.intro (by omega) ?_) | (refine callF_pure (indexFunc rs (fun r => decide (r.name = nm)) 113 [] [.ptr H.length 0 0] _ hl hc) ?_) | (refine callQF_pure (indexFunc rs (fun r => decide (r.name = nm)) 113 [] [.ptr H.length 0 0] _ hl hc) rfl ?_) | simp -implicitDefEqProofs (disch := omega) only [L96, hi', idxI, rows_getD, hrow, hlen, dT_lt, dF_lt, dT_le, dF_le, dT_eq, dF_eq, push_cast, ↓reduceIte, Nat.reduceEqDiff, reduceCtorEq, Nat.reduceAdd, Nat.reduceSub, Nat.reduceMul, Nat.reduceLeDiff, Nat.reduceLT, Nat.reduceMod, Nat.reduceDiv, Int.reduceToNat, Int.reduceLT, Int.reduceLE, Int.reduceEq, Int.reduceAdd, Int.reduceSub, Int.reduceNeg, Int.reduceMul, Bool.and_self] | split)
    exact ⟨rfl, by unfold recV; rw [hi], rfl, _, rfl⟩

def tyI : Ty := ⟨1, 0, []⟩
def tyB : Ty := ⟨2, 0, []⟩
/-- The type of a field. -/
def scF (t : Ty) : Ty := if t.k = 2 then tyB else tyI
theorem scalar (t : Ty) (H : AHeap) : Comp' 98 [.agg (tyR t)] H (.agg (tyR (scF t))) := by
  refine ACall.drop (R := fun x => x = .agg (tyR (scF t))) ?_
  refine enter Try.func98 L98_ok (Nat.le_of_ble_eq_true rfl) ?_
  repeat' (first | (refine And.intro (by omega) ?_) | simp -implicitDefEqProofs (disch := omega) only [L98, tyR, dT_lt, dF_lt, dT_le, dF_le, dT_eq, dF_eq, push_cast, ↓reduceIte, Nat.reduceEqDiff, reduceCtorEq, Nat.reduceAdd, Nat.reduceSub, Nat.reduceMul, Nat.reduceLeDiff, Nat.reduceLT, Nat.reduceMod, Nat.reduceDiv, Int.reduceToNat, Int.reduceLT, Int.reduceLE, Int.reduceEq, Int.reduceAdd, Int.reduceSub, Int.reduceNeg, Int.reduceMul, Bool.and_self] | split)
  · rename_i h; exact ⟨by unfold scF; rw [if_pos h]; rfl, _, rfl⟩
  · rename_i h; exact ⟨by unfold scF; rw [if_neg h]; rfl, _, rfl⟩

theorem shp1 (t : Ty) (rs : List Rc) (H : AHeap) : Comp' 90 [.agg (tyR t), .sl 2 (rs.map rcR)] H (bool (decide (t.len = 0) && decide (t.rc = []))) := by
  refine ACall.drop (R := fun x => x = bool (decide (t.len = 0) && decide (t.rc = []))) ?_
  refine enter Try.func90 L90_ok (Nat.le_of_ble_eq_true rfl) ?_
  repeat' (first | (refine And.intro (by omega) ?_) | simp -implicitDefEqProofs (disch := omega) only [L90, tyR, dT_lt, dF_lt, dT_le, dF_le, dT_eq, dF_eq, push_cast, ↓reduceIte, Nat.reduceEqDiff, reduceCtorEq, Nat.reduceAdd, Nat.reduceSub, Nat.reduceMul, Nat.reduceLeDiff, Nat.reduceLT, Nat.reduceMod, Nat.reduceDiv, Int.reduceToNat, Int.reduceLT, Int.reduceLE, Int.reduceEq, Int.reduceAdd, Int.reduceSub, Int.reduceNeg, Int.reduceMul, Bool.and_self] | split)
  all_goals first | exact ⟨_, rfl⟩ | (refine ⟨?_, _, rfl⟩; simp_all)
theorem shp2 (t : Ty) (rs : List Rc) (H : AHeap) : Comp' 91 [.agg (tyR t), .sl 2 (rs.map rcR)] H (.sl 3 [tyR ⟨t.k, 0, []⟩]) := by
  refine ACall.drop (R := fun x => x = .sl 3 [tyR ⟨t.k, 0, []⟩]) ?_
  refine enter Try.func91 L91_ok (Nat.le_of_ble_eq_true rfl) ?_
  repeat' (first | (refine And.intro (by omega) ?_) | simp -implicitDefEqProofs (disch := omega) only [L91, tyR, dT_lt, dF_lt, dT_le, dF_le, dT_eq, dF_eq, push_cast, ↓reduceIte, Nat.reduceEqDiff, reduceCtorEq, Nat.reduceAdd, Nat.reduceSub, Nat.reduceMul, Nat.reduceLeDiff, Nat.reduceLT, Nat.reduceMod, Nat.reduceDiv, Int.reduceToNat, Int.reduceLT, Int.reduceLE, Int.reduceEq, Int.reduceAdd, Int.reduceSub, Int.reduceNeg, Int.reduceMul, Bool.and_self] | split)
  exact ⟨_, rfl⟩
theorem shp3 (t : Ty) (rs : List Rc) (H : AHeap) : Comp' 92 [.agg (tyR t), .sl 2 (rs.map rcR)] H (bool (decide (1 ≤ t.len) && decide (t.len ≤ 8) && decide (t.rc = []))) := by
  refine ACall.drop (R := fun x => x = bool (decide (1 ≤ t.len) && decide (t.len ≤ 8) && decide (t.rc = []))) ?_
  refine enter Try.func92 L92_ok (Nat.le_of_ble_eq_true rfl) ?_
  repeat' (first | (refine And.intro (by omega) ?_) | simp -implicitDefEqProofs (disch := omega) only [L92, tyR, dT_lt, dF_lt, dT_le, dF_le, dT_eq, dF_eq, push_cast, ↓reduceIte, Nat.reduceEqDiff, reduceCtorEq, Nat.reduceAdd, Nat.reduceSub, Nat.reduceMul, Nat.reduceLeDiff, Nat.reduceLT, Nat.reduceMod, Nat.reduceDiv, Int.reduceToNat, Int.reduceLT, Int.reduceLE, Int.reduceEq, Int.reduceAdd, Int.reduceSub, Int.reduceNeg, Int.reduceMul, Bool.and_self] | split)
  all_goals first | exact ⟨_, rfl⟩ | (refine ⟨?_, _, rfl⟩; simp_all)
theorem shp5 (t : Ty) (rs : List Rc) (H : AHeap) (hl : (rs.length : Int) < 9223372036854775807) : Comp' 95 [.agg (tyR t), .sl 2 (rs.map rcR)] H (bool (decide (t.len = 0) && (idxF rs t.rc).isSome)) := by
  refine ACall.drop (R := fun x => x = bool (decide (t.len = 0) && (idxF rs t.rc).isSome)) ?_
  refine enter Try.func95 L95_ok (Nat.le_of_ble_eq_true rfl) ?_
  cases hi : idxF rs t.rc with
  | none =>
    have hr : recV rs t.rc = .tup [.agg [str [], nilS], bool false] := by unfold recV; rw [hi]
    repeat' (first | (refine And.intro (by omega) ?_) | (refine callF_pure (record _ _ _ hl) ?_) | (refine callQF_pure (record _ _ _ hl) rfl ?_) | simp -implicitDefEqProofs (disch := omega) only [L95, tyR, hr, dT_lt, dF_lt, dT_le, dF_le, dT_eq, dF_eq, push_cast, ↓reduceIte, Nat.reduceEqDiff, reduceCtorEq, Nat.reduceAdd, Nat.reduceSub, Nat.reduceMul, Nat.reduceLeDiff, Nat.reduceLT, Nat.reduceMod, Nat.reduceDiv, Int.reduceToNat, Int.reduceLT, Int.reduceLE, Int.reduceEq, Int.reduceAdd, Int.reduceSub, Int.reduceNeg, Int.reduceMul, Bool.and_self] | split)
    all_goals first | exact ⟨_, rfl⟩ | (refine ⟨?_, _, rfl⟩; simp_all)
  | some i =>
    have hr : recV rs t.rc = .tup [.agg (rcR (rs.getD i default)), bool true] := by unfold recV; rw [hi]
    repeat' (first | (refine And.intro (by omega) ?_) | (refine callF_pure (record _ _ _ hl) ?_) | (refine callQF_pure (record _ _ _ hl) rfl ?_) | simp -implicitDefEqProofs (disch := omega) only [L95, tyR, hr, rcR, dT_lt, dF_lt, dT_le, dF_le, dT_eq, dF_eq, push_cast, ↓reduceIte, Nat.reduceEqDiff, reduceCtorEq, Nat.reduceAdd, Nat.reduceSub, Nat.reduceMul, Nat.reduceLeDiff, Nat.reduceLT, Nat.reduceMod, Nat.reduceDiv, Int.reduceToNat, Int.reduceLT, Int.reduceLE, Int.reduceEq, Int.reduceAdd, Int.reduceSub, Int.reduceNeg, Int.reduceMul, Bool.and_self] | split)
    all_goals first | exact ⟨_, rfl⟩ | (refine ⟨?_, _, rfl⟩; simp_all)
def scR (f : Fd) : List AV := tyR (scF f.ty)
theorem shp6 (t : Ty) (rs : List Rc) (i : Nat) (H : AHeap) (hl : (rs.length : Int) < 9223372036854775807) (hi : idxF rs t.rc = some i) (hf : ∀ r ∈ rs, r.fields.length ≤ 20) :
    Comp' 97 [.agg (tyR t), .sl 2 (rs.map rcR)] H (.sl 3 ((rs.getD i default).fields.map scR)) := by
  refine ACall.drop (R := fun x => x = .sl 3 ((rs.getD i default).fields.map scR)) ?_
  refine enter Try.func97 L97_ok (Nat.le_of_ble_eq_true rfl) ?_
  have hr : recV rs t.rc = .tup [.agg (rcR (rs.getD i default)), bool true] := by unfold recV; rw [hi]
  have hlt := (find_lt hi).1
  have h20 := hf _ (getD_mem' hlt)
  generalize rs.getD i default = r at hr h20 ⊢
  repeat' (first | (refine And.intro (by omega) ?_) | (refine callF_pure (record _ _ _ hl) ?_) | (refine callQF_pure (record _ _ _ hl) rfl ?_) | simp -implicitDefEqProofs (disch := omega) only [L97, tyR, hr, rcR, dT_lt, dF_lt, dT_le, dF_le, dT_eq, dF_eq, push_cast, ↓reduceIte, Nat.reduceEqDiff, reduceCtorEq, Nat.reduceAdd, Nat.reduceSub, Nat.reduceMul, Nat.reduceLeDiff, Nat.reduceLT, Nat.reduceMod, Nat.reduceDiv, Int.reduceToNat, Int.reduceLT, Int.reduceLE, Int.reduceEq, Int.reduceAdd, Int.reduceSub, Int.reduceNeg, Int.reduceMul, Bool.and_self] | split)
  refine rk_loopS (fun (p : Nat × Nat × List HO) e' H' => e' 5 = .os (H.length + 1) p.2.1 0 p.1 ∧ e' 18 = .sl 4 (r.fields.map fdR) ∧ e' 19 = int r.fields.length ∧ e' 20 = int p.1 ∧ H' = H ++ .box (tyR t) :: .arr p.2.1 3 ((r.fields.take p.1).map scR) :: p.2.2 ∧ p.1 ≤ r.fields.length) (fun p => r.fields.length - p.1) (0, 0, [.box (rcR r)]) ?_ ?_
  · exact ⟨rfl, rfl, rfl, rfl, rfl, Nat.zero_le _⟩
  rintro ⟨j, ver, rest⟩ e' H' ⟨h5, h18, h19, h20', rfl, hj⟩
  simp only at h5 h18 h19 h20' hj
  have hlen : ((r.fields.take j).map scR).length = j := by simp; omega
  by_cases hlt : j < r.fields.length
  · have hsn : (r.fields.take j).map scR ++ [[int (scF (r.fields.getD j default).ty).k, int (scF (r.fields.getD j default).ty).len, str (scF (r.fields.getD j default).ty).rc]] = (r.fields.take (j + 1)).map scR := by rw [take_snoc hlt]; simp [scR, tyR]
    repeat' (first | (refine And.intro (by omega) ?_) | (refine callF_pure (scalar (r.fields.getD j default).ty _) ?_) | (refine callQF_pure (scalar (r.fields.getD j default).ty _) rfl ?_) | simp -implicitDefEqProofs (disch := omega) only [h5, h18, h19, h20', rows_getD, fdR, tyR, hlen, all_take _ (Nat.le_of_eq hlen), hsn, dT_lt, dF_lt, dT_le, dF_le, dT_eq, dF_eq, push_cast, ↓reduceIte, Nat.reduceEqDiff, reduceCtorEq, Nat.reduceAdd, Nat.reduceSub, Nat.reduceMul, Nat.reduceLeDiff, Nat.reduceLT, Nat.reduceMod, Nat.reduceDiv, Int.reduceToNat, Int.reduceLT, Int.reduceLE, Int.reduceEq, Int.reduceAdd, Int.reduceSub, Int.reduceNeg, Int.reduceMul, Bool.and_self] | split)
    exact .mk (j + 1, ver + 1, rest ++ [_]) ⟨rfl, h18, h19, rfl, rfl, hlt⟩ (by simp only; omega)
  · repeat' (first | (refine And.intro (by omega) ?_) | (refine callF_pure (scalar _ _) ?_) | (refine callQF_pure (scalar _ _) rfl ?_) | simp -implicitDefEqProofs (disch := omega) only [h5, h18, h19, h20', hlen, all_take _ (Nat.le_of_eq hlen), dT_lt, dF_lt, dT_le, dF_le, dT_eq, dF_eq, push_cast, ↓reduceIte, Nat.reduceEqDiff, reduceCtorEq, Nat.reduceAdd, Nat.reduceSub, Nat.reduceMul, Nat.reduceLeDiff, Nat.reduceLT, Nat.reduceMod, Nat.reduceDiv, Int.reduceToNat, Int.reduceLT, Int.reduceLE, Int.reduceEq, Int.reduceAdd, Int.reduceSub, Int.reduceNeg, Int.reduceMul, Bool.and_self] | split)
    exact ⟨by rw [all_take _ (by omega)], _, rfl⟩
end Go.Proofs.Ytdgmlepakippmaa
