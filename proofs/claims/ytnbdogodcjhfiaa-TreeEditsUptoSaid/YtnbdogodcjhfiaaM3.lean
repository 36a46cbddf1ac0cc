/- Parts, merged by a program (wip/tools/merge.py): Ax26 Ty1 Ax27 Fr. -/
import Derived.Test.YtnbdogodcjhfiaaM2
import Derived.KernelRfl
import Derived.Test.YtnbdogodcjhfiaaRows
import Derived.JoinedCond
import Derived.ProofKit
import Derived.Test.YtnbdogodcjhfiaaChecked
/- Taking arguments apart by their types; rows of typed things. -/
namespace Go.Ax
open Go Go.RowKit
set_option linter.unusedSimpArgs false
set_option linter.unusedVariables false

section
variable {P : Program} {t e : TypeId} {xs : List AV}
def i64R (n : Int) : Prop := -9223372036854775808 ≤ n ∧ n ≤ 9223372036854775807
theorem val_int (hu : P.underlying t = some (.int .i64)) (h : Val P t xs) : ∃ n : Int, xs = [int n] ∧ i64R n := by
  cases h with
  | int hu' hw =>
    rw [hu] at hu'
    cases hu'
    refine ⟨_, rfl, ?_⟩
    simp [Lit.wf, IntKind.min, IntKind.max, IntKind.signed, IntKind.bits] at hw
    unfold i64R; omega
  | bool hu' => rw [hu] at hu'; cases hu'
  | str hu' => rw [hu] at hu'; cases hu'
  | sl hu' => rw [hu] at hu'; cases hu'
  | st hu' => rw [hu] at hu'; cases hu'
theorem val_bool (hu : P.underlying t = some .bool) (h : Val P t xs) : ∃ b : Bool, xs = [bool b] := by
  cases h with
  | bool hu' => exact ⟨_, rfl⟩
  | int hu' => rw [hu] at hu'; cases hu'
  | str hu' => rw [hu] at hu'; cases hu'
  | sl hu' => rw [hu] at hu'; cases hu'
  | st hu' => rw [hu] at hu'; cases hu'
theorem val_str (hu : P.underlying t = some .string) (h : Val P t xs) : ∃ s : List UInt8, xs = [str s] ∧ s.length ≤ 9223372036854775807 := by
  cases h with
  | str hu' hs =>
    rename_i s
    refine ⟨bs s, by rw [str, mkS_bs], ?_⟩
    have : (bs s).length = s.size := by simp [bs]
    unfold maxLen at hs
    omega
  | int hu' => rw [hu] at hu'; cases hu'
  | bool hu' => rw [hu] at hu'; cases hu'
  | sl hu' => rw [hu] at hu'; cases hu'
  | st hu' => rw [hu] at hu'; cases hu'
theorem val_sl {k : Nat} (hu : P.underlying t = some (.slice e)) (hk : P.cellsOf e = k) (h : Val P t xs) : ∃ rows, xs = [.sl k rows] ∧ rows.length ≤ 9223372036854775807 ∧ ∀ x ∈ rows, Val P e x := by
  cases h with
  | sl hu' hl hr =>
    rw [hu] at hu'
    cases hu'
    subst hk
    unfold maxLen at hl
    exact ⟨_, rfl, by omega, hr⟩
  | int hu' => rw [hu] at hu'; cases hu'
  | bool hu' => rw [hu] at hu'; cases hu'
  | str hu' => rw [hu] at hu'; cases hu'
  | st hu' => rw [hu] at hu'; cases hu'
theorem val_st {fs : Array Field} {k : Nat} (hu : P.underlying t = some (.struct fs)) (hk : P.cellsOf t = k) (h : Val P t xs) : xs.length = k ∧ ∀ (i : Nat) (f : Field), fs[i]? = some f → Val P f.type ((xs.drop f.offset).take (P.cellsOf f.type)) := by
  cases h with
  | st hu' hl hr =>
    rw [hu] at hu'
    cases hu'
    exact ⟨hl.trans hk, hr⟩
  | int hu' => rw [hu] at hu'; cases hu'
  | bool hu' => rw [hu] at hu'; cases hu'
  | str hu' => rw [hu] at hu'; cases hu'
  | sl hu' => rw [hu] at hu'; cases hu'
theorem val_fld {fs : Array Field} (hf : ∀ (i : Nat) (f : Field), fs[i]? = some f → Val P f.type ((xs.drop f.offset).take (P.cellsOf f.type))) (i t' off k : Nat) (h : (fs[i]?).map (fun f => (f.type, f.offset)) = some (t', off)) (hk : P.cellsOf t' = k) : Val P t' ((xs.drop off).take k) := by
  cases hh : fs[i]? with
  | none => rw [hh] at h; cases h
  | some f =>
    rw [hh] at h
    simp only [Option.map_some, Option.some.injEq, Prod.mk.injEq] at h
    have := hf i f hh
    rw [h.1, h.2, hk] at this
    exact this
theorem val_rows {α : Type} {enc : α → List AV} {ok : α → Prop} {rows : List (List AV)} (h : ∀ x ∈ rows, Val P e x) (ho : ∀ x, Val P e x → ∃ a, x = enc a ∧ ok a) : ∃ l : List α, rows = l.map enc ∧ ∀ a ∈ l, ok a := by
  induction rows with
  | nil => exact ⟨[], rfl, by simp⟩
  | cons x rows ih =>
    obtain ⟨a, rfl, ha⟩ := ho x (h x (by simp))
    obtain ⟨l, rfl, hl⟩ := ih fun y hy => h y (by simp [hy])
    exact ⟨a :: l, rfl, by simp only [List.mem_cons, forall_eq_or_imp]; exact ⟨ha, hl⟩⟩
end

@[push_cast] theorem one_nilFunc : one .nilFunc = true := rfl
@[push_cast] theorem one_func (f : Fn) (a b : Array Value) : one (.func f a b) = true := rfl
theorem kEqI (k : IntKind) (a b : Int) : kEq (.int k a) (.int k b) = decide (a = b) := by rw [Bool.eq_iff_iff]; simp [kEq]
theorem kEqS (a b : List UInt8) : kEq (.string (mkS a)) (.string (mkS b)) = decide (a = b) := by rw [Bool.eq_iff_iff]; simp [kEq, bs_mkS]
theorem kEqB (a b : Bool) : kEq (.bool a) (.bool b) = decide (a = b) := by cases a <;> cases b <;> rfl
@[push_cast] theorem rConv_bytes_os (r ver off len : Nat) (H : AHeap) : rConv .bytesStr (.os r ver off len) H = ⟨szOk H 1 (.os r ver off len) ∧ ((rowsOf H (.os r ver off len)).bind rowBytes).isSome = true, str (((rowsOf H (.os r ver off len)).bind rowBytes).getD []), H⟩ := rfl
@[push_cast] theorem rConv_bytes_sl (sz : Nat) (xs : List (List AV)) (H : AHeap) : rConv .bytesStr (.sl sz xs) H = ⟨szOk H 1 (.sl sz xs) ∧ ((rowsOf H (.sl sz xs)).bind rowBytes).isSome = true, str (((rowsOf H (.sl sz xs)).bind rowBytes).getD []), H⟩ := rfl
theorem rowBytes_nil : rowBytes [] = some [] := rfl
theorem rowBytes_cons (n : Int) (l : List (List AV)) : rowBytes ([.v (.int .u8 n)] :: l) = (rowBytes l).map (UInt8.ofNat n.toNat :: ·) := rfl
attribute [push_cast] Option.bind_some Bool.true_xor Bool.false_xor Bool.xor_false Bool.xor_true
/-! copy, step by step -/
def rCopyO (sz r ver off len : Nat) (ys : List (List AV)) (x : AV) (H : AHeap) : Option HO → Res
  | some (.arr ver' sz' xs) => ⟨ver = ver' ∧ sz' = sz ∧ szOk H sz x ∧ off + len ≤ xs.length, int (min ys.length len : Nat), H.set r (.arr ver sz (xs.take off ++ ys.take (min ys.length len) ++ xs.drop (off + min ys.length len)))⟩
  | _ => .no H
def rCopyN (sz : Nat) (s x : AV) (H : AHeap) : Option (List (List AV)) → Res
  | some ys => match s with
    | .os r ver off len => rCopyO sz r ver off len ys x H H[r]?
    | _ => .no H
  | none => .no H
@[push_cast] theorem rCopy_eq (sz : Nat) (s x : AV) (H : AHeap) : rCopy sz s x H = rCopyN sz s x H (rowsOf H x) := by
  unfold rCopy rCopyN rCopyO
  cases rowsOf H x with
  | none => cases s <;> rfl
  | some ys => cases s <;> rfl
@[push_cast] theorem rCopyN_os (sz r ver off len : Nat) (x : AV) (H : AHeap) (ys : List (List AV)) : rCopyN sz (.os r ver off len) x H (some ys) = rCopyO sz r ver off len ys x H H[r]? := rfl
@[push_cast] theorem rCopyO_arr (sz r ver off len ver' sz' : Nat) (ys xs : List (List AV)) (x : AV) (H : AHeap) : rCopyO sz r ver off len ys x H (some (.arr ver' sz' xs)) = ⟨ver = ver' ∧ sz' = sz ∧ szOk H sz x ∧ off + len ≤ xs.length, int (min ys.length len : Nat), H.set r (.arr ver sz (xs.take off ++ ys.take (min ys.length len) ++ xs.drop (off + min ys.length len)))⟩ := rfl
attribute [push_cast] List.length_replicate
def osRowsO (ver off len : Nat) : Option HO → Option (List (List AV))
  | some (.arr ver' _ xs) => if ver = ver' ∧ off + len ≤ xs.length then some ((xs.drop off).take len) else none
  | _ => none
theorem osRows_eq (r ver off len : Nat) (H : AHeap) : osRows r ver off len H = osRowsO ver off len H[r]? := rfl
theorem osRowsO_if (ver off len ver' sz : Nat) (xs : List (List AV)) : osRowsO ver off len (some (.arr ver' sz xs)) = if ver = ver' ∧ off + len ≤ xs.length then some ((xs.drop off).take len) else none := rfl
theorem osRowsO_arr {ver off len ver' sz : Nat} {xs : List (List AV)} (h : ver = ver' ∧ off + len ≤ xs.length) : osRowsO ver off len (some (.arr ver' sz xs)) = some ((xs.drop off).take len) := if_pos h

theorem rows_getD {α : Type} [Inhabited α] {l : List α} {enc : α → List AV} {j : Nat} (h : j < l.length) : (l.map enc).getD j [] = enc (l.getD j default) := by
  simp [List.getD_eq_getElem?_getD, h]
theorem rows_getD0 {α : Type} [Inhabited α] {l : List α} {enc : α → List AV} {j : Nat} (h : j < l.length) : (l.map enc).getD (0 + j) [] = enc (l.getD j default) := by
  rw [Nat.zero_add]; exact rows_getD h
theorem getD_mem' {α : Type} [Inhabited α] {l : List α} {j : Nat} (h : j < l.length) : l.getD j default ∈ l := by
  simp [List.getD_eq_getElem?_getD, h]
theorem take_snoc {α : Type} [Inhabited α] {l : List α} {j : Nat} (h : j < l.length) : l.take (j + 1) = l.take j ++ [l.getD j default] := by
  rw [List.take_succ_eq_append_getElem h]; simp [List.getD_eq_getElem?_getD, h]
theorem drop_cons {α : Type} [Inhabited α] {l : List α} {j : Nat} (h : j < l.length) : l.drop j = l.getD j default :: l.drop (j + 1) := by
  rw [List.drop_eq_getElem_cons h]; simp [List.getD_eq_getElem?_getD, h]
theorem intc {x : AV} {a : Int} {b : Int} (h : x = int a) (h2 : a = b) : x = int b := h.trans (by rw [h2])
theorem upto_succ {j : Nat} {p : Nat → Prop} (h : ∀ i, i < j → p i) (hj : p j) : ∀ i, i < j + 1 → p i := fun i hi => by
  by_cases e : i = j
  · rw [e]; exact hj
  · exact h i (by omega)
/-! Tests that the context decides. -/
theorem dT_lt {a b : Int} (h : a < b) : decide (a < b) = true := decide_eq_true h
theorem dF_lt {a b : Int} (h : ¬ a < b) : decide (a < b) = false := decide_eq_false h
theorem dT_le {a b : Int} (h : a ≤ b) : decide (a ≤ b) = true := decide_eq_true h
theorem dF_le {a b : Int} (h : ¬ a ≤ b) : decide (a ≤ b) = false := decide_eq_false h
theorem dT_eq {a b : Int} (h : a = b) : decide (a = b) = true := decide_eq_true h
theorem dF_eq {a b : Int} (h : ¬ a = b) : decide (a = b) = false := decide_eq_false h
attribute [push_cast] decide_true decide_false
/-- An index as Go says it. -/
def idxI : Option Nat → Int
  | some i => i
  | none => -1
theorem find_some {α : Type} [Inhabited α] {l : List α} {p : α → Bool} {j : Nat} (h : j < l.length) (hp : p (l.getD j default) = true) (hb : ∀ i, i < j → p (l.getD i default) = false) : l.findIdx? p = some j := by
  rw [List.findIdx?_eq_some_iff_getElem]
  have e : ∀ i (hi : i < l.length), l.getD i default = l[i] := fun i hi => by simp [List.getD_eq_getElem?_getD, hi]
  refine ⟨h, by rw [← e j h]; exact hp, fun i hi => ?_⟩
  have := hb i hi
  rw [e i (by omega)] at this
  simp [this]
theorem find_none {α : Type} [Inhabited α] {l : List α} {p : α → Bool} (hb : ∀ i, i < l.length → p (l.getD i default) = false) : l.findIdx? p = none := by
  rw [List.findIdx?_eq_none_iff]
  intro x hx
  obtain ⟨i, hi, rfl⟩ := List.mem_iff_getElem.1 hx
  have := hb i hi
  simpa [List.getD_eq_getElem?_getD, hi] using this
theorem find_lt {α : Type} [Inhabited α] {l : List α} {p : α → Bool} {j : Nat} (h : l.findIdx? p = some j) : j < l.length ∧ p (l.getD j default) = true := by
  rw [List.findIdx?_eq_some_iff_getElem] at h
  obtain ⟨h1, h2, _⟩ := h
  exact ⟨h1, by simpa [List.getD_eq_getElem?_getD, h1] using h2⟩
theorem ext_take {α : Type} [Inhabited α] {a b : List α} {j : Nat} (h : a.take j = b.take j) (ha : j < a.length) (hb : j < b.length) (he : a.getD j default = b.getD j default) : a.take (j + 1) = b.take (j + 1) := by
  rw [take_snoc ha, take_snoc hb, h, he]
theorem all_take {α : Type} (l : List α) {n : Nat} (h : l.length ≤ n) : l.take n = l := List.take_of_length_le h
end Go.Ax

/- Types, records and variables as plain data; what the functions of types and of its reference compute. Part 1: records, Valid. -/
namespace Go.Proofs.Ytnbdogodcjhfiaa
open Go Go.Ax
set_option maxRecDepth 100000
set_option linter.unusedSimpArgs false
set_option linter.unusedVariables false
abbrev Comp' (k : FuncId) (args : List AV) (H : AHeap) (x : AV) : Prop := ACall Try.prog k args H fun y H' => y = x ∧ H' = H

structure Ty where
  k : Int
  len : Int
  rc : List UInt8
  deriving Inhabited, DecidableEq
structure Fd where
  name : List UInt8
  ty : Ty
  deriving Inhabited, DecidableEq
structure Rc where
  name : List UInt8
  fields : List Fd
  deriving Inhabited, DecidableEq
structure Vr where
  name : List UInt8
  ty : Ty
  slot : Int
  node : Int
  var_ : Bool
  loop_ : Bool
  deriving Inhabited, DecidableEq
def tyR (t : Ty) : List AV := [int t.k, int t.len, str t.rc]
def fdR (f : Fd) : List AV := [str f.name, int f.ty.k, int f.ty.len, str f.ty.rc]
def rcR (r : Rc) : List AV := [str r.name, .sl 4 (r.fields.map fdR)]
def vrR (v : Vr) : List AV := [str v.name, int v.ty.k, int v.ty.len, str v.ty.rc, int v.slot, int v.node, bool v.var_, bool v.loop_]
/-- Nothing is longer, or greater, than a value of its type. -/
def big (n : Nat) : Prop := n ≤ 9223372036854775807
structure Ty.Ok (t : Ty) : Prop where
  k : i64R t.k
  len : i64R t.len
  rc : big t.rc.length
structure Fd.Ok (f : Fd) : Prop where
  name : big f.name.length
  ty : f.ty.Ok
structure Rc.Ok (r : Rc) : Prop where
  name : big r.name.length
  len : big r.fields.length
  fields : ∀ f ∈ r.fields, f.Ok
structure Vr.Ok (v : Vr) : Prop where
  name : big v.name.length
  ty : v.ty.Ok
  slot : i64R v.slot
  node : i64R v.node

theorem c_int : Try.prog.cellsOf 3 = 1 := by kernel_rfl
theorem c_str : Try.prog.cellsOf 9 = 1 := by kernel_rfl
theorem c_bool : Try.prog.cellsOf 4 = 1 := by kernel_rfl
theorem c_ty : Try.prog.cellsOf 54 = 3 := by kernel_rfl
theorem c_fd : Try.prog.cellsOf 91 = 4 := by kernel_rfl
theorem c_rc : Try.prog.cellsOf 74 = 2 := by kernel_rfl
theorem c_vr : Try.prog.cellsOf 80 = 8 := by kernel_rfl
theorem c_fds : Try.prog.cellsOf 72 = 1 := by kernel_rfl

theorem list3 {α : Type} {l : List α} (h : l.length = 3) : ∃ a b c, l = [a, b, c] := by
  match l, h with
  | [a, b, c], _ => exact ⟨a, b, c, rfl⟩
theorem list4 {α : Type} {l : List α} (h : l.length = 4) : ∃ a b c d, l = [a, b, c, d] := by
  match l, h with
  | [a, b, c, d], _ => exact ⟨a, b, c, d, rfl⟩
theorem list2 {α : Type} {l : List α} (h : l.length = 2) : ∃ a b, l = [a, b] := by
  match l, h with
  | [a, b], _ => exact ⟨a, b, rfl⟩
theorem list8 {α : Type} {l : List α} (h : l.length = 8) : ∃ a b c d e f g i, l = [a, b, c, d, e, f, g, i] := by
  match l, h with
  | [a, b, c, d, e, f, g, i], _ => exact ⟨a, b, c, d, e, f, g, i, rfl⟩

theorem open_ty {xs : List AV} (h : Val Try.prog 54 xs) : ∃ t : Ty, xs = tyR t ∧ t.Ok := by
  obtain ⟨hl, hf⟩ := val_st Try.underlying54 c_ty h
  obtain ⟨a, b, c, rfl⟩ := list3 hl
  obtain ⟨x, hx, hx'⟩ := val_int Try.underlying3 (val_fld hf 0 3 0 1 rfl c_int)
  obtain ⟨y, hy, hy'⟩ := val_int Try.underlying3 (val_fld hf 1 3 1 1 rfl c_int)
  obtain ⟨z, hz, hz'⟩ := val_str Try.underlying9 (val_fld hf 2 9 2 1 rfl c_str)
  simp only [List.drop_succ_cons, List.drop_zero, List.take_succ_cons, List.take_zero, List.cons.injEq, and_true] at hx hy hz
  exact ⟨⟨x, y, z⟩, by simp [tyR, hx, hy, hz], hx', hy', hz'⟩
theorem open_fd {xs : List AV} (h : Val Try.prog 91 xs) : ∃ f : Fd, xs = fdR f ∧ f.Ok := by
  obtain ⟨hl, hf⟩ := val_st Try.underlying91 c_fd h
  obtain ⟨a, b, c, d, rfl⟩ := list4 hl
  obtain ⟨x, hx, hx'⟩ := val_str Try.underlying9 (val_fld hf 0 9 0 1 rfl c_str)
  obtain ⟨y, hy, hy'⟩ := open_ty (val_fld hf 1 54 1 3 rfl c_ty)
  simp only [tyR, List.drop_succ_cons, List.drop_zero, List.take_succ_cons, List.take_zero, List.cons.injEq, and_true] at hx hy
  exact ⟨⟨x, y⟩, by simp [fdR, hx, hy], hx', hy'⟩
theorem open_rc {xs : List AV} (h : Val Try.prog 74 xs) : ∃ r : Rc, xs = rcR r ∧ r.Ok := by
  obtain ⟨hl, hf⟩ := val_st Try.underlying74 c_rc h
  obtain ⟨a, b, rfl⟩ := list2 hl
  obtain ⟨x, hx, hx'⟩ := val_str Try.underlying9 (val_fld hf 0 9 0 1 rfl c_str)
  obtain ⟨rows, hy, hy', hrows⟩ := val_sl Try.underlying72 c_fd (val_fld hf 1 72 1 1 rfl c_fds)
  obtain ⟨l, rfl, hl'⟩ := val_rows hrows fun x => open_fd
  simp only [List.drop_succ_cons, List.drop_zero, List.take_succ_cons, List.take_zero, List.cons.injEq, and_true] at hx hy
  exact ⟨⟨x, l⟩, by simp [rcR, hx, hy], hx', by simpa [big] using hy', hl'⟩
theorem open_vr {xs : List AV} (h : Val Try.prog 80 xs) : ∃ v : Vr, xs = vrR v ∧ v.Ok := by
  obtain ⟨hl, hf⟩ := val_st Try.underlying80 c_vr h
  obtain ⟨a, b, c, d, e, f, g, i, rfl⟩ := list8 hl
  obtain ⟨x, hx, hx'⟩ := val_str Try.underlying9 (val_fld hf 0 9 0 1 rfl c_str)
  obtain ⟨y, hy, hy'⟩ := open_ty (val_fld hf 1 54 1 3 rfl c_ty)
  obtain ⟨z, hz, hz'⟩ := val_int Try.underlying3 (val_fld hf 2 3 4 1 rfl c_int)
  obtain ⟨u, hu, hu'⟩ := val_int Try.underlying3 (val_fld hf 3 3 5 1 rfl c_int)
  obtain ⟨p, hp⟩ := val_bool Try.underlying4 (val_fld hf 4 4 6 1 rfl c_bool)
  obtain ⟨q, hq⟩ := val_bool Try.underlying4 (val_fld hf 5 4 7 1 rfl c_bool)
  simp only [tyR, List.drop_succ_cons, List.drop_zero, List.take_succ_cons, List.take_zero, List.cons.injEq, and_true] at hx hy hz hu hp hq
  exact ⟨⟨x, y, z, u, p, q⟩, by simp [vrR, hx, hy, hz, hu, hp, hq], hx', hy', hz', hu'⟩

/-- At most 20 records with at most 20 fields. -/
def fewF (rs : List Rc) : Bool := decide (rs.length ≤ 20) && rs.all fun r => decide (r.fields.length ≤ 20)
theorem few (rs : List Rc) (H : AHeap) (hl : rs.length ≤ 9223372036854775807) : Comp' 42 [.sl 2 (rs.map rcR)] H (bool (fewF rs)) := by
  refine enter Try.func42 L42_ok (Nat.le_of_ble_eq_true rfl) ?_
  simp -implicitDefEqProofs (disch := omega) only [L42, push_cast, ↓reduceIte, Nat.reduceEqDiff, reduceCtorEq, Nat.reduceAdd, Nat.reduceSub, Nat.reduceMul, Nat.reduceLeDiff, Nat.reduceLT, Nat.reduceMod, Nat.reduceDiv, Int.reduceToNat, Int.reduceLT, Int.reduceLE, Int.reduceEq, Int.reduceAdd, Int.reduceSub, Int.reduceNeg, Int.reduceMul, Bool.and_self]
  refine rk_loopS (fun (j : Nat) e' H' => e' 0 = .sl 2 (rs.map rcR) ∧ e' 3 = int j ∧ H = H' ∧ j ≤ rs.length ∧ ∀ i, i < j → (rs.getD i default).fields.length ≤ 20) (fun j => rs.length - j) 0 ?_ ?_
  · exact ⟨rfl, rfl, rfl, Nat.zero_le _, by simp⟩
  rintro j e' H' ⟨h0, h3, rfl, hj, hr⟩
  by_cases hlt : j < rs.length
  · by_cases hf : (rs.getD j default).fields.length ≤ 20
    · repeat' (first | (refine And.intro (by omega) ?_) | simp -implicitDefEqProofs (disch := omega) only [h0, h3, rows_getD, rcR, dT_lt, dF_lt, dT_le, dF_le, dT_eq, dF_eq, push_cast, ↓reduceIte, Nat.reduceEqDiff, reduceCtorEq, Nat.reduceAdd, Nat.reduceSub, Nat.reduceMul, Nat.reduceLeDiff, Nat.reduceLT, Nat.reduceMod, Nat.reduceDiv, Int.reduceToNat, Int.reduceLT, Int.reduceLE, Int.reduceEq, Int.reduceAdd, Int.reduceSub, Int.reduceNeg, Int.reduceMul, Bool.and_self] | split)
      exact .mk (j + 1) ⟨h0, rfl, rfl, hlt, upto_succ hr hf⟩ (by omega)
    · repeat' (first | (refine And.intro (by omega) ?_) | simp -implicitDefEqProofs (disch := omega) only [h0, h3, rows_getD, rcR, dT_lt, dF_lt, dT_le, dF_le, dT_eq, dF_eq, push_cast, ↓reduceIte, Nat.reduceEqDiff, reduceCtorEq, Nat.reduceAdd, Nat.reduceSub, Nat.reduceMul, Nat.reduceLeDiff, Nat.reduceLT, Nat.reduceMod, Nat.reduceDiv, Int.reduceToNat, Int.reduceLT, Int.reduceLE, Int.reduceEq, Int.reduceAdd, Int.reduceSub, Int.reduceNeg, Int.reduceMul, Bool.and_self] | split)
      rw [show fewF rs = false from Bool.eq_false_iff.2 fun h => hf ?_]
      simp only [fewF, Bool.and_eq_true, List.all_eq_true, decide_eq_true_eq] at h
      exact h.2 _ (getD_mem' hlt)
  · repeat' (first | (refine And.intro (by omega) ?_) | simp -implicitDefEqProofs (disch := omega) only [h0, h3, dT_lt, dF_lt, dT_le, dF_le, dT_eq, dF_eq, push_cast, ↓reduceIte, Nat.reduceEqDiff, reduceCtorEq, Nat.reduceAdd, Nat.reduceSub, Nat.reduceMul, Nat.reduceLeDiff, Nat.reduceLT, Nat.reduceMod, Nat.reduceDiv, Int.reduceToNat, Int.reduceLT, Int.reduceLE, Int.reduceEq, Int.reduceAdd, Int.reduceSub, Int.reduceNeg, Int.reduceMul, Bool.and_self] | split)
    refine bool_eq ?_
    simp only [fewF, Bool.and_eq_true, List.all_eq_true, decide_eq_true_eq]
    refine ⟨fun h => ⟨by omega, fun r hr' => ?_⟩, fun h => by omega⟩
    obtain ⟨i, hi, rfl⟩ := List.mem_iff_getElem.1 hr'
    have := hr i (by omega)
    simpa [List.getD_eq_getElem?_getD, hi] using this
theorem fewF_iff {rs : List Rc} : fewF rs = true ↔ rs.length ≤ 20 ∧ ∀ r ∈ rs, r.fields.length ≤ 20 := by
  simp only [fewF, Bool.and_eq_true, List.all_eq_true, decide_eq_true_eq]

/-- The index of the record with a name. -/
def idxF (rs : List Rc) (nm : List UInt8) : Option Nat := rs.findIdx? fun r => decide (r.name = nm)
theorem indexR (rs : List Rc) (nm : List UInt8) (H : AHeap) (hl : (rs.length : Int) < 9223372036854775807) : Comp' 101 [.sl 2 (rs.map rcR), str nm] H (int (idxI (idxF rs nm))) := by
  refine enter Try.func101 L101_ok (Nat.le_of_ble_eq_true rfl) ?_
  simp -implicitDefEqProofs (disch := omega) only [L101, push_cast, ↓reduceIte, Nat.reduceEqDiff, reduceCtorEq, Nat.reduceAdd, Nat.reduceSub, Nat.reduceMul, Nat.reduceLeDiff, Nat.reduceLT, Nat.reduceMod, Nat.reduceDiv, Int.reduceToNat, Int.reduceLT, Int.reduceLE, Int.reduceEq, Int.reduceAdd, Int.reduceSub, Int.reduceNeg, Int.reduceMul, Bool.and_self]
  refine rk_loopS (fun (j : Nat) e' H' => e' 0 = .sl 2 (rs.map rcR) ∧ e' 1 = str nm ∧ e' 5 = int j ∧ H = H' ∧ j ≤ rs.length ∧ ∀ i, i < j → ¬ (rs.getD i default).name = nm) (fun j => rs.length - j) 0 ?_ ?_
  · exact ⟨rfl, rfl, rfl, rfl, Nat.zero_le _, by simp⟩
  rintro j e' H' ⟨h0, h1, h5, rfl, hj, hr⟩
  by_cases hlt : j < rs.length
  · by_cases hf : (rs.getD j default).name = nm
    · repeat' (first | (refine And.intro (by omega) ?_) | simp -implicitDefEqProofs (disch := omega) only [h0, h1, h5, rows_getD, rcR, hf, dT_lt, dF_lt, dT_le, dF_le, dT_eq, dF_eq, push_cast, ↓reduceIte, Nat.reduceEqDiff, reduceCtorEq, Nat.reduceAdd, Nat.reduceSub, Nat.reduceMul, Nat.reduceLeDiff, Nat.reduceLT, Nat.reduceMod, Nat.reduceDiv, Int.reduceToNat, Int.reduceLT, Int.reduceLE, Int.reduceEq, Int.reduceAdd, Int.reduceSub, Int.reduceNeg, Int.reduceMul, Bool.and_self] | split)
      rw [show idxF rs nm = some j from find_some hlt (by simpa using hf) fun i hi => by simpa using hr i hi]; rfl
    · repeat' (first | (refine And.intro (by omega) ?_) | simp -implicitDefEqProofs (disch := omega) only [h0, h1, h5, rows_getD, rcR, hf, dT_lt, dF_lt, dT_le, dF_le, dT_eq, dF_eq, push_cast, ↓reduceIte, Nat.reduceEqDiff, reduceCtorEq, Nat.reduceAdd, Nat.reduceSub, Nat.reduceMul, Nat.reduceLeDiff, Nat.reduceLT, Nat.reduceMod, Nat.reduceDiv, Int.reduceToNat, Int.reduceLT, Int.reduceLE, Int.reduceEq, Int.reduceAdd, Int.reduceSub, Int.reduceNeg, Int.reduceMul, Bool.and_self] | split)
      exact .mk (j + 1) ⟨h0, h1, rfl, rfl, hlt, upto_succ hr hf⟩ (by omega)
  · repeat' (first | (refine And.intro (by omega) ?_) | simp -implicitDefEqProofs (disch := omega) only [h0, h1, h5, dT_lt, dF_lt, dT_le, dF_le, dT_eq, dF_eq, push_cast, ↓reduceIte, Nat.reduceEqDiff, reduceCtorEq, Nat.reduceAdd, Nat.reduceSub, Nat.reduceMul, Nat.reduceLeDiff, Nat.reduceLT, Nat.reduceMod, Nat.reduceDiv, Int.reduceToNat, Int.reduceLT, Int.reduceLE, Int.reduceEq, Int.reduceAdd, Int.reduceSub, Int.reduceNeg, Int.reduceMul, Bool.and_self] | split)
    rw [show idxF rs nm = none from find_none fun i hi => by simpa using hr i (by omega)]; rfl

/-- The library's search. -/
theorem indexFunc (rs : List Rc) (p : Rc → Bool) (f : FuncId) (fa fb : List AV) (H : AHeap) (hl : (rs.length : Int) < 9223372036854775807) (hp : ∀ r, Comp' f (fa ++ .agg (rcR r) :: fb) H (bool (p r))) :
    Comp' 133 [.sl 2 (rs.map rcR), .fn (.func f) fa fb] H (int (idxI (rs.findIdx? p))) := by
  refine enter Try.func133 L133_ok (Nat.le_of_ble_eq_true rfl) ?_
  simp -implicitDefEqProofs (disch := omega) only [L133, push_cast, ↓reduceIte, Nat.reduceEqDiff, reduceCtorEq, Nat.reduceAdd, Nat.reduceSub, Nat.reduceMul, Nat.reduceLeDiff, Nat.reduceLT, Nat.reduceMod, Nat.reduceDiv, Int.reduceToNat, Int.reduceLT, Int.reduceLE, Int.reduceEq, Int.reduceAdd, Int.reduceSub, Int.reduceNeg, Int.reduceMul, Bool.and_self]
  refine rk_loopS (fun (j : Nat) e' H' => e' 0 = .sl 2 (rs.map rcR) ∧ e' 1 = .fn (.func f) fa fb ∧ e' 7 = int rs.length ∧ e' 8 = int j ∧ H = H' ∧ j ≤ rs.length ∧ ∀ i, i < j → p (rs.getD i default) = false) (fun j => rs.length - j) 0 ?_ ?_
  · exact ⟨rfl, rfl, rfl, rfl, rfl, Nat.zero_le _, by simp⟩
  rintro j e' H' ⟨h0, h1, h7, h8, rfl, hj, hr⟩
  have hrow : ∀ r : Rc, (rcR r).take 2 = rcR r := fun r => rfl
  have hlen : ∀ r : Rc, (rcR r).length = 2 := fun r => rfl
  by_cases hlt : j < rs.length
  · by_cases hf : p (rs.getD j default) = true
    · repeat' (first | (refine And.intro (by omega) ?_) | (refine callF_pure (hp _) ?_) | (refine callQF_pure (hp _) rfl ?_) | simp -implicitDefEqProofs (disch := omega) only [h0, h1, h7, h8, rows_getD, hrow, hlen, hf, dT_lt, dF_lt, dT_le, dF_le, dT_eq, dF_eq, push_cast, ↓reduceIte, Nat.reduceEqDiff, reduceCtorEq, Nat.reduceAdd, Nat.reduceSub, Nat.reduceMul, Nat.reduceLeDiff, Nat.reduceLT, Nat.reduceMod, Nat.reduceDiv, Int.reduceToNat, Int.reduceLT, Int.reduceLE, Int.reduceEq, Int.reduceAdd, Int.reduceSub, Int.reduceNeg, Int.reduceMul, Bool.and_self] | split)
      rw [show rs.findIdx? p = some j from find_some hlt hf hr]; rfl
    · have hf' := Bool.eq_false_iff.2 hf
      repeat' (first | (refine And.intro (by omega) ?_) | (refine callF_pure (hp _) ?_) | (refine callQF_pure (hp _) rfl ?_) | simp -implicitDefEqProofs (disch := omega) only [h0, h1, h7, h8, rows_getD, hrow, hlen, hf', dT_lt, dF_lt, dT_le, dF_le, dT_eq, dF_eq, push_cast, ↓reduceIte, Nat.reduceEqDiff, reduceCtorEq, Nat.reduceAdd, Nat.reduceSub, Nat.reduceMul, Nat.reduceLeDiff, Nat.reduceLT, Nat.reduceMod, Nat.reduceDiv, Int.reduceToNat, Int.reduceLT, Int.reduceLE, Int.reduceEq, Int.reduceAdd, Int.reduceSub, Int.reduceNeg, Int.reduceMul, Bool.and_self] | split)
      exact .mk (j + 1) ⟨h0, h1, h7, rfl, rfl, hlt, upto_succ hr hf'⟩ (by omega)
  · repeat' (first | (refine And.intro (by omega) ?_) | simp -implicitDefEqProofs (disch := omega) only [h0, h1, h7, h8, dT_lt, dF_lt, dT_le, dF_le, dT_eq, dF_eq, push_cast, ↓reduceIte, Nat.reduceEqDiff, reduceCtorEq, Nat.reduceAdd, Nat.reduceSub, Nat.reduceMul, Nat.reduceLeDiff, Nat.reduceLT, Nat.reduceMod, Nat.reduceDiv, Int.reduceToNat, Int.reduceLT, Int.reduceLE, Int.reduceEq, Int.reduceAdd, Int.reduceSub, Int.reduceNeg, Int.reduceMul, Bool.and_self] | split)
    rw [show rs.findIdx? p = none from find_none fun i hi => hr i (by omega)]; rfl

theorem recordC (r : Rc) (nm : List UInt8) (q : Nat) (H : AHeap) (hq : H[q]? = some (.box [str nm])) : Comp' 134 [.agg (rcR r), .ptr q 0 0] H (bool (decide (r.name = nm))) := by
  refine ACall.drop (R := fun x => x = bool (decide (r.name = nm))) ?_
  refine enter Try.func134 L134_ok (Nat.le_of_ble_eq_true rfl) ?_
  have hq' : ∀ l, (H ++ l)[q]? = some (.box [str nm]) := fun l => get_app hq
  repeat' (first | (refine And.intro (by omega) ?_) | simp -implicitDefEqProofs (disch := omega) only [L134, rcR, hq', dT_lt, dF_lt, dT_le, dF_le, dT_eq, dF_eq, push_cast, ↓reduceIte, Nat.reduceEqDiff, reduceCtorEq, Nat.reduceAdd, Nat.reduceSub, Nat.reduceMul, Nat.reduceLeDiff, Nat.reduceLT, Nat.reduceMod, Nat.reduceDiv, Int.reduceToNat, Int.reduceLT, Int.reduceLE, Int.reduceEq, Int.reduceAdd, Int.reduceSub, Int.reduceNeg, Int.reduceMul, Bool.and_self] | split)
  exact ⟨_, rfl⟩

/-- The record with a name, if there is one. -/
def recV (rs : List Rc) (nm : List UInt8) : AV := match idxF rs nm with
  | some i => .tup [.agg (rcR (rs.getD i default)), bool true]
  | none => .tup [.agg [str [], nilS], bool false]
theorem record (rs : List Rc) (nm : List UInt8) (H : AHeap) (hl : (rs.length : Int) < 9223372036854775807) : Comp' 123 [.sl 2 (rs.map rcR), str nm] H (recV rs nm) := by
  refine ACall.drop (R := fun x => x = recV rs nm) ?_
  refine enter Try.func123 L123_ok (Nat.le_of_ble_eq_true rfl) ?_
  have hc : ∀ r : Rc, Comp' 134 [.agg (rcR r), .ptr H.length 0 0] (H ++ [.box [str nm], .box [str [], nilS]]) (bool (decide (r.name = nm))) := fun r => recordC r nm _ _ (by simp)
  have hrow : ∀ r : Rc, (rcR r).take 2 = rcR r := fun r => rfl
  have hlen : ∀ r : Rc, (rcR r).length = 2 := fun r => rfl
  cases hi : idxF rs nm with
  | none =>
    have hi' : rs.findIdx? (fun r => decide (r.name = nm)) = none := hi
    repeat' (first | (refine And.intro (by omega) ?_) | (refine callF_pure (indexFunc rs (fun r => decide (r.name = nm)) 134 [] [.ptr H.length 0 0] _ hl hc) ?_) | (refine callQF_pure (indexFunc rs (fun r => decide (r.name = nm)) 134 [] [.ptr H.length 0 0] _ hl hc) rfl ?_) | simp -implicitDefEqProofs (disch := omega) only [L123, hi', idxI, dT_lt, dF_lt, dT_le, dF_le, dT_eq, dF_eq, push_cast, ↓reduceIte, Nat.reduceEqDiff, reduceCtorEq, Nat.reduceAdd, Nat.reduceSub, Nat.reduceMul, Nat.reduceLeDiff, Nat.reduceLT, Nat.reduceMod, Nat.reduceDiv, Int.reduceToNat, Int.reduceLT, Int.reduceLE, Int.reduceEq, Int.reduceAdd, Int.reduceSub, Int.reduceNeg, Int.reduceMul, Bool.and_self] | split)
    exact ⟨by unfold recV; rw [hi], _, rfl⟩
  | some i =>
    have hi' : rs.findIdx? (fun r => decide (r.name = nm)) = some i := hi
    have hlt := (find_lt hi).1
    repeat' (first | (refine And.intro (by omega) ?_) | (refine callF_pure (indexFunc rs (fun r => decide (r.name = nm)) 134 [] [.ptr H.length 0 0] _ hl hc) ?_) | (refine callQF_pure (indexFunc rs (fun r => decide (r.name = nm)) 134 [] [.ptr H.length 0 0] _ hl hc) rfl ?_) | simp -implicitDefEqProofs (disch := omega) only [L123, hi', idxI, rows_getD, hrow, hlen, dT_lt, dF_lt, dT_le, dF_le, dT_eq, dF_eq, push_cast, ↓reduceIte, Nat.reduceEqDiff, reduceCtorEq, Nat.reduceAdd, Nat.reduceSub, Nat.reduceMul, Nat.reduceLeDiff, Nat.reduceLT, Nat.reduceMod, Nat.reduceDiv, Int.reduceToNat, Int.reduceLT, Int.reduceLE, Int.reduceEq, Int.reduceAdd, Int.reduceSub, Int.reduceNeg, Int.reduceMul, Bool.and_self] | split)
    exact ⟨rfl, by unfold recV; rw [hi], rfl, _, rfl⟩

def tyI : Ty := ⟨1, 0, []⟩
def tyB : Ty := ⟨2, 0, []⟩
/-- The type of a field. -/
def scF (t : Ty) : Ty := if t.k = 2 then tyB else tyI
theorem scalar (t : Ty) (H : AHeap) : Comp' 125 [.agg (tyR t)] H (.agg (tyR (scF t))) := by
  refine ACall.drop (R := fun x => x = .agg (tyR (scF t))) ?_
  refine enter Try.func125 L125_ok (Nat.le_of_ble_eq_true rfl) ?_
  repeat' (first | (refine And.intro (by omega) ?_) | simp -implicitDefEqProofs (disch := omega) only [L125, tyR, dT_lt, dF_lt, dT_le, dF_le, dT_eq, dF_eq, push_cast, ↓reduceIte, Nat.reduceEqDiff, reduceCtorEq, Nat.reduceAdd, Nat.reduceSub, Nat.reduceMul, Nat.reduceLeDiff, Nat.reduceLT, Nat.reduceMod, Nat.reduceDiv, Int.reduceToNat, Int.reduceLT, Int.reduceLE, Int.reduceEq, Int.reduceAdd, Int.reduceSub, Int.reduceNeg, Int.reduceMul, Bool.and_self] | split)
  · rename_i h; exact ⟨by unfold scF; rw [if_pos h]; rfl, _, rfl⟩
  · rename_i h; exact ⟨by unfold scF; rw [if_neg h]; rfl, _, rfl⟩

theorem shp1 (t : Ty) (rs : List Rc) (H : AHeap) : Comp' 117 [.agg (tyR t), .sl 2 (rs.map rcR)] H (bool (decide (t.len = 0) && decide (t.rc = []))) := by
  refine ACall.drop (R := fun x => x = bool (decide (t.len = 0) && decide (t.rc = []))) ?_
  refine enter Try.func117 L117_ok (Nat.le_of_ble_eq_true rfl) ?_
  repeat' (first | (refine And.intro (by omega) ?_) | simp -implicitDefEqProofs (disch := omega) only [L117, tyR, dT_lt, dF_lt, dT_le, dF_le, dT_eq, dF_eq, push_cast, ↓reduceIte, Nat.reduceEqDiff, reduceCtorEq, Nat.reduceAdd, Nat.reduceSub, Nat.reduceMul, Nat.reduceLeDiff, Nat.reduceLT, Nat.reduceMod, Nat.reduceDiv, Int.reduceToNat, Int.reduceLT, Int.reduceLE, Int.reduceEq, Int.reduceAdd, Int.reduceSub, Int.reduceNeg, Int.reduceMul, Bool.and_self] | split)
  all_goals first | exact ⟨_, rfl⟩ | (refine ⟨?_, _, rfl⟩; simp_all)
theorem shp2 (t : Ty) (rs : List Rc) (H : AHeap) : Comp' 118 [.agg (tyR t), .sl 2 (rs.map rcR)] H (.sl 3 [tyR ⟨t.k, 0, []⟩]) := by
  refine ACall.drop (R := fun x => x = .sl 3 [tyR ⟨t.k, 0, []⟩]) ?_
  refine enter Try.func118 L118_ok (Nat.le_of_ble_eq_true rfl) ?_
  repeat' (first | (refine And.intro (by omega) ?_) | simp -implicitDefEqProofs (disch := omega) only [L118, tyR, dT_lt, dF_lt, dT_le, dF_le, dT_eq, dF_eq, push_cast, ↓reduceIte, Nat.reduceEqDiff, reduceCtorEq, Nat.reduceAdd, Nat.reduceSub, Nat.reduceMul, Nat.reduceLeDiff, Nat.reduceLT, Nat.reduceMod, Nat.reduceDiv, Int.reduceToNat, Int.reduceLT, Int.reduceLE, Int.reduceEq, Int.reduceAdd, Int.reduceSub, Int.reduceNeg, Int.reduceMul, Bool.and_self] | split)
  exact ⟨_, rfl⟩
theorem shp3 (t : Ty) (rs : List Rc) (H : AHeap) : Comp' 119 [.agg (tyR t), .sl 2 (rs.map rcR)] H (bool (decide (1 ≤ t.len) && decide (t.len ≤ 8) && decide (t.rc = []))) := by
  refine ACall.drop (R := fun x => x = bool (decide (1 ≤ t.len) && decide (t.len ≤ 8) && decide (t.rc = []))) ?_
  refine enter Try.func119 L119_ok (Nat.le_of_ble_eq_true rfl) ?_
  repeat' (first | (refine And.intro (by omega) ?_) | simp -implicitDefEqProofs (disch := omega) only [L119, tyR, dT_lt, dF_lt, dT_le, dF_le, dT_eq, dF_eq, push_cast, ↓reduceIte, Nat.reduceEqDiff, reduceCtorEq, Nat.reduceAdd, Nat.reduceSub, Nat.reduceMul, Nat.reduceLeDiff, Nat.reduceLT, Nat.reduceMod, Nat.reduceDiv, Int.reduceToNat, Int.reduceLT, Int.reduceLE, Int.reduceEq, Int.reduceAdd, Int.reduceSub, Int.reduceNeg, Int.reduceMul, Bool.and_self] | split)
  all_goals first | exact ⟨_, rfl⟩ | (refine ⟨?_, _, rfl⟩; simp_all)
theorem shp5 (t : Ty) (rs : List Rc) (H : AHeap) (hl : (rs.length : Int) < 9223372036854775807) : Comp' 122 [.agg (tyR t), .sl 2 (rs.map rcR)] H (bool (decide (t.len = 0) && (idxF rs t.rc).isSome)) := by
  refine ACall.drop (R := fun x => x = bool (decide (t.len = 0) && (idxF rs t.rc).isSome)) ?_
  refine enter Try.func122 L122_ok (Nat.le_of_ble_eq_true rfl) ?_
  cases hi : idxF rs t.rc with
  | none =>
    have hr : recV rs t.rc = .tup [.agg [str [], nilS], bool false] := by unfold recV; rw [hi]
    repeat' (first | (refine And.intro (by omega) ?_) | (refine callF_pure (record _ _ _ hl) ?_) | (refine callQF_pure (record _ _ _ hl) rfl ?_) | simp -implicitDefEqProofs (disch := omega) only [L122, tyR, hr, dT_lt, dF_lt, dT_le, dF_le, dT_eq, dF_eq, push_cast, ↓reduceIte, Nat.reduceEqDiff, reduceCtorEq, Nat.reduceAdd, Nat.reduceSub, Nat.reduceMul, Nat.reduceLeDiff, Nat.reduceLT, Nat.reduceMod, Nat.reduceDiv, Int.reduceToNat, Int.reduceLT, Int.reduceLE, Int.reduceEq, Int.reduceAdd, Int.reduceSub, Int.reduceNeg, Int.reduceMul, Bool.and_self] | split)
    all_goals first | exact ⟨_, rfl⟩ | (refine ⟨?_, _, rfl⟩; simp_all)
  | some i =>
    have hr : recV rs t.rc = .tup [.agg (rcR (rs.getD i default)), bool true] := by unfold recV; rw [hi]
    repeat' (first | (refine And.intro (by omega) ?_) | (refine callF_pure (record _ _ _ hl) ?_) | (refine callQF_pure (record _ _ _ hl) rfl ?_) | simp -implicitDefEqProofs (disch := omega) only [L122, tyR, hr, rcR, dT_lt, dF_lt, dT_le, dF_le, dT_eq, dF_eq, push_cast, ↓reduceIte, Nat.reduceEqDiff, reduceCtorEq, Nat.reduceAdd, Nat.reduceSub, Nat.reduceMul, Nat.reduceLeDiff, Nat.reduceLT, Nat.reduceMod, Nat.reduceDiv, Int.reduceToNat, Int.reduceLT, Int.reduceLE, Int.reduceEq, Int.reduceAdd, Int.reduceSub, Int.reduceNeg, Int.reduceMul, Bool.and_self] | split)
    all_goals first | exact ⟨_, rfl⟩ | (refine ⟨?_, _, rfl⟩; simp_all)
def scR (f : Fd) : List AV := tyR (scF f.ty)
theorem shp6 (t : Ty) (rs : List Rc) (i : Nat) (H : AHeap) (hl : (rs.length : Int) < 9223372036854775807) (hi : idxF rs t.rc = some i) (hf : ∀ r ∈ rs, r.fields.length ≤ 20) :
    Comp' 124 [.agg (tyR t), .sl 2 (rs.map rcR)] H (.sl 3 ((rs.getD i default).fields.map scR)) := by
  refine ACall.drop (R := fun x => x = .sl 3 ((rs.getD i default).fields.map scR)) ?_
  refine enter Try.func124 L124_ok (Nat.le_of_ble_eq_true rfl) ?_
  have hr : recV rs t.rc = .tup [.agg (rcR (rs.getD i default)), bool true] := by unfold recV; rw [hi]
  have hlt := (find_lt hi).1
  have h20 := hf _ (getD_mem' hlt)
  generalize rs.getD i default = r at hr h20 ⊢
  repeat' (first | (refine And.intro (by omega) ?_) | (refine callF_pure (record _ _ _ hl) ?_) | (refine callQF_pure (record _ _ _ hl) rfl ?_) | simp -implicitDefEqProofs (disch := omega) only [L124, tyR, hr, rcR, dT_lt, dF_lt, dT_le, dF_le, dT_eq, dF_eq, push_cast, ↓reduceIte, Nat.reduceEqDiff, reduceCtorEq, Nat.reduceAdd, Nat.reduceSub, Nat.reduceMul, Nat.reduceLeDiff, Nat.reduceLT, Nat.reduceMod, Nat.reduceDiv, Int.reduceToNat, Int.reduceLT, Int.reduceLE, Int.reduceEq, Int.reduceAdd, Int.reduceSub, Int.reduceNeg, Int.reduceMul, Bool.and_self] | split)
  refine rk_loopS (fun (p : Nat × Nat × List HO) e' H' => e' 5 = .os (H.length + 1) p.2.1 0 p.1 ∧ e' 18 = .sl 4 (r.fields.map fdR) ∧ e' 19 = int r.fields.length ∧ e' 20 = int p.1 ∧ H' = H ++ .box (tyR t) :: .arr p.2.1 3 ((r.fields.take p.1).map scR) :: p.2.2 ∧ p.1 ≤ r.fields.length) (fun p => r.fields.length - p.1) (0, 0, [.box (rcR r)]) ?_ ?_
  · exact ⟨rfl, rfl, rfl, rfl, rfl, Nat.zero_le _⟩
  rintro ⟨j, ver, rest⟩ e' H' ⟨h5, h18, h19, h20', rfl, hj⟩
  simp only at h5 h18 h19 h20' hj
  have hlen : ((r.fields.take j).map scR).length = j := by simp; omega
  by_cases hlt : j < r.fields.length
  · have hsn : (r.fields.take j).map scR ++ [[int (scF (r.fields.getD j default).ty).k, int (scF (r.fields.getD j default).ty).len, str (scF (r.fields.getD j default).ty).rc]] = (r.fields.take (j + 1)).map scR := by rw [take_snoc hlt]; simp [scR, tyR]
    repeat' (first | (refine And.intro (by omega) ?_) | (refine callF_pure (scalar (r.fields.getD j default).ty _) ?_) | (refine callQF_pure (scalar (r.fields.getD j default).ty _) rfl ?_) | simp -implicitDefEqProofs (disch := omega) only [h5, h18, h19, h20', rows_getD, fdR, tyR, hlen, all_take _ (Nat.le_of_eq hlen), hsn, dT_lt, dF_lt, dT_le, dF_le, dT_eq, dF_eq, push_cast, ↓reduceIte, Nat.reduceEqDiff, reduceCtorEq, Nat.reduceAdd, Nat.reduceSub, Nat.reduceMul, Nat.reduceLeDiff, Nat.reduceLT, Nat.reduceMod, Nat.reduceDiv, Int.reduceToNat, Int.reduceLT, Int.reduceLE, Int.reduceEq, Int.reduceAdd, Int.reduceSub, Int.reduceNeg, Int.reduceMul, Bool.and_self] | split)
    exact .mk (j + 1, ver + 1, rest ++ [_]) ⟨rfl, h18, h19, rfl, rfl, hlt⟩ (by simp only; omega)
  · repeat' (first | (refine And.intro (by omega) ?_) | (refine callF_pure (scalar _ _) ?_) | (refine callQF_pure (scalar _ _) rfl ?_) | simp -implicitDefEqProofs (disch := omega) only [h5, h18, h19, h20', hlen, all_take _ (Nat.le_of_eq hlen), dT_lt, dF_lt, dT_le, dF_le, dT_eq, dF_eq, push_cast, ↓reduceIte, Nat.reduceEqDiff, reduceCtorEq, Nat.reduceAdd, Nat.reduceSub, Nat.reduceMul, Nat.reduceLeDiff, Nat.reduceLT, Nat.reduceMod, Nat.reduceDiv, Int.reduceToNat, Int.reduceLT, Int.reduceLE, Int.reduceEq, Int.reduceAdd, Int.reduceSub, Int.reduceNeg, Int.reduceMul, Bool.and_self] | split)
    exact ⟨by rw [all_take _ (by omega)], _, rfl⟩
end Go.Proofs.Ytnbdogodcjhfiaa

/- Laws whose statement bounds the size of what comes in: what the bound says of the values without addresses. -/
namespace Go.Ax
open Go Go.RowKit Go.WideShapes Go.ChangeShapes
open Go.Proofs.Ytnbdogodcjhfiaa
set_option linter.unusedSimpArgs false
set_option linter.unusedVariables false

mutual
/-- How many values and letters. -/
def AV.bulk : AV → Nat
  | .v (.string s) => s.size + 1
  | .sl _ rows => bulkRR rows + 1
  | _ => 1
def bulkR : List AV → Nat
  | [] => 0
  | x :: l => x.bulk + bulkR l
def bulkRR : List (List AV) → Nat
  | [] => 0
  | r :: l => bulkR r + bulkRR l
end
theorem bulkR_append : ∀ a b : List AV, bulkR (a ++ b) = bulkR a + bulkR b
  | [], b => by simp [bulkR]
  | x :: a, b => by simp only [List.cons_append, bulkR, bulkR_append a b]; omega
theorem bulkRR_le {H : Type} : ∀ (rows : List (List AV)) (ds : List (DataW H)), rows.length = ds.length → (∀ (i : Nat) (r : List AV) (d : DataW H), rows[i]? = some r → ds[i]? = some d → bulkR r ≤ Rows.uptoBulk d) → bulkRR rows ≤ Rows.uptoBulkAll ds
  | [], [], _, _ => by simp [bulkRR]
  | [], _ :: _, h, _ => by simp at h
  | _ :: _, [], h, _ => by simp at h
  | r :: rows, d :: ds, h, hh => by
    simp only [bulkRR, Rows.uptoBulkAll]
    have h1 := hh 0 r d rfl rfl
    have h2 := bulkRR_le rows ds (by simpa using h) fun i r d hr hd => hh (i + 1) r d (by simpa using hr) (by simpa using hd)
    omega

section
variable {H : Type} {enc : TypeId × Value → H} {P : Program} {w : World} {sp : Nat → Bool} {held : Bool}

theorem fields_openB (cs : List Value) : ∀ (fl : List Field) (ds : List (DataW H)) {o n : Nat}, contig P o fl = some n → n ≤ cs.length → fl.length = ds.length → (∀ (i : Nat) (f : Field) (d : DataW H), fl[i]? = some f → ds[i]? = some d → ∃ ys, RepC w ys ((cs.drop f.offset).take (P.cellsOf f.type)) ∧ Val P f.type ys ∧ bulkR ys ≤ Rows.uptoBulk d) →
    ∃ xs, RepC w xs ((cs.drop o).take (n - o)) ∧ (∀ f ∈ fl, Val P f.type ((xs.drop (f.offset - o)).take (P.cellsOf f.type))) ∧ bulkR xs ≤ Rows.uptoBulkAll ds
  | [], ds, o, n, h, _, _, _ => by
    simp [contig] at h; subst h
    exact ⟨[], ⟨by simp, fun i x u hx => by simp at hx⟩, by simp, by simp [bulkR]⟩
  | f :: fs, [], o, n, h, hn, hl, hf => by simp at hl
  | f :: fs, d :: ds, o, n, h, hn, hl, hf => by
    simp only [contig] at h
    split at h
    · rename_i hfo
      obtain ⟨h1, h2⟩ := contig_ge fs h
      obtain ⟨ys, ⟨hyl, hyr⟩, hyv, hyb⟩ := hf 0 f d rfl rfl
      obtain ⟨zs, ⟨hzl, hzr⟩, hzv, hzb⟩ := fields_openB cs fs ds h hn (by simpa using hl) fun i g d hg hd => hf (i + 1) g d (by simpa using hg) (by simpa using hd)
      rw [hfo] at hyl hyr
      have hyl' : ys.length = P.cellsOf f.type := by rw [hyl]; simp; omega
      have hzl' : zs.length = n - (o + P.cellsOf f.type) := by rw [hzl]; simp; omega
      refine ⟨ys ++ zs, ⟨by simp [hyl', hzl']; omega, fun i x u hx hu => ?_⟩, fun g hg => ?_, by rw [bulkR_append]; simp only [Rows.uptoBulkAll]; omega⟩
      · have hu' : cs[o + i]? = some u := by
          rw [List.getElem?_take] at hu
          split at hu
          · simpa using hu
          · cases hu
        by_cases hi : i < ys.length
        · rw [List.getElem?_append_left hi] at hx
          refine hyr i x u hx ?_
          rw [List.getElem?_take, if_pos (by omega)]
          simpa using hu'
        · rw [List.getElem?_append_right (by omega)] at hx
          refine hzr (i - ys.length) x u hx ?_
          have hlt := (List.getElem?_eq_some_iff.1 hx).1
          rw [List.getElem?_take, if_pos (by omega)]
          simp only [List.getElem?_drop]
          rw [← hu']
          congr 1
          omega
      · rcases List.mem_cons.1 hg with rfl | hg
        · rw [hfo, Nat.sub_self, List.drop_zero, List.take_left' hyl']
          exact hyv
        · have := h2 g hg
          have e : (ys ++ zs).drop (g.offset - o) = zs.drop (g.offset - (o + P.cellsOf f.type)) := by
            rw [show g.offset - o = ys.length + (g.offset - (o + P.cellsOf f.type)) by omega, ← List.drop_drop, List.drop_left]
          rw [e]
          exact hzv g hg
    · cases h

theorem open_cellsB {S : List TypeId} (hS : plainB P S = true) : ∀ (fuel : Nat) {t : TypeId} {cs : List Value} {x : DataW H × List MemPlace}, t ∈ S → DataW.trod enc P w 0 sp held fuel t cs = some x → ∃ xs, RepC w xs cs ∧ Val P t xs ∧ bulkR xs ≤ Rows.uptoBulk x.1 := by
  intro fuel
  induction fuel with
  | zero => intro t cs x _ h; simp [DataW.trod] at h
  | succ fuel ih =>
    intro t cs x ht h
    have hS0 := hS
    unfold plainB at hS
    rw [List.all_eq_true] at hS
    have h1 := hS t ht
    have single : ∀ (u : Value), one u = true → RepC w [.v u] [u] := fun u hu => ⟨rfl, fun i x y hx hy => by
      cases i with
      | zero => simp at hx hy; subst hx; subst hy; exact ⟨.v _ _, hu⟩
      | succ i => simp at hx⟩
    split at h1
    · rename_i k hu
      obtain ⟨n, rfl, rfl, hw⟩ := DataW.trod_int hu h
      exact ⟨_, single _ rfl, .int hu hw, by simp [bulkR, AV.bulk, Rows.uptoBulk]⟩
    · rename_i hu
      obtain ⟨b, rfl, rfl⟩ := DataW.trod_bool hu h
      exact ⟨_, single _ rfl, .bool hu, by simp [bulkR, AV.bulk, Rows.uptoBulk]⟩
    · rename_i hu
      obtain ⟨s, rfl, rfl, hs⟩ := DataW.trod_string hu h
      exact ⟨_, single _ rfl, .str hu hs, by simp [bulkR, AV.bulk, Rows.uptoBulk]⟩
    · rename_i e hu
      simp only [Bool.and_eq_true, decide_eq_true_eq, List.contains_iff_mem] at h1
      obtain ⟨⟨_, he⟩, hpos⟩ := h1
      have wrap : ∀ (y : AV) (u : Value), one u = true → Rep w X0 (fun _ => {}) 0 y u → RepC w [y] [u] := fun y u h1 hu => ⟨rfl, fun i x z hx hz => by
        cases i with
        | zero => simp at hx hz; subst hx; subst hz; exact ⟨hu, h1⟩
        | succ i => simp at hx⟩
      rcases DataW.trod_slice hu h with ⟨rfl, rfl⟩ | ⟨a, len, cap, elems, rest, n, hn, rfl, rfl, _, hlc, hcap, hel, helems, -, -⟩
      · exact ⟨[.sl (P.cellsOf e) []], wrap _ _ rfl (.slE _ _ _ _), .sl hu (by simp) (by simp), by simp [bulkR, AV.bulk, bulkRR, Rows.uptoBulk]⟩
      · obtain rfl : n = fuel := by omega
        by_cases hlen : len = 0
        · subst hlen
          exact ⟨[.sl (P.cellsOf e) []], wrap _ _ rfl (.slE _ _ _ _), .sl hu (by simp) (by simp), by simp [bulkR, AV.bulk, bulkRR, Rows.uptoBulk]⟩
        · have hrow : ∀ i, i < len → ∃ (cs : List Value) (xs : List AV), w.cells? 0 (a.add (i * P.cellsOf e)) (P.cellsOf e) = some cs ∧ RepC w xs cs ∧ Val P e xs ∧ ∀ y, elems[i]? = some y → bulkR xs ≤ Rows.uptoBulk y.1 := by
            intro i hi
            have hg := helems i hi
            rw [List.getElem?_eq_getElem (by omega)] at hg
            cases hc : w.cells? 0 (a.add (i * P.cellsOf e)) (P.cellsOf e) with
            | none => rw [hc] at hg; cases hg
            | some cs =>
              rw [hc] at hg
              obtain ⟨xs, h1, h2, h3⟩ := ih he hg
              exact ⟨cs, xs, rfl, h1, h2, fun y hy => by rw [List.getElem?_eq_getElem (by omega)] at hy; cases hy; exact h3⟩
          have hcell : ∀ i cs, w.cells? 0 (a.add (i * P.cellsOf e)) (P.cellsOf e) = some cs → cs.length = P.cellsOf e ∧ ∀ j, j < P.cellsOf e → w.cell? ((a.add (i * P.cellsOf e)).add j) = cs[j]? := by
            intro i cs hc
            obtain ⟨_, h2, h3⟩ := World.cells?_some hc
            exact ⟨h2, h3⟩
          obtain ⟨f, hf⟩ : ∃ f : Nat → List Value × List AV, ∀ i, i < len → w.cells? 0 (a.add (i * P.cellsOf e)) (P.cellsOf e) = some (f i).1 ∧ RepC w (f i).2 (f i).1 ∧ Val P e (f i).2 ∧ ∀ y, elems[i]? = some y → bulkR (f i).2 ≤ Rows.uptoBulk y.1 := by
            refine ⟨fun i => if hi : i < len then (Classical.choose (hrow i hi), Classical.choose (Classical.choose_spec (hrow i hi))) else ([], []), fun i hi => ?_⟩
            simp only [dif_pos hi]
            exact Classical.choose_spec (Classical.choose_spec (hrow i hi))
          have hfl : ∀ i, i < len → (f i).2.length = P.cellsOf e := fun i hi => (hf i hi).2.1.1.trans (hcell i _ (hf i hi).1).1
          have hspot : a.spot = none := by
            have h0 := (hcell 0 _ (hf 0 (by omega)).1).2 0 hpos
            rw [List.getElem?_eq_getElem (by rw [(hcell 0 _ (hf 0 (by omega)).1).1]; exact hpos)] at h0
            simp only [Nat.zero_mul, add_zero_] at h0
            exact cell_one (t := t) h0
          have hblk : a.block < w.heap.size := by
            have := World.cells?_block (hf 0 (by omega)).1 hpos
            simpa only [Nat.zero_mul, add_zero_] using this
          obtain ⟨b, o, spot⟩ := a
          simp only at hspot hblk
          subst hspot
          have hget : ∀ i x, ((List.range len).map fun i => (f i).2)[i]? = some x → i < len ∧ x = (f i).2 := by
            intro i x hx
            simp only [List.getElem?_map, List.getElem?_range] at hx
            by_cases hi : i < len
            · simp [hi] at hx; exact ⟨hi, hx.symm⟩
            · simp [hi] at hx
          have hc : ∀ (i j : Nat) (x : List AV) (y : AV), ((List.range len).map fun i => (f i).2)[i]? = some x → x[j]? = some y → w.cell? ⟨b, o + i * P.cellsOf e + j, none⟩ = some ((f i).1.getD j default) ∧ Rep w X0 (fun _ => {}) 0 y ((f i).1.getD j default) ∧ one ((f i).1.getD j default) = true := by
            intro i j x y hx hy
            obtain ⟨hi, rfl⟩ := hget i x hx
            have hj : j < (f i).2.length := (List.getElem?_eq_some_iff.1 hy).1
            have hl := hcell i _ (hf i hi).1
            have hj' : j < (f i).1.length := by rw [hl.1, ← hfl i hi]; exact hj
            have hgd : (f i).1[j]? = some ((f i).1.getD j default) := by simp [List.getD_eq_getElem?_getD, hj']
            refine ⟨?_, (hf i hi).2.1.2 j y _ hy hgd⟩
            have := hl.2 j (by rw [← hfl i hi]; exact hj)
            rw [hgd, add_off, add_off] at this
            exact this
          refine ⟨[.sl (P.cellsOf e) ((List.range len).map fun i => (f i).2)], wrap _ _ rfl ?_, .sl hu (by simp; omega) (fun x hx => ?_), ?_⟩
          · have := Rep.slN (w := w) (M := X0) (ρ := fun _ => {}) 0 (P.cellsOf e) ((List.range len).map fun i => (f i).2) b o cap (fun i j => (f i).1.getD j default) (fun h => h.elim) hblk (by simpa using hlc)
              (fun x hx => by obtain ⟨i, hi, rfl⟩ := List.mem_map.1 hx; exact hfl i (by simpa using hi)) (fun i j x y hx hy => ⟨(hc i j x y hx hy).1, (hc i j x y hx hy).2.2⟩) (fun i j x y hx hy => (hc i j x y hx hy).2.1)
            simpa using this
          · obtain ⟨i, hi, rfl⟩ := List.mem_map.1 hx
            exact (hf i (by simpa using hi)).2.2.1
          · have hb := bulkRR_le ((List.range len).map fun i => (f i).2) (elems.map (·.1)) (by simp [hel]) fun i r d hr hd => by
              obtain ⟨hi, rfl⟩ := hget i r hr
              simp only [List.getElem?_map, Option.map_eq_some_iff] at hd
              obtain ⟨y, hy, rfl⟩ := hd
              exact (hf i hi).2.2.2 y hy
            simp only [bulkR, AV.bulk, Rows.uptoBulk]
            omega
    · rename_i fs hu
      simp only [Bool.and_eq_true, decide_eq_true_eq, List.all_eq_true, List.contains_iff_mem] at h1
      obtain ⟨ys, n, hn, rfl, hcl, hyl, hy⟩ := DataW.trod_struct hu h
      obtain rfl : n = fuel := by omega
      obtain ⟨xs, hxr, hxv, hxb⟩ := fields_openB (w := w) cs fs.toList (ys.map (·.1)) h1.1 (by omega) (by simp [hyl]) fun i f d hf hd => by
        have hi := (List.getElem?_eq_some_iff.1 hf).1
        have hg := hy i f (by simpa using hf)
        rw [List.getElem?_eq_getElem (by simp at hi; omega)] at hg
        simp only [List.getElem?_map, Option.map_eq_some_iff] at hd
        obtain ⟨y, hy', rfl⟩ := hd
        rw [List.getElem?_eq_getElem (by simp at hi; omega)] at hy'
        cases hy'
        exact ih (h1.2 f (List.mem_of_getElem? hf)) hg
      rw [Nat.sub_zero, List.drop_zero, List.take_of_length_le (by omega)] at hxr
      refine ⟨xs, hxr, .st hu (by rw [hxr.1]; exact hcl) (fun i f hf => ?_), by simp only [Rows.uptoBulk]; omega⟩
      have := hxv f (by rw [← Array.getElem?_toList] at hf; exact List.mem_of_getElem? hf)
      simpa using this
    · cases h1

theorem open_valB {S : List TypeId} (hS : plainB P S = true) {t : TypeId} {v : Value} {d : DataW H} {ps : List MemPlace} {r : Reach} {base : Nat} (ht : t ∈ S) (hval : Value.okWide P w r base t v) (h : DataW.Trod enc P w 0 sp held t v d ps) :
    ∃ xs, Val P t xs ∧ bulkR xs ≤ Rows.uptoBulk d ∧ Rep w X0 (fun _ => {}) 0 (topV P t xs) v := by
  obtain ⟨fuel, hf⟩ := h
  obtain ⟨xs, hx, hv, hb⟩ := open_cellsB hS fuel ht hf
  refine ⟨xs, hv, hb, ?_⟩
  unfold plainB at hS
  rw [List.all_eq_true] at hS
  have h1 := hS t ht
  have single : v.cells = #[v] → (∀ fs, P.underlying t ≠ some (.struct fs)) → Rep w X0 (fun _ => {}) 0 (topV P t xs) v := by
    intro hc hn
    have e : topV P t xs = xs.headD .any := by
      unfold topV
      split
      · rename_i fs hu; exact absurd hu (hn fs)
      · rfl
    rw [e]
    rw [hc] at hx
    obtain ⟨hl, hr⟩ := hx
    match xs, hl with
    | [x], _ => exact (hr 0 x v rfl rfl).1
  split at h1
  · rename_i k hu
    obtain ⟨n, rfl⟩ := okWide_int hu hval
    exact single rfl fun fs => by rw [hu]; simp
  · rename_i hu
    obtain ⟨n, rfl⟩ := okWide_bool hu hval
    exact single rfl fun fs => by rw [hu]; simp
  · rename_i hu
    obtain ⟨n, rfl⟩ := okWide_string hu hval
    exact single rfl fun fs => by rw [hu]; simp
  · rename_i e hu
    obtain ⟨a, len, cap, rfl⟩ := okWide_slice hu hval
    exact single rfl fun fs => by rw [hu]; simp
  · rename_i fs hu
    obtain ⟨cs, rfl, hsz⟩ := okWide_struct hu hval
    have e : topV P t xs = .agg xs := by unfold topV; rw [hu]
    rw [e]
    exact .agg _ _ _ (by rw [hx.1]; simp [Value.cells]) fun i x u hxi hui => (hx.2 i x u hxi (by simpa [Value.cells] using hui)).1
  · cases h1

theorem open_allB {S : List TypeId} (hS : plainB P S = true) : ∀ {ts : List TypeId} {vs : List Value} {ds : List (DataW H)} {ps : List MemPlace}, (∀ t ∈ ts, t ∈ S) → (∀ (j : Nat) t v, ts[j]? = some t → vs[j]? = some v → ∃ r base, Value.okWide P w r base t v) →
    DataW.TrodAll enc P w 0 sp held ts vs ds ps → ∃ l, ValAll P ts l ∧ bulkRR l ≤ Rows.uptoBulkAll ds ∧ (topAll P ts l).length = vs.length ∧ ∀ (i : Nat) (x : AV) (u : Value), (topAll P ts l)[i]? = some x → vs[i]? = some u → Rep w X0 (fun _ => {}) 0 x u
  | [], vs, ds, ps, _, _, h => by
    obtain ⟨rfl, rfl, rfl⟩ := trodAll_nil h
    exact ⟨[], trivial, by simp [bulkRR], rfl, fun i x u hx => by simp [topAll] at hx⟩
  | t :: ts, vs, ds, ps, hts, hv, h => by
    obtain ⟨v, vs1, d, ds1, a, b, rfl, rfl, rfl, h1, h2⟩ := trodAll_cons h
    obtain ⟨r, base, hok⟩ := hv 0 t v rfl rfl
    obtain ⟨xs, hx, hxb, hr⟩ := open_valB hS (hts t (by simp)) hok h1
    obtain ⟨l, hl, hlb, hlen, hrep⟩ := open_allB hS (fun t ht => hts t (by simp [ht])) (fun j t v ht hv' => hv (j + 1) t v (by simpa using ht) (by simpa using hv')) h2
    refine ⟨xs :: l, ⟨hx, hl⟩, by simp only [bulkRR, Rows.uptoBulkAll]; omega, by simp [topAll, hlen], fun i x u hxi hui => ?_⟩
    cases i with
    | zero => simp [topAll] at hxi hui; subst hxi; subst hui; exact hr
    | succ i => exact hrep i x u (by simpa [topAll] using hxi) (by simpa using hui)

end

/-- A law whose statement bounds what comes in. -/
theorem law_lifted_upto {C : Checked} {k : FuncId} {fn : Func} {s : ChangeSpec} {F : Stop.Interp} {conds : List PathCond} {tb : TypeId} {S : List TypeId} {os : Os} {H : Type} {enc : TypeId × Value → H} {ts : List TypeId}
    (own : ownKnob C.prog.godebug = none) (started : os.Started) (noInit : C.prog.inits.idxOf? k = none) (hfn : C.prog.funcs[k]? = some fn)
    (witness : ∃ (w : World) (tape : Tape) (i : Input), w.os = os ∧ (w.forCall tape i).Shaped C.prog ∧ i.vars = [] ∧ Input.okWide C.prog (w.forCall tape i) .any w.heap.size k i ∧
      (Rows.OpenSpec.upto s).pre6 enc C.prog fn conds false (w.forCall tape i).memory i.args ∧ (({} : Assume)).holds C.prog (lone (Frame.enter C.prog k i.args .normal) [] (w.forCall tape i)))
    (hv : s.vars = []) (hts : fn.params.toList = ts) (hf : fn.resultTypes = #[tb]) (htb : C.prog.underlying tb = some .bool) (hs : ∀ ds : List (DataW H), ds.length = ts.length → s.fn H ds = ⟨[.lit (.bool true)], ds, []⟩)
    (hgl : intVars C.prog = true) (hl : laidOutB C.prog = true) (hr : ts.all (fun t => C.prog.readableRec t && decide (t < C.prog.types.size) && S.contains t) = true) (hS : plainB C.prog S = true)
    (law : ∀ l, ValAll C.prog ts l → bulkRR l ≤ 1048576 → ∃ R : AHeap → Prop, ACall C.prog k (topAll C.prog ts l) [] fun x H' => x = bool true ∧ R H') :
    ReturnsInHanded {} C os k .any ((Rows.OpenSpec.upto s).pre6 enc C.prog fn conds false) (((Rows.OpenSpec.upto s).at F).post enc C.prog fn false true false false) := by
  refine returnsInHanded_of_calls own started noInit witness ?_
  intro w0 tape inp _ hsh _ hok hpre hholds
  obtain ⟨_, _, _, fn', hfn', _, _, _, _, hval⟩ := hok
  have e : fn' = fn := Option.some.inj (hfn'.symm.trans hfn)
  subst e
  obtain ⟨ds, gs, before, hw, hcnd, hkk⟩ := (OpenSpec.pre_some (s := Rows.OpenSpec.upto s) rfl conds false _ _).1 hpre.1
  have hW := DataW.Whole.of_heap (w' := w0.forCall tape inp) (by rfl) hw
  have main : ∀ (W : World) (args : Array Value), W.ShapedOpen C.prog → (∀ (j : Nat) t v, fn'.params[j]? = some t → args[j]? = some v → Value.okWide C.prog W .any w0.heap.size t v) → DataW.Whole enc C.prog fn'.params.toList s.vars false W args.toList ds gs before →
      Calls C.prog k args W fun e W' => ∃ v, e = .returned v ∧ s.post enc C.prog fn' false true false false W args v W' := by
    intro W args hsh hval hW
    have hW' := hW
    obtain ⟨p, q, hA, hV, rfl, hfz, hnd⟩ := hW
    rw [hv] at hV
    obtain ⟨rfl, rfl⟩ := trodVars_none hV
    have hall : ∀ t ∈ ts, C.prog.readableRec t = true ∧ t < C.prog.types.size ∧ t ∈ S := fun t ht => by
      have := List.all_eq_true.1 hr t ht
      simpa [and_assoc] using this
    rw [hts] at hA
    obtain ⟨l, hl1, hlb, hl2, hl3⟩ := open_allB hS (fun t ht => (hall t ht).2.2) (fun j t v ht hvv => ⟨_, _, hval j t v (by rw [← Array.getElem?_toList, hts]; exact ht) (by rw [← Array.getElem?_toList]; exact hvv)⟩) hA
    have hbd : bulkRR l ≤ 1048576 := by
      have h : Rows.uptoBulkAll (ds ++ []) ≤ 1048576 := of_decide_eq_true hkk
      rw [List.append_nil] at h
      exact Nat.le_trans hlb h
    obtain ⟨R, hlaw⟩ := law l hl1 hbd
    have hrep : RepL W X0 (fun _ => {}) 0 (topAll C.prog ts l) args := ⟨by simpa using hl2, fun i x u hx hu => hl3 i x u hx (by rw [Array.getElem?_toList]; exact hu)⟩
    refine (hlaw.top hrep (glbs_shaped hgl hsh)).mono fun e W' ⟨v, x, H', ρ', he, hx, hrx, hb⟩ => ?_
    obtain ⟨rfl, _⟩ := hx
    have hvv := rep_v hrx
    subst hvv
    subst he
    have hlt : ∀ x ∈ p ++ [], x.block < W.heap.size := fun x hx => hW'.lt x hx
    have hdl : ds.length = ts.length := by
      have aux : ∀ {ts : List TypeId} {vs : List Value} {ds : List (DataW H)} {ps : List MemPlace}, DataW.TrodAll enc C.prog W 0 (fun _ => true) true ts vs ds ps → ds.length = ts.length := by
        intro ts
        induction ts with
        | nil => intro vs ds ps h; obtain ⟨_, rfl, _⟩ := trodAll_nil h; rfl
        | cons t ts ih => intro vs ds ps h; obtain ⟨v, vs1, d, ds1, a, b, rfl, rfl, rfl, h1, h2⟩ := trodAll_cons h; simp [ih h2]
      exact aux hA
    refine ⟨_, rfl, post_law hW' hv hf htb (hs ds hdl) (fun sp hsp => ?_) hb⟩
    rw [hts, List.append_nil]
    exact stays_all hl (fun t ht => ⟨(hall t ht).1, (hall t ht).2.1⟩) hA (fun x hx => hb.same (hlt x (by simpa using hx))) (fun x hx => hsp x (by simpa using hx))
  refine (main (w0.forCall tape inp) inp.args hsh hval hW).mono fun e W' ⟨v, he, hp⟩ => ?_
  subst he
  exact ChangeSpec.post_blind hp
end Go.Ax

/- The functions, lowered. Printed by a program (wip/tools/pl.py). -/
namespace Go.Proofs.Ytnbdogodcjhfiaa
open Go Go.Ax
set_option maxRecDepth 100000

/-- assessor_assessorlaw03.TreeShapes -/
def L3 : LFn := ⟨38, [(.tmp 4)], (.seq (.ops [⟨(some 2), none, (.box false (.t 0))⟩,
      ⟨(some 4), none, (.mv (.c (.v (.bool false))))⟩])
    (.seq (.seq (.ops [⟨(some 5), none, (.load true 5 (.t 2))⟩,
      ⟨(some 6), none, (.call (.c (.fn (.func 11) [] [])) [(.t 5), (.c (.v (.int .i64 150)))])⟩,
      ⟨(some 7), none, (.not (.t 6))⟩])
    (.cond (.t 7)
    (.seq (.ops [⟨(some 8), none, (.call (.c (.fn (.func 12) [] [])) [])⟩,
      ⟨(some 4), none, (.mv (.t 8))⟩])
    .ret)
    .skip))
    (.seq (.draw [⟨(some 9), none, (.load true 5 (.t 2))⟩,
      ⟨(some 10), none, (.call (.c (.fn (.func 13) [] [])) [(.t 9)])⟩,
      ⟨(some 11), none, (.load true 5 (.t 2))⟩,
      ⟨(some 12), none, (.call (.c (.fn (.func 14) [] [])) [(.t 11)])⟩,
      ⟨(some 13), none, (.bin .bool .eql (.t 10) (.t 12))⟩,
      ⟨(some 14), none, (.mv (.t 13))⟩,
      ⟨(some 15), (some (14, true)), (.load true 5 (.t 2))⟩,
      ⟨(some 16), (some (14, true)), (.call (.c (.fn (.func 15) [] [])) [(.t 15)])⟩,
      ⟨(some 17), (some (14, true)), (.load true 5 (.t 2))⟩,
      ⟨(some 18), (some (14, true)), (.call (.c (.fn (.func 16) [] [])) [(.t 17)])⟩,
      ⟨(some 19), (some (14, true)), (.bin .bool .eql (.t 16) (.t 18))⟩,
      ⟨(some 20), none, (.pick (.t 14) (.t 19) (.c (.v (.bool false))))⟩,
      ⟨(some 21), none, (.mv (.t 20))⟩,
      ⟨(some 22), (some (21, true)), (.load true 5 (.t 2))⟩,
      ⟨(some 23), (some (21, true)), (.call (.c (.fn (.func 17) [] [])) [(.t 22)])⟩,
      ⟨(some 24), (some (21, true)), (.load true 5 (.t 2))⟩,
      ⟨(some 25), (some (21, true)), (.call (.c (.fn (.func 18) [] [])) [(.t 24)])⟩,
      ⟨(some 26), (some (21, true)), (.bin .bool .eql (.t 23) (.t 25))⟩,
      ⟨(some 27), none, (.pick (.t 21) (.t 26) (.c (.v (.bool false))))⟩,
      ⟨(some 28), none, (.mv (.t 27))⟩,
      ⟨(some 29), (some (28, true)), (.mv (.t 1))⟩,
      ⟨(some 30), (some (28, true)), (.call (.c (.fn (.func 19) [] [])) [(.t 29)])⟩,
      ⟨(some 31), (some (28, true)), (.mv (.t 1))⟩,
      ⟨(some 32), (some (28, true)), (.call (.c (.fn (.func 20) [] [])) [(.t 31)])⟩,
      ⟨(some 33), (some (28, true)), (.bin .bool .eql (.t 30) (.t 32))⟩,
      ⟨(some 34), none, (.pick (.t 28) (.t 33) (.c (.v (.bool false))))⟩,
      ⟨(some 35), none, (.mv (.t 34))⟩,
      ⟨(some 36), (some (35, true)), (.call (.c (.fn (.func 12) [] [])) [])⟩,
      ⟨(some 37), none, (.pick (.t 35) (.t 36) (.c (.v (.bool false))))⟩,
      ⟨(some 4), none, (.mv (.t 37))⟩] [])
    .ret)))⟩
theorem L3_ok : lowFn Try.prog Try.f3 [] = some L3 := by kernel_rfl

/-- assessor_assessorlaw03.TreeBare -/
def L4 : LFn := ⟨67, [(.tmp 2)], (.seq (.ops [⟨(some 1), none, (.box false (.t 0))⟩,
      ⟨(some 2), none, (.mv (.c (.v (.bool false))))⟩])
    (.seq (.seq (.ops [⟨(some 6), none, (.load true 5 (.t 1))⟩,
      ⟨(some 7), none, (.call (.c (.fn (.func 11) [] [])) [(.t 6), (.c (.v (.int .i64 100)))])⟩,
      ⟨(some 8), none, (.not (.t 7))⟩])
    (.cond (.t 8)
    (.seq (.ops [⟨(some 9), none, (.call (.c (.fn (.func 12) [] [])) [])⟩,
      ⟨(some 2), none, (.mv (.t 9))⟩])
    .ret)
    .skip))
    (.seq (.ops [⟨(some 10), none, (.load true 5 (.t 1))⟩,
      ⟨(some 11), none, (.call (.c (.fn (.func 21) [] [])) [(.t 10)])⟩,
      ⟨(some 3), none, (.alloc [(.v (.int .i64 0)), (.v (.string (mkS []))), (.v (.int .i64 0)), (.v (.int .i64 0)), (.v (.slice none 0 0))])⟩,
      ⟨none, none, (.store 5 (.t 3) (.t 11))⟩])
    (.seq (.seq (.draw [⟨(some 12), none, (.load true 5 (.t 1))⟩,
      ⟨(some 13), none, (.load true 5 (.t 3))⟩,
      ⟨(some 14), none, (.call (.c (.fn (.func 22) [] [])) [(.t 12), (.t 13)])⟩,
      ⟨(some 15), none, (.not (.t 14))⟩,
      ⟨(some 16), none, (.mv (.t 15))⟩,
      ⟨(some 17), (some (16, false)), (.load true 5 (.t 3))⟩,
      ⟨(some 18), (some (16, false)), (.load true 5 (.t 1))⟩,
      ⟨(some 19), (some (16, false)), (.call (.c (.fn (.func 22) [] [])) [(.t 17), (.t 18)])⟩,
      ⟨(some 20), (some (16, false)), (.not (.t 19))⟩,
      ⟨(some 21), none, (.pick (.t 16) (.c (.v (.bool true))) (.t 20))⟩,
      ⟨(some 22), none, (.mv (.t 21))⟩,
      ⟨(some 23), (some (22, false)), (.load true 5 (.t 3))⟩,
      ⟨(some 24), (some (22, false)), (.call (.c (.fn (.func 23) [] [])) [(.t 23)])⟩,
      ⟨(some 25), (some (22, false)), (.load true 5 (.t 1))⟩,
      ⟨(some 26), (some (22, false)), (.call (.c (.fn (.func 23) [] [])) [(.t 25)])⟩,
      ⟨(some 27), (some (22, false)), (.bin .int .neq (.t 24) (.t 26))⟩,
      ⟨(some 28), none, (.pick (.t 22) (.c (.v (.bool true))) (.t 27))⟩,
      ⟨(some 29), none, (.mv (.t 28))⟩,
      ⟨(some 30), (some (29, false)), (.load true 5 (.t 3))⟩,
      ⟨(some 31), (some (29, false)), (.call (.c (.fn (.func 13) [] [])) [(.t 30)])⟩,
      ⟨(some 32), (some (29, false)), (.load true 5 (.t 1))⟩,
      ⟨(some 33), (some (29, false)), (.call (.c (.fn (.func 13) [] [])) [(.t 32)])⟩,
      ⟨(some 34), (some (29, false)), (.bin .bool .neq (.t 31) (.t 33))⟩,
      ⟨(some 35), none, (.pick (.t 29) (.c (.v (.bool true))) (.t 34))⟩,
      ⟨(some 36), none, (.mv (.t 35))⟩,
      ⟨(some 37), (some (36, false)), (.load true 5 (.t 3))⟩,
      ⟨(some 38), (some (36, false)), (.call (.c (.fn (.func 15) [] [])) [(.t 37)])⟩,
      ⟨(some 39), (some (36, false)), (.load true 5 (.t 1))⟩,
      ⟨(some 40), (some (36, false)), (.call (.c (.fn (.func 15) [] [])) [(.t 39)])⟩,
      ⟨(some 41), (some (36, false)), (.bin .bool .neq (.t 38) (.t 40))⟩,
      ⟨(some 42), none, (.pick (.t 36) (.c (.v (.bool true))) (.t 41))⟩,
      ⟨(some 43), none, (.mv (.t 42))⟩,
      ⟨(some 44), (some (43, false)), (.load true 5 (.t 3))⟩,
      ⟨(some 45), (some (43, false)), (.call (.c (.fn (.func 17) [] [])) [(.t 44)])⟩,
      ⟨(some 46), (some (43, false)), (.load true 5 (.t 1))⟩,
      ⟨(some 47), (some (43, false)), (.call (.c (.fn (.func 17) [] [])) [(.t 46)])⟩,
      ⟨(some 48), (some (43, false)), (.bin .bool .neq (.t 45) (.t 47))⟩,
      ⟨(some 49), none, (.pick (.t 43) (.c (.v (.bool true))) (.t 48))⟩] [])
    (.cond (.t 49)
    (.seq (.ops [⟨(some 2), none, (.mv (.c (.v (.bool false))))⟩])
    .ret)
    .skip))
    (.seq (.seq (.ops [⟨(some 50), none, (.load true 5 (.t 3))⟩,
      ⟨(some 51), none, (.call (.c (.fn (.func 24) [] [])) [(.t 50)])⟩,
      ⟨(some 52), none, (.len .slc (.t 51))⟩,
      ⟨(some 53), none, (.mv (.c (.v (.int .i64 0))))⟩])
    (.block 0 (.loop (.seq (.ops [⟨(some 54), none, (.bin .int .lss (.t 53) (.t 52))⟩])
    (.seq (.cond (.t 54)
    .skip
    (.exit 0))
    (.seq (.block 1 (.seq (.ops [⟨(some 55), none, (.iaddr 5 (.t 51) (.t 53))⟩,
      ⟨(some 56), none, (.load true 5 (.t 55))⟩,
      ⟨(some 5), none, (.alloc [(.v (.int .i64 0)), (.v (.string (mkS []))), (.v (.int .i64 0)), (.v (.int .i64 0)), (.v (.slice none 0 0))])⟩,
      ⟨none, none, (.store 5 (.t 5) (.t 56))⟩])
    (.seq (.ops [⟨(some 57), none, (.faddr 2 (.t 5))⟩,
      ⟨(some 58), none, (.load false 1 (.t 57))⟩,
      ⟨(some 59), none, (.bin .int .neq (.t 58) (.c (.v (.int .i64 0))))⟩,
      ⟨(some 60), none, (.mv (.t 59))⟩,
      ⟨(some 61), (some (60, false)), (.faddr 3 (.t 5))⟩,
      ⟨(some 62), (some (60, false)), (.load false 1 (.t 61))⟩,
      ⟨(some 63), (some (60, false)), (.bin .int .neq (.t 62) (.c (.v (.int .i64 0))))⟩,
      ⟨(some 64), none, (.pick (.t 60) (.c (.v (.bool true))) (.t 63))⟩])
    (.cond (.t 64)
    (.seq (.ops [⟨(some 2), none, (.mv (.c (.v (.bool false))))⟩])
    .ret)
    .skip))))
    (.ops [⟨(some 65), none, (.bin .int .add (.t 53) (.c (.v (.int .i64 1))))⟩,
      ⟨(some 53), none, (.mv (.t 65))⟩])))))))
    (.seq (.ops [⟨(some 66), none, (.call (.c (.fn (.func 12) [] [])) [])⟩,
      ⟨(some 2), none, (.mv (.t 66))⟩])
    .ret))))))⟩
theorem L4_ok : lowFn Try.prog Try.f4 [] = some L4 := by kernel_rfl

/-- assessor_assessorlaw03.TreeNumbers -/
def L5 : LFn := ⟨137, [(.tmp 8)], (.seq (.ops [⟨(some 4), none, (.box false (.t 0))⟩,
      ⟨(some 8), none, (.mv (.c (.v (.bool false))))⟩])
    (.seq (.seq (.ops [⟨(some 25), none, (.load true 5 (.t 4))⟩,
      ⟨(some 26), none, (.call (.c (.fn (.func 11) [] [])) [(.t 25), (.c (.v (.int .i64 150)))])⟩,
      ⟨(some 27), none, (.not (.t 26))⟩,
      ⟨(some 28), none, (.mv (.t 27))⟩,
      ⟨(some 29), (some (28, false)), (.mv (.t 1))⟩,
      ⟨(some 30), (some (28, false)), (.len .slc (.t 29))⟩,
      ⟨(some 31), (some (28, false)), (.bin .int .gtr (.t 30) (.c (.v (.int .i64 20))))⟩,
      ⟨(some 32), none, (.pick (.t 28) (.c (.v (.bool true))) (.t 31))⟩])
    (.cond (.t 32)
    (.seq (.ops [⟨(some 33), none, (.call (.c (.fn (.func 12) [] [])) [])⟩,
      ⟨(some 8), none, (.mv (.t 33))⟩])
    .ret)
    .skip))
    (.seq (.ops [⟨(some 35), none, (.load true 5 (.t 4))⟩,
      ⟨(some 36), none, (.mv (.t 1))⟩,
      ⟨(some 37), none, (.call (.c (.fn (.func 25) [] [])) [(.t 35), (.t 36)])⟩,
      ⟨(some 34), none, (.mv (.t 37))⟩,
      ⟨(some 38), none, (.ext (.t 34) 0)⟩,
      ⟨(some 39), none, (.ext (.t 34) 1)⟩,
      ⟨(some 9), none, (.alloc [(.v (.int .i64 0)), (.v (.string (mkS []))), (.v (.int .i64 0)), (.v (.int .i64 0)), (.v (.slice none 0 0))])⟩,
      ⟨none, none, (.store 5 (.t 9) (.t 38))⟩,
      ⟨(some 10), none, (.mv (.t 39))⟩])
    (.seq (.ops [⟨(some 41), none, (.load true 5 (.t 4))⟩,
      ⟨(some 42), none, (.mv (.t 1))⟩,
      ⟨(some 43), none, (.call (.c (.fn (.func 26) [] [])) [(.t 41), (.t 42)])⟩,
      ⟨(some 40), none, (.mv (.t 43))⟩,
      ⟨(some 44), none, (.ext (.t 40) 0)⟩,
      ⟨(some 45), none, (.ext (.t 40) 1)⟩,
      ⟨(some 11), none, (.alloc [(.v (.int .i64 0)), (.v (.string (mkS []))), (.v (.int .i64 0)), (.v (.int .i64 0)), (.v (.slice none 0 0))])⟩,
      ⟨none, none, (.store 5 (.t 11) (.t 44))⟩,
      ⟨(some 12), none, (.mv (.t 45))⟩])
    (.seq (.ops [⟨(some 47), none, (.load true 5 (.t 4))⟩,
      ⟨(some 48), none, (.mv (.t 2))⟩,
      ⟨(some 49), none, (.call (.c (.fn (.func 27) [] [])) [(.t 47), (.t 48)])⟩,
      ⟨(some 46), none, (.mv (.t 49))⟩,
      ⟨(some 50), none, (.ext (.t 46) 0)⟩,
      ⟨(some 51), none, (.ext (.t 46) 1)⟩,
      ⟨(some 13), none, (.mv (.t 50))⟩,
      ⟨(some 14), none, (.mv (.t 51))⟩])
    (.seq (.ops [⟨(some 53), none, (.load true 5 (.t 4))⟩,
      ⟨(some 54), none, (.mv (.t 2))⟩,
      ⟨(some 55), none, (.call (.c (.fn (.func 28) [] [])) [(.t 53), (.t 54)])⟩,
      ⟨(some 52), none, (.mv (.t 55))⟩,
      ⟨(some 56), none, (.ext (.t 52) 0)⟩,
      ⟨(some 57), none, (.ext (.t 52) 1)⟩,
      ⟨(some 15), none, (.mv (.t 56))⟩,
      ⟨(some 16), none, (.mv (.t 57))⟩])
    (.seq (.ops [⟨(some 59), none, (.load true 5 (.t 4))⟩,
      ⟨(some 60), none, (.mv (.t 1))⟩,
      ⟨(some 61), none, (.call (.c (.fn (.func 29) [] [])) [(.t 59), (.t 60)])⟩,
      ⟨(some 58), none, (.mv (.t 61))⟩,
      ⟨(some 62), none, (.ext (.t 58) 0)⟩,
      ⟨(some 63), none, (.ext (.t 58) 1)⟩,
      ⟨(some 17), none, (.mv (.t 62))⟩,
      ⟨(some 18), none, (.mv (.t 63))⟩])
    (.seq (.ops [⟨(some 65), none, (.load true 5 (.t 4))⟩,
      ⟨(some 66), none, (.mv (.t 1))⟩,
      ⟨(some 67), none, (.call (.c (.fn (.func 30) [] [])) [(.t 65), (.t 66)])⟩,
      ⟨(some 64), none, (.mv (.t 67))⟩,
      ⟨(some 68), none, (.ext (.t 64) 0)⟩,
      ⟨(some 69), none, (.ext (.t 64) 1)⟩,
      ⟨(some 19), none, (.mv (.t 68))⟩,
      ⟨(some 20), none, (.mv (.t 69))⟩])
    (.seq (.ops [⟨(some 71), none, (.load true 5 (.t 4))⟩,
      ⟨(some 72), none, (.mv (.t 3))⟩,
      ⟨(some 73), none, (.call (.c (.fn (.func 31) [] [])) [(.t 71), (.t 72)])⟩,
      ⟨(some 70), none, (.mv (.t 73))⟩,
      ⟨(some 74), none, (.ext (.t 70) 0)⟩,
      ⟨(some 75), none, (.ext (.t 70) 1)⟩,
      ⟨(some 21), none, (.mv (.t 74))⟩,
      ⟨(some 22), none, (.mv (.t 75))⟩])
    (.seq (.ops [⟨(some 77), none, (.load true 5 (.t 4))⟩,
      ⟨(some 78), none, (.mv (.t 3))⟩,
      ⟨(some 79), none, (.call (.c (.fn (.func 32) [] [])) [(.t 77), (.t 78)])⟩,
      ⟨(some 76), none, (.mv (.t 79))⟩,
      ⟨(some 80), none, (.ext (.t 76) 0)⟩,
      ⟨(some 81), none, (.ext (.t 76) 1)⟩,
      ⟨(some 23), none, (.mv (.t 80))⟩,
      ⟨(some 24), none, (.mv (.t 81))⟩])
    (.seq (.draw [⟨(some 82), none, (.load true 5 (.t 4))⟩,
      ⟨(some 83), none, (.call (.c (.fn (.func 23) [] [])) [(.t 82)])⟩,
      ⟨(some 84), none, (.load true 5 (.t 4))⟩,
      ⟨(some 85), none, (.call (.c (.fn (.func 33) [] [])) [(.t 84)])⟩,
      ⟨(some 86), none, (.bin .int .eql (.t 83) (.t 85))⟩,
      ⟨(some 87), none, (.mv (.t 86))⟩,
      ⟨(some 88), (some (87, true)), (.load true 5 (.t 4))⟩,
      ⟨(some 89), (some (87, true)), (.call (.c (.fn (.func 34) [] [])) [(.t 88)])⟩,
      ⟨(some 90), (some (87, true)), (.load true 5 (.t 4))⟩,
      ⟨(some 91), (some (87, true)), (.call (.c (.fn (.func 35) [] [])) [(.t 90)])⟩,
      ⟨(some 92), (some (87, true)), (.bin .int .eql (.t 89) (.t 91))⟩,
      ⟨(some 93), none, (.pick (.t 87) (.t 92) (.c (.v (.bool false))))⟩,
      ⟨(some 94), none, (.mv (.t 93))⟩,
      ⟨(some 95), (some (94, true)), (.mv (.t 10))⟩,
      ⟨(some 96), (some (94, true)), (.mv (.t 12))⟩,
      ⟨(some 97), (some (94, true)), (.bin .bool .eql (.t 95) (.t 96))⟩,
      ⟨(some 98), none, (.pick (.t 94) (.t 97) (.c (.v (.bool false))))⟩,
      ⟨(some 99), none, (.mv (.t 98))⟩,
      ⟨(some 100), (some (99, true)), (.load true 5 (.t 9))⟩,
      ⟨(some 101), (some (99, true)), (.load true 5 (.t 11))⟩,
      ⟨(some 102), (some (99, true)), (.call (.c (.fn (.func 36) [] [])) [(.t 100), (.t 101)])⟩,
      ⟨(some 103), none, (.pick (.t 99) (.t 102) (.c (.v (.bool false))))⟩,
      ⟨(some 104), none, (.mv (.t 103))⟩,
      ⟨(some 105), (some (104, true)), (.mv (.t 14))⟩,
      ⟨(some 106), (some (104, true)), (.mv (.t 16))⟩,
      ⟨(some 107), (some (104, true)), (.bin .bool .eql (.t 105) (.t 106))⟩,
      ⟨(some 108), none, (.pick (.t 104) (.t 107) (.c (.v (.bool false))))⟩,
      ⟨(some 109), none, (.mv (.t 108))⟩,
      ⟨(some 110), (some (109, true)), (.mv (.t 13))⟩,
      ⟨(some 111), (some (109, true)), (.mv (.t 15))⟩,
      ⟨(some 112), (some (109, true)), (.call (.c (.fn (.func 37) [] [])) [(.t 110), (.t 111)])⟩,
      ⟨(some 113), none, (.pick (.t 109) (.t 112) (.c (.v (.bool false))))⟩,
      ⟨(some 114), none, (.mv (.t 113))⟩,
      ⟨(some 115), (some (114, true)), (.mv (.t 17))⟩,
      ⟨(some 116), (some (114, true)), (.mv (.t 19))⟩,
      ⟨(some 117), (some (114, true)), (.bin .int .eql (.t 115) (.t 116))⟩,
      ⟨(some 118), none, (.pick (.t 114) (.t 117) (.c (.v (.bool false))))⟩,
      ⟨(some 119), none, (.mv (.t 118))⟩,
      ⟨(some 120), (some (119, true)), (.mv (.t 18))⟩,
      ⟨(some 121), (some (119, true)), (.mv (.t 20))⟩,
      ⟨(some 122), (some (119, true)), (.bin .bool .eql (.t 120) (.t 121))⟩,
      ⟨(some 123), none, (.pick (.t 119) (.t 122) (.c (.v (.bool false))))⟩,
      ⟨(some 124), none, (.mv (.t 123))⟩,
      ⟨(some 125), (some (124, true)), (.mv (.t 21))⟩,
      ⟨(some 126), (some (124, true)), (.mv (.t 23))⟩,
      ⟨(some 127), (some (124, true)), (.bin .int .eql (.t 125) (.t 126))⟩,
      ⟨(some 128), none, (.pick (.t 124) (.t 127) (.c (.v (.bool false))))⟩,
      ⟨(some 129), none, (.mv (.t 128))⟩,
      ⟨(some 130), (some (129, true)), (.mv (.t 22))⟩,
      ⟨(some 131), (some (129, true)), (.mv (.t 24))⟩,
      ⟨(some 132), (some (129, true)), (.bin .bool .eql (.t 130) (.t 131))⟩,
      ⟨(some 133), none, (.pick (.t 129) (.t 132) (.c (.v (.bool false))))⟩,
      ⟨(some 134), none, (.mv (.t 133))⟩,
      ⟨(some 135), (some (134, true)), (.call (.c (.fn (.func 12) [] [])) [])⟩,
      ⟨(some 136), none, (.pick (.t 134) (.t 135) (.c (.v (.bool false))))⟩,
      ⟨(some 8), none, (.mv (.t 136))⟩] [])
    .ret)))))))))))⟩
theorem L5_ok : lowFn Try.prog Try.f5 [] = some L5 := by kernel_rfl

/-- assessor_assessorlaw03.TreePaths -/
def L6 : LFn := ⟨90, [(.tmp 2)], (.seq (.ops [⟨(some 1), none, (.box false (.t 0))⟩,
      ⟨(some 2), none, (.mv (.c (.v (.bool false))))⟩])
    (.seq (.seq (.ops [⟨(some 15), none, (.load true 5 (.t 1))⟩,
      ⟨(some 16), none, (.call (.c (.fn (.func 11) [] [])) [(.t 15), (.c (.v (.int .i64 100)))])⟩,
      ⟨(some 17), none, (.not (.t 16))⟩])
    (.cond (.t 17)
    (.seq (.ops [⟨(some 18), none, (.call (.c (.fn (.func 12) [] [])) [])⟩,
      ⟨(some 2), none, (.mv (.t 18))⟩])
    .ret)
    .skip))
    (.seq (.ops [⟨(some 3), none, (.mv (.c (.v (.int .i64 0))))⟩])
    (.seq (.seq (.ops [⟨(some 19), none, (.load true 5 (.t 1))⟩,
      ⟨(some 20), none, (.call (.c (.fn (.func 23) [] [])) [(.t 19)])⟩,
      ⟨(some 21), none, (.mv (.c (.v (.int .i64 0))))⟩])
    (.block 0 (.loop (.seq (.ops [⟨(some 22), none, (.bin .int .lss (.t 21) (.t 20))⟩])
    (.seq (.cond (.t 22)
    .skip
    (.exit 0))
    (.seq (.block 1 (.seq (.ops [⟨(some 23), none, (.mv (.t 21))⟩,
      ⟨(some 4), none, (.mv (.t 23))⟩])
    (.seq (.ops [⟨(some 25), none, (.load true 5 (.t 1))⟩,
      ⟨(some 26), none, (.mv (.t 4))⟩,
      ⟨(some 27), none, (.call (.c (.fn (.func 27) [] [])) [(.t 25), (.t 26)])⟩,
      ⟨(some 24), none, (.mv (.t 27))⟩,
      ⟨(some 28), none, (.ext (.t 24) 0)⟩,
      ⟨(some 29), none, (.ext (.t 24) 1)⟩,
      ⟨(some 5), none, (.mv (.t 28))⟩,
      ⟨(some 6), none, (.mv (.t 29))⟩])
    (.seq (.ops [⟨(some 31), none, (.load true 5 (.t 1))⟩,
      ⟨(some 32), none, (.mv (.t 5))⟩,
      ⟨(some 33), none, (.call (.c (.fn (.func 29) [] [])) [(.t 31), (.t 32)])⟩,
      ⟨(some 30), none, (.mv (.t 33))⟩,
      ⟨(some 34), none, (.ext (.t 30) 0)⟩,
      ⟨(some 35), none, (.ext (.t 30) 1)⟩,
      ⟨(some 7), none, (.mv (.t 34))⟩,
      ⟨(some 8), none, (.mv (.t 35))⟩])
    (.seq (.ops [⟨(some 37), none, (.load true 5 (.t 1))⟩,
      ⟨(some 38), none, (.mv (.t 5))⟩,
      ⟨(some 39), none, (.call (.c (.fn (.func 25) [] [])) [(.t 37), (.t 38)])⟩,
      ⟨(some 36), none, (.mv (.t 39))⟩,
      ⟨(some 40), none, (.ext (.t 36) 0)⟩,
      ⟨(some 41), none, (.ext (.t 36) 1)⟩,
      ⟨(some 9), none, (.alloc [(.v (.int .i64 0)), (.v (.string (mkS []))), (.v (.int .i64 0)), (.v (.int .i64 0)), (.v (.slice none 0 0))])⟩,
      ⟨none, none, (.store 5 (.t 9) (.t 40))⟩,
      ⟨(some 10), none, (.mv (.t 41))⟩])
    (.seq (.seq (.ops [⟨(some 42), none, (.mv (.t 6))⟩,
      ⟨(some 43), none, (.not (.t 42))⟩,
      ⟨(some 44), none, (.mv (.t 43))⟩,
      ⟨(some 45), (some (44, false)), (.mv (.t 8))⟩,
      ⟨(some 46), (some (44, false)), (.not (.t 45))⟩,
      ⟨(some 47), none, (.pick (.t 44) (.c (.v (.bool true))) (.t 46))⟩,
      ⟨(some 48), none, (.mv (.t 47))⟩,
      ⟨(some 49), (some (48, false)), (.mv (.t 10))⟩,
      ⟨(some 50), (some (48, false)), (.not (.t 49))⟩,
      ⟨(some 51), none, (.pick (.t 48) (.c (.v (.bool true))) (.t 50))⟩,
      ⟨(some 52), none, (.mv (.t 51))⟩,
      ⟨(some 53), (some (52, false)), (.mv (.t 7))⟩,
      ⟨(some 54), (some (52, false)), (.mv (.t 4))⟩,
      ⟨(some 55), (some (52, false)), (.bin .int .neq (.t 53) (.t 54))⟩,
      ⟨(some 56), none, (.pick (.t 52) (.c (.v (.bool true))) (.t 55))⟩])
    (.cond (.t 56)
    (.seq (.ops [⟨(some 2), none, (.mv (.c (.v (.bool false))))⟩])
    .ret)
    .skip))
    (.ops [⟨(some 57), none, (.mv (.t 3))⟩,
      ⟨(some 58), none, (.mv (.t 5))⟩,
      ⟨(some 59), none, (.len .slc (.t 58))⟩,
      ⟨(some 60), none, (.bin .int .add (.t 59) (.c (.v (.int .i64 1))))⟩,
      ⟨(some 61), none, (.max2 (.t 57) (.t 60))⟩,
      ⟨(some 3), none, (.mv (.t 61))⟩])))))))
    (.ops [⟨(some 62), none, (.bin .int .add (.t 21) (.c (.v (.int .i64 1))))⟩,
      ⟨(some 21), none, (.mv (.t 62))⟩])))))))
    (.seq (.ops [⟨(some 64), none, (.load true 5 (.t 1))⟩,
      ⟨(some 65), none, (.call (.c (.fn (.func 27) [] [])) [(.t 64), (.c (.v (.int .i64 (-1))))])⟩,
      ⟨(some 63), none, (.mv (.t 65))⟩,
      ⟨(some 66), none, (.ext (.t 63) 0)⟩,
      ⟨(some 67), none, (.ext (.t 63) 1)⟩,
      ⟨(some 11), none, (.mv (.t 66))⟩,
      ⟨(some 12), none, (.mv (.t 67))⟩])
    (.seq (.draw [⟨(some 69), none, (.load true 5 (.t 1))⟩,
      ⟨(some 70), none, (.load true 5 (.t 1))⟩,
      ⟨(some 71), none, (.call (.c (.fn (.func 23) [] [])) [(.t 70)])⟩,
      ⟨(some 72), none, (.call (.c (.fn (.func 27) [] [])) [(.t 69), (.t 71)])⟩,
      ⟨(some 68), none, (.mv (.t 72))⟩,
      ⟨(some 73), none, (.ext (.t 68) 0)⟩,
      ⟨(some 74), none, (.ext (.t 68) 1)⟩,
      ⟨(some 13), none, (.mv (.t 73))⟩,
      ⟨(some 14), none, (.mv (.t 74))⟩] [])
    (.seq (.ops [⟨(some 75), none, (.mv (.t 12))⟩,
      ⟨(some 76), none, (.not (.t 75))⟩,
      ⟨(some 77), none, (.mv (.t 76))⟩,
      ⟨(some 78), (some (77, true)), (.mv (.t 14))⟩,
      ⟨(some 79), (some (77, true)), (.not (.t 78))⟩,
      ⟨(some 80), none, (.pick (.t 77) (.t 79) (.c (.v (.bool false))))⟩,
      ⟨(some 81), none, (.mv (.t 80))⟩,
      ⟨(some 82), (some (81, true)), (.mv (.t 3))⟩,
      ⟨(some 83), (some (81, true)), (.load true 5 (.t 1))⟩,
      ⟨(some 84), (some (81, true)), (.call (.c (.fn (.func 34) [] [])) [(.t 83)])⟩,
      ⟨(some 85), (some (81, true)), (.bin .int .eql (.t 82) (.t 84))⟩,
      ⟨(some 86), none, (.pick (.t 81) (.t 85) (.c (.v (.bool false))))⟩,
      ⟨(some 87), none, (.mv (.t 86))⟩,
      ⟨(some 88), (some (87, true)), (.call (.c (.fn (.func 12) [] [])) [])⟩,
      ⟨(some 89), none, (.pick (.t 87) (.t 88) (.c (.v (.bool false))))⟩,
      ⟨(some 2), none, (.mv (.t 89))⟩])
    .ret)))))))⟩
theorem L6_ok : lowFn Try.prog Try.f6 [] = some L6 := by kernel_rfl

/-- assessor_assessorlaw03.TreeFinds -/
def L7 : LFn := ⟨91, [(.tmp 4)], (.seq (.ops [⟨(some 2), none, (.box false (.t 0))⟩,
      ⟨(some 4), none, (.mv (.c (.v (.bool false))))⟩])
    (.seq (.seq (.ops [⟨(some 13), none, (.load true 5 (.t 2))⟩,
      ⟨(some 14), none, (.call (.c (.fn (.func 11) [] [])) [(.t 13), (.c (.v (.int .i64 100)))])⟩,
      ⟨(some 15), none, (.not (.t 14))⟩])
    (.cond (.t 15)
    (.seq (.ops [⟨(some 16), none, (.call (.c (.fn (.func 12) [] [])) [])⟩,
      ⟨(some 4), none, (.mv (.t 16))⟩])
    .ret)
    .skip))
    (.seq (.ops [⟨(some 18), none, (.load true 5 (.t 2))⟩,
      ⟨(some 19), none, (.mv (.t 1))⟩,
      ⟨(some 20), none, (.call (.c (.fn (.func 31) [] [])) [(.t 18), (.t 19)])⟩,
      ⟨(some 17), none, (.mv (.t 20))⟩,
      ⟨(some 21), none, (.ext (.t 17) 0)⟩,
      ⟨(some 22), none, (.ext (.t 17) 1)⟩,
      ⟨(some 5), none, (.mv (.t 21))⟩,
      ⟨(some 6), none, (.mv (.t 22))⟩])
    (.seq (.seq (.ops [⟨(some 23), none, (.mv (.t 6))⟩,
      ⟨(some 24), none, (.faddr 2 (.t 2))⟩,
      ⟨(some 25), none, (.load false 1 (.t 24))⟩,
      ⟨(some 26), none, (.mv (.t 1))⟩,
      ⟨(some 27), none, (.bin .int .leq (.t 25) (.t 26))⟩,
      ⟨(some 28), none, (.mv (.t 27))⟩,
      ⟨(some 29), (some (28, true)), (.mv (.t 1))⟩,
      ⟨(some 30), (some (28, true)), (.faddr 3 (.t 2))⟩,
      ⟨(some 31), (some (28, true)), (.load false 1 (.t 30))⟩,
      ⟨(some 32), (some (28, true)), (.bin .int .lss (.t 29) (.t 31))⟩,
      ⟨(some 33), none, (.pick (.t 28) (.t 32) (.c (.v (.bool false))))⟩,
      ⟨(some 34), none, (.bin .bool .neq (.t 23) (.t 33))⟩])
    (.cond (.t 34)
    (.seq (.ops [⟨(some 4), none, (.mv (.c (.v (.bool false))))⟩])
    .ret)
    .skip))
    (.seq (.seq (.ops [⟨(some 35), none, (.mv (.t 6))⟩,
      ⟨(some 36), none, (.not (.t 35))⟩])
    (.cond (.t 36)
    (.seq (.ops [⟨(some 37), none, (.mv (.t 5))⟩,
      ⟨(some 38), none, (.bin .int .eql (.t 37) (.c (.v (.int .i64 0))))⟩,
      ⟨(some 39), none, (.mv (.t 38))⟩,
      ⟨(some 40), (some (39, true)), (.call (.c (.fn (.func 12) [] [])) [])⟩,
      ⟨(some 41), none, (.pick (.t 39) (.t 40) (.c (.v (.bool false))))⟩,
      ⟨(some 4), none, (.mv (.t 41))⟩])
    .ret)
    .skip))
    (.seq (.ops [⟨(some 43), none, (.load true 5 (.t 2))⟩,
      ⟨(some 44), none, (.mv (.t 5))⟩,
      ⟨(some 45), none, (.call (.c (.fn (.func 27) [] [])) [(.t 43), (.t 44)])⟩,
      ⟨(some 42), none, (.mv (.t 45))⟩,
      ⟨(some 46), none, (.ext (.t 42) 0)⟩,
      ⟨(some 47), none, (.ext (.t 42) 1)⟩,
      ⟨(some 7), none, (.mv (.t 46))⟩,
      ⟨(some 8), none, (.mv (.t 47))⟩])
    (.seq (.ops [⟨(some 49), none, (.load true 5 (.t 2))⟩,
      ⟨(some 50), none, (.mv (.t 7))⟩,
      ⟨(some 51), none, (.call (.c (.fn (.func 25) [] [])) [(.t 49), (.t 50)])⟩,
      ⟨(some 48), none, (.mv (.t 51))⟩,
      ⟨(some 52), none, (.ext (.t 48) 0)⟩,
      ⟨(some 53), none, (.ext (.t 48) 1)⟩,
      ⟨(some 9), none, (.alloc [(.v (.int .i64 0)), (.v (.string (mkS []))), (.v (.int .i64 0)), (.v (.int .i64 0)), (.v (.slice none 0 0))])⟩,
      ⟨none, none, (.store 5 (.t 9) (.t 52))⟩,
      ⟨(some 10), none, (.mv (.t 53))⟩])
    (.seq (.seq (.ops [⟨(some 54), none, (.mv (.t 8))⟩,
      ⟨(some 55), none, (.not (.t 54))⟩,
      ⟨(some 56), none, (.mv (.t 55))⟩,
      ⟨(some 57), (some (56, false)), (.mv (.t 10))⟩,
      ⟨(some 58), (some (56, false)), (.not (.t 57))⟩,
      ⟨(some 59), none, (.pick (.t 56) (.c (.v (.bool true))) (.t 58))⟩,
      ⟨(some 60), none, (.mv (.t 59))⟩,
      ⟨(some 61), (some (60, false)), (.mv (.t 1))⟩,
      ⟨(some 62), (some (60, false)), (.faddr 2 (.t 9))⟩,
      ⟨(some 63), (some (60, false)), (.load false 1 (.t 62))⟩,
      ⟨(some 64), (some (60, false)), (.bin .int .lss (.t 61) (.t 63))⟩,
      ⟨(some 65), none, (.pick (.t 60) (.c (.v (.bool true))) (.t 64))⟩,
      ⟨(some 66), none, (.mv (.t 65))⟩,
      ⟨(some 67), (some (66, false)), (.mv (.t 1))⟩,
      ⟨(some 68), (some (66, false)), (.faddr 3 (.t 9))⟩,
      ⟨(some 69), (some (66, false)), (.load false 1 (.t 68))⟩,
      ⟨(some 70), (some (66, false)), (.bin .int .geq (.t 67) (.t 69))⟩,
      ⟨(some 71), none, (.pick (.t 66) (.c (.v (.bool true))) (.t 70))⟩])
    (.cond (.t 71)
    (.seq (.ops [⟨(some 4), none, (.mv (.c (.v (.bool false))))⟩])
    .ret)
    .skip))
    (.seq (.seq (.ops [⟨(some 72), none, (.faddr 4 (.t 9))⟩,
      ⟨(some 73), none, (.load false 1 (.t 72))⟩,
      ⟨(some 74), none, (.len .slc (.t 73))⟩,
      ⟨(some 75), none, (.mv (.c (.v (.int .i64 0))))⟩])
    (.block 0 (.loop (.seq (.ops [⟨(some 76), none, (.bin .int .lss (.t 75) (.t 74))⟩])
    (.seq (.cond (.t 76)
    .skip
    (.exit 0))
    (.seq (.block 1 (.seq (.ops [⟨(some 77), none, (.iaddr 5 (.t 73) (.t 75))⟩,
      ⟨(some 78), none, (.load true 5 (.t 77))⟩,
      ⟨(some 12), none, (.alloc [(.v (.int .i64 0)), (.v (.string (mkS []))), (.v (.int .i64 0)), (.v (.int .i64 0)), (.v (.slice none 0 0))])⟩,
      ⟨none, none, (.store 5 (.t 12) (.t 78))⟩])
    (.seq (.ops [⟨(some 79), none, (.faddr 2 (.t 12))⟩,
      ⟨(some 80), none, (.load false 1 (.t 79))⟩,
      ⟨(some 81), none, (.mv (.t 1))⟩,
      ⟨(some 82), none, (.bin .int .leq (.t 80) (.t 81))⟩,
      ⟨(some 83), none, (.mv (.t 82))⟩,
      ⟨(some 84), (some (83, true)), (.mv (.t 1))⟩,
      ⟨(some 85), (some (83, true)), (.faddr 3 (.t 12))⟩,
      ⟨(some 86), (some (83, true)), (.load false 1 (.t 85))⟩,
      ⟨(some 87), (some (83, true)), (.bin .int .lss (.t 84) (.t 86))⟩,
      ⟨(some 88), none, (.pick (.t 83) (.t 87) (.c (.v (.bool false))))⟩])
    (.cond (.t 88)
    (.seq (.ops [⟨(some 4), none, (.mv (.c (.v (.bool false))))⟩])
    .ret)
    .skip))))
    (.ops [⟨(some 89), none, (.bin .int .add (.t 75) (.c (.v (.int .i64 1))))⟩,
      ⟨(some 75), none, (.mv (.t 89))⟩])))))))
    (.seq (.ops [⟨(some 90), none, (.call (.c (.fn (.func 12) [] [])) [])⟩,
      ⟨(some 4), none, (.mv (.t 90))⟩])
    .ret))))))))))⟩
theorem L7_ok : lowFn Try.prog Try.f7 [] = some L7 := by kernel_rfl

/-- assessor_assessorlaw03.TreeEdits -/
def L8 : LFn := ⟨94, [(.tmp 12)], (.seq (.ops [⟨(some 6), none, (.box false (.t 0))⟩,
      ⟨(some 7), none, (.box false (.t 1))⟩,
      ⟨(some 12), none, (.mv (.c (.v (.bool false))))⟩])
    (.seq (.seq (.ops [⟨(some 19), none, (.load true 5 (.t 6))⟩,
      ⟨(some 20), none, (.call (.c (.fn (.func 11) [] [])) [(.t 19), (.c (.v (.int .i64 100)))])⟩,
      ⟨(some 21), none, (.not (.t 20))⟩,
      ⟨(some 22), none, (.mv (.t 21))⟩,
      ⟨(some 23), (some (22, false)), (.load true 5 (.t 7))⟩,
      ⟨(some 24), (some (22, false)), (.call (.c (.fn (.func 11) [] [])) [(.t 23), (.c (.v (.int .i64 100)))])⟩,
      ⟨(some 25), (some (22, false)), (.not (.t 24))⟩,
      ⟨(some 26), none, (.pick (.t 22) (.c (.v (.bool true))) (.t 25))⟩,
      ⟨(some 27), none, (.mv (.t 26))⟩,
      ⟨(some 28), (some (27, false)), (.mv (.t 2))⟩,
      ⟨(some 29), (some (27, false)), (.len .slc (.t 28))⟩,
      ⟨(some 30), (some (27, false)), (.bin .int .gtr (.t 29) (.c (.v (.int .i64 20))))⟩,
      ⟨(some 31), none, (.pick (.t 27) (.c (.v (.bool true))) (.t 30))⟩,
      ⟨(some 32), none, (.mv (.t 31))⟩,
      ⟨(some 33), (some (32, false)), (.mv (.t 5))⟩,
      ⟨(some 34), (some (32, false)), (.len .slc (.t 33))⟩,
      ⟨(some 35), (some (32, false)), (.bin .int .gtr (.t 34) (.c (.v (.int .i64 10))))⟩,
      ⟨(some 36), none, (.pick (.t 32) (.c (.v (.bool true))) (.t 35))⟩])
    (.cond (.t 36)
    (.seq (.ops [⟨(some 37), none, (.call (.c (.fn (.func 12) [] [])) [])⟩,
      ⟨(some 12), none, (.mv (.t 37))⟩])
    .ret)
    .skip))
    (.seq (.seq (.ops [⟨(some 38), none, (.mv (.t 5))⟩,
      ⟨(some 39), none, (.len .slc (.t 38))⟩,
      ⟨(some 40), none, (.mv (.c (.v (.int .i64 0))))⟩])
    (.block 0 (.loop (.seq (.ops [⟨(some 41), none, (.bin .int .lss (.t 40) (.t 39))⟩])
    (.seq (.cond (.t 41)
    .skip
    (.exit 0))
    (.seq (.block 1 (.seq (.ops [⟨(some 42), none, (.iaddr 5 (.t 38) (.t 40))⟩,
      ⟨(some 43), none, (.load true 5 (.t 42))⟩,
      ⟨(some 14), none, (.alloc [(.v (.int .i64 0)), (.v (.string (mkS []))), (.v (.int .i64 0)), (.v (.int .i64 0)), (.v (.slice none 0 0))])⟩,
      ⟨none, none, (.store 5 (.t 14) (.t 43))⟩])
    (.seq (.ops [⟨(some 44), none, (.load true 5 (.t 14))⟩,
      ⟨(some 45), none, (.call (.c (.fn (.func 11) [] [])) [(.t 44), (.c (.v (.int .i64 30)))])⟩,
      ⟨(some 46), none, (.not (.t 45))⟩])
    (.cond (.t 46)
    (.seq (.ops [⟨(some 47), none, (.call (.c (.fn (.func 12) [] [])) [])⟩,
      ⟨(some 12), none, (.mv (.t 47))⟩])
    .ret)
    .skip))))
    (.ops [⟨(some 48), none, (.bin .int .add (.t 40) (.c (.v (.int .i64 1))))⟩,
      ⟨(some 40), none, (.mv (.t 48))⟩])))))))
    (.seq (.ops [⟨(some 50), none, (.load true 5 (.t 6))⟩,
      ⟨(some 51), none, (.mv (.t 2))⟩,
      ⟨(some 52), none, (.mv (.t 3))⟩,
      ⟨(some 53), none, (.mv (.t 4))⟩,
      ⟨(some 54), none, (.mv (.t 5))⟩,
      ⟨(some 55), none, (.call (.c (.fn (.func 38) [] [])) [(.t 50), (.t 51), (.t 52), (.t 53), (.t 54)])⟩,
      ⟨(some 49), none, (.mv (.t 55))⟩,
      ⟨(some 56), none, (.ext (.t 49) 0)⟩,
      ⟨(some 57), none, (.ext (.t 49) 1)⟩,
      ⟨(some 15), none, (.alloc [(.v (.int .i64 0)), (.v (.string (mkS []))), (.v (.int .i64 0)), (.v (.int .i64 0)), (.v (.slice none 0 0))])⟩,
      ⟨none, none, (.store 5 (.t 15) (.t 56))⟩,
      ⟨(some 16), none, (.mv (.t 57))⟩])
    (.seq (.ops [⟨(some 59), none, (.load true 5 (.t 6))⟩,
      ⟨(some 60), none, (.mv (.t 2))⟩,
      ⟨(some 61), none, (.mv (.t 3))⟩,
      ⟨(some 62), none, (.mv (.t 4))⟩,
      ⟨(some 63), none, (.mv (.t 5))⟩,
      ⟨(some 64), none, (.call (.c (.fn (.func 39) [] [])) [(.t 59), (.t 60), (.t 61), (.t 62), (.t 63)])⟩,
      ⟨(some 58), none, (.mv (.t 64))⟩,
      ⟨(some 65), none, (.ext (.t 58) 0)⟩,
      ⟨(some 66), none, (.ext (.t 58) 1)⟩,
      ⟨(some 17), none, (.alloc [(.v (.int .i64 0)), (.v (.string (mkS []))), (.v (.int .i64 0)), (.v (.int .i64 0)), (.v (.slice none 0 0))])⟩,
      ⟨none, none, (.store 5 (.t 17) (.t 65))⟩,
      ⟨(some 18), none, (.mv (.t 66))⟩])
    (.seq (.draw [⟨(some 67), none, (.mv (.t 16))⟩,
      ⟨(some 68), none, (.mv (.t 18))⟩,
      ⟨(some 69), none, (.bin .int .eql (.t 67) (.t 68))⟩,
      ⟨(some 70), none, (.mv (.t 69))⟩,
      ⟨(some 71), (some (70, true)), (.load true 5 (.t 15))⟩,
      ⟨(some 72), (some (70, true)), (.load true 5 (.t 17))⟩,
      ⟨(some 73), (some (70, true)), (.call (.c (.fn (.func 36) [] [])) [(.t 71), (.t 72)])⟩,
      ⟨(some 74), none, (.pick (.t 70) (.t 73) (.c (.v (.bool false))))⟩,
      ⟨(some 75), none, (.mv (.t 74))⟩,
      ⟨(some 76), (some (75, true)), (.load true 5 (.t 6))⟩,
      ⟨(some 77), (some (75, true)), (.load true 5 (.t 7))⟩,
      ⟨(some 78), (some (75, true)), (.call (.c (.fn (.func 22) [] [])) [(.t 76), (.t 77)])⟩,
      ⟨(some 79), (some (75, true)), (.load true 5 (.t 6))⟩,
      ⟨(some 80), (some (75, true)), (.load true 5 (.t 7))⟩,
      ⟨(some 81), (some (75, true)), (.call (.c (.fn (.func 40) [] [])) [(.t 79), (.t 80)])⟩,
      ⟨(some 82), (some (75, true)), (.bin .bool .eql (.t 78) (.t 81))⟩,
      ⟨(some 83), none, (.pick (.t 75) (.t 82) (.c (.v (.bool false))))⟩,
      ⟨(some 84), none, (.mv (.t 83))⟩,
      ⟨(some 85), (some (84, true)), (.load true 5 (.t 6))⟩,
      ⟨(some 86), (some (84, true)), (.call (.c (.fn (.func 21) [] [])) [(.t 85)])⟩,
      ⟨(some 87), (some (84, true)), (.load true 5 (.t 6))⟩,
      ⟨(some 88), (some (84, true)), (.call (.c (.fn (.func 41) [] [])) [(.t 87)])⟩,
      ⟨(some 89), (some (84, true)), (.call (.c (.fn (.func 36) [] [])) [(.t 86), (.t 88)])⟩,
      ⟨(some 90), none, (.pick (.t 84) (.t 89) (.c (.v (.bool false))))⟩,
      ⟨(some 91), none, (.mv (.t 90))⟩,
      ⟨(some 92), (some (91, true)), (.call (.c (.fn (.func 12) [] [])) [])⟩,
      ⟨(some 93), none, (.pick (.t 91) (.t 92) (.c (.v (.bool false))))⟩,
      ⟨(some 12), none, (.mv (.t 93))⟩] [])
    .ret))))))⟩
theorem L8_ok : lowFn Try.prog Try.f8 [] = some L8 := by kernel_rfl

/-- assessor_assessorlaw03.TreeRestores -/
def L9 : LFn := ⟨137, [(.tmp 10)], (.seq (.ops [⟨(some 5), none, (.box false (.t 0))⟩,
      ⟨(some 10), none, (.mv (.c (.v (.bool false))))⟩])
    (.seq (.seq (.ops [⟨(some 22), none, (.load true 5 (.t 5))⟩,
      ⟨(some 23), none, (.call (.c (.fn (.func 11) [] [])) [(.t 22), (.c (.v (.int .i64 100)))])⟩,
      ⟨(some 24), none, (.not (.t 23))⟩,
      ⟨(some 25), none, (.mv (.t 24))⟩,
      ⟨(some 26), (some (25, false)), (.mv (.t 1))⟩,
      ⟨(some 27), (some (25, false)), (.len .slc (.t 26))⟩,
      ⟨(some 28), (some (25, false)), (.bin .int .gtr (.t 27) (.c (.v (.int .i64 20))))⟩,
      ⟨(some 29), none, (.pick (.t 25) (.c (.v (.bool true))) (.t 28))⟩,
      ⟨(some 30), none, (.mv (.t 29))⟩,
      ⟨(some 31), (some (30, false)), (.mv (.t 4))⟩,
      ⟨(some 32), (some (30, false)), (.len .slc (.t 31))⟩,
      ⟨(some 33), (some (30, false)), (.bin .int .gtr (.t 32) (.c (.v (.int .i64 10))))⟩,
      ⟨(some 34), none, (.pick (.t 30) (.c (.v (.bool true))) (.t 33))⟩])
    (.cond (.t 34)
    (.seq (.ops [⟨(some 35), none, (.call (.c (.fn (.func 12) [] [])) [])⟩,
      ⟨(some 10), none, (.mv (.t 35))⟩])
    .ret)
    .skip))
    (.seq (.ops [⟨(some 11), none, (.mv (.c (.v (.int .i64 0))))⟩])
    (.seq (.seq (.ops [⟨(some 36), none, (.mv (.t 4))⟩,
      ⟨(some 37), none, (.len .slc (.t 36))⟩,
      ⟨(some 38), none, (.mv (.c (.v (.int .i64 0))))⟩])
    (.block 0 (.loop (.seq (.ops [⟨(some 39), none, (.bin .int .lss (.t 38) (.t 37))⟩])
    (.seq (.cond (.t 39)
    .skip
    (.exit 0))
    (.seq (.block 1 (.seq (.ops [⟨(some 40), none, (.iaddr 5 (.t 36) (.t 38))⟩,
      ⟨(some 41), none, (.load true 5 (.t 40))⟩,
      ⟨(some 13), none, (.alloc [(.v (.int .i64 0)), (.v (.string (mkS []))), (.v (.int .i64 0)), (.v (.int .i64 0)), (.v (.slice none 0 0))])⟩,
      ⟨none, none, (.store 5 (.t 13) (.t 41))⟩])
    (.seq (.seq (.ops [⟨(some 42), none, (.load true 5 (.t 13))⟩,
      ⟨(some 43), none, (.call (.c (.fn (.func 11) [] [])) [(.t 42), (.c (.v (.int .i64 30)))])⟩,
      ⟨(some 44), none, (.not (.t 43))⟩])
    (.cond (.t 44)
    (.seq (.ops [⟨(some 45), none, (.call (.c (.fn (.func 12) [] [])) [])⟩,
      ⟨(some 10), none, (.mv (.t 45))⟩])
    .ret)
    .skip))
    (.ops [⟨(some 46), none, (.mv (.t 11))⟩,
      ⟨(some 47), none, (.load true 5 (.t 13))⟩,
      ⟨(some 48), none, (.call (.c (.fn (.func 33) [] [])) [(.t 47)])⟩,
      ⟨(some 49), none, (.bin .int .add (.t 46) (.t 48))⟩,
      ⟨(some 11), none, (.mv (.t 49))⟩]))))
    (.ops [⟨(some 50), none, (.bin .int .add (.t 38) (.c (.v (.int .i64 1))))⟩,
      ⟨(some 38), none, (.mv (.t 50))⟩])))))))
    (.seq (.ops [⟨(some 52), none, (.load true 5 (.t 5))⟩,
      ⟨(some 53), none, (.mv (.t 1))⟩,
      ⟨(some 54), none, (.mv (.t 2))⟩,
      ⟨(some 55), none, (.mv (.t 3))⟩,
      ⟨(some 56), none, (.mv (.t 4))⟩,
      ⟨(some 57), none, (.call (.c (.fn (.func 38) [] [])) [(.t 52), (.t 53), (.t 54), (.t 55), (.t 56)])⟩,
      ⟨(some 51), none, (.mv (.t 57))⟩,
      ⟨(some 58), none, (.ext (.t 51) 0)⟩,
      ⟨(some 59), none, (.ext (.t 51) 1)⟩,
      ⟨(some 14), none, (.alloc [(.v (.int .i64 0)), (.v (.string (mkS []))), (.v (.int .i64 0)), (.v (.int .i64 0)), (.v (.slice none 0 0))])⟩,
      ⟨none, none, (.store 5 (.t 14) (.t 58))⟩,
      ⟨(some 15), none, (.mv (.t 59))⟩])
    (.seq (.seq (.ops [⟨(some 60), none, (.mv (.t 15))⟩,
      ⟨(some 61), none, (.bin .int .neq (.t 60) (.c (.v (.int .i64 0))))⟩])
    (.cond (.t 61)
    (.seq (.ops [⟨(some 62), none, (.call (.c (.fn (.func 12) [] [])) [])⟩,
      ⟨(some 10), none, (.mv (.t 62))⟩])
    .ret)
    .skip))
    (.seq (.ops [⟨(some 64), none, (.load true 5 (.t 5))⟩,
      ⟨(some 65), none, (.mv (.t 1))⟩,
      ⟨(some 66), none, (.call (.c (.fn (.func 25) [] [])) [(.t 64), (.t 65)])⟩,
      ⟨(some 63), none, (.mv (.t 66))⟩,
      ⟨(some 67), none, (.ext (.t 63) 0)⟩,
      ⟨(some 68), none, (.ext (.t 63) 1)⟩,
      ⟨(some 16), none, (.alloc [(.v (.int .i64 0)), (.v (.string (mkS []))), (.v (.int .i64 0)), (.v (.int .i64 0)), (.v (.slice none 0 0))])⟩,
      ⟨none, none, (.store 5 (.t 16) (.t 67))⟩,
      ⟨(some 17), none, (.mv (.t 68))⟩])
    (.seq (.seq (.ops [⟨(some 69), none, (.mv (.t 17))⟩,
      ⟨(some 70), none, (.not (.t 69))⟩,
      ⟨(some 71), none, (.mv (.t 70))⟩,
      ⟨(some 72), (some (71, false)), (.mv (.t 2))⟩,
      ⟨(some 73), (some (71, false)), (.bin .int .lss (.t 72) (.c (.v (.int .i64 0))))⟩,
      ⟨(some 74), none, (.pick (.t 71) (.c (.v (.bool true))) (.t 73))⟩,
      ⟨(some 75), none, (.mv (.t 74))⟩,
      ⟨(some 76), (some (75, false)), (.mv (.t 2))⟩,
      ⟨(some 77), (some (75, false)), (.mv (.t 3))⟩,
      ⟨(some 78), (some (75, false)), (.bin .int .gtr (.t 76) (.t 77))⟩,
      ⟨(some 79), none, (.pick (.t 75) (.c (.v (.bool true))) (.t 78))⟩,
      ⟨(some 80), none, (.mv (.t 79))⟩,
      ⟨(some 81), (some (80, false)), (.mv (.t 3))⟩,
      ⟨(some 82), (some (80, false)), (.faddr 4 (.t 16))⟩,
      ⟨(some 83), (some (80, false)), (.load false 1 (.t 82))⟩,
      ⟨(some 84), (some (80, false)), (.len .slc (.t 83))⟩,
      ⟨(some 85), (some (80, false)), (.bin .int .gtr (.t 81) (.t 84))⟩,
      ⟨(some 86), none, (.pick (.t 80) (.c (.v (.bool true))) (.t 85))⟩])
    (.cond (.t 86)
    (.seq (.ops [⟨(some 10), none, (.mv (.c (.v (.bool false))))⟩])
    .ret)
    .skip))
    (.seq (.seq (.ops [⟨(some 87), none, (.faddr 4 (.t 16))⟩,
      ⟨(some 88), none, (.load false 1 (.t 87))⟩,
      ⟨(some 89), none, (.mv (.t 2))⟩,
      ⟨(some 90), none, (.mv (.t 3))⟩,
      ⟨(some 91), none, (.slice .slc 5 (.t 88) (some (.t 89)) (some (.t 90)))⟩,
      ⟨(some 92), none, (.len .slc (.t 91))⟩,
      ⟨(some 93), none, (.mv (.c (.v (.int .i64 0))))⟩])
    (.block 2 (.loop (.seq (.ops [⟨(some 94), none, (.bin .int .lss (.t 93) (.t 92))⟩])
    (.seq (.cond (.t 94)
    .skip
    (.exit 2))
    (.seq (.block 3 (.seq (.ops [⟨(some 95), none, (.iaddr 5 (.t 91) (.t 93))⟩,
      ⟨(some 96), none, (.load true 5 (.t 95))⟩,
      ⟨(some 19), none, (.alloc [(.v (.int .i64 0)), (.v (.string (mkS []))), (.v (.int .i64 0)), (.v (.int .i64 0)), (.v (.slice none 0 0))])⟩,
      ⟨none, none, (.store 5 (.t 19) (.t 96))⟩])
    (.ops [⟨(some 97), none, (.mv (.t 11))⟩,
      ⟨(some 98), none, (.load true 5 (.t 19))⟩,
      ⟨(some 99), none, (.call (.c (.fn (.func 33) [] [])) [(.t 98)])⟩,
      ⟨(some 100), none, (.bin .int .sub (.t 97) (.t 99))⟩,
      ⟨(some 11), none, (.mv (.t 100))⟩])))
    (.ops [⟨(some 101), none, (.bin .int .add (.t 93) (.c (.v (.int .i64 1))))⟩,
      ⟨(some 93), none, (.mv (.t 101))⟩])))))))
    (.seq (.draw [⟨(some 103), none, (.load true 5 (.t 14))⟩,
      ⟨(some 104), none, (.mv (.t 1))⟩,
      ⟨(some 105), none, (.mv (.t 2))⟩,
      ⟨(some 106), none, (.mv (.t 2))⟩,
      ⟨(some 107), none, (.mv (.t 4))⟩,
      ⟨(some 108), none, (.len .slc (.t 107))⟩,
      ⟨(some 109), none, (.bin .int .add (.t 106) (.t 108))⟩,
      ⟨(some 110), none, (.faddr 4 (.t 16))⟩,
      ⟨(some 111), none, (.load false 1 (.t 110))⟩,
      ⟨(some 112), none, (.mv (.t 2))⟩,
      ⟨(some 113), none, (.mv (.t 3))⟩,
      ⟨(some 114), none, (.slice .slc 5 (.t 111) (some (.t 112)) (some (.t 113)))⟩,
      ⟨(some 115), none, (.call (.c (.fn (.func 38) [] [])) [(.t 103), (.t 104), (.t 105), (.t 109), (.t 114)])⟩,
      ⟨(some 102), none, (.mv (.t 115))⟩,
      ⟨(some 116), none, (.ext (.t 102) 0)⟩,
      ⟨(some 117), none, (.ext (.t 102) 1)⟩] [⟨(some 20), none, (.alloc [(.v (.int .i64 0)), (.v (.string (mkS []))), (.v (.int .i64 0)), (.v (.int .i64 0)), (.v (.slice none 0 0))])⟩,
      ⟨none, none, (.store 5 (.t 20) (.t 116))⟩,
      ⟨(some 21), none, (.mv (.t 117))⟩])
    (.seq (.draw [⟨(some 118), none, (.mv (.t 21))⟩,
      ⟨(some 119), none, (.bin .int .eql (.t 118) (.c (.v (.int .i64 0))))⟩,
      ⟨(some 120), none, (.mv (.t 119))⟩,
      ⟨(some 121), (some (120, true)), (.load true 5 (.t 20))⟩,
      ⟨(some 122), (some (120, true)), (.load true 5 (.t 5))⟩,
      ⟨(some 123), (some (120, true)), (.call (.c (.fn (.func 36) [] [])) [(.t 121), (.t 122)])⟩,
      ⟨(some 124), none, (.pick (.t 120) (.t 123) (.c (.v (.bool false))))⟩,
      ⟨(some 125), none, (.mv (.t 124))⟩,
      ⟨(some 126), (some (125, true)), (.load true 5 (.t 14))⟩,
      ⟨(some 127), (some (125, true)), (.call (.c (.fn (.func 23) [] [])) [(.t 126)])⟩,
      ⟨(some 128), (some (125, true)), (.load true 5 (.t 5))⟩,
      ⟨(some 129), (some (125, true)), (.call (.c (.fn (.func 23) [] [])) [(.t 128)])⟩,
      ⟨(some 130), (some (125, true)), (.mv (.t 11))⟩,
      ⟨(some 131), (some (125, true)), (.bin .int .add (.t 129) (.t 130))⟩,
      ⟨(some 132), (some (125, true)), (.bin .int .eql (.t 127) (.t 131))⟩,
      ⟨(some 133), none, (.pick (.t 125) (.t 132) (.c (.v (.bool false))))⟩,
      ⟨(some 134), none, (.mv (.t 133))⟩,
      ⟨(some 135), (some (134, true)), (.call (.c (.fn (.func 12) [] [])) [])⟩,
      ⟨(some 136), none, (.pick (.t 134) (.t 135) (.c (.v (.bool false))))⟩,
      ⟨(some 10), none, (.mv (.t 136))⟩] [])
    .ret)))))))))))⟩
theorem L9_ok : lowFn Try.prog Try.f9 [⟨22, 16, .tail⟩] = some L9 := by kernel_rfl

/-- assessor_assessorref03.Small -/
def L11 : LFn := ⟨26, [(.tmp 4)], (.seq (.ops [⟨(some 2), none, (.box false (.t 0))⟩,
      ⟨(some 4), none, (.mv (.c (.v (.bool false))))⟩])
    (.seq (.ops [⟨(some 7), none, (.load true 5 (.t 2))⟩,
      ⟨(some 8), none, (.call (.c (.fn (.func 24) [] [])) [(.t 7)])⟩,
      ⟨(some 5), none, (.mv (.t 8))⟩])
    (.seq (.seq (.ops [⟨(some 6), none, (.mv (.c (.v (.int .i64 0))))⟩])
    (.block 0 (.loop (.seq (.seq (.ops [⟨(some 9), none, (.mv (.t 6))⟩,
      ⟨(some 10), none, (.mv (.t 5))⟩,
      ⟨(some 11), none, (.len .slc (.t 10))⟩,
      ⟨(some 12), none, (.bin .int .lss (.t 9) (.t 11))⟩])
    (.cond (.t 12)
    .skip
    (.exit 0)))
    (.seq (.block 1 (.seq (.ops [⟨(some 15), none, (.mv (.t 5))⟩,
      ⟨(some 16), none, (.mv (.t 6))⟩,
      ⟨(some 17), none, (.iaddr 5 (.t 15) (.t 16))⟩,
      ⟨(some 18), none, (.faddr 1 (.t 17))⟩,
      ⟨(some 19), none, (.load false 1 (.t 18))⟩,
      ⟨(some 20), none, (.len .str (.t 19))⟩,
      ⟨(some 21), none, (.bin .int .gtr (.t 20) (.c (.v (.int .i64 60))))⟩])
    (.cond (.t 21)
    (.seq (.ops [⟨(some 4), none, (.mv (.c (.v (.bool false))))⟩])
    .ret)
    .skip)))
    (.ops [⟨(some 13), none, (.mv (.t 6))⟩,
      ⟨(some 14), none, (.bin .int .add (.t 13) (.c (.v (.int .i64 1))))⟩,
      ⟨(some 6), none, (.mv (.t 14))⟩]))))))
    (.seq (.ops [⟨(some 22), none, (.mv (.t 5))⟩,
      ⟨(some 23), none, (.len .slc (.t 22))⟩,
      ⟨(some 24), none, (.mv (.t 1))⟩,
      ⟨(some 25), none, (.bin .int .leq (.t 23) (.t 24))⟩,
      ⟨(some 4), none, (.mv (.t 25))⟩])
    .ret))))⟩
theorem L11_ok : lowFn Try.prog Try.f11 [] = some L11 := by kernel_rfl

/-- assessor_assessorlaw03.awake -/
def L12 : LFn := ⟨73, [(.tmp 0)], (.seq (.ops [⟨(some 0), none, (.mv (.c (.v (.bool false))))⟩])
    (.seq (.ops [⟨(some 8), none, (.call (.c (.fn (.func 49) [] [])) [])⟩,
      ⟨(some 1), none, (.alloc [(.v (.int .i64 0)), (.v (.string (mkS []))), (.v (.int .i64 0)), (.v (.int .i64 0)), (.v (.slice none 0 0))])⟩,
      ⟨none, none, (.store 5 (.t 1) (.t 8))⟩])
    (.seq (.ops [⟨(some 10), none, (.load true 5 (.t 1))⟩,
      ⟨(some 11), none, (.call (.c (.fn (.func 27) [] [])) [(.t 10), (.c (.v (.int .i64 2)))])⟩,
      ⟨(some 9), none, (.mv (.t 11))⟩,
      ⟨(some 12), none, (.ext (.t 9) 0)⟩,
      ⟨(some 13), none, (.ext (.t 9) 1)⟩,
      ⟨(some 2), none, (.mv (.t 12))⟩,
      ⟨(some 3), none, (.mv (.t 13))⟩])
    (.seq (.ops [⟨(some 15), none, (.load true 5 (.t 1))⟩,
      ⟨(some 16), none, (.bsl true 1 1 [(.v (.int .i64 0))] [(0, (.c (.v (.int .i64 1))))])⟩,
      ⟨(some 17), none, (.call (.c (.fn (.func 29) [] [])) [(.t 15), (.t 16)])⟩,
      ⟨(some 14), none, (.mv (.t 17))⟩,
      ⟨(some 18), none, (.ext (.t 14) 0)⟩,
      ⟨(some 19), none, (.ext (.t 14) 1)⟩,
      ⟨(some 4), none, (.mv (.t 18))⟩,
      ⟨(some 5), none, (.mv (.t 19))⟩])
    (.seq (.ops [⟨(some 21), none, (.load true 5 (.t 1))⟩,
      ⟨(some 22), none, (.call (.c (.fn (.func 31) [] [])) [(.t 21), (.c (.v (.int .i64 1)))])⟩,
      ⟨(some 20), none, (.mv (.t 22))⟩,
      ⟨(some 23), none, (.ext (.t 20) 0)⟩,
      ⟨(some 24), none, (.ext (.t 20) 1)⟩,
      ⟨(some 6), none, (.mv (.t 23))⟩,
      ⟨(some 7), none, (.mv (.t 24))⟩])
    (.seq (.draw [⟨(some 25), none, (.load true 5 (.t 1))⟩,
      ⟨(some 26), none, (.call (.c (.fn (.func 15) [] [])) [(.t 25)])⟩,
      ⟨(some 27), none, (.mv (.t 26))⟩,
      ⟨(some 28), (some (27, true)), (.load true 5 (.t 1))⟩,
      ⟨(some 29), (some (27, true)), (.call (.c (.fn (.func 13) [] [])) [(.t 28)])⟩,
      ⟨(some 30), (some (27, true)), (.not (.t 29))⟩,
      ⟨(some 31), none, (.pick (.t 27) (.t 30) (.c (.v (.bool false))))⟩,
      ⟨(some 32), none, (.mv (.t 31))⟩,
      ⟨(some 33), (some (32, true)), (.load true 5 (.t 1))⟩,
      ⟨(some 34), (some (32, true)), (.call (.c (.fn (.func 23) [] [])) [(.t 33)])⟩,
      ⟨(some 35), (some (32, true)), (.bin .int .eql (.t 34) (.c (.v (.int .i64 4))))⟩,
      ⟨(some 36), none, (.pick (.t 32) (.t 35) (.c (.v (.bool false))))⟩,
      ⟨(some 37), none, (.mv (.t 36))⟩,
      ⟨(some 38), (some (37, true)), (.load true 5 (.t 1))⟩,
      ⟨(some 39), (some (37, true)), (.call (.c (.fn (.func 34) [] [])) [(.t 38)])⟩,
      ⟨(some 40), (some (37, true)), (.bin .int .eql (.t 39) (.c (.v (.int .i64 3))))⟩,
      ⟨(some 41), none, (.pick (.t 37) (.t 40) (.c (.v (.bool false))))⟩,
      ⟨(some 42), none, (.mv (.t 41))⟩,
      ⟨(some 43), (some (42, true)), (.mv (.t 3))⟩,
      ⟨(some 44), none, (.pick (.t 42) (.t 43) (.c (.v (.bool false))))⟩,
      ⟨(some 45), none, (.mv (.t 44))⟩,
      ⟨(some 46), (some (45, true)), (.mv (.t 2))⟩,
      ⟨(some 47), (some (45, true)), (.bsl true 1 2 [(.v (.int .i64 0))] [(0, (.c (.v (.int .i64 0)))), (1, (.c (.v (.int .i64 0))))])⟩,
      ⟨(some 48), (some (45, true)), (.call (.c (.fn (.func 37) [] [])) [(.t 46), (.t 47)])⟩,
      ⟨(some 49), none, (.pick (.t 45) (.t 48) (.c (.v (.bool false))))⟩,
      ⟨(some 50), none, (.mv (.t 49))⟩,
      ⟨(some 51), (some (50, true)), (.mv (.t 4))⟩,
      ⟨(some 52), (some (50, true)), (.bin .int .eql (.t 51) (.c (.v (.int .i64 3))))⟩,
      ⟨(some 53), none, (.pick (.t 50) (.t 52) (.c (.v (.bool false))))⟩,
      ⟨(some 54), none, (.mv (.t 53))⟩,
      ⟨(some 55), (some (54, true)), (.mv (.t 5))⟩,
      ⟨(some 56), none, (.pick (.t 54) (.t 55) (.c (.v (.bool false))))⟩,
      ⟨(some 57), none, (.mv (.t 56))⟩,
      ⟨(some 58), (some (57, true)), (.mv (.t 6))⟩,
      ⟨(some 59), (some (57, true)), (.bin .int .eql (.t 58) (.c (.v (.int .i64 2))))⟩,
      ⟨(some 60), none, (.pick (.t 57) (.t 59) (.c (.v (.bool false))))⟩,
      ⟨(some 61), none, (.mv (.t 60))⟩,
      ⟨(some 62), (some (61, true)), (.mv (.t 7))⟩,
      ⟨(some 63), none, (.pick (.t 61) (.t 62) (.c (.v (.bool false))))⟩,
      ⟨(some 64), none, (.mv (.t 63))⟩,
      ⟨(some 65), (some (64, true)), (.call (.c (.fn (.func 19) [] [])) [(.c (.v (.int .i64 11)))])⟩,
      ⟨(some 66), none, (.pick (.t 64) (.t 65) (.c (.v (.bool false))))⟩,
      ⟨(some 67), none, (.mv (.t 66))⟩,
      ⟨(some 68), (some (67, true)), (.load true 5 (.t 1))⟩,
      ⟨(some 69), (some (67, true)), (.load true 5 (.t 1))⟩,
      ⟨(some 70), (some (67, true)), (.call (.c (.fn (.func 21) [] [])) [(.t 69)])⟩,
      ⟨(some 71), (some (67, true)), (.call (.c (.fn (.func 22) [] [])) [(.t 68), (.t 70)])⟩,
      ⟨(some 72), none, (.pick (.t 67) (.t 71) (.c (.v (.bool false))))⟩,
      ⟨(some 0), none, (.mv (.t 72))⟩] [])
    .ret))))))⟩
theorem L12_ok : lowFn Try.prog Try.f12 [⟨3, 1, .imm⟩, ⟨5, 22, .imm⟩] = some L12 := by kernel_rfl

/-- assessor_tree.Valid -/
def L13 : LFn := ⟨10, [(.tmp 2)], (.seq (.ops [⟨(some 1), none, (.box false (.t 0))⟩,
      ⟨(some 2), none, (.mv (.c (.v (.bool false))))⟩])
    (.seq (.ops [⟨(some 3), none, (.faddr 0 (.t 1))⟩,
      ⟨(some 4), none, (.load false 1 (.t 3))⟩,
      ⟨(some 5), none, (.bin .int .eql (.t 4) (.c (.v (.int .i64 2))))⟩,
      ⟨(some 6), none, (.mv (.t 5))⟩,
      ⟨(some 7), (some (6, true)), (.load true 5 (.t 1))⟩,
      ⟨(some 8), (some (6, true)), (.call (.c (.fn (.func 50) [] [])) [(.t 7)])⟩,
      ⟨(some 9), none, (.pick (.t 6) (.t 8) (.c (.v (.bool false))))⟩,
      ⟨(some 2), none, (.mv (.t 9))⟩])
    .ret))⟩
theorem L13_ok : lowFn Try.prog Try.f13 [] = some L13 := by kernel_rfl

/-- assessor_assessorref03.Valid -/
def L14 : LFn := ⟨10, [(.tmp 2)], (.seq (.ops [⟨(some 1), none, (.box false (.t 0))⟩,
      ⟨(some 2), none, (.mv (.c (.v (.bool false))))⟩])
    (.seq (.ops [⟨(some 3), none, (.faddr 0 (.t 1))⟩,
      ⟨(some 4), none, (.load false 1 (.t 3))⟩,
      ⟨(some 5), none, (.bin .int .eql (.t 4) (.c (.v (.int .i64 2))))⟩,
      ⟨(some 6), none, (.mv (.t 5))⟩,
      ⟨(some 7), (some (6, true)), (.load true 5 (.t 1))⟩,
      ⟨(some 8), (some (6, true)), (.call (.c (.fn (.func 51) [] [])) [(.t 7)])⟩,
      ⟨(some 9), none, (.pick (.t 6) (.t 8) (.c (.v (.bool false))))⟩,
      ⟨(some 2), none, (.mv (.t 9))⟩])
    .ret))⟩
theorem L14_ok : lowFn Try.prog Try.f14 [] = some L14 := by kernel_rfl

/-- assessor_tree.Expression -/
def L15 : LFn := ⟨10, [(.tmp 2)], (.seq (.ops [⟨(some 1), none, (.box false (.t 0))⟩,
      ⟨(some 2), none, (.mv (.c (.v (.bool false))))⟩])
    (.seq (.ops [⟨(some 3), none, (.faddr 0 (.t 1))⟩,
      ⟨(some 4), none, (.load false 1 (.t 3))⟩,
      ⟨(some 5), none, (.call (.c (.fn (.func 52) [] [])) [(.t 4)])⟩,
      ⟨(some 6), none, (.mv (.t 5))⟩,
      ⟨(some 7), (some (6, true)), (.load true 5 (.t 1))⟩,
      ⟨(some 8), (some (6, true)), (.call (.c (.fn (.func 50) [] [])) [(.t 7)])⟩,
      ⟨(some 9), none, (.pick (.t 6) (.t 8) (.c (.v (.bool false))))⟩,
      ⟨(some 2), none, (.mv (.t 9))⟩])
    .ret))⟩
theorem L15_ok : lowFn Try.prog Try.f15 [] = some L15 := by kernel_rfl

/-- assessor_assessorref03.Expression -/
def L16 : LFn := ⟨10, [(.tmp 2)], (.seq (.ops [⟨(some 1), none, (.box false (.t 0))⟩,
      ⟨(some 2), none, (.mv (.c (.v (.bool false))))⟩])
    (.seq (.ops [⟨(some 3), none, (.faddr 0 (.t 1))⟩,
      ⟨(some 4), none, (.load false 1 (.t 3))⟩,
      ⟨(some 5), none, (.call (.c (.fn (.func 53) [] [])) [(.t 4)])⟩,
      ⟨(some 6), none, (.mv (.t 5))⟩,
      ⟨(some 7), (some (6, true)), (.load true 5 (.t 1))⟩,
      ⟨(some 8), (some (6, true)), (.call (.c (.fn (.func 51) [] [])) [(.t 7)])⟩,
      ⟨(some 9), none, (.pick (.t 6) (.t 8) (.c (.v (.bool false))))⟩,
      ⟨(some 2), none, (.mv (.t 9))⟩])
    .ret))⟩
theorem L16_ok : lowFn Try.prog Try.f16 [] = some L16 := by kernel_rfl

/-- assessor_tree.Statement -/
def L17 : LFn := ⟨10, [(.tmp 2)], (.seq (.ops [⟨(some 1), none, (.box false (.t 0))⟩,
      ⟨(some 2), none, (.mv (.c (.v (.bool false))))⟩])
    (.seq (.ops [⟨(some 3), none, (.faddr 0 (.t 1))⟩,
      ⟨(some 4), none, (.load false 1 (.t 3))⟩,
      ⟨(some 5), none, (.call (.c (.fn (.func 54) [] [])) [(.t 4)])⟩,
      ⟨(some 6), none, (.mv (.t 5))⟩,
      ⟨(some 7), (some (6, true)), (.load true 5 (.t 1))⟩,
      ⟨(some 8), (some (6, true)), (.call (.c (.fn (.func 50) [] [])) [(.t 7)])⟩,
      ⟨(some 9), none, (.pick (.t 6) (.t 8) (.c (.v (.bool false))))⟩,
      ⟨(some 2), none, (.mv (.t 9))⟩])
    .ret))⟩
theorem L17_ok : lowFn Try.prog Try.f17 [] = some L17 := by kernel_rfl

/-- assessor_assessorref03.Statement -/
def L18 : LFn := ⟨10, [(.tmp 2)], (.seq (.ops [⟨(some 1), none, (.box false (.t 0))⟩,
      ⟨(some 2), none, (.mv (.c (.v (.bool false))))⟩])
    (.seq (.ops [⟨(some 3), none, (.faddr 0 (.t 1))⟩,
      ⟨(some 4), none, (.load false 1 (.t 3))⟩,
      ⟨(some 5), none, (.call (.c (.fn (.func 55) [] [])) [(.t 4)])⟩,
      ⟨(some 6), none, (.mv (.t 5))⟩,
      ⟨(some 7), (some (6, true)), (.load true 5 (.t 1))⟩,
      ⟨(some 8), (some (6, true)), (.call (.c (.fn (.func 51) [] [])) [(.t 7)])⟩,
      ⟨(some 9), none, (.pick (.t 6) (.t 8) (.c (.v (.bool false))))⟩,
      ⟨(some 2), none, (.mv (.t 9))⟩])
    .ret))⟩
theorem L18_ok : lowFn Try.prog Try.f18 [] = some L18 := by kernel_rfl

/-- assessor_tree.List -/
def L19 : LFn := ⟨8, [(.tmp 2)], (.seq (.ops [⟨(some 2), none, (.mv (.c (.v (.bool false))))⟩])
    (.seq (.ops [⟨(some 3), none, (.call (.c (.fn (.func 56) [] [])) [])⟩,
      ⟨(some 4), none, (.mv (.t 0))⟩,
      ⟨(some 5), none, (.look .int (.agg [(.v .nilFunc), (.v (.slice none 0 0)), (.v .nilFunc), (.v (.int .i64 0))]) false (.t 3) (.t 4))⟩,
      ⟨(some 6), none, (.fld false 2 1 (.t 5))⟩,
      ⟨(some 7), none, (.bin .fn .neq (.t 6) (.c (.v .nilFunc)))⟩,
      ⟨(some 2), none, (.mv (.t 7))⟩])
    .ret))⟩
theorem L19_ok : lowFn Try.prog Try.f19 [] = some L19 := by kernel_rfl

/-- assessor_assessorref03.List -/
def L20 : LFn := ⟨29, [(.tmp 2)], (.seq (.ops [⟨(some 2), none, (.mv (.c (.v (.bool false))))⟩])
    (.seq (.ops [⟨(some 3), none, (.mv (.t 0))⟩,
      ⟨(some 4), none, (.bin .int .eql (.t 3) (.c (.v (.int .i64 2))))⟩,
      ⟨(some 5), none, (.mv (.t 4))⟩,
      ⟨(some 6), (some (5, false)), (.mv (.t 0))⟩,
      ⟨(some 7), (some (5, false)), (.bin .int .eql (.t 6) (.c (.v (.int .i64 3))))⟩,
      ⟨(some 8), none, (.pick (.t 5) (.c (.v (.bool true))) (.t 7))⟩,
      ⟨(some 9), none, (.mv (.t 8))⟩,
      ⟨(some 10), (some (9, false)), (.mv (.t 0))⟩,
      ⟨(some 11), (some (9, false)), (.bin .int .eql (.t 10) (.c (.v (.int .i64 6))))⟩,
      ⟨(some 12), none, (.pick (.t 9) (.c (.v (.bool true))) (.t 11))⟩,
      ⟨(some 13), none, (.mv (.t 12))⟩,
      ⟨(some 14), (some (13, false)), (.mv (.t 0))⟩,
      ⟨(some 15), (some (13, false)), (.bin .int .eql (.t 14) (.c (.v (.int .i64 11))))⟩,
      ⟨(some 16), none, (.pick (.t 13) (.c (.v (.bool true))) (.t 15))⟩,
      ⟨(some 17), none, (.mv (.t 16))⟩,
      ⟨(some 18), (some (17, false)), (.mv (.t 0))⟩,
      ⟨(some 19), (some (17, false)), (.bin .int .eql (.t 18) (.c (.v (.int .i64 19))))⟩,
      ⟨(some 20), none, (.pick (.t 17) (.c (.v (.bool true))) (.t 19))⟩,
      ⟨(some 21), none, (.mv (.t 20))⟩,
      ⟨(some 22), (some (21, false)), (.mv (.t 0))⟩,
      ⟨(some 23), (some (21, false)), (.bin .int .eql (.t 22) (.c (.v (.int .i64 26))))⟩,
      ⟨(some 24), none, (.pick (.t 21) (.c (.v (.bool true))) (.t 23))⟩,
      ⟨(some 25), none, (.mv (.t 24))⟩,
      ⟨(some 26), (some (25, false)), (.mv (.t 0))⟩,
      ⟨(some 27), (some (25, false)), (.bin .int .eql (.t 26) (.c (.v (.int .i64 27))))⟩,
      ⟨(some 28), none, (.pick (.t 25) (.c (.v (.bool true))) (.t 27))⟩,
      ⟨(some 2), none, (.mv (.t 28))⟩])
    .ret))⟩
theorem L20_ok : lowFn Try.prog Try.f20 [] = some L20 := by kernel_rfl

/-- assessor_tree.Bare -/
def L21 : LFn := ⟨27, [(.cell 2 true 5)], (.seq (.ops [⟨(some 1), none, (.box false (.t 0))⟩,
      ⟨(some 2), none, (.alloc [(.v (.int .i64 0)), (.v (.string (mkS []))), (.v (.int .i64 0)), (.v (.int .i64 0)), (.v (.slice none 0 0))])⟩])
    (.seq (.ops [⟨(some 6), none, (.faddr 0 (.t 1))⟩,
      ⟨(some 7), none, (.load false 1 (.t 6))⟩,
      ⟨(some 8), none, (.faddr 1 (.t 1))⟩,
      ⟨(some 9), none, (.load false 1 (.t 8))⟩,
      ⟨(some 10), none, (.build [(.v (.int .i64 0)), (.v (.string (mkS []))), (.v (.int .i64 0)), (.v (.int .i64 0)), (.v (.slice none 0 0))] [(0, (1, (.t 7))), (1, (1, (.t 9)))])⟩,
      ⟨(some 3), none, (.alloc [(.v (.int .i64 0)), (.v (.string (mkS []))), (.v (.int .i64 0)), (.v (.int .i64 0)), (.v (.slice none 0 0))])⟩,
      ⟨none, none, (.store 5 (.t 3) (.t 10))⟩])
    (.seq (.seq (.ops [⟨(some 11), none, (.faddr 4 (.t 1))⟩,
      ⟨(some 12), none, (.load false 1 (.t 11))⟩,
      ⟨(some 13), none, (.len .slc (.t 12))⟩,
      ⟨(some 14), none, (.mv (.c (.v (.int .i64 0))))⟩])
    (.block 0 (.loop (.seq (.ops [⟨(some 15), none, (.bin .int .lss (.t 14) (.t 13))⟩])
    (.seq (.cond (.t 15)
    .skip
    (.exit 0))
    (.seq (.block 1 (.seq (.ops [⟨(some 16), none, (.iaddr 5 (.t 12) (.t 14))⟩,
      ⟨(some 17), none, (.load true 5 (.t 16))⟩,
      ⟨(some 5), none, (.alloc [(.v (.int .i64 0)), (.v (.string (mkS []))), (.v (.int .i64 0)), (.v (.int .i64 0)), (.v (.slice none 0 0))])⟩,
      ⟨none, none, (.store 5 (.t 5) (.t 17))⟩])
    (.draw [⟨(some 18), none, (.faddr 4 (.t 3))⟩,
      ⟨(some 19), none, (.load false 1 (.t 18))⟩,
      ⟨(some 20), none, (.load true 5 (.t 5))⟩,
      ⟨(some 21), none, (.call (.c (.fn (.func 21) [] [])) [(.t 20)])⟩,
      ⟨(some 22), none, (.bsl true 5 1 [(.v (.int .i64 0)), (.v (.string (mkS []))), (.v (.int .i64 0)), (.v (.int .i64 0)), (.v (.slice none 0 0))] [(0, (.t 21))])⟩] [⟨(some 23), none, (.append 5 64 (.t 19) (.t 22))⟩,
      ⟨(some 24), none, (.faddr 4 (.t 3))⟩,
      ⟨none, none, (.store 1 (.t 24) (.t 23))⟩])))
    (.ops [⟨(some 25), none, (.bin .int .add (.t 14) (.c (.v (.int .i64 1))))⟩,
      ⟨(some 14), none, (.mv (.t 25))⟩])))))))
    (.seq (.ops [⟨(some 26), none, (.load true 5 (.t 3))⟩,
      ⟨(some 26), none, (.frzf 5 4 (.t 26))⟩,
      ⟨none, none, (.store 5 (.t 2) (.t 26))⟩])
    .ret))))⟩
theorem L21_ok : lowFn Try.prog Try.f21 [⟨7, 1, (.pre 26 (.frzf 5 4 (.t 26)))⟩, ⟨5, 4, .imm⟩, ⟨5, 5, .tail⟩] = some L21 := by kernel_rfl

/-- assessor_tree.Same -/
def L22 : LFn := ⟨24, [(.tmp 4)], (.seq (.ops [⟨(some 2), none, (.box false (.t 0))⟩,
      ⟨(some 3), none, (.box false (.t 1))⟩,
      ⟨(some 4), none, (.mv (.c (.v (.bool false))))⟩])
    (.seq (.ops [⟨(some 5), none, (.faddr 0 (.t 2))⟩,
      ⟨(some 6), none, (.load false 1 (.t 5))⟩,
      ⟨(some 7), none, (.faddr 0 (.t 3))⟩,
      ⟨(some 8), none, (.load false 1 (.t 7))⟩,
      ⟨(some 9), none, (.bin .int .eql (.t 6) (.t 8))⟩,
      ⟨(some 10), none, (.mv (.t 9))⟩,
      ⟨(some 11), (some (10, true)), (.faddr 1 (.t 2))⟩,
      ⟨(some 12), (some (10, true)), (.load false 1 (.t 11))⟩,
      ⟨(some 13), (some (10, true)), (.faddr 1 (.t 3))⟩,
      ⟨(some 14), (some (10, true)), (.load false 1 (.t 13))⟩,
      ⟨(some 15), (some (10, true)), (.bin .str .eql (.t 12) (.t 14))⟩,
      ⟨(some 16), none, (.pick (.t 10) (.t 15) (.c (.v (.bool false))))⟩,
      ⟨(some 17), none, (.mv (.t 16))⟩,
      ⟨(some 18), (some (17, true)), (.faddr 4 (.t 2))⟩,
      ⟨(some 19), (some (17, true)), (.load false 1 (.t 18))⟩,
      ⟨(some 20), (some (17, true)), (.faddr 4 (.t 3))⟩,
      ⟨(some 21), (some (17, true)), (.load false 1 (.t 20))⟩,
      ⟨(some 22), (some (17, true)), (.call (.c (.fn (.func 57) [] [])) [(.t 19), (.t 21), (.c (.fn (.func 22) [] []))])⟩,
      ⟨(some 23), none, (.pick (.t 17) (.t 22) (.c (.v (.bool false))))⟩,
      ⟨(some 4), none, (.mv (.t 23))⟩])
    .ret))⟩
theorem L22_ok : lowFn Try.prog Try.f22 [] = some L22 := by kernel_rfl

/-- assessor_tree.Count -/
def L23 : LFn := ⟨10, [(.tmp 2)], (.seq (.ops [⟨(some 1), none, (.box false (.t 0))⟩,
      ⟨(some 2), none, (.mv (.c (.v (.int .i64 0))))⟩])
    (.seq (.ops [⟨(some 3), none, (.alloc [(.v (.int .i64 0))])⟩,
      ⟨none, none, (.store 1 (.t 3) (.c (.v (.int .i64 0))))⟩])
    (.seq (.seq (.ops [⟨(some 4), none, (.load true 5 (.t 1))⟩,
      ⟨(some 5), none, (.call (.c (.fn (.func 58) [] [])) [(.t 4)])⟩])
    (.block 0 (.range (.t 5) [6] .skip (.block 1 (.ops [⟨(some 7), none, (.load false 1 (.t 3))⟩,
      ⟨(some 8), none, (.bin .int .add (.t 7) (.c (.v (.int .i64 1))))⟩,
      ⟨none, none, (.store 1 (.t 3) (.t 8))⟩])))))
    (.seq (.ops [⟨(some 9), none, (.load false 1 (.t 3))⟩,
      ⟨(some 2), none, (.mv (.t 9))⟩])
    .ret))))⟩
theorem L23_ok : lowFn Try.prog Try.f23 [] = some L23 := by kernel_rfl

/-- assessor_assessorref03.Nodes -/
def L24 : LFn := ⟨23, [(.tmp 2)], (.seq (.ops [⟨(some 1), none, (.box false (.t 0))⟩,
      ⟨(some 2), none, (.mv (.c (.v (.slice none 0 0))))⟩])
    (.seq (.ops [⟨(some 5), none, (.load true 5 (.t 1))⟩,
      ⟨(some 6), none, (.bsl false 5 1 [(.v (.int .i64 0)), (.v (.string (mkS []))), (.v (.int .i64 0)), (.v (.int .i64 0)), (.v (.slice none 0 0))] [(0, (.t 5))])⟩,
      ⟨(some 3), none, (.mv (.t 6))⟩])
    (.seq (.seq (.ops [⟨(some 4), none, (.mv (.c (.v (.int .i64 0))))⟩])
    (.block 0 (.loop (.seq (.seq (.ops [⟨(some 7), none, (.mv (.t 4))⟩,
      ⟨(some 8), none, (.faddr 4 (.t 1))⟩,
      ⟨(some 9), none, (.load false 1 (.t 8))⟩,
      ⟨(some 10), none, (.len .slc (.t 9))⟩,
      ⟨(some 11), none, (.bin .int .lss (.t 7) (.t 10))⟩])
    (.cond (.t 11)
    .skip
    (.exit 0)))
    (.seq (.block 1 (.ops [⟨(some 14), none, (.mv (.t 3))⟩,
      ⟨(some 15), none, (.faddr 4 (.t 1))⟩,
      ⟨(some 16), none, (.load false 1 (.t 15))⟩,
      ⟨(some 17), none, (.mv (.t 4))⟩,
      ⟨(some 18), none, (.iaddr 5 (.t 16) (.t 17))⟩,
      ⟨(some 19), none, (.load true 5 (.t 18))⟩,
      ⟨(some 20), none, (.call (.c (.fn (.func 24) [] [])) [(.t 19)])⟩,
      ⟨(some 21), none, (.append 5 64 (.t 14) (.t 20))⟩,
      ⟨(some 3), none, (.mv (.t 21))⟩]))
    (.ops [⟨(some 12), none, (.mv (.t 4))⟩,
      ⟨(some 13), none, (.bin .int .add (.t 12) (.c (.v (.int .i64 1))))⟩,
      ⟨(some 4), none, (.mv (.t 13))⟩]))))))
    (.seq (.ops [⟨(some 22), none, (.mv (.t 3))⟩,
      ⟨(some 2), none, (.mv (.t 22))⟩,
      ⟨(some 2), none, (.frz (.t 2))⟩])
    .ret))))⟩
theorem L24_ok : lowFn Try.prog Try.f24 [⟨6, 2, (.pre 2 (.frz (.t 2)))⟩] = some L24 := by kernel_rfl

/-- assessor_tree.Get -/
def L25 : LFn := ⟨31, [(.cell 4 true 5), (.tmp 5)], (.seq (.ops [⟨(some 2), none, (.box false (.t 0))⟩,
      ⟨(some 4), none, (.alloc [(.v (.int .i64 0)), (.v (.string (mkS []))), (.v (.int .i64 0)), (.v (.int .i64 0)), (.v (.slice none 0 0))])⟩,
      ⟨(some 5), none, (.mv (.c (.v (.bool false))))⟩])
    (.seq (.seq (.ops [⟨(some 8), none, (.mv (.t 1))⟩,
      ⟨(some 9), none, (.len .slc (.t 8))⟩,
      ⟨(some 10), none, (.mv (.c (.v (.int .i64 0))))⟩])
    (.block 0 (.loop (.seq (.ops [⟨(some 11), none, (.bin .int .lss (.t 10) (.t 9))⟩])
    (.seq (.cond (.t 11)
    .skip
    (.exit 0))
    (.seq (.block 1 (.seq (.ops [⟨(some 12), none, (.iaddr 1 (.t 8) (.t 10))⟩,
      ⟨(some 13), none, (.load false 1 (.t 12))⟩,
      ⟨(some 7), none, (.mv (.t 13))⟩])
    (.seq (.seq (.ops [⟨(some 14), none, (.mv (.t 7))⟩,
      ⟨(some 15), none, (.bin .int .lss (.t 14) (.c (.v (.int .i64 0))))⟩,
      ⟨(some 16), none, (.mv (.t 15))⟩,
      ⟨(some 17), (some (16, false)), (.mv (.t 7))⟩,
      ⟨(some 18), (some (16, false)), (.faddr 4 (.t 2))⟩,
      ⟨(some 19), (some (16, false)), (.load false 1 (.t 18))⟩,
      ⟨(some 20), (some (16, false)), (.len .slc (.t 19))⟩,
      ⟨(some 21), (some (16, false)), (.bin .int .geq (.t 17) (.t 20))⟩,
      ⟨(some 22), none, (.pick (.t 16) (.c (.v (.bool true))) (.t 21))⟩])
    (.cond (.t 22)
    (.seq (.ops [⟨(some 23), none, (.build [(.v (.int .i64 0)), (.v (.string (mkS []))), (.v (.int .i64 0)), (.v (.int .i64 0)), (.v (.slice none 0 0))] [])⟩,
      ⟨none, none, (.store 5 (.t 4) (.t 23))⟩,
      ⟨(some 5), none, (.mv (.c (.v (.bool false))))⟩])
    .ret)
    .skip))
    (.ops [⟨(some 24), none, (.faddr 4 (.t 2))⟩,
      ⟨(some 25), none, (.load false 1 (.t 24))⟩,
      ⟨(some 26), none, (.mv (.t 7))⟩,
      ⟨(some 27), none, (.iaddr 5 (.t 25) (.t 26))⟩,
      ⟨(some 28), none, (.load true 5 (.t 27))⟩,
      ⟨none, none, (.store 5 (.t 2) (.t 28))⟩]))))
    (.ops [⟨(some 29), none, (.bin .int .add (.t 10) (.c (.v (.int .i64 1))))⟩,
      ⟨(some 10), none, (.mv (.t 29))⟩])))))))
    (.seq (.ops [⟨(some 30), none, (.load true 5 (.t 2))⟩,
      ⟨none, none, (.store 5 (.t 4) (.t 30))⟩,
      ⟨(some 5), none, (.mv (.c (.v (.bool true))))⟩])
    .ret)))⟩
theorem L25_ok : lowFn Try.prog Try.f25 [] = some L25 := by kernel_rfl

/-- assessor_assessorref03.Get -/
def L26 : LFn := ⟨38, [(.cell 4 true 5), (.tmp 5)], (.seq (.ops [⟨(some 2), none, (.box false (.t 0))⟩,
      ⟨(some 4), none, (.alloc [(.v (.int .i64 0)), (.v (.string (mkS []))), (.v (.int .i64 0)), (.v (.int .i64 0)), (.v (.slice none 0 0))])⟩,
      ⟨(some 5), none, (.mv (.c (.v (.bool false))))⟩])
    (.seq (.seq (.ops [⟨(some 6), none, (.mv (.c (.v (.int .i64 0))))⟩])
    (.block 0 (.loop (.seq (.seq (.ops [⟨(some 7), none, (.mv (.t 6))⟩,
      ⟨(some 8), none, (.mv (.t 1))⟩,
      ⟨(some 9), none, (.len .slc (.t 8))⟩,
      ⟨(some 10), none, (.bin .int .lss (.t 7) (.t 9))⟩])
    (.cond (.t 10)
    .skip
    (.exit 0)))
    (.seq (.block 1 (.seq (.seq (.draw [⟨(some 13), none, (.mv (.t 1))⟩,
      ⟨(some 14), none, (.mv (.t 6))⟩,
      ⟨(some 15), none, (.iaddr 1 (.t 13) (.t 14))⟩,
      ⟨(some 16), none, (.load false 1 (.t 15))⟩,
      ⟨(some 17), none, (.bin .int .lss (.t 16) (.c (.v (.int .i64 0))))⟩,
      ⟨(some 18), none, (.mv (.t 17))⟩,
      ⟨(some 19), (some (18, false)), (.mv (.t 1))⟩,
      ⟨(some 20), (some (18, false)), (.mv (.t 6))⟩,
      ⟨(some 21), (some (18, false)), (.iaddr 1 (.t 19) (.t 20))⟩,
      ⟨(some 22), (some (18, false)), (.load false 1 (.t 21))⟩,
      ⟨(some 23), (some (18, false)), (.faddr 4 (.t 2))⟩,
      ⟨(some 24), (some (18, false)), (.load false 1 (.t 23))⟩,
      ⟨(some 25), (some (18, false)), (.len .slc (.t 24))⟩,
      ⟨(some 26), (some (18, false)), (.bin .int .geq (.t 22) (.t 25))⟩,
      ⟨(some 27), none, (.pick (.t 18) (.c (.v (.bool true))) (.t 26))⟩] [])
    (.cond (.t 27)
    (.seq (.ops [⟨(some 28), none, (.build [(.v (.int .i64 0)), (.v (.string (mkS []))), (.v (.int .i64 0)), (.v (.int .i64 0)), (.v (.slice none 0 0))] [])⟩,
      ⟨none, none, (.store 5 (.t 4) (.t 28))⟩,
      ⟨(some 5), none, (.mv (.c (.v (.bool false))))⟩])
    .ret)
    .skip))
    (.draw [⟨(some 29), none, (.faddr 4 (.t 2))⟩,
      ⟨(some 30), none, (.load false 1 (.t 29))⟩,
      ⟨(some 31), none, (.mv (.t 1))⟩,
      ⟨(some 32), none, (.mv (.t 6))⟩,
      ⟨(some 33), none, (.iaddr 1 (.t 31) (.t 32))⟩,
      ⟨(some 34), none, (.load false 1 (.t 33))⟩,
      ⟨(some 35), none, (.iaddr 5 (.t 30) (.t 34))⟩,
      ⟨(some 36), none, (.load true 5 (.t 35))⟩] [⟨none, none, (.store 5 (.t 2) (.t 36))⟩])))
    (.ops [⟨(some 11), none, (.mv (.t 6))⟩,
      ⟨(some 12), none, (.bin .int .add (.t 11) (.c (.v (.int .i64 1))))⟩,
      ⟨(some 6), none, (.mv (.t 12))⟩]))))))
    (.seq (.ops [⟨(some 37), none, (.load true 5 (.t 2))⟩,
      ⟨none, none, (.store 5 (.t 4) (.t 37))⟩,
      ⟨(some 5), none, (.mv (.c (.v (.bool true))))⟩])
    .ret)))⟩
theorem L26_ok : lowFn Try.prog Try.f26 [⟨6, 8, .tail⟩] = some L26 := by kernel_rfl

/-- assessor_tree.Path -/
def L27 : LFn := ⟨45, [(.tmp 4), (.tmp 5)], (.seq (.ops [⟨(some 2), none, (.box false (.t 0))⟩,
      ⟨(some 4), none, (.mv (.c (.v (.slice none 0 0))))⟩,
      ⟨(some 5), none, (.mv (.c (.v (.bool false))))⟩])
    (.seq (.seq (.ops [⟨(some 10), none, (.mv (.t 1))⟩,
      ⟨(some 11), none, (.bin .int .lss (.t 10) (.c (.v (.int .i64 0))))⟩,
      ⟨(some 12), none, (.mv (.t 11))⟩,
      ⟨(some 13), (some (12, false)), (.mv (.t 1))⟩,
      ⟨(some 14), (some (12, false)), (.load true 5 (.t 2))⟩,
      ⟨(some 15), (some (12, false)), (.call (.c (.fn (.func 23) [] [])) [(.t 14)])⟩,
      ⟨(some 16), (some (12, false)), (.bin .int .geq (.t 13) (.t 15))⟩,
      ⟨(some 17), none, (.pick (.t 12) (.c (.v (.bool true))) (.t 16))⟩])
    (.cond (.t 17)
    (.seq (.ops [⟨(some 4), none, (.mv (.c (.v (.slice none 0 0))))⟩,
      ⟨(some 5), none, (.mv (.c (.v (.bool false))))⟩])
    .ret)
    .skip))
    (.seq (.ops [⟨(some 6), none, (.mv (.c (.v (.slice none 0 0))))⟩,
      ⟨(some 6), none, (.own 1 (.t 6))⟩])
    (.seq (.block 0 (.loop (.seq (.seq (.ops [⟨(some 18), none, (.mv (.t 1))⟩,
      ⟨(some 19), none, (.bin .int .gtr (.t 18) (.c (.v (.int .i64 0))))⟩])
    (.cond (.t 19)
    .skip
    (.exit 0)))
    (.block 1 (.seq (.ops [⟨(some 20), none, (.mv (.t 1))⟩,
      ⟨(some 21), none, (.bin .int .sub (.t 20) (.c (.v (.int .i64 1))))⟩,
      ⟨(some 1), none, (.mv (.t 21))⟩])
    (.seq (.ops [⟨(some 22), none, (.faddr 4 (.t 2))⟩,
      ⟨(some 23), none, (.load false 1 (.t 22))⟩,
      ⟨(some 24), none, (.len .slc (.t 23))⟩,
      ⟨(some 25), none, (.mv (.c (.v (.int .i64 0))))⟩])
    (.block 2 (.loop (.seq (.ops [⟨(some 26), none, (.bin .int .lss (.t 25) (.t 24))⟩])
    (.seq (.cond (.t 26)
    .skip
    (.exit 2))
    (.seq (.block 3 (.seq (.ops [⟨(some 27), none, (.mv (.t 25))⟩,
      ⟨(some 28), none, (.iaddr 5 (.t 23) (.t 25))⟩,
      ⟨(some 29), none, (.load true 5 (.t 28))⟩,
      ⟨(some 8), none, (.alloc [(.v (.int .i64 0)), (.v (.string (mkS []))), (.v (.int .i64 0)), (.v (.int .i64 0)), (.v (.slice none 0 0))])⟩,
      ⟨(some 7), none, (.mv (.t 27))⟩,
      ⟨none, none, (.store 5 (.t 8) (.t 29))⟩])
    (.seq (.ops [⟨(some 30), none, (.load true 5 (.t 8))⟩,
      ⟨(some 31), none, (.call (.c (.fn (.func 23) [] [])) [(.t 30)])⟩,
      ⟨(some 9), none, (.mv (.t 31))⟩])
    (.seq (.seq (.ops [⟨(some 32), none, (.mv (.t 1))⟩,
      ⟨(some 33), none, (.mv (.t 9))⟩,
      ⟨(some 34), none, (.bin .int .lss (.t 32) (.t 33))⟩])
    (.cond (.t 34)
    (.seq (.draw [⟨(some 35), none, (.mv (.t 6))⟩,
      ⟨(some 36), none, (.mv (.t 7))⟩,
      ⟨(some 37), none, (.bsl true 1 1 [(.v (.int .i64 0))] [(0, (.t 36))])⟩,
      ⟨(some 39), none, (.loadb true 5 (.t 8))⟩] [⟨(some 38), none, (.append 1 8 (.t 35) (.t 37))⟩,
      ⟨(some 6), none, (.mv (.t 38))⟩,
      ⟨none, none, (.store 5 (.t 2) (.t 39))⟩])
    (.exit 2))
    .skip))
    (.ops [⟨(some 40), none, (.mv (.t 1))⟩,
      ⟨(some 41), none, (.mv (.t 9))⟩,
      ⟨(some 42), none, (.bin .int .sub (.t 40) (.t 41))⟩,
      ⟨(some 1), none, (.mv (.t 42))⟩])))))
    (.ops [⟨(some 43), none, (.bin .int .add (.t 25) (.c (.v (.int .i64 1))))⟩,
      ⟨(some 25), none, (.mv (.t 43))⟩]))))))))))))
    (.seq (.ops [⟨(some 44), none, (.mv (.t 6))⟩,
      ⟨(some 4), none, (.mv (.t 44))⟩,
      ⟨(some 5), none, (.mv (.c (.v (.bool true))))⟩,
      ⟨(some 4), none, (.frz (.t 4))⟩])
    .ret)))))⟩
theorem L27_ok : lowFn Try.prog Try.f27 [⟨11, 3, .imm⟩, ⟨11, 0, (.perm [0, 1, 2, 4, 3, 5, 6])⟩, ⟨11, 2, .imm⟩, ⟨14, 3, (.pre 4 (.frz (.t 4)))⟩, ⟨3, 1, (.pre 6 (.own 1 (.t 6)))⟩, ⟨11, 4, .tail⟩] = some L27 := by kernel_rfl

/-- assessor_assessorref03.Path -/
def L28 : LFn := ⟨51, [(.tmp 4), (.tmp 5)], (.seq (.ops [⟨(some 2), none, (.box false (.t 0))⟩,
      ⟨(some 4), none, (.mv (.c (.v (.slice none 0 0))))⟩,
      ⟨(some 5), none, (.mv (.c (.v (.bool false))))⟩])
    (.seq (.seq (.ops [⟨(some 8), none, (.mv (.t 1))⟩,
      ⟨(some 9), none, (.bin .int .lss (.t 8) (.c (.v (.int .i64 0))))⟩,
      ⟨(some 10), none, (.mv (.t 9))⟩,
      ⟨(some 11), (some (10, false)), (.mv (.t 1))⟩,
      ⟨(some 12), (some (10, false)), (.load true 5 (.t 2))⟩,
      ⟨(some 13), (some (10, false)), (.call (.c (.fn (.func 33) [] [])) [(.t 12)])⟩,
      ⟨(some 14), (some (10, false)), (.bin .int .geq (.t 11) (.t 13))⟩,
      ⟨(some 15), none, (.pick (.t 10) (.c (.v (.bool true))) (.t 14))⟩])
    (.cond (.t 15)
    (.seq (.ops [⟨(some 4), none, (.mv (.c (.v (.slice none 0 0))))⟩,
      ⟨(some 5), none, (.mv (.c (.v (.bool false))))⟩])
    .ret)
    .skip))
    (.seq (.ops [⟨(some 16), none, (.bsl false 1 0 [(.v (.int .i64 0))] [])⟩,
      ⟨(some 6), none, (.mv (.t 16))⟩])
    (.seq (.ops [⟨(some 17), none, (.mv (.t 1))⟩,
      ⟨(some 18), none, (.bin .int .sub (.t 17) (.c (.v (.int .i64 1))))⟩,
      ⟨(some 1), none, (.mv (.t 18))⟩])
    (.seq (.block 0 (.loop (.seq (.seq (.ops [⟨(some 19), none, (.mv (.t 1))⟩,
      ⟨(some 20), none, (.bin .int .geq (.t 19) (.c (.v (.int .i64 0))))⟩])
    (.cond (.t 20)
    .skip
    (.exit 0)))
    (.block 1 (.seq (.ops [⟨(some 7), none, (.mv (.c (.v (.int .i64 0))))⟩])
    (.seq (.block 2 (.loop (.seq (.seq (.ops [⟨(some 21), none, (.mv (.t 1))⟩,
      ⟨(some 22), none, (.faddr 4 (.t 2))⟩,
      ⟨(some 23), none, (.load false 1 (.t 22))⟩,
      ⟨(some 24), none, (.mv (.t 7))⟩,
      ⟨(some 25), none, (.iaddr 5 (.t 23) (.t 24))⟩,
      ⟨(some 26), none, (.load true 5 (.t 25))⟩,
      ⟨(some 27), none, (.call (.c (.fn (.func 33) [] [])) [(.t 26)])⟩,
      ⟨(some 28), none, (.bin .int .geq (.t 21) (.t 27))⟩])
    (.cond (.t 28)
    .skip
    (.exit 2)))
    (.block 3 (.ops [⟨(some 29), none, (.mv (.t 1))⟩,
      ⟨(some 30), none, (.faddr 4 (.t 2))⟩,
      ⟨(some 31), none, (.load false 1 (.t 30))⟩,
      ⟨(some 32), none, (.mv (.t 7))⟩,
      ⟨(some 33), none, (.iaddr 5 (.t 31) (.t 32))⟩,
      ⟨(some 34), none, (.load true 5 (.t 33))⟩,
      ⟨(some 35), none, (.call (.c (.fn (.func 33) [] [])) [(.t 34)])⟩,
      ⟨(some 36), none, (.bin .int .sub (.t 29) (.t 35))⟩,
      ⟨(some 37), none, (.mv (.t 7))⟩,
      ⟨(some 38), none, (.bin .int .add (.t 37) (.c (.v (.int .i64 1))))⟩,
      ⟨(some 1), none, (.mv (.t 36))⟩,
      ⟨(some 7), none, (.mv (.t 38))⟩])))))
    (.draw [⟨(some 39), none, (.mv (.t 6))⟩,
      ⟨(some 40), none, (.mv (.t 7))⟩,
      ⟨(some 41), none, (.bsl true 1 1 [(.v (.int .i64 0))] [(0, (.t 40))])⟩,
      ⟨(some 43), none, (.faddrb 4 (.t 2))⟩,
      ⟨(some 44), none, (.loadb false 1 (.t 43))⟩,
      ⟨(some 45), none, (.mv (.t 7))⟩,
      ⟨(some 46), none, (.iaddrv 5 (.t 44) (.t 45))⟩,
      ⟨(some 47), none, (.loadb true 5 (.t 46))⟩,
      ⟨(some 48), none, (.mv (.t 1))⟩,
      ⟨(some 49), none, (.bin .int .sub (.t 48) (.c (.v (.int .i64 1))))⟩] [⟨(some 42), none, (.append 1 8 (.t 39) (.t 41))⟩,
      ⟨(some 6), none, (.mv (.t 42))⟩,
      ⟨none, none, (.store 5 (.t 2) (.t 47))⟩,
      ⟨(some 1), none, (.mv (.t 49))⟩])))))))
    (.seq (.ops [⟨(some 50), none, (.mv (.t 6))⟩,
      ⟨(some 4), none, (.mv (.t 50))⟩,
      ⟨(some 5), none, (.mv (.c (.v (.bool true))))⟩,
      ⟨(some 4), none, (.frz (.t 4))⟩])
    .ret))))))⟩
theorem L28_ok : lowFn Try.prog Try.f28 [⟨9, 3, .imm⟩, ⟨9, 4, .imm⟩, ⟨9, 6, .imm⟩, ⟨9, 7, .imm⟩, ⟨9, 0, (.perm [0, 1, 2, 4, 5, 6, 7, 8, 9, 10, 3, 11, 12, 13])⟩, ⟨9, 2, .imm⟩, ⟨10, 3, (.pre 4 (.frz (.t 4)))⟩, ⟨9, 10, .tail⟩] = some L28 := by kernel_rfl
/-- assessor_tree.Number -/
def L29 : LFn := ⟨49, [(.tmp 4), (.tmp 5)], (.seq (.ops [⟨(some 2), none, (.box false (.t 0))⟩,
      ⟨(some 4), none, (.mv (.c (.v (.int .i64 0))))⟩,
      ⟨(some 5), none, (.mv (.c (.v (.bool false))))⟩])
    (.seq (.ops [⟨(some 6), none, (.mv (.c (.v (.int .i64 0))))⟩])
    (.seq (.seq (.ops [⟨(some 11), none, (.mv (.t 1))⟩,
      ⟨(some 12), none, (.len .slc (.t 11))⟩,
      ⟨(some 13), none, (.mv (.c (.v (.int .i64 0))))⟩])
    (.block 0 (.loop (.seq (.ops [⟨(some 14), none, (.bin .int .lss (.t 13) (.t 12))⟩])
    (.seq (.cond (.t 14)
    .skip
    (.exit 0))
    (.seq (.block 1 (.seq (.ops [⟨(some 15), none, (.iaddr 1 (.t 11) (.t 13))⟩,
      ⟨(some 16), none, (.load false 1 (.t 15))⟩,
      ⟨(some 8), none, (.mv (.t 16))⟩])
    (.seq (.seq (.ops [⟨(some 17), none, (.mv (.t 8))⟩,
      ⟨(some 18), none, (.bin .int .lss (.t 17) (.c (.v (.int .i64 0))))⟩,
      ⟨(some 19), none, (.mv (.t 18))⟩,
      ⟨(some 20), (some (19, false)), (.mv (.t 8))⟩,
      ⟨(some 21), (some (19, false)), (.faddr 4 (.t 2))⟩,
      ⟨(some 22), (some (19, false)), (.load false 1 (.t 21))⟩,
      ⟨(some 23), (some (19, false)), (.len .slc (.t 22))⟩,
      ⟨(some 24), (some (19, false)), (.bin .int .geq (.t 20) (.t 23))⟩,
      ⟨(some 25), none, (.pick (.t 19) (.c (.v (.bool true))) (.t 24))⟩])
    (.cond (.t 25)
    (.seq (.ops [⟨(some 4), none, (.mv (.c (.v (.int .i64 0))))⟩,
      ⟨(some 5), none, (.mv (.c (.v (.bool false))))⟩])
    .ret)
    .skip))
    (.seq (.ops [⟨(some 26), none, (.mv (.t 6))⟩,
      ⟨(some 27), none, (.bin .int .add (.t 26) (.c (.v (.int .i64 1))))⟩,
      ⟨(some 6), none, (.mv (.t 27))⟩])
    (.seq (.seq (.ops [⟨(some 28), none, (.faddr 4 (.t 2))⟩,
      ⟨(some 29), none, (.load false 1 (.t 28))⟩,
      ⟨(some 30), none, (.mv (.t 8))⟩,
      ⟨(some 31), none, (.slice .slc 5 (.t 29) none (some (.t 30)))⟩,
      ⟨(some 32), none, (.len .slc (.t 31))⟩,
      ⟨(some 33), none, (.mv (.c (.v (.int .i64 0))))⟩])
    (.block 2 (.loop (.seq (.ops [⟨(some 34), none, (.bin .int .lss (.t 33) (.t 32))⟩])
    (.seq (.cond (.t 34)
    .skip
    (.exit 2))
    (.seq (.block 3 (.seq (.ops [⟨(some 35), none, (.iaddr 5 (.t 31) (.t 33))⟩,
      ⟨(some 36), none, (.load true 5 (.t 35))⟩,
      ⟨(some 10), none, (.alloc [(.v (.int .i64 0)), (.v (.string (mkS []))), (.v (.int .i64 0)), (.v (.int .i64 0)), (.v (.slice none 0 0))])⟩,
      ⟨none, none, (.store 5 (.t 10) (.t 36))⟩])
    (.ops [⟨(some 37), none, (.mv (.t 6))⟩,
      ⟨(some 38), none, (.load true 5 (.t 10))⟩,
      ⟨(some 39), none, (.call (.c (.fn (.func 23) [] [])) [(.t 38)])⟩,
      ⟨(some 40), none, (.bin .int .add (.t 37) (.t 39))⟩,
      ⟨(some 6), none, (.mv (.t 40))⟩])))
    (.ops [⟨(some 41), none, (.bin .int .add (.t 33) (.c (.v (.int .i64 1))))⟩,
      ⟨(some 33), none, (.mv (.t 41))⟩])))))))
    (.ops [⟨(some 42), none, (.faddr 4 (.t 2))⟩,
      ⟨(some 43), none, (.load false 1 (.t 42))⟩,
      ⟨(some 44), none, (.mv (.t 8))⟩,
      ⟨(some 45), none, (.iaddr 5 (.t 43) (.t 44))⟩,
      ⟨(some 46), none, (.load true 5 (.t 45))⟩,
      ⟨none, none, (.store 5 (.t 2) (.t 46))⟩]))))))
    (.ops [⟨(some 47), none, (.bin .int .add (.t 13) (.c (.v (.int .i64 1))))⟩,
      ⟨(some 13), none, (.mv (.t 47))⟩])))))))
    (.seq (.ops [⟨(some 48), none, (.mv (.t 6))⟩,
      ⟨(some 4), none, (.mv (.t 48))⟩,
      ⟨(some 5), none, (.mv (.c (.v (.bool true))))⟩])
    .ret))))⟩
theorem L29_ok : lowFn Try.prog Try.f29 [] = some L29 := by kernel_rfl

/-- assessor_assessorref03.Number -/
def L30 : LFn := ⟨52, [(.tmp 4), (.tmp 5)], (.seq (.ops [⟨(some 2), none, (.box false (.t 0))⟩,
      ⟨(some 4), none, (.mv (.c (.v (.int .i64 0))))⟩,
      ⟨(some 5), none, (.mv (.c (.v (.bool false))))⟩])
    (.seq (.seq (.ops [⟨(some 12), none, (.load true 5 (.t 2))⟩,
      ⟨(some 13), none, (.mv (.t 1))⟩,
      ⟨(some 14), none, (.call (.c (.fn (.func 26) [] [])) [(.t 12), (.t 13)])⟩,
      ⟨(some 11), none, (.mv (.t 14))⟩,
      ⟨(some 15), none, (.ext (.t 11) 0)⟩,
      ⟨(some 16), none, (.ext (.t 11) 1)⟩,
      ⟨(some 6), none, (.alloc [(.v (.int .i64 0)), (.v (.string (mkS []))), (.v (.int .i64 0)), (.v (.int .i64 0)), (.v (.slice none 0 0))])⟩,
      ⟨none, none, (.store 5 (.t 6) (.t 15))⟩,
      ⟨(some 7), none, (.mv (.t 16))⟩])
    (.seq (.ops [⟨(some 17), none, (.mv (.t 7))⟩,
      ⟨(some 18), none, (.not (.t 17))⟩])
    (.cond (.t 18)
    (.seq (.ops [⟨(some 4), none, (.mv (.c (.v (.int .i64 0))))⟩,
      ⟨(some 5), none, (.mv (.c (.v (.bool false))))⟩])
    .ret)
    .skip)))
    (.seq (.ops [⟨(some 8), none, (.mv (.c (.v (.int .i64 0))))⟩])
    (.seq (.seq (.ops [⟨(some 9), none, (.mv (.c (.v (.int .i64 0))))⟩])
    (.block 0 (.loop (.seq (.seq (.ops [⟨(some 19), none, (.mv (.t 9))⟩,
      ⟨(some 20), none, (.mv (.t 1))⟩,
      ⟨(some 21), none, (.len .slc (.t 20))⟩,
      ⟨(some 22), none, (.bin .int .lss (.t 19) (.t 21))⟩])
    (.cond (.t 22)
    .skip
    (.exit 0)))
    (.seq (.block 1 (.seq (.ops [⟨(some 25), none, (.mv (.t 8))⟩,
      ⟨(some 26), none, (.bin .int .add (.t 25) (.c (.v (.int .i64 1))))⟩,
      ⟨(some 8), none, (.mv (.t 26))⟩])
    (.seq (.seq (.ops [⟨(some 10), none, (.mv (.c (.v (.int .i64 0))))⟩])
    (.block 2 (.loop (.seq (.seq (.ops [⟨(some 27), none, (.mv (.t 10))⟩,
      ⟨(some 28), none, (.mv (.t 1))⟩,
      ⟨(some 29), none, (.mv (.t 9))⟩,
      ⟨(some 30), none, (.iaddr 1 (.t 28) (.t 29))⟩,
      ⟨(some 31), none, (.load false 1 (.t 30))⟩,
      ⟨(some 32), none, (.bin .int .lss (.t 27) (.t 31))⟩])
    (.cond (.t 32)
    .skip
    (.exit 2)))
    (.seq (.block 3 (.ops [⟨(some 35), none, (.mv (.t 8))⟩,
      ⟨(some 36), none, (.faddr 4 (.t 2))⟩,
      ⟨(some 37), none, (.load false 1 (.t 36))⟩,
      ⟨(some 38), none, (.mv (.t 10))⟩,
      ⟨(some 39), none, (.iaddr 5 (.t 37) (.t 38))⟩,
      ⟨(some 40), none, (.load true 5 (.t 39))⟩,
      ⟨(some 41), none, (.call (.c (.fn (.func 33) [] [])) [(.t 40)])⟩,
      ⟨(some 42), none, (.bin .int .add (.t 35) (.t 41))⟩,
      ⟨(some 8), none, (.mv (.t 42))⟩]))
    (.ops [⟨(some 33), none, (.mv (.t 10))⟩,
      ⟨(some 34), none, (.bin .int .add (.t 33) (.c (.v (.int .i64 1))))⟩,
      ⟨(some 10), none, (.mv (.t 34))⟩]))))))
    (.draw [⟨(some 43), none, (.faddr 4 (.t 2))⟩,
      ⟨(some 44), none, (.load false 1 (.t 43))⟩,
      ⟨(some 45), none, (.mv (.t 1))⟩,
      ⟨(some 46), none, (.mv (.t 9))⟩,
      ⟨(some 47), none, (.iaddr 1 (.t 45) (.t 46))⟩,
      ⟨(some 48), none, (.load false 1 (.t 47))⟩,
      ⟨(some 49), none, (.iaddr 5 (.t 44) (.t 48))⟩,
      ⟨(some 50), none, (.load true 5 (.t 49))⟩] [⟨none, none, (.store 5 (.t 2) (.t 50))⟩]))))
    (.ops [⟨(some 23), none, (.mv (.t 9))⟩,
      ⟨(some 24), none, (.bin .int .add (.t 23) (.c (.v (.int .i64 1))))⟩,
      ⟨(some 9), none, (.mv (.t 24))⟩]))))))
    (.seq (.ops [⟨(some 51), none, (.mv (.t 8))⟩,
      ⟨(some 4), none, (.mv (.t 51))⟩,
      ⟨(some 5), none, (.mv (.c (.v (.bool true))))⟩])
    .ret)))))⟩
theorem L30_ok : lowFn Try.prog Try.f30 [⟨13, 8, .tail⟩] = some L30 := by kernel_rfl

/-- assessor_tree.Find -/
def L31 : LFn := ⟨44, [(.tmp 4), (.tmp 5)], (.seq (.ops [⟨(some 2), none, (.box false (.t 0))⟩,
      ⟨(some 3), none, (.box false (.t 1))⟩,
      ⟨(some 4), none, (.mv (.c (.v (.int .i64 0))))⟩,
      ⟨(some 5), none, (.mv (.c (.v (.bool false))))⟩])
    (.seq (.ops [⟨(some 11), none, (.mkfn (.func 59) [] [(.t 3)])⟩,
      ⟨(some 6), none, (.mv (.t 11))⟩])
    (.seq (.seq (.ops [⟨(some 12), none, (.mv (.t 6))⟩,
      ⟨(some 13), none, (.load true 5 (.t 2))⟩,
      ⟨(some 14), none, (.call (.t 12) [(.t 13)])⟩,
      ⟨(some 15), none, (.not (.t 14))⟩])
    (.cond (.t 15)
    (.seq (.ops [⟨(some 4), none, (.mv (.c (.v (.int .i64 0))))⟩,
      ⟨(some 5), none, (.mv (.c (.v (.bool false))))⟩])
    .ret)
    .skip))
    (.seq (.ops [⟨(some 7), none, (.mv (.c (.v (.int .i64 0))))⟩])
    (.block 0 (.loop (.block 1 (.seq (.ops [⟨(some 16), none, (.faddr 4 (.t 2))⟩,
      ⟨(some 17), none, (.load false 1 (.t 16))⟩,
      ⟨(some 18), none, (.mv (.t 6))⟩,
      ⟨(some 19), none, (.call (.c (.fn (.func 60) [] [])) [(.t 17), (.t 18)])⟩,
      ⟨(some 8), none, (.mv (.t 19))⟩])
    (.seq (.seq (.ops [⟨(some 20), none, (.mv (.t 8))⟩,
      ⟨(some 21), none, (.bin .int .lss (.t 20) (.c (.v (.int .i64 0))))⟩])
    (.cond (.t 21)
    (.seq (.ops [⟨(some 22), none, (.mv (.t 7))⟩,
      ⟨(some 4), none, (.mv (.t 22))⟩,
      ⟨(some 5), none, (.mv (.c (.v (.bool true))))⟩])
    .ret)
    .skip))
    (.seq (.ops [⟨(some 23), none, (.mv (.t 7))⟩,
      ⟨(some 24), none, (.bin .int .add (.t 23) (.c (.v (.int .i64 1))))⟩,
      ⟨(some 7), none, (.mv (.t 24))⟩])
    (.seq (.seq (.ops [⟨(some 25), none, (.faddr 4 (.t 2))⟩,
      ⟨(some 26), none, (.load false 1 (.t 25))⟩,
      ⟨(some 27), none, (.mv (.t 8))⟩,
      ⟨(some 28), none, (.slice .slc 5 (.t 26) none (some (.t 27)))⟩,
      ⟨(some 29), none, (.len .slc (.t 28))⟩,
      ⟨(some 30), none, (.mv (.c (.v (.int .i64 0))))⟩])
    (.block 2 (.loop (.seq (.ops [⟨(some 31), none, (.bin .int .lss (.t 30) (.t 29))⟩])
    (.seq (.cond (.t 31)
    .skip
    (.exit 2))
    (.seq (.block 3 (.seq (.ops [⟨(some 32), none, (.iaddr 5 (.t 28) (.t 30))⟩,
      ⟨(some 33), none, (.load true 5 (.t 32))⟩,
      ⟨(some 10), none, (.alloc [(.v (.int .i64 0)), (.v (.string (mkS []))), (.v (.int .i64 0)), (.v (.int .i64 0)), (.v (.slice none 0 0))])⟩,
      ⟨none, none, (.store 5 (.t 10) (.t 33))⟩])
    (.ops [⟨(some 34), none, (.mv (.t 7))⟩,
      ⟨(some 35), none, (.load true 5 (.t 10))⟩,
      ⟨(some 36), none, (.call (.c (.fn (.func 23) [] [])) [(.t 35)])⟩,
      ⟨(some 37), none, (.bin .int .add (.t 34) (.t 36))⟩,
      ⟨(some 7), none, (.mv (.t 37))⟩])))
    (.ops [⟨(some 38), none, (.bin .int .add (.t 30) (.c (.v (.int .i64 1))))⟩,
      ⟨(some 30), none, (.mv (.t 38))⟩])))))))
    (.ops [⟨(some 39), none, (.faddr 4 (.t 2))⟩,
      ⟨(some 40), none, (.load false 1 (.t 39))⟩,
      ⟨(some 41), none, (.mv (.t 8))⟩,
      ⟨(some 42), none, (.iaddr 5 (.t 40) (.t 41))⟩,
      ⟨(some 43), none, (.load true 5 (.t 42))⟩,
      ⟨none, none, (.store 5 (.t 2) (.t 43))⟩]))))))))))))⟩
theorem L31_ok : lowFn Try.prog Try.f31 [] = some L31 := by kernel_rfl

/-- assessor_assessorref03.Find -/
def L32 : LFn := ⟨49, [(.tmp 4), (.tmp 5)], (.seq (.ops [⟨(some 2), none, (.box false (.t 0))⟩,
      ⟨(some 4), none, (.mv (.c (.v (.int .i64 0))))⟩,
      ⟨(some 5), none, (.mv (.c (.v (.bool false))))⟩])
    (.seq (.seq (.ops [⟨(some 10), none, (.mv (.t 1))⟩,
      ⟨(some 11), none, (.faddr 2 (.t 2))⟩,
      ⟨(some 12), none, (.load false 1 (.t 11))⟩,
      ⟨(some 13), none, (.bin .int .lss (.t 10) (.t 12))⟩,
      ⟨(some 14), none, (.mv (.t 13))⟩,
      ⟨(some 15), (some (14, false)), (.mv (.t 1))⟩,
      ⟨(some 16), (some (14, false)), (.faddr 3 (.t 2))⟩,
      ⟨(some 17), (some (14, false)), (.load false 1 (.t 16))⟩,
      ⟨(some 18), (some (14, false)), (.bin .int .geq (.t 15) (.t 17))⟩,
      ⟨(some 19), none, (.pick (.t 14) (.c (.v (.bool true))) (.t 18))⟩])
    (.cond (.t 19)
    (.seq (.ops [⟨(some 4), none, (.mv (.c (.v (.int .i64 0))))⟩,
      ⟨(some 5), none, (.mv (.c (.v (.bool false))))⟩])
    .ret)
    .skip))
    (.seq (.ops [⟨(some 6), none, (.mv (.c (.v (.int .i64 1))))⟩])
    (.seq (.seq (.ops [⟨(some 7), none, (.mv (.c (.v (.int .i64 0))))⟩])
    (.block 0 (.loop (.seq (.seq (.ops [⟨(some 20), none, (.mv (.t 7))⟩,
      ⟨(some 21), none, (.faddr 4 (.t 2))⟩,
      ⟨(some 22), none, (.load false 1 (.t 21))⟩,
      ⟨(some 23), none, (.len .slc (.t 22))⟩,
      ⟨(some 24), none, (.bin .int .lss (.t 20) (.t 23))⟩])
    (.cond (.t 24)
    .skip
    (.exit 0)))
    (.seq (.block 1 (.seq (.seq (.ops [⟨(some 28), none, (.faddr 4 (.t 2))⟩,
      ⟨(some 29), none, (.load false 1 (.t 28))⟩,
      ⟨(some 30), none, (.mv (.t 7))⟩,
      ⟨(some 31), none, (.iaddr 5 (.t 29) (.t 30))⟩,
      ⟨(some 32), none, (.load true 5 (.t 31))⟩,
      ⟨(some 33), none, (.mv (.t 1))⟩,
      ⟨(some 34), none, (.call (.c (.fn (.func 32) [] [])) [(.t 32), (.t 33)])⟩,
      ⟨(some 27), none, (.mv (.t 34))⟩,
      ⟨(some 35), none, (.ext (.t 27) 0)⟩,
      ⟨(some 36), none, (.ext (.t 27) 1)⟩,
      ⟨(some 8), none, (.mv (.t 35))⟩,
      ⟨(some 9), none, (.mv (.t 36))⟩])
    (.seq (.ops [⟨(some 37), none, (.mv (.t 9))⟩])
    (.cond (.t 37)
    (.seq (.ops [⟨(some 38), none, (.mv (.t 6))⟩,
      ⟨(some 39), none, (.mv (.t 8))⟩,
      ⟨(some 40), none, (.bin .int .add (.t 38) (.t 39))⟩,
      ⟨(some 4), none, (.mv (.t 40))⟩,
      ⟨(some 5), none, (.mv (.c (.v (.bool true))))⟩])
    .ret)
    .skip)))
    (.ops [⟨(some 41), none, (.mv (.t 6))⟩,
      ⟨(some 42), none, (.faddr 4 (.t 2))⟩,
      ⟨(some 43), none, (.load false 1 (.t 42))⟩,
      ⟨(some 44), none, (.mv (.t 7))⟩,
      ⟨(some 45), none, (.iaddr 5 (.t 43) (.t 44))⟩,
      ⟨(some 46), none, (.load true 5 (.t 45))⟩,
      ⟨(some 47), none, (.call (.c (.fn (.func 33) [] [])) [(.t 46)])⟩,
      ⟨(some 48), none, (.bin .int .add (.t 41) (.t 47))⟩,
      ⟨(some 6), none, (.mv (.t 48))⟩])))
    (.ops [⟨(some 25), none, (.mv (.t 7))⟩,
      ⟨(some 26), none, (.bin .int .add (.t 25) (.c (.v (.int .i64 1))))⟩,
      ⟨(some 7), none, (.mv (.t 26))⟩]))))))
    (.seq (.ops [⟨(some 4), none, (.mv (.c (.v (.int .i64 0))))⟩,
      ⟨(some 5), none, (.mv (.c (.v (.bool true))))⟩])
    .ret)))))⟩
theorem L32_ok : lowFn Try.prog Try.f32 [] = some L32 := by kernel_rfl

/-- assessor_assessorref03.Count -/
def L33 : LFn := ⟨21, [(.tmp 2)], (.seq (.ops [⟨(some 1), none, (.box false (.t 0))⟩,
      ⟨(some 2), none, (.mv (.c (.v (.int .i64 0))))⟩])
    (.seq (.ops [⟨(some 3), none, (.mv (.c (.v (.int .i64 1))))⟩])
    (.seq (.seq (.ops [⟨(some 4), none, (.mv (.c (.v (.int .i64 0))))⟩])
    (.block 0 (.loop (.seq (.seq (.ops [⟨(some 5), none, (.mv (.t 4))⟩,
      ⟨(some 6), none, (.faddr 4 (.t 1))⟩,
      ⟨(some 7), none, (.load false 1 (.t 6))⟩,
      ⟨(some 8), none, (.len .slc (.t 7))⟩,
      ⟨(some 9), none, (.bin .int .lss (.t 5) (.t 8))⟩])
    (.cond (.t 9)
    .skip
    (.exit 0)))
    (.seq (.block 1 (.ops [⟨(some 12), none, (.mv (.t 3))⟩,
      ⟨(some 13), none, (.faddr 4 (.t 1))⟩,
      ⟨(some 14), none, (.load false 1 (.t 13))⟩,
      ⟨(some 15), none, (.mv (.t 4))⟩,
      ⟨(some 16), none, (.iaddr 5 (.t 14) (.t 15))⟩,
      ⟨(some 17), none, (.load true 5 (.t 16))⟩,
      ⟨(some 18), none, (.call (.c (.fn (.func 33) [] [])) [(.t 17)])⟩,
      ⟨(some 19), none, (.bin .int .add (.t 12) (.t 18))⟩,
      ⟨(some 3), none, (.mv (.t 19))⟩]))
    (.ops [⟨(some 10), none, (.mv (.t 4))⟩,
      ⟨(some 11), none, (.bin .int .add (.t 10) (.c (.v (.int .i64 1))))⟩,
      ⟨(some 4), none, (.mv (.t 11))⟩]))))))
    (.seq (.ops [⟨(some 20), none, (.mv (.t 3))⟩,
      ⟨(some 2), none, (.mv (.t 20))⟩])
    .ret))))⟩
theorem L33_ok : lowFn Try.prog Try.f33 [] = some L33 := by kernel_rfl

/-- assessor_tree.Levels -/
def L34 : LFn := ⟨20, [(.tmp 2)], (.seq (.ops [⟨(some 1), none, (.box false (.t 0))⟩,
      ⟨(some 2), none, (.mv (.c (.v (.int .i64 0))))⟩])
    (.seq (.ops [⟨(some 3), none, (.mv (.c (.v (.int .i64 0))))⟩])
    (.seq (.seq (.ops [⟨(some 6), none, (.faddr 4 (.t 1))⟩,
      ⟨(some 7), none, (.load false 1 (.t 6))⟩,
      ⟨(some 8), none, (.len .slc (.t 7))⟩,
      ⟨(some 9), none, (.mv (.c (.v (.int .i64 0))))⟩])
    (.block 0 (.loop (.seq (.ops [⟨(some 10), none, (.bin .int .lss (.t 9) (.t 8))⟩])
    (.seq (.cond (.t 10)
    .skip
    (.exit 0))
    (.seq (.block 1 (.seq (.ops [⟨(some 11), none, (.iaddr 5 (.t 7) (.t 9))⟩,
      ⟨(some 12), none, (.load true 5 (.t 11))⟩,
      ⟨(some 5), none, (.alloc [(.v (.int .i64 0)), (.v (.string (mkS []))), (.v (.int .i64 0)), (.v (.int .i64 0)), (.v (.slice none 0 0))])⟩,
      ⟨none, none, (.store 5 (.t 5) (.t 12))⟩])
    (.ops [⟨(some 13), none, (.mv (.t 3))⟩,
      ⟨(some 14), none, (.load true 5 (.t 5))⟩,
      ⟨(some 15), none, (.call (.c (.fn (.func 34) [] [])) [(.t 14)])⟩,
      ⟨(some 16), none, (.max2 (.t 13) (.t 15))⟩,
      ⟨(some 3), none, (.mv (.t 16))⟩])))
    (.ops [⟨(some 17), none, (.bin .int .add (.t 9) (.c (.v (.int .i64 1))))⟩,
      ⟨(some 9), none, (.mv (.t 17))⟩])))))))
    (.seq (.ops [⟨(some 18), none, (.mv (.t 3))⟩,
      ⟨(some 19), none, (.bin .int .add (.t 18) (.c (.v (.int .i64 1))))⟩,
      ⟨(some 2), none, (.mv (.t 19))⟩])
    .ret))))⟩
theorem L34_ok : lowFn Try.prog Try.f34 [] = some L34 := by kernel_rfl

/-- assessor_assessorref03.Levels -/
def L35 : LFn := ⟨22, [(.tmp 2)], (.seq (.ops [⟨(some 1), none, (.box false (.t 0))⟩,
      ⟨(some 2), none, (.mv (.c (.v (.int .i64 0))))⟩])
    (.seq (.ops [⟨(some 3), none, (.mv (.c (.v (.int .i64 0))))⟩])
    (.seq (.seq (.ops [⟨(some 4), none, (.mv (.c (.v (.int .i64 0))))⟩])
    (.block 0 (.loop (.seq (.seq (.ops [⟨(some 5), none, (.mv (.t 4))⟩,
      ⟨(some 6), none, (.faddr 4 (.t 1))⟩,
      ⟨(some 7), none, (.load false 1 (.t 6))⟩,
      ⟨(some 8), none, (.len .slc (.t 7))⟩,
      ⟨(some 9), none, (.bin .int .lss (.t 5) (.t 8))⟩])
    (.cond (.t 9)
    .skip
    (.exit 0)))
    (.seq (.block 1 (.ops [⟨(some 12), none, (.mv (.t 3))⟩,
      ⟨(some 13), none, (.faddr 4 (.t 1))⟩,
      ⟨(some 14), none, (.load false 1 (.t 13))⟩,
      ⟨(some 15), none, (.mv (.t 4))⟩,
      ⟨(some 16), none, (.iaddr 5 (.t 14) (.t 15))⟩,
      ⟨(some 17), none, (.load true 5 (.t 16))⟩,
      ⟨(some 18), none, (.call (.c (.fn (.func 35) [] [])) [(.t 17)])⟩,
      ⟨(some 19), none, (.max2 (.t 12) (.t 18))⟩,
      ⟨(some 3), none, (.mv (.t 19))⟩]))
    (.ops [⟨(some 10), none, (.mv (.t 4))⟩,
      ⟨(some 11), none, (.bin .int .add (.t 10) (.c (.v (.int .i64 1))))⟩,
      ⟨(some 4), none, (.mv (.t 11))⟩]))))))
    (.seq (.ops [⟨(some 20), none, (.mv (.t 3))⟩,
      ⟨(some 21), none, (.bin .int .add (.t 20) (.c (.v (.int .i64 1))))⟩,
      ⟨(some 2), none, (.mv (.t 21))⟩])
    .ret))))⟩
theorem L35_ok : lowFn Try.prog Try.f35 [] = some L35 := by kernel_rfl

/-- assessor_assessorref03.Equal -/
def L36 : LFn := ⟨60, [(.tmp 4)], (.seq (.ops [⟨(some 2), none, (.box false (.t 0))⟩,
      ⟨(some 3), none, (.box false (.t 1))⟩,
      ⟨(some 4), none, (.mv (.c (.v (.bool false))))⟩])
    (.seq (.seq (.ops [⟨(some 6), none, (.faddr 0 (.t 2))⟩,
      ⟨(some 7), none, (.load false 1 (.t 6))⟩,
      ⟨(some 8), none, (.faddr 0 (.t 3))⟩,
      ⟨(some 9), none, (.load false 1 (.t 8))⟩,
      ⟨(some 10), none, (.bin .int .neq (.t 7) (.t 9))⟩,
      ⟨(some 11), none, (.mv (.t 10))⟩,
      ⟨(some 12), (some (11, false)), (.faddr 1 (.t 2))⟩,
      ⟨(some 13), (some (11, false)), (.load false 1 (.t 12))⟩,
      ⟨(some 14), (some (11, false)), (.faddr 1 (.t 3))⟩,
      ⟨(some 15), (some (11, false)), (.load false 1 (.t 14))⟩,
      ⟨(some 16), (some (11, false)), (.bin .str .neq (.t 13) (.t 15))⟩,
      ⟨(some 17), none, (.pick (.t 11) (.c (.v (.bool true))) (.t 16))⟩,
      ⟨(some 18), none, (.mv (.t 17))⟩,
      ⟨(some 19), (some (18, false)), (.faddr 2 (.t 2))⟩,
      ⟨(some 20), (some (18, false)), (.load false 1 (.t 19))⟩,
      ⟨(some 21), (some (18, false)), (.faddr 2 (.t 3))⟩,
      ⟨(some 22), (some (18, false)), (.load false 1 (.t 21))⟩,
      ⟨(some 23), (some (18, false)), (.bin .int .neq (.t 20) (.t 22))⟩,
      ⟨(some 24), none, (.pick (.t 18) (.c (.v (.bool true))) (.t 23))⟩,
      ⟨(some 25), none, (.mv (.t 24))⟩,
      ⟨(some 26), (some (25, false)), (.faddr 3 (.t 2))⟩,
      ⟨(some 27), (some (25, false)), (.load false 1 (.t 26))⟩,
      ⟨(some 28), (some (25, false)), (.faddr 3 (.t 3))⟩,
      ⟨(some 29), (some (25, false)), (.load false 1 (.t 28))⟩,
      ⟨(some 30), (some (25, false)), (.bin .int .neq (.t 27) (.t 29))⟩,
      ⟨(some 31), none, (.pick (.t 25) (.c (.v (.bool true))) (.t 30))⟩,
      ⟨(some 32), none, (.mv (.t 31))⟩,
      ⟨(some 33), (some (32, false)), (.faddr 4 (.t 2))⟩,
      ⟨(some 34), (some (32, false)), (.load false 1 (.t 33))⟩,
      ⟨(some 35), (some (32, false)), (.len .slc (.t 34))⟩,
      ⟨(some 36), (some (32, false)), (.faddr 4 (.t 3))⟩,
      ⟨(some 37), (some (32, false)), (.load false 1 (.t 36))⟩,
      ⟨(some 38), (some (32, false)), (.len .slc (.t 37))⟩,
      ⟨(some 39), (some (32, false)), (.bin .int .neq (.t 35) (.t 38))⟩,
      ⟨(some 40), none, (.pick (.t 32) (.c (.v (.bool true))) (.t 39))⟩])
    (.cond (.t 40)
    (.seq (.ops [⟨(some 4), none, (.mv (.c (.v (.bool false))))⟩])
    .ret)
    .skip))
    (.seq (.seq (.ops [⟨(some 5), none, (.mv (.c (.v (.int .i64 0))))⟩])
    (.block 0 (.loop (.seq (.seq (.ops [⟨(some 41), none, (.mv (.t 5))⟩,
      ⟨(some 42), none, (.faddr 4 (.t 2))⟩,
      ⟨(some 43), none, (.load false 1 (.t 42))⟩,
      ⟨(some 44), none, (.len .slc (.t 43))⟩,
      ⟨(some 45), none, (.bin .int .lss (.t 41) (.t 44))⟩])
    (.cond (.t 45)
    .skip
    (.exit 0)))
    (.seq (.block 1 (.seq (.draw [⟨(some 48), none, (.faddr 4 (.t 2))⟩,
      ⟨(some 49), none, (.load false 1 (.t 48))⟩,
      ⟨(some 50), none, (.mv (.t 5))⟩,
      ⟨(some 51), none, (.iaddr 5 (.t 49) (.t 50))⟩,
      ⟨(some 52), none, (.load true 5 (.t 51))⟩,
      ⟨(some 53), none, (.faddr 4 (.t 3))⟩,
      ⟨(some 54), none, (.load false 1 (.t 53))⟩,
      ⟨(some 55), none, (.mv (.t 5))⟩,
      ⟨(some 56), none, (.iaddr 5 (.t 54) (.t 55))⟩,
      ⟨(some 57), none, (.load true 5 (.t 56))⟩,
      ⟨(some 58), none, (.call (.c (.fn (.func 36) [] [])) [(.t 52), (.t 57)])⟩,
      ⟨(some 59), none, (.not (.t 58))⟩] [])
    (.cond (.t 59)
    (.seq (.ops [⟨(some 4), none, (.mv (.c (.v (.bool false))))⟩])
    .ret)
    .skip)))
    (.ops [⟨(some 46), none, (.mv (.t 5))⟩,
      ⟨(some 47), none, (.bin .int .add (.t 46) (.c (.v (.int .i64 1))))⟩,
      ⟨(some 5), none, (.mv (.t 47))⟩]))))))
    (.seq (.ops [⟨(some 4), none, (.mv (.c (.v (.bool true))))⟩])
    .ret))))⟩
theorem L36_ok : lowFn Try.prog Try.f36 [] = some L36 := by kernel_rfl

/-- assessor_assessorref01.Ints -/
def L37 : LFn := ⟨26, [(.tmp 4)], (.seq (.ops [⟨(some 4), none, (.mv (.c (.v (.bool false))))⟩])
    (.seq (.seq (.ops [⟨(some 6), none, (.mv (.t 0))⟩,
      ⟨(some 7), none, (.len .slc (.t 6))⟩,
      ⟨(some 8), none, (.mv (.t 1))⟩,
      ⟨(some 9), none, (.len .slc (.t 8))⟩,
      ⟨(some 10), none, (.bin .int .neq (.t 7) (.t 9))⟩])
    (.cond (.t 10)
    (.seq (.ops [⟨(some 4), none, (.mv (.c (.v (.bool false))))⟩])
    .ret)
    .skip))
    (.seq (.seq (.ops [⟨(some 5), none, (.mv (.c (.v (.int .i64 0))))⟩])
    (.block 0 (.loop (.seq (.seq (.ops [⟨(some 11), none, (.mv (.t 5))⟩,
      ⟨(some 12), none, (.mv (.t 0))⟩,
      ⟨(some 13), none, (.len .slc (.t 12))⟩,
      ⟨(some 14), none, (.bin .int .lss (.t 11) (.t 13))⟩])
    (.cond (.t 14)
    .skip
    (.exit 0)))
    (.seq (.block 1 (.seq (.draw [⟨(some 17), none, (.mv (.t 0))⟩,
      ⟨(some 18), none, (.mv (.t 5))⟩,
      ⟨(some 19), none, (.iaddr 1 (.t 17) (.t 18))⟩,
      ⟨(some 20), none, (.load false 1 (.t 19))⟩,
      ⟨(some 21), none, (.mv (.t 1))⟩,
      ⟨(some 22), none, (.mv (.t 5))⟩,
      ⟨(some 23), none, (.iaddr 1 (.t 21) (.t 22))⟩,
      ⟨(some 24), none, (.load false 1 (.t 23))⟩,
      ⟨(some 25), none, (.bin .int .neq (.t 20) (.t 24))⟩] [])
    (.cond (.t 25)
    (.seq (.ops [⟨(some 4), none, (.mv (.c (.v (.bool false))))⟩])
    .ret)
    .skip)))
    (.ops [⟨(some 15), none, (.mv (.t 5))⟩,
      ⟨(some 16), none, (.bin .int .add (.t 15) (.c (.v (.int .i64 1))))⟩,
      ⟨(some 5), none, (.mv (.t 16))⟩]))))))
    (.seq (.ops [⟨(some 4), none, (.mv (.c (.v (.bool true))))⟩])
    .ret))))⟩
theorem L37_ok : lowFn Try.prog Try.f37 [] = some L37 := by kernel_rfl

/-- assessor_tree.Replace -/
def L38 : LFn := ⟨60, [(.cell 10 true 5), (.tmp 11)], (.seq (.ops [⟨(some 5), none, (.box false (.t 0))⟩,
      ⟨(some 10), none, (.alloc [(.v (.int .i64 0)), (.v (.string (mkS []))), (.v (.int .i64 0)), (.v (.int .i64 0)), (.v (.slice none 0 0))])⟩,
      ⟨(some 11), none, (.mv (.c (.v (.int .i64 0))))⟩])
    (.seq (.ops [⟨(some 15), none, (.load true 5 (.t 5))⟩,
      ⟨(some 16), none, (.mv (.t 1))⟩,
      ⟨(some 17), none, (.call (.c (.fn (.func 25) [] [])) [(.t 15), (.t 16)])⟩,
      ⟨(some 14), none, (.mv (.t 17))⟩,
      ⟨(some 18), none, (.ext (.t 14) 0)⟩,
      ⟨(some 19), none, (.ext (.t 14) 1)⟩,
      ⟨(some 12), none, (.alloc [(.v (.int .i64 0)), (.v (.string (mkS []))), (.v (.int .i64 0)), (.v (.int .i64 0)), (.v (.slice none 0 0))])⟩,
      ⟨none, none, (.store 5 (.t 12) (.t 18))⟩,
      ⟨(some 13), none, (.mv (.t 19))⟩])
    (.seq (.block 0 (.seq (.ops [⟨(some 21), none, (.mv (.t 13))⟩,
      ⟨(some 22), none, (.not (.t 21))⟩,
      ⟨(some 20), none, (.mv (.t 22))⟩])
    (.cond (.t 20)
    (.seq (.ops [⟨(some 23), none, (.build [(.v (.int .i64 0)), (.v (.string (mkS []))), (.v (.int .i64 0)), (.v (.int .i64 0)), (.v (.slice none 0 0))] [])⟩,
      ⟨none, none, (.store 5 (.t 10) (.t 23))⟩,
      ⟨(some 11), none, (.mv (.c (.v (.int .i64 7))))⟩])
    .ret)
    (.seq (.ops [⟨(some 25), none, (.mv (.t 2))⟩,
      ⟨(some 26), none, (.bin .int .lss (.t 25) (.c (.v (.int .i64 0))))⟩,
      ⟨(some 27), none, (.mv (.t 26))⟩,
      ⟨(some 28), (some (27, false)), (.mv (.t 2))⟩,
      ⟨(some 29), (some (27, false)), (.mv (.t 3))⟩,
      ⟨(some 30), (some (27, false)), (.bin .int .gtr (.t 28) (.t 29))⟩,
      ⟨(some 31), none, (.pick (.t 27) (.c (.v (.bool true))) (.t 30))⟩,
      ⟨(some 32), none, (.mv (.t 31))⟩,
      ⟨(some 33), (some (32, false)), (.mv (.t 3))⟩,
      ⟨(some 34), (some (32, false)), (.faddr 4 (.t 12))⟩,
      ⟨(some 35), (some (32, false)), (.load false 1 (.t 34))⟩,
      ⟨(some 36), (some (32, false)), (.len .slc (.t 35))⟩,
      ⟨(some 37), (some (32, false)), (.bin .int .gtr (.t 33) (.t 36))⟩,
      ⟨(some 38), none, (.pick (.t 32) (.c (.v (.bool true))) (.t 37))⟩,
      ⟨(some 24), none, (.mv (.t 38))⟩])
    (.cond (.t 24)
    (.seq (.ops [⟨(some 39), none, (.build [(.v (.int .i64 0)), (.v (.string (mkS []))), (.v (.int .i64 0)), (.v (.int .i64 0)), (.v (.slice none 0 0))] [])⟩,
      ⟨none, none, (.store 5 (.t 10) (.t 39))⟩,
      ⟨(some 11), none, (.mv (.c (.v (.int .i64 2))))⟩])
    .ret)
    (.seq (.ops [⟨(some 41), none, (.faddr 0 (.t 12))⟩,
      ⟨(some 42), none, (.load false 1 (.t 41))⟩,
      ⟨(some 43), none, (.call (.c (.fn (.func 19) [] [])) [(.t 42)])⟩,
      ⟨(some 44), none, (.not (.t 43))⟩,
      ⟨(some 45), none, (.mv (.t 44))⟩,
      ⟨(some 46), (some (45, true)), (.mv (.t 4))⟩,
      ⟨(some 47), (some (45, true)), (.len .slc (.t 46))⟩,
      ⟨(some 48), (some (45, true)), (.mv (.t 3))⟩,
      ⟨(some 49), (some (45, true)), (.mv (.t 2))⟩,
      ⟨(some 50), (some (45, true)), (.bin .int .sub (.t 48) (.t 49))⟩,
      ⟨(some 51), (some (45, true)), (.bin .int .neq (.t 47) (.t 50))⟩,
      ⟨(some 52), none, (.pick (.t 45) (.t 51) (.c (.v (.bool false))))⟩,
      ⟨(some 40), none, (.mv (.t 52))⟩])
    (.cond (.t 40)
    (.seq (.ops [⟨(some 53), none, (.build [(.v (.int .i64 0)), (.v (.string (mkS []))), (.v (.int .i64 0)), (.v (.int .i64 0)), (.v (.slice none 0 0))] [])⟩,
      ⟨none, none, (.store 5 (.t 10) (.t 53))⟩,
      ⟨(some 11), none, (.mv (.c (.v (.int .i64 1))))⟩])
    .ret)
    .skip)))))))
    (.seq (.ops [⟨(some 54), none, (.load true 5 (.t 5))⟩,
      ⟨(some 55), none, (.mv (.t 1))⟩,
      ⟨(some 56), none, (.mv (.t 2))⟩,
      ⟨(some 57), none, (.mv (.t 3))⟩,
      ⟨(some 58), none, (.mv (.t 4))⟩,
      ⟨(some 59), none, (.call (.c (.fn (.func 61) [] [])) [(.t 54), (.t 55), (.t 56), (.t 57), (.t 58)])⟩,
      ⟨none, none, (.store 5 (.t 10) (.t 59))⟩,
      ⟨(some 11), none, (.mv (.c (.v (.int .i64 0))))⟩])
    .ret))))⟩
theorem L38_ok : lowFn Try.prog Try.f38 [] = some L38 := by kernel_rfl

/-- assessor_assessorref03.Replace -/
def L39 : LFn := ⟨57, [(.cell 10 true 5), (.tmp 11)], (.seq (.ops [⟨(some 5), none, (.box false (.t 0))⟩,
      ⟨(some 10), none, (.alloc [(.v (.int .i64 0)), (.v (.string (mkS []))), (.v (.int .i64 0)), (.v (.int .i64 0)), (.v (.slice none 0 0))])⟩,
      ⟨(some 11), none, (.mv (.c (.v (.int .i64 0))))⟩])
    (.seq (.ops [⟨(some 15), none, (.load true 5 (.t 5))⟩,
      ⟨(some 16), none, (.mv (.t 1))⟩,
      ⟨(some 17), none, (.call (.c (.fn (.func 26) [] [])) [(.t 15), (.t 16)])⟩,
      ⟨(some 14), none, (.mv (.t 17))⟩,
      ⟨(some 18), none, (.ext (.t 14) 0)⟩,
      ⟨(some 19), none, (.ext (.t 14) 1)⟩,
      ⟨(some 12), none, (.alloc [(.v (.int .i64 0)), (.v (.string (mkS []))), (.v (.int .i64 0)), (.v (.int .i64 0)), (.v (.slice none 0 0))])⟩,
      ⟨none, none, (.store 5 (.t 12) (.t 18))⟩,
      ⟨(some 13), none, (.mv (.t 19))⟩])
    (.seq (.seq (.ops [⟨(some 20), none, (.mv (.t 13))⟩,
      ⟨(some 21), none, (.not (.t 20))⟩])
    (.cond (.t 21)
    (.seq (.ops [⟨(some 22), none, (.build [(.v (.int .i64 0)), (.v (.string (mkS []))), (.v (.int .i64 0)), (.v (.int .i64 0)), (.v (.slice none 0 0))] [])⟩,
      ⟨none, none, (.store 5 (.t 10) (.t 22))⟩,
      ⟨(some 11), none, (.mv (.c (.v (.int .i64 7))))⟩])
    .ret)
    .skip))
    (.seq (.seq (.ops [⟨(some 23), none, (.mv (.t 2))⟩,
      ⟨(some 24), none, (.bin .int .lss (.t 23) (.c (.v (.int .i64 0))))⟩,
      ⟨(some 25), none, (.mv (.t 24))⟩,
      ⟨(some 26), (some (25, false)), (.mv (.t 3))⟩,
      ⟨(some 27), (some (25, false)), (.mv (.t 2))⟩,
      ⟨(some 28), (some (25, false)), (.bin .int .lss (.t 26) (.t 27))⟩,
      ⟨(some 29), none, (.pick (.t 25) (.c (.v (.bool true))) (.t 28))⟩,
      ⟨(some 30), none, (.mv (.t 29))⟩,
      ⟨(some 31), (some (30, false)), (.mv (.t 3))⟩,
      ⟨(some 32), (some (30, false)), (.faddr 4 (.t 12))⟩,
      ⟨(some 33), (some (30, false)), (.load false 1 (.t 32))⟩,
      ⟨(some 34), (some (30, false)), (.len .slc (.t 33))⟩,
      ⟨(some 35), (some (30, false)), (.bin .int .gtr (.t 31) (.t 34))⟩,
      ⟨(some 36), none, (.pick (.t 30) (.c (.v (.bool true))) (.t 35))⟩])
    (.cond (.t 36)
    (.seq (.ops [⟨(some 37), none, (.build [(.v (.int .i64 0)), (.v (.string (mkS []))), (.v (.int .i64 0)), (.v (.int .i64 0)), (.v (.slice none 0 0))] [])⟩,
      ⟨none, none, (.store 5 (.t 10) (.t 37))⟩,
      ⟨(some 11), none, (.mv (.c (.v (.int .i64 2))))⟩])
    .ret)
    .skip))
    (.seq (.seq (.ops [⟨(some 38), none, (.faddr 0 (.t 12))⟩,
      ⟨(some 39), none, (.load false 1 (.t 38))⟩,
      ⟨(some 40), none, (.call (.c (.fn (.func 20) [] [])) [(.t 39)])⟩,
      ⟨(some 41), none, (.not (.t 40))⟩,
      ⟨(some 42), none, (.mv (.t 41))⟩,
      ⟨(some 43), (some (42, true)), (.mv (.t 4))⟩,
      ⟨(some 44), (some (42, true)), (.len .slc (.t 43))⟩,
      ⟨(some 45), (some (42, true)), (.mv (.t 3))⟩,
      ⟨(some 46), (some (42, true)), (.mv (.t 2))⟩,
      ⟨(some 47), (some (42, true)), (.bin .int .sub (.t 45) (.t 46))⟩,
      ⟨(some 48), (some (42, true)), (.bin .int .neq (.t 44) (.t 47))⟩,
      ⟨(some 49), none, (.pick (.t 42) (.t 48) (.c (.v (.bool false))))⟩])
    (.cond (.t 49)
    (.seq (.ops [⟨(some 50), none, (.build [(.v (.int .i64 0)), (.v (.string (mkS []))), (.v (.int .i64 0)), (.v (.int .i64 0)), (.v (.slice none 0 0))] [])⟩,
      ⟨none, none, (.store 5 (.t 10) (.t 50))⟩,
      ⟨(some 11), none, (.mv (.c (.v (.int .i64 1))))⟩])
    .ret)
    .skip))
    (.seq (.ops [⟨(some 51), none, (.load true 5 (.t 5))⟩,
      ⟨(some 52), none, (.mv (.t 1))⟩,
      ⟨(some 53), none, (.mv (.t 2))⟩,
      ⟨(some 54), none, (.mv (.t 3))⟩,
      ⟨(some 55), none, (.mv (.t 4))⟩,
      ⟨(some 56), none, (.call (.c (.fn (.func 62) [] [])) [(.t 51), (.t 52), (.t 53), (.t 54), (.t 55)])⟩,
      ⟨none, none, (.store 5 (.t 10) (.t 56))⟩,
      ⟨(some 11), none, (.mv (.c (.v (.int .i64 0))))⟩])
    .ret))))))⟩
theorem L39_ok : lowFn Try.prog Try.f39 [] = some L39 := by kernel_rfl

/-- assessor_assessorref03.Same -/
def L40 : LFn := ⟨46, [(.tmp 4)], (.seq (.ops [⟨(some 2), none, (.box false (.t 0))⟩,
      ⟨(some 3), none, (.box false (.t 1))⟩,
      ⟨(some 4), none, (.mv (.c (.v (.bool false))))⟩])
    (.seq (.seq (.ops [⟨(some 6), none, (.faddr 0 (.t 2))⟩,
      ⟨(some 7), none, (.load false 1 (.t 6))⟩,
      ⟨(some 8), none, (.faddr 0 (.t 3))⟩,
      ⟨(some 9), none, (.load false 1 (.t 8))⟩,
      ⟨(some 10), none, (.bin .int .neq (.t 7) (.t 9))⟩,
      ⟨(some 11), none, (.mv (.t 10))⟩,
      ⟨(some 12), (some (11, false)), (.faddr 1 (.t 2))⟩,
      ⟨(some 13), (some (11, false)), (.load false 1 (.t 12))⟩,
      ⟨(some 14), (some (11, false)), (.faddr 1 (.t 3))⟩,
      ⟨(some 15), (some (11, false)), (.load false 1 (.t 14))⟩,
      ⟨(some 16), (some (11, false)), (.bin .str .neq (.t 13) (.t 15))⟩,
      ⟨(some 17), none, (.pick (.t 11) (.c (.v (.bool true))) (.t 16))⟩,
      ⟨(some 18), none, (.mv (.t 17))⟩,
      ⟨(some 19), (some (18, false)), (.faddr 4 (.t 2))⟩,
      ⟨(some 20), (some (18, false)), (.load false 1 (.t 19))⟩,
      ⟨(some 21), (some (18, false)), (.len .slc (.t 20))⟩,
      ⟨(some 22), (some (18, false)), (.faddr 4 (.t 3))⟩,
      ⟨(some 23), (some (18, false)), (.load false 1 (.t 22))⟩,
      ⟨(some 24), (some (18, false)), (.len .slc (.t 23))⟩,
      ⟨(some 25), (some (18, false)), (.bin .int .neq (.t 21) (.t 24))⟩,
      ⟨(some 26), none, (.pick (.t 18) (.c (.v (.bool true))) (.t 25))⟩])
    (.cond (.t 26)
    (.seq (.ops [⟨(some 4), none, (.mv (.c (.v (.bool false))))⟩])
    .ret)
    .skip))
    (.seq (.seq (.ops [⟨(some 5), none, (.mv (.c (.v (.int .i64 0))))⟩])
    (.block 0 (.loop (.seq (.seq (.ops [⟨(some 27), none, (.mv (.t 5))⟩,
      ⟨(some 28), none, (.faddr 4 (.t 2))⟩,
      ⟨(some 29), none, (.load false 1 (.t 28))⟩,
      ⟨(some 30), none, (.len .slc (.t 29))⟩,
      ⟨(some 31), none, (.bin .int .lss (.t 27) (.t 30))⟩])
    (.cond (.t 31)
    .skip
    (.exit 0)))
    (.seq (.block 1 (.seq (.draw [⟨(some 34), none, (.faddr 4 (.t 2))⟩,
      ⟨(some 35), none, (.load false 1 (.t 34))⟩,
      ⟨(some 36), none, (.mv (.t 5))⟩,
      ⟨(some 37), none, (.iaddr 5 (.t 35) (.t 36))⟩,
      ⟨(some 38), none, (.load true 5 (.t 37))⟩,
      ⟨(some 39), none, (.faddr 4 (.t 3))⟩,
      ⟨(some 40), none, (.load false 1 (.t 39))⟩,
      ⟨(some 41), none, (.mv (.t 5))⟩,
      ⟨(some 42), none, (.iaddr 5 (.t 40) (.t 41))⟩,
      ⟨(some 43), none, (.load true 5 (.t 42))⟩,
      ⟨(some 44), none, (.call (.c (.fn (.func 40) [] [])) [(.t 38), (.t 43)])⟩,
      ⟨(some 45), none, (.not (.t 44))⟩] [])
    (.cond (.t 45)
    (.seq (.ops [⟨(some 4), none, (.mv (.c (.v (.bool false))))⟩])
    .ret)
    .skip)))
    (.ops [⟨(some 32), none, (.mv (.t 5))⟩,
      ⟨(some 33), none, (.bin .int .add (.t 32) (.c (.v (.int .i64 1))))⟩,
      ⟨(some 5), none, (.mv (.t 33))⟩]))))))
    (.seq (.ops [⟨(some 4), none, (.mv (.c (.v (.bool true))))⟩])
    .ret))))⟩
theorem L40_ok : lowFn Try.prog Try.f40 [] = some L40 := by kernel_rfl

/-- assessor_assessorlaw03.example -/
def L49 : LFn := ⟨9, [(.cell 0 true 5)], (.seq (.ops [⟨(some 0), none, (.alloc [(.v (.int .i64 0)), (.v (.string (mkS []))), (.v (.int .i64 0)), (.v (.int .i64 0)), (.v (.slice none 0 0))])⟩])
    (.seq (.ops [⟨(some 2), none, (.build [(.v (.int .i64 0)), (.v (.string (mkS []))), (.v (.int .i64 0)), (.v (.int .i64 0)), (.v (.slice none 0 0))] [(0, (1, (.c (.v (.int .i64 20))))), (1, (1, (.c (.v (.string (mkS [120])))))), (2, (1, (.c (.v (.int .i64 1))))), (3, (1, (.c (.v (.int .i64 2)))))])⟩,
      ⟨(some 3), none, (.bsl true 5 1 [(.v (.int .i64 0)), (.v (.string (mkS []))), (.v (.int .i64 0)), (.v (.int .i64 0)), (.v (.slice none 0 0))] [(0, (.t 2))])⟩,
      ⟨(some 4), none, (.build [(.v (.int .i64 0)), (.v (.string (mkS []))), (.v (.int .i64 0)), (.v (.int .i64 0)), (.v (.slice none 0 0))] [(0, (1, (.c (.v (.int .i64 28))))), (1, (1, (.c (.v (.string (mkS [45])))))), (2, (1, (.c (.v (.int .i64 0))))), (3, (1, (.c (.v (.int .i64 2))))), (4, (1, (.t 3)))])⟩,
      ⟨(some 1), none, (.alloc [(.v (.int .i64 0)), (.v (.string (mkS []))), (.v (.int .i64 0)), (.v (.int .i64 0)), (.v (.slice none 0 0))])⟩,
      ⟨none, none, (.store 5 (.t 1) (.t 4))⟩])
    (.seq (.ops [⟨(some 5), none, (.load true 5 (.t 1))⟩,
      ⟨(some 6), none, (.build [(.v (.int .i64 0)), (.v (.string (mkS []))), (.v (.int .i64 0)), (.v (.int .i64 0)), (.v (.slice none 0 0))] [(0, (1, (.c (.v (.int .i64 24))))), (1, (1, (.c (.v (.string (mkS [49])))))), (2, (1, (.c (.v (.int .i64 5))))), (3, (1, (.c (.v (.int .i64 6)))))])⟩,
      ⟨(some 7), none, (.bsl true 5 2 [(.v (.int .i64 0)), (.v (.string (mkS []))), (.v (.int .i64 0)), (.v (.int .i64 0)), (.v (.slice none 0 0))] [(0, (.t 5)), (1, (.t 6))])⟩,
      ⟨(some 8), none, (.build [(.v (.int .i64 0)), (.v (.string (mkS []))), (.v (.int .i64 0)), (.v (.int .i64 0)), (.v (.slice none 0 0))] [(0, (1, (.c (.v (.int .i64 29))))), (1, (1, (.c (.v (.string (mkS [43])))))), (2, (1, (.c (.v (.int .i64 0))))), (3, (1, (.c (.v (.int .i64 6))))), (4, (1, (.t 7)))])⟩,
      ⟨none, none, (.store 5 (.t 0) (.t 8))⟩])
    .ret)))⟩
theorem L49_ok : lowFn Try.prog Try.f49 [⟨1, 1, .imm⟩, ⟨2, 2, .imm⟩] = some L49 := by kernel_rfl

/-- assessor_tree.shaped -/
def L50 : LFn := ⟨49, [(.tmp 2)], (.seq (.ops [⟨(some 1), none, (.box false (.t 0))⟩,
      ⟨(some 2), none, (.mv (.c (.v (.bool false))))⟩])
    (.seq (.ops [⟨(some 8), none, (.call (.c (.fn (.func 56) [] [])) [])⟩,
      ⟨(some 3), none, (.alloc [(.v (.map none))])⟩,
      ⟨none, none, (.store 1 (.t 3) (.t 8))⟩])
    (.seq (.ops [⟨(some 4), none, (.alloc [(.v (.bool false))])⟩,
      ⟨none, none, (.store 1 (.t 4) (.c (.v (.bool true))))⟩])
    (.seq (.seq (.ops [⟨(some 9), none, (.load true 5 (.t 1))⟩,
      ⟨(some 10), none, (.call (.c (.fn (.func 58) [] [])) [(.t 9)])⟩])
    (.block 0 (.range (.t 10) [11] (.ops [⟨(some 5), none, (.alloc [(.v (.int .i64 0)), (.v (.string (mkS []))), (.v (.int .i64 0)), (.v (.int .i64 0)), (.v (.slice none 0 0))])⟩,
      ⟨none, none, (.store 5 (.t 5) (.t 11))⟩]) (.block 1 (.seq (.ops [⟨(some 13), none, (.load false 1 (.t 3))⟩,
      ⟨(some 14), none, (.faddr 0 (.t 5))⟩,
      ⟨(some 15), none, (.load false 1 (.t 14))⟩,
      ⟨(some 16), none, (.look .int (.agg [(.v .nilFunc), (.v (.slice none 0 0)), (.v .nilFunc), (.v (.int .i64 0))]) true (.t 13) (.t 15))⟩,
      ⟨(some 12), none, (.mv (.t 16))⟩,
      ⟨(some 17), none, (.ext (.t 12) 0)⟩,
      ⟨(some 18), none, (.ext (.t 12) 1)⟩,
      ⟨(some 6), none, (.alloc [(.v .nilFunc), (.v (.slice none 0 0)), (.v .nilFunc), (.v (.int .i64 0))])⟩,
      ⟨none, none, (.store 4 (.t 6) (.t 17))⟩,
      ⟨(some 7), none, (.mv (.t 18))⟩])
    (.seq (.ops [⟨(some 19), none, (.load false 1 (.t 4))⟩,
      ⟨(some 20), none, (.mv (.t 19))⟩,
      ⟨(some 21), (some (20, true)), (.mv (.t 7))⟩,
      ⟨(some 22), none, (.pick (.t 20) (.t 21) (.c (.v (.bool false))))⟩,
      ⟨(some 23), none, (.mv (.t 22))⟩,
      ⟨(some 24), (some (23, true)), (.load true 4 (.t 6))⟩,
      ⟨(some 25), (some (23, true)), (.load true 5 (.t 5))⟩,
      ⟨(some 26), (some (23, true)), (.call (.c (.fn (.func 75) [] [])) [(.t 24), (.t 25)])⟩,
      ⟨(some 27), none, (.pick (.t 23) (.t 26) (.c (.v (.bool false))))⟩,
      ⟨none, none, (.store 1 (.t 4) (.t 27))⟩])
    (.seq (.ops [⟨(some 28), none, (.faddr 0 (.t 5))⟩,
      ⟨(some 29), none, (.load false 1 (.t 28))⟩,
      ⟨(some 30), none, (.bin .int .eql (.t 29) (.c (.v (.int .i64 4))))⟩,
      ⟨(some 31), none, (.mv (.t 30))⟩,
      ⟨(some 32), (some (31, true)), (.load false 1 (.t 4))⟩,
      ⟨(some 33), none, (.pick (.t 31) (.t 32) (.c (.v (.bool false))))⟩])
    (.cond (.t 33)
    (.ops [⟨(some 34), none, (.faddr 4 (.t 5))⟩,
      ⟨(some 35), none, (.load false 1 (.t 34))⟩,
      ⟨(some 36), none, (.iaddr 5 (.t 35) (.c (.v (.int .i64 0))))⟩,
      ⟨(some 37), none, (.faddr 1 (.t 36))⟩,
      ⟨(some 38), none, (.load false 1 (.t 37))⟩,
      ⟨(some 39), none, (.bin .str .eql (.t 38) (.c (.v (.string (mkS [105, 110, 116])))))⟩,
      ⟨(some 40), none, (.mv (.t 39))⟩,
      ⟨(some 41), (some (40, false)), (.faddr 4 (.t 5))⟩,
      ⟨(some 42), (some (40, false)), (.load false 1 (.t 41))⟩,
      ⟨(some 43), (some (40, false)), (.iaddr 5 (.t 42) (.c (.v (.int .i64 0))))⟩,
      ⟨(some 44), (some (40, false)), (.faddr 1 (.t 43))⟩,
      ⟨(some 45), (some (40, false)), (.load false 1 (.t 44))⟩,
      ⟨(some 46), (some (40, false)), (.bin .str .eql (.t 45) (.c (.v (.string (mkS [98, 111, 111, 108])))))⟩,
      ⟨(some 47), none, (.pick (.t 40) (.c (.v (.bool true))) (.t 46))⟩,
      ⟨none, none, (.store 1 (.t 4) (.t 47))⟩])
    .skip))))))))
    (.seq (.ops [⟨(some 48), none, (.load false 1 (.t 4))⟩,
      ⟨(some 2), none, (.mv (.t 48))⟩])
    .ret)))))⟩
theorem L50_ok : lowFn Try.prog Try.f50 [] = some L50 := by kernel_rfl

/-- assessor_assessorref03.Shape -/
def L51 : LFn := ⟨68, [(.tmp 2)], (.seq (.ops [⟨(some 1), none, (.box false (.t 0))⟩,
      ⟨(some 2), none, (.mv (.c (.v (.bool false))))⟩])
    (.seq (.seq (.ops [⟨(some 6), none, (.faddr 0 (.t 1))⟩,
      ⟨(some 7), none, (.load false 1 (.t 6))⟩,
      ⟨(some 8), none, (.bin .int .lss (.t 7) (.c (.v (.int .i64 0))))⟩,
      ⟨(some 9), none, (.mv (.t 8))⟩,
      ⟨(some 10), (some (9, false)), (.faddr 0 (.t 1))⟩,
      ⟨(some 11), (some (9, false)), (.load false 1 (.t 10))⟩,
      ⟨(some 12), (some (9, false)), (.bin .int .eql (.t 11) (.c (.v (.int .i64 1))))⟩,
      ⟨(some 13), none, (.pick (.t 9) (.c (.v (.bool true))) (.t 12))⟩,
      ⟨(some 14), none, (.mv (.t 13))⟩,
      ⟨(some 15), (some (14, false)), (.faddr 0 (.t 1))⟩,
      ⟨(some 16), (some (14, false)), (.load false 1 (.t 15))⟩,
      ⟨(some 17), (some (14, false)), (.bin .int .gtr (.t 16) (.c (.v (.int .i64 29))))⟩,
      ⟨(some 18), none, (.pick (.t 14) (.c (.v (.bool true))) (.t 17))⟩,
      ⟨(some 19), none, (.mv (.t 18))⟩,
      ⟨(some 20), (some (19, false)), (.load true 5 (.t 1))⟩,
      ⟨(some 21), (some (19, false)), (.call (.c (.fn (.func 76) [] [])) [(.t 20)])⟩,
      ⟨(some 22), (some (19, false)), (.not (.t 21))⟩,
      ⟨(some 23), none, (.pick (.t 19) (.c (.v (.bool true))) (.t 22))⟩])
    (.cond (.t 23)
    (.seq (.ops [⟨(some 2), none, (.mv (.c (.v (.bool false))))⟩])
    .ret)
    .skip))
    (.seq (.ops [⟨(some 25), none, (.faddr 0 (.t 1))⟩,
      ⟨(some 26), none, (.load false 1 (.t 25))⟩,
      ⟨(some 27), none, (.call (.c (.fn (.func 77) [] [])) [(.t 26)])⟩,
      ⟨(some 24), none, (.mv (.t 27))⟩,
      ⟨(some 28), none, (.ext (.t 24) 0)⟩,
      ⟨(some 29), none, (.ext (.t 24) 1)⟩,
      ⟨(some 3), none, (.mv (.t 28))⟩,
      ⟨(some 4), none, (.mv (.t 29))⟩])
    (.seq (.seq (.ops [⟨(some 30), none, (.faddr 4 (.t 1))⟩,
      ⟨(some 31), none, (.load false 1 (.t 30))⟩,
      ⟨(some 32), none, (.len .slc (.t 31))⟩,
      ⟨(some 33), none, (.mv (.t 3))⟩,
      ⟨(some 34), none, (.bin .int .lss (.t 32) (.t 33))⟩,
      ⟨(some 35), none, (.mv (.t 34))⟩,
      ⟨(some 36), (some (35, false)), (.faddr 4 (.t 1))⟩,
      ⟨(some 37), (some (35, false)), (.load false 1 (.t 36))⟩,
      ⟨(some 38), (some (35, false)), (.len .slc (.t 37))⟩,
      ⟨(some 39), (some (35, false)), (.mv (.t 4))⟩,
      ⟨(some 40), (some (35, false)), (.bin .int .gtr (.t 38) (.t 39))⟩,
      ⟨(some 41), none, (.pick (.t 35) (.c (.v (.bool true))) (.t 40))⟩])
    (.cond (.t 41)
    (.seq (.ops [⟨(some 2), none, (.mv (.c (.v (.bool false))))⟩])
    .ret)
    .skip))
    (.seq (.seq (.ops [⟨(some 5), none, (.mv (.c (.v (.int .i64 0))))⟩])
    (.block 0 (.loop (.seq (.seq (.ops [⟨(some 42), none, (.mv (.t 5))⟩,
      ⟨(some 43), none, (.faddr 4 (.t 1))⟩,
      ⟨(some 44), none, (.load false 1 (.t 43))⟩,
      ⟨(some 45), none, (.len .slc (.t 44))⟩,
      ⟨(some 46), none, (.bin .int .lss (.t 42) (.t 45))⟩])
    (.cond (.t 46)
    .skip
    (.exit 0)))
    (.seq (.block 1 (.seq (.draw [⟨(some 49), none, (.faddr 0 (.t 1))⟩,
      ⟨(some 50), none, (.load false 1 (.t 49))⟩,
      ⟨(some 51), none, (.mv (.t 5))⟩,
      ⟨(some 52), none, (.faddr 4 (.t 1))⟩,
      ⟨(some 53), none, (.load false 1 (.t 52))⟩,
      ⟨(some 54), none, (.mv (.t 5))⟩,
      ⟨(some 55), none, (.iaddr 5 (.t 53) (.t 54))⟩,
      ⟨(some 56), none, (.load true 5 (.t 55))⟩,
      ⟨(some 57), none, (.call (.c (.fn (.func 78) [] [])) [(.t 50), (.t 51), (.t 56)])⟩,
      ⟨(some 58), none, (.not (.t 57))⟩,
      ⟨(some 59), none, (.mv (.t 58))⟩,
      ⟨(some 60), (some (59, false)), (.faddr 4 (.t 1))⟩,
      ⟨(some 61), (some (59, false)), (.load false 1 (.t 60))⟩,
      ⟨(some 62), (some (59, false)), (.mv (.t 5))⟩,
      ⟨(some 63), (some (59, false)), (.iaddr 5 (.t 61) (.t 62))⟩,
      ⟨(some 64), (some (59, false)), (.load true 5 (.t 63))⟩,
      ⟨(some 65), (some (59, false)), (.call (.c (.fn (.func 51) [] [])) [(.t 64)])⟩,
      ⟨(some 66), (some (59, false)), (.not (.t 65))⟩,
      ⟨(some 67), none, (.pick (.t 59) (.c (.v (.bool true))) (.t 66))⟩] [])
    (.cond (.t 67)
    (.seq (.ops [⟨(some 2), none, (.mv (.c (.v (.bool false))))⟩])
    .ret)
    .skip)))
    (.ops [⟨(some 47), none, (.mv (.t 5))⟩,
      ⟨(some 48), none, (.bin .int .add (.t 47) (.c (.v (.int .i64 1))))⟩,
      ⟨(some 5), none, (.mv (.t 48))⟩]))))))
    (.seq (.ops [⟨(some 2), none, (.mv (.c (.v (.bool true))))⟩])
    .ret))))))⟩
theorem L51_ok : lowFn Try.prog Try.f51 [] = some L51 := by kernel_rfl

/-- assessor_tree.isExpression -/
def L52 : LFn := ⟨9, [(.tmp 2)], (.seq (.ops [⟨(some 2), none, (.mv (.c (.v (.bool false))))⟩])
    (.seq (.ops [⟨(some 3), none, (.mv (.t 0))⟩,
      ⟨(some 4), none, (.bin .int .geq (.t 3) (.c (.v (.int .i64 20))))⟩,
      ⟨(some 5), none, (.mv (.t 4))⟩,
      ⟨(some 6), (some (5, true)), (.mv (.t 0))⟩,
      ⟨(some 7), (some (5, true)), (.bin .int .leq (.t 6) (.c (.v (.int .i64 29))))⟩,
      ⟨(some 8), none, (.pick (.t 5) (.t 7) (.c (.v (.bool false))))⟩,
      ⟨(some 2), none, (.mv (.t 8))⟩])
    .ret))⟩
theorem L52_ok : lowFn Try.prog Try.f52 [] = some L52 := by kernel_rfl

/-- assessor_assessorref03.IsExpression -/
def L53 : LFn := ⟨9, [(.tmp 2)], (.seq (.ops [⟨(some 2), none, (.mv (.c (.v (.bool false))))⟩])
    (.seq (.ops [⟨(some 3), none, (.mv (.t 0))⟩,
      ⟨(some 4), none, (.bin .int .geq (.t 3) (.c (.v (.int .i64 20))))⟩,
      ⟨(some 5), none, (.mv (.t 4))⟩,
      ⟨(some 6), (some (5, true)), (.mv (.t 0))⟩,
      ⟨(some 7), (some (5, true)), (.bin .int .leq (.t 6) (.c (.v (.int .i64 29))))⟩,
      ⟨(some 8), none, (.pick (.t 5) (.t 7) (.c (.v (.bool false))))⟩,
      ⟨(some 2), none, (.mv (.t 8))⟩])
    .ret))⟩
theorem L53_ok : lowFn Try.prog Try.f53 [] = some L53 := by kernel_rfl

/-- assessor_tree.isStatement -/
def L54 : LFn := ⟨9, [(.tmp 2)], (.seq (.ops [⟨(some 2), none, (.mv (.c (.v (.bool false))))⟩])
    (.seq (.ops [⟨(some 3), none, (.mv (.t 0))⟩,
      ⟨(some 4), none, (.bin .int .geq (.t 3) (.c (.v (.int .i64 12))))⟩,
      ⟨(some 5), none, (.mv (.t 4))⟩,
      ⟨(some 6), (some (5, true)), (.mv (.t 0))⟩,
      ⟨(some 7), (some (5, true)), (.bin .int .leq (.t 6) (.c (.v (.int .i64 19))))⟩,
      ⟨(some 8), none, (.pick (.t 5) (.t 7) (.c (.v (.bool false))))⟩,
      ⟨(some 2), none, (.mv (.t 8))⟩])
    .ret))⟩
theorem L54_ok : lowFn Try.prog Try.f54 [] = some L54 := by kernel_rfl

/-- assessor_assessorref03.IsStatement -/
def L55 : LFn := ⟨9, [(.tmp 2)], (.seq (.ops [⟨(some 2), none, (.mv (.c (.v (.bool false))))⟩])
    (.seq (.ops [⟨(some 3), none, (.mv (.t 0))⟩,
      ⟨(some 4), none, (.bin .int .geq (.t 3) (.c (.v (.int .i64 12))))⟩,
      ⟨(some 5), none, (.mv (.t 4))⟩,
      ⟨(some 6), (some (5, true)), (.mv (.t 0))⟩,
      ⟨(some 7), (some (5, true)), (.bin .int .leq (.t 6) (.c (.v (.int .i64 19))))⟩,
      ⟨(some 8), none, (.pick (.t 5) (.t 7) (.c (.v (.bool false))))⟩,
      ⟨(some 2), none, (.mv (.t 8))⟩])
    .ret))⟩
theorem L55_ok : lowFn Try.prog Try.f55 [] = some L55 := by kernel_rfl

/-- assessor_tree.shapes -/
def L56 : LFn := ⟨119, [(.tmp 0)], (.seq (.ops [⟨(some 0), none, (.mv (.c (.v (.map none))))⟩])
    (.seq (.ops [⟨(some 1), none, (.alloc [(.v .nilFunc)])⟩,
      ⟨none, none, (.store 1 (.t 1) (.c (.fn (.func 79) [] [])))⟩])
    (.seq (.ops [⟨(some 6), none, (.bsl true 1 1 [(.v (.int .i64 0))] [(0, (.c (.v (.int .i64 11))))])⟩,
      ⟨(some 7), none, (.call (.c (.fn (.func 80) [] [])) [(.t 6)])⟩,
      ⟨(some 8), none, (.call (.c (.fn (.func 81) [] [])) [(.c (.fn (.func 82) [] []))])⟩,
      ⟨(some 2), none, (.mv (.t 7))⟩,
      ⟨(some 3), none, (.mv (.c (.fn (.func 52) [] [])))⟩,
      ⟨(some 4), none, (.mv (.t 8))⟩])
    (.seq (.ops [⟨(some 9), none, (.bsl true 1 2 [(.v (.string (mkS [])))] [(0, (.c (.v (.string (mkS [105, 110, 116]))))), (1, (.c (.v (.string (mkS [98, 111, 111, 108])))))])⟩,
      ⟨(some 10), none, (.call (.c (.fn (.func 83) [] [])) [(.t 9)])⟩,
      ⟨(some 5), none, (.alloc [(.v .nilFunc)])⟩,
      ⟨none, none, (.store 1 (.t 5) (.t 10))⟩,
      ⟨(some 1), none, (.frz (.t 1))⟩,
      ⟨(some 5), none, (.frz (.t 5))⟩])
    (.seq (.drawM [⟨(some 12), none, (.build [(.v .nilFunc), (.v (.slice none 0 0)), (.v .nilFunc), (.v (.int .i64 0))] [(0, (1, (.c (.fn (.func 84) [] []))))])⟩,
      ⟨(some 13), none, (.bsl true 1 2 [(.v (.int .i64 0))] [(0, (.c (.v (.int .i64 3)))), (1, (.c (.v (.int .i64 5))))])⟩,
      ⟨(some 14), none, (.call (.c (.fn (.func 80) [] [])) [(.t 13)])⟩,
      ⟨(some 15), none, (.build [(.v .nilFunc), (.v (.slice none 0 0)), (.v .nilFunc), (.v (.int .i64 0))] [(0, (1, (.c (.fn (.func 84) [] [])))), (2, (1, (.t 14)))])⟩,
      ⟨(some 16), none, (.loadb false 1 (.t 1))⟩,
      ⟨(some 17), none, (.bsl true 1 1 [(.v (.int .i64 0))] [(0, (.c (.v (.int .i64 4))))])⟩,
      ⟨(some 18), none, (.call (.c (.fn (.func 80) [] [])) [(.t 17)])⟩,
      ⟨(some 19), none, (.build [(.v .nilFunc), (.v (.slice none 0 0)), (.v .nilFunc), (.v (.int .i64 0))] [(0, (1, (.t 16))), (2, (1, (.t 18))), (3, (1, (.c (.v (.int .i64 1)))))])⟩,
      ⟨(some 20), none, (.loadb false 1 (.t 1))⟩,
      ⟨(some 21), none, (.bsl true 1 1 [(.v (.int .i64 0))] [(0, (.c (.v (.int .i64 9))))])⟩,
      ⟨(some 22), none, (.call (.c (.fn (.func 80) [] [])) [(.t 21)])⟩,
      ⟨(some 23), none, (.bsl true 1 1 [(.v .nilFunc)] [(0, (.t 22))])⟩,
      ⟨(some 24), none, (.build [(.v .nilFunc), (.v (.slice none 0 0)), (.v .nilFunc), (.v (.int .i64 0))] [(0, (1, (.t 20))), (1, (1, (.t 23)))])⟩,
      ⟨(some 25), none, (.loadb false 1 (.t 1))⟩,
      ⟨(some 26), none, (.bsl true 1 1 [(.v (.int .i64 0))] [(0, (.c (.v (.int .i64 6))))])⟩,
      ⟨(some 27), none, (.call (.c (.fn (.func 80) [] [])) [(.t 26)])⟩,
      ⟨(some 28), none, (.mv (.t 4))⟩,
      ⟨(some 29), none, (.mv (.t 2))⟩,
      ⟨(some 30), none, (.bsl true 1 3 [(.v .nilFunc)] [(0, (.t 27)), (1, (.t 28)), (2, (.t 29))])⟩,
      ⟨(some 31), none, (.build [(.v .nilFunc), (.v (.slice none 0 0)), (.v .nilFunc), (.v (.int .i64 0))] [(0, (1, (.t 25))), (1, (1, (.t 30)))])⟩,
      ⟨(some 32), none, (.bsl true 1 2 [(.v (.int .i64 0))] [(0, (.c (.v (.int .i64 7)))), (1, (.c (.v (.int .i64 8))))])⟩,
      ⟨(some 33), none, (.call (.c (.fn (.func 80) [] [])) [(.t 32)])⟩,
      ⟨(some 34), none, (.build [(.v .nilFunc), (.v (.slice none 0 0)), (.v .nilFunc), (.v (.int .i64 0))] [(0, (1, (.c (.fn (.func 84) [] [])))), (2, (1, (.t 33)))])⟩,
      ⟨(some 35), none, (.loadb false 1 (.t 1))⟩,
      ⟨(some 36), none, (.mv (.t 4))⟩,
      ⟨(some 37), none, (.bsl true 1 1 [(.v .nilFunc)] [(0, (.t 36))])⟩,
      ⟨(some 38), none, (.build [(.v .nilFunc), (.v (.slice none 0 0)), (.v .nilFunc), (.v (.int .i64 0))] [(0, (1, (.t 35))), (1, (1, (.t 37)))])⟩,
      ⟨(some 39), none, (.loadb false 1 (.t 1))⟩,
      ⟨(some 40), none, (.mv (.t 4))⟩,
      ⟨(some 41), none, (.bsl true 1 1 [(.v .nilFunc)] [(0, (.t 40))])⟩,
      ⟨(some 42), none, (.build [(.v .nilFunc), (.v (.slice none 0 0)), (.v .nilFunc), (.v (.int .i64 0))] [(0, (1, (.t 39))), (1, (1, (.t 41)))])⟩,
      ⟨(some 43), none, (.mkfn (.func 85) [] [(.t 5), (.t 1)])⟩,
      ⟨(some 44), none, (.build [(.v .nilFunc), (.v (.slice none 0 0)), (.v .nilFunc), (.v (.int .i64 0))] [(0, (1, (.t 43)))])⟩,
      ⟨(some 45), none, (.build [(.v .nilFunc), (.v (.slice none 0 0)), (.v .nilFunc), (.v (.int .i64 0))] [(0, (1, (.c (.fn (.func 86) [] []))))])⟩,
      ⟨(some 46), none, (.build [(.v .nilFunc), (.v (.slice none 0 0)), (.v .nilFunc), (.v (.int .i64 0))] [(0, (1, (.c (.fn (.func 84) [] [])))), (2, (1, (.c (.fn (.func 54) [] []))))])⟩,
      ⟨(some 47), none, (.loadb false 1 (.t 1))⟩,
      ⟨(some 48), none, (.mv (.t 4))⟩,
      ⟨(some 49), none, (.mv (.t 3))⟩,
      ⟨(some 50), none, (.bsl true 1 2 [(.v .nilFunc)] [(0, (.t 48)), (1, (.t 49))])⟩,
      ⟨(some 51), none, (.build [(.v .nilFunc), (.v (.slice none 0 0)), (.v .nilFunc), (.v (.int .i64 0))] [(0, (1, (.t 47))), (1, (1, (.t 50)))])⟩,
      ⟨(some 52), none, (.mv (.t 3))⟩,
      ⟨(some 53), none, (.bsl true 1 2 [(.v .nilFunc)] [(0, (.c (.fn (.func 87) [] []))), (1, (.t 52))])⟩,
      ⟨(some 54), none, (.build [(.v .nilFunc), (.v (.slice none 0 0)), (.v .nilFunc), (.v (.int .i64 0))] [(0, (1, (.c (.fn (.func 84) [] [])))), (1, (1, (.t 53)))])⟩,
      ⟨(some 55), none, (.mv (.t 3))⟩,
      ⟨(some 56), none, (.mv (.t 2))⟩,
      ⟨(some 57), none, (.bsl true 1 2 [(.v (.int .i64 0))] [(0, (.c (.v (.int .i64 11)))), (1, (.c (.v (.int .i64 14))))])⟩,
      ⟨(some 58), none, (.call (.c (.fn (.func 80) [] [])) [(.t 57)])⟩,
      ⟨(some 59), none, (.call (.c (.fn (.func 81) [] [])) [(.t 58)])⟩,
      ⟨(some 60), none, (.bsl true 1 3 [(.v .nilFunc)] [(0, (.t 55)), (1, (.t 56)), (2, (.t 59))])⟩,
      ⟨(some 61), none, (.build [(.v .nilFunc), (.v (.slice none 0 0)), (.v .nilFunc), (.v (.int .i64 0))] [(0, (1, (.c (.fn (.func 84) [] [])))), (1, (1, (.t 60)))])⟩,
      ⟨(some 62), none, (.mv (.t 3))⟩,
      ⟨(some 63), none, (.mv (.t 2))⟩,
      ⟨(some 64), none, (.bsl true 1 2 [(.v .nilFunc)] [(0, (.t 62)), (1, (.t 63))])⟩,
      ⟨(some 65), none, (.build [(.v .nilFunc), (.v (.slice none 0 0)), (.v .nilFunc), (.v (.int .i64 0))] [(0, (1, (.c (.fn (.func 84) [] [])))), (1, (1, (.t 64)))])⟩,
      ⟨(some 66), none, (.loadb false 1 (.t 1))⟩,
      ⟨(some 67), none, (.mv (.t 3))⟩,
      ⟨(some 68), none, (.mv (.t 3))⟩,
      ⟨(some 69), none, (.mv (.t 2))⟩,
      ⟨(some 70), none, (.bsl true 1 3 [(.v .nilFunc)] [(0, (.t 67)), (1, (.t 68)), (2, (.t 69))])⟩,
      ⟨(some 71), none, (.build [(.v .nilFunc), (.v (.slice none 0 0)), (.v .nilFunc), (.v (.int .i64 0))] [(0, (1, (.t 66))), (1, (1, (.t 70)))])⟩,
      ⟨(some 72), none, (.mv (.t 3))⟩,
      ⟨(some 73), none, (.call (.c (.fn (.func 81) [] [])) [(.t 72)])⟩,
      ⟨(some 74), none, (.bsl true 1 1 [(.v .nilFunc)] [(0, (.t 73))])⟩,
      ⟨(some 75), none, (.build [(.v .nilFunc), (.v (.slice none 0 0)), (.v .nilFunc), (.v (.int .i64 0))] [(0, (1, (.c (.fn (.func 84) [] [])))), (1, (1, (.t 74)))])⟩,
      ⟨(some 76), none, (.mv (.t 3))⟩,
      ⟨(some 77), none, (.bsl true 1 1 [(.v .nilFunc)] [(0, (.t 76))])⟩,
      ⟨(some 78), none, (.build [(.v .nilFunc), (.v (.slice none 0 0)), (.v .nilFunc), (.v (.int .i64 0))] [(0, (1, (.c (.fn (.func 84) [] [])))), (1, (1, (.t 77)))])⟩,
      ⟨(some 79), none, (.loadb false 1 (.t 1))⟩,
      ⟨(some 80), none, (.mv (.t 3))⟩,
      ⟨(some 81), none, (.build [(.v .nilFunc), (.v (.slice none 0 0)), (.v .nilFunc), (.v (.int .i64 0))] [(0, (1, (.t 79))), (2, (1, (.t 80)))])⟩,
      ⟨(some 82), none, (.loadb false 1 (.t 1))⟩,
      ⟨(some 83), none, (.build [(.v .nilFunc), (.v (.slice none 0 0)), (.v .nilFunc), (.v (.int .i64 0))] [(0, (1, (.t 82)))])⟩,
      ⟨(some 84), none, (.bsl true 1 1 [(.v (.int .i64 0))] [(0, (.c (.v (.int .i64 20))))])⟩,
      ⟨(some 85), none, (.call (.c (.fn (.func 80) [] [])) [(.t 84)])⟩,
      ⟨(some 86), none, (.mv (.t 3))⟩,
      ⟨(some 87), none, (.bsl true 1 2 [(.v .nilFunc)] [(0, (.t 85)), (1, (.t 86))])⟩,
      ⟨(some 88), none, (.build [(.v .nilFunc), (.v (.slice none 0 0)), (.v .nilFunc), (.v (.int .i64 0))] [(0, (1, (.c (.fn (.func 84) [] [])))), (1, (1, (.t 87)))])⟩,
      ⟨(some 89), none, (.loadb false 1 (.t 1))⟩,
      ⟨(some 90), none, (.bsl true 1 1 [(.v (.int .i64 0))] [(0, (.c (.v (.int .i64 20))))])⟩,
      ⟨(some 91), none, (.call (.c (.fn (.func 80) [] [])) [(.t 90)])⟩,
      ⟨(some 92), none, (.bsl true 1 1 [(.v .nilFunc)] [(0, (.t 91))])⟩,
      ⟨(some 93), none, (.build [(.v .nilFunc), (.v (.slice none 0 0)), (.v .nilFunc), (.v (.int .i64 0))] [(0, (1, (.t 89))), (1, (1, (.t 92)))])⟩,
      ⟨(some 94), none, (.bsl true 1 1 [(.v (.int .i64 0))] [(0, (.c (.v (.int .i64 20))))])⟩,
      ⟨(some 95), none, (.call (.c (.fn (.func 80) [] [])) [(.t 94)])⟩,
      ⟨(some 96), none, (.bsl true 1 1 [(.v .nilFunc)] [(0, (.t 95))])⟩,
      ⟨(some 97), none, (.build [(.v .nilFunc), (.v (.slice none 0 0)), (.v .nilFunc), (.v (.int .i64 0))] [(0, (1, (.c (.fn (.func 84) [] [])))), (1, (1, (.t 96)))])⟩,
      ⟨(some 98), none, (.build [(.v .nilFunc), (.v (.slice none 0 0)), (.v .nilFunc), (.v (.int .i64 0))] [(0, (1, (.c (.fn (.func 86) [] []))))])⟩,
      ⟨(some 99), none, (.bsl true 1 2 [(.v (.string (mkS [])))] [(0, (.c (.v (.string (mkS [116, 114, 117, 101]))))), (1, (.c (.v (.string (mkS [102, 97, 108, 115, 101])))))])⟩,
      ⟨(some 100), none, (.call (.c (.fn (.func 83) [] [])) [(.t 99)])⟩,
      ⟨(some 101), none, (.build [(.v .nilFunc), (.v (.slice none 0 0)), (.v .nilFunc), (.v (.int .i64 0))] [(0, (1, (.t 100)))])⟩,
      ⟨(some 102), none, (.mv (.t 3))⟩,
      ⟨(some 103), none, (.build [(.v .nilFunc), (.v (.slice none 0 0)), (.v .nilFunc), (.v (.int .i64 0))] [(0, (1, (.c (.fn (.func 84) [] [])))), (2, (1, (.t 102))), (3, (1, (.c (.v (.int .i64 1)))))])⟩,
      ⟨(some 104), none, (.loadb false 1 (.t 1))⟩,
      ⟨(some 105), none, (.mv (.t 3))⟩,
      ⟨(some 106), none, (.build [(.v .nilFunc), (.v (.slice none 0 0)), (.v .nilFunc), (.v (.int .i64 0))] [(0, (1, (.t 104))), (2, (1, (.t 105)))])⟩,
      ⟨(some 107), none, (.bsl true 1 2 [(.v (.string (mkS [])))] [(0, (.c (.v (.string (mkS [45]))))), (1, (.c (.v (.string (mkS [110, 111, 116])))))])⟩,
      ⟨(some 108), none, (.call (.c (.fn (.func 83) [] [])) [(.t 107)])⟩,
      ⟨(some 109), none, (.mv (.t 3))⟩,
      ⟨(some 110), none, (.bsl true 1 1 [(.v .nilFunc)] [(0, (.t 109))])⟩,
      ⟨(some 111), none, (.build [(.v .nilFunc), (.v (.slice none 0 0)), (.v .nilFunc), (.v (.int .i64 0))] [(0, (1, (.t 108))), (1, (1, (.t 110)))])⟩,
      ⟨(some 112), none, (.bsl true 1 13 [(.v (.string (mkS [])))] [(0, (.c (.v (.string (mkS [111, 114]))))), (1, (.c (.v (.string (mkS [97, 110, 100]))))), (2, (.c (.v (.string (mkS [61, 61]))))), (3, (.c (.v (.string (mkS [33, 61]))))), (4, (.c (.v (.string (mkS [60]))))), (5, (.c (.v (.string (mkS [60, 61]))))), (6, (.c (.v (.string (mkS [62]))))), (7, (.c (.v (.string (mkS [62, 61]))))), (8, (.c (.v (.string (mkS [43]))))), (9, (.c (.v (.string (mkS [45]))))), (10, (.c (.v (.string (mkS [42]))))), (11, (.c (.v (.string (mkS [47]))))), (12, (.c (.v (.string (mkS [37])))))])⟩,
      ⟨(some 113), none, (.call (.c (.fn (.func 83) [] [])) [(.t 112)])⟩,
      ⟨(some 114), none, (.mv (.t 3))⟩,
      ⟨(some 115), none, (.mv (.t 3))⟩,
      ⟨(some 116), none, (.bsl true 1 2 [(.v .nilFunc)] [(0, (.t 114)), (1, (.t 115))])⟩,
      ⟨(some 117), none, (.build [(.v .nilFunc), (.v (.slice none 0 0)), (.v .nilFunc), (.v (.int .i64 0))] [(0, (1, (.t 113))), (1, (1, (.t 116)))])⟩] [⟨(some 11), none, .mkmap⟩] [⟨none, none, (.ins .int (.t 11) (.c (.v (.int .i64 0))) (.t 12))⟩,
      ⟨none, none, (.ins .int (.t 11) (.c (.v (.int .i64 2))) (.t 15))⟩,
      ⟨none, none, (.ins .int (.t 11) (.c (.v (.int .i64 3))) (.t 19))⟩,
      ⟨none, none, (.ins .int (.t 11) (.c (.v (.int .i64 4))) (.t 24))⟩,
      ⟨none, none, (.ins .int (.t 11) (.c (.v (.int .i64 5))) (.t 31))⟩,
      ⟨none, none, (.ins .int (.t 11) (.c (.v (.int .i64 6))) (.t 34))⟩,
      ⟨none, none, (.ins .int (.t 11) (.c (.v (.int .i64 7))) (.t 38))⟩,
      ⟨none, none, (.ins .int (.t 11) (.c (.v (.int .i64 8))) (.t 42))⟩,
      ⟨none, none, (.ins .int (.t 11) (.c (.v (.int .i64 9))) (.t 44))⟩,
      ⟨none, none, (.ins .int (.t 11) (.c (.v (.int .i64 10))) (.t 45))⟩,
      ⟨none, none, (.ins .int (.t 11) (.c (.v (.int .i64 11))) (.t 46))⟩,
      ⟨none, none, (.ins .int (.t 11) (.c (.v (.int .i64 12))) (.t 51))⟩,
      ⟨none, none, (.ins .int (.t 11) (.c (.v (.int .i64 13))) (.t 54))⟩,
      ⟨none, none, (.ins .int (.t 11) (.c (.v (.int .i64 14))) (.t 61))⟩,
      ⟨none, none, (.ins .int (.t 11) (.c (.v (.int .i64 15))) (.t 65))⟩,
      ⟨none, none, (.ins .int (.t 11) (.c (.v (.int .i64 16))) (.t 71))⟩,
      ⟨none, none, (.ins .int (.t 11) (.c (.v (.int .i64 17))) (.t 75))⟩,
      ⟨none, none, (.ins .int (.t 11) (.c (.v (.int .i64 18))) (.t 78))⟩,
      ⟨none, none, (.ins .int (.t 11) (.c (.v (.int .i64 19))) (.t 81))⟩,
      ⟨none, none, (.ins .int (.t 11) (.c (.v (.int .i64 20))) (.t 83))⟩,
      ⟨none, none, (.ins .int (.t 11) (.c (.v (.int .i64 21))) (.t 88))⟩,
      ⟨none, none, (.ins .int (.t 11) (.c (.v (.int .i64 22))) (.t 93))⟩,
      ⟨none, none, (.ins .int (.t 11) (.c (.v (.int .i64 23))) (.t 97))⟩,
      ⟨none, none, (.ins .int (.t 11) (.c (.v (.int .i64 24))) (.t 98))⟩,
      ⟨none, none, (.ins .int (.t 11) (.c (.v (.int .i64 25))) (.t 101))⟩,
      ⟨none, none, (.ins .int (.t 11) (.c (.v (.int .i64 26))) (.t 103))⟩,
      ⟨none, none, (.ins .int (.t 11) (.c (.v (.int .i64 27))) (.t 106))⟩,
      ⟨none, none, (.ins .int (.t 11) (.c (.v (.int .i64 28))) (.t 111))⟩,
      ⟨none, none, (.ins .int (.t 11) (.c (.v (.int .i64 29))) (.t 117))⟩] [⟨(some 118), none, (.mv (.t 11))⟩,
      ⟨(some 0), none, (.mv (.t 118))⟩,
      ⟨(some 0), none, (.frz (.t 0))⟩])
    .ret)))))⟩
theorem L56_ok : lowFn Try.prog Try.f56 [⟨3, 4, (.pre 1 (.frz (.t 1)))⟩, ⟨3, 4, (.pre 5 (.frz (.t 5)))⟩, ⟨4, 107, (.many 29)⟩, ⟨4, 4, .imm⟩, ⟨4, 8, .imm⟩, ⟨4, 13, .imm⟩, ⟨4, 23, .imm⟩, ⟨4, 27, .imm⟩, ⟨4, 35, .imm⟩, ⟨4, 54, .imm⟩, ⟨4, 67, .imm⟩, ⟨4, 70, .imm⟩, ⟨4, 77, .imm⟩, ⟨4, 92, .imm⟩, ⟨2, 0, .imm⟩, ⟨3, 0, .imm⟩, ⟨4, 0, (.perm [1, 3, 4, 5, 7, 8, 9, 10, 12, 13, 14, 15, 16, 18, 19, 20, 21, 22, 23, 24, 26, 27, 28, 30, 31, 32, 33, 35, 36, 37, 38, 40, 41, 43, 45, 47, 48, 49, 50, 51, 53, 54, 55, 57, 58, 59, 60, 61, 62, 63, 65, 66, 67, 68, 70, 71, 72, 73, 74, 75, 77, 78, 79, 80, 82, 83, 84, 86, 87, 88, 90, 91, 93, 94, 95, 96, 97, 99, 100, 101, 102, 103, 105, 106, 107, 108, 110, 112, 113, 114, 116, 117, 119, 120, 121, 123, 124, 125, 126, 127, 129, 130, 131, 132, 133, 134, 0, 2, 6, 11, 17, 25, 29, 34, 39, 42, 44, 46, 52, 56, 64, 69, 76, 81, 85, 89, 92, 98, 104, 109, 111, 115, 118, 122, 128, 135, 136, 137])⟩, ⟨4, 1, .imm⟩, ⟨4, 5, .imm⟩, ⟨4, 9, .imm⟩, ⟨4, 11, .imm⟩, ⟨4, 14, .imm⟩, ⟨4, 18, .imm⟩, ⟨4, 20, .imm⟩, ⟨4, 25, .imm⟩, ⟨4, 29, .imm⟩, ⟨4, 38, .imm⟩, ⟨4, 41, .imm⟩, ⟨4, 45, .imm⟩, ⟨4, 48, .imm⟩, ⟨4, 52, .imm⟩, ⟨4, 58, .imm⟩, ⟨4, 62, .imm⟩, ⟨4, 65, .imm⟩, ⟨4, 72, .imm⟩, ⟨4, 75, .imm⟩, ⟨4, 78, .imm⟩, ⟨4, 80, .imm⟩, ⟨4, 82, .imm⟩, ⟨4, 84, .imm⟩, ⟨4, 87, .imm⟩, ⟨4, 95, .imm⟩, ⟨4, 98, .imm⟩, ⟨4, 100, .imm⟩, ⟨4, 104, .imm⟩, ⟨4, 138, (.pre 0 (.frz (.t 0)))⟩, ⟨4, 106, .tail⟩] = some L56 := by kernel_rfl

/-- slices.EqualFunc___assessor_api.Node___assessor_api.Node_assessor_api.Node_assessor_api.Node_ -/
def L57 : LFn := ⟨32, [(.tmp 6)], (.seq (.ops [⟨(some 6), none, (.mv (.c (.v (.bool false))))⟩])
    (.seq (.seq (.ops [⟨(some 10), none, (.mv (.t 0))⟩,
      ⟨(some 11), none, (.len .slc (.t 10))⟩,
      ⟨(some 12), none, (.mv (.t 1))⟩,
      ⟨(some 13), none, (.len .slc (.t 12))⟩,
      ⟨(some 14), none, (.bin .int .neq (.t 11) (.t 13))⟩])
    (.cond (.t 14)
    (.seq (.ops [⟨(some 6), none, (.mv (.c (.v (.bool false))))⟩])
    .ret)
    .skip))
    (.seq (.seq (.ops [⟨(some 15), none, (.mv (.t 0))⟩,
      ⟨(some 16), none, (.len .slc (.t 15))⟩,
      ⟨(some 17), none, (.mv (.c (.v (.int .i64 0))))⟩])
    (.block 0 (.loop (.seq (.ops [⟨(some 18), none, (.bin .int .lss (.t 17) (.t 16))⟩])
    (.seq (.cond (.t 18)
    .skip
    (.exit 0))
    (.seq (.block 1 (.seq (.ops [⟨(some 19), none, (.mv (.t 17))⟩,
      ⟨(some 20), none, (.iaddr 5 (.t 15) (.t 17))⟩,
      ⟨(some 21), none, (.load true 5 (.t 20))⟩,
      ⟨(some 8), none, (.alloc [(.v (.int .i64 0)), (.v (.string (mkS []))), (.v (.int .i64 0)), (.v (.int .i64 0)), (.v (.slice none 0 0))])⟩,
      ⟨(some 7), none, (.mv (.t 19))⟩,
      ⟨none, none, (.store 5 (.t 8) (.t 21))⟩])
    (.seq (.ops [⟨(some 22), none, (.mv (.t 1))⟩,
      ⟨(some 23), none, (.mv (.t 7))⟩,
      ⟨(some 24), none, (.iaddr 5 (.t 22) (.t 23))⟩,
      ⟨(some 25), none, (.load true 5 (.t 24))⟩,
      ⟨(some 9), none, (.alloc [(.v (.int .i64 0)), (.v (.string (mkS []))), (.v (.int .i64 0)), (.v (.int .i64 0)), (.v (.slice none 0 0))])⟩,
      ⟨none, none, (.store 5 (.t 9) (.t 25))⟩])
    (.seq (.ops [⟨(some 26), none, (.mv (.t 2))⟩,
      ⟨(some 27), none, (.load true 5 (.t 8))⟩,
      ⟨(some 28), none, (.load true 5 (.t 9))⟩,
      ⟨(some 29), none, (.call (.t 26) [(.t 27), (.t 28)])⟩,
      ⟨(some 30), none, (.not (.t 29))⟩])
    (.cond (.t 30)
    (.seq (.ops [⟨(some 6), none, (.mv (.c (.v (.bool false))))⟩])
    .ret)
    .skip)))))
    (.ops [⟨(some 31), none, (.bin .int .add (.t 17) (.c (.v (.int .i64 1))))⟩,
      ⟨(some 17), none, (.mv (.t 31))⟩])))))))
    (.seq (.ops [⟨(some 6), none, (.mv (.c (.v (.bool true))))⟩])
    .ret))))⟩
theorem L57_ok : lowFn Try.prog Try.f57 [] = some L57 := by kernel_rfl

/-- assessor_tree.nodes -/
def L58 : LFn := ⟨4, [(.tmp 2)], (.seq (.ops [⟨(some 1), none, (.box false (.t 0))⟩,
      ⟨(some 2), none, (.mv (.c (.v .nilFunc)))⟩])
    (.seq (.ops [⟨(some 3), none, (.mkfn (.func 88) [] [(.t 1)])⟩,
      ⟨(some 2), none, (.mv (.t 3))⟩])
    .ret))⟩
theorem L58_ok : lowFn Try.prog Try.f58 [] = some L58 := by kernel_rfl

/-- assessor_tree.Find$1 -/
def L59 : LFn := ⟨14, [(.tmp 3)], (.seq (.ops [⟨(some 2), none, (.box false (.t 0))⟩,
      ⟨(some 3), none, (.mv (.c (.v (.bool false))))⟩])
    (.seq (.ops [⟨(some 4), none, (.faddr 2 (.t 2))⟩,
      ⟨(some 5), none, (.load false 1 (.t 4))⟩,
      ⟨(some 6), none, (.load false 1 (.t 1))⟩,
      ⟨(some 7), none, (.bin .int .leq (.t 5) (.t 6))⟩,
      ⟨(some 8), none, (.mv (.t 7))⟩,
      ⟨(some 9), (some (8, true)), (.load false 1 (.t 1))⟩,
      ⟨(some 10), (some (8, true)), (.faddr 3 (.t 2))⟩,
      ⟨(some 11), (some (8, true)), (.load false 1 (.t 10))⟩,
      ⟨(some 12), (some (8, true)), (.bin .int .lss (.t 9) (.t 11))⟩,
      ⟨(some 13), none, (.pick (.t 8) (.t 12) (.c (.v (.bool false))))⟩,
      ⟨(some 3), none, (.mv (.t 13))⟩])
    .ret))⟩
theorem L59_ok : lowFn Try.prog Try.f59 [] = some L59 := by kernel_rfl

/-- slices.IndexFunc___assessor_api.Node_assessor_api.Node_ -/
def L60 : LFn := ⟨19, [(.tmp 4)], (.seq (.ops [⟨(some 4), none, (.mv (.c (.v (.int .i64 0))))⟩])
    (.seq (.seq (.ops [⟨(some 6), none, (.mv (.t 0))⟩,
      ⟨(some 7), none, (.len .slc (.t 6))⟩,
      ⟨(some 8), none, (.mv (.c (.v (.int .i64 0))))⟩])
    (.block 0 (.loop (.seq (.ops [⟨(some 9), none, (.bin .int .lss (.t 8) (.t 7))⟩])
    (.seq (.cond (.t 9)
    .skip
    (.exit 0))
    (.seq (.block 1 (.seq (.ops [⟨(some 10), none, (.mv (.t 8))⟩,
      ⟨(some 5), none, (.mv (.t 10))⟩])
    (.seq (.ops [⟨(some 11), none, (.mv (.t 1))⟩,
      ⟨(some 12), none, (.mv (.t 0))⟩,
      ⟨(some 13), none, (.mv (.t 5))⟩,
      ⟨(some 14), none, (.iaddr 5 (.t 12) (.t 13))⟩,
      ⟨(some 15), none, (.load true 5 (.t 14))⟩,
      ⟨(some 16), none, (.call (.t 11) [(.t 15)])⟩])
    (.cond (.t 16)
    (.seq (.ops [⟨(some 17), none, (.mv (.t 5))⟩,
      ⟨(some 4), none, (.mv (.t 17))⟩])
    .ret)
    .skip))))
    (.ops [⟨(some 18), none, (.bin .int .add (.t 8) (.c (.v (.int .i64 1))))⟩,
      ⟨(some 8), none, (.mv (.t 18))⟩])))))))
    (.seq (.ops [⟨(some 4), none, (.mv (.c (.v (.int .i64 (-1)))))⟩])
    .ret)))⟩
theorem L60_ok : lowFn Try.prog Try.f60 [] = some L60 := by kernel_rfl

/-- assessor_assessorref03.copied -/
def L63 : LFn := ⟨25, [(.cell 2 true 5)], (.seq (.ops [⟨(some 1), none, (.box false (.t 0))⟩,
      ⟨(some 2), none, (.alloc [(.v (.int .i64 0)), (.v (.string (mkS []))), (.v (.int .i64 0)), (.v (.int .i64 0)), (.v (.slice none 0 0))])⟩])
    (.seq (.ops [⟨(some 5), none, (.bsl false 5 0 [(.v (.int .i64 0)), (.v (.string (mkS []))), (.v (.int .i64 0)), (.v (.int .i64 0)), (.v (.slice none 0 0))] [])⟩,
      ⟨(some 3), none, (.mv (.t 5))⟩])
    (.seq (.seq (.ops [⟨(some 4), none, (.mv (.c (.v (.int .i64 0))))⟩])
    (.block 0 (.loop (.seq (.seq (.ops [⟨(some 6), none, (.mv (.t 4))⟩,
      ⟨(some 7), none, (.faddr 4 (.t 1))⟩,
      ⟨(some 8), none, (.load false 1 (.t 7))⟩,
      ⟨(some 9), none, (.len .slc (.t 8))⟩,
      ⟨(some 10), none, (.bin .int .lss (.t 6) (.t 9))⟩])
    (.cond (.t 10)
    .skip
    (.exit 0)))
    (.seq (.block 1 (.ops [⟨(some 13), none, (.mv (.t 3))⟩,
      ⟨(some 14), none, (.faddr 4 (.t 1))⟩,
      ⟨(some 15), none, (.load false 1 (.t 14))⟩,
      ⟨(some 16), none, (.mv (.t 4))⟩,
      ⟨(some 17), none, (.iaddr 5 (.t 15) (.t 16))⟩,
      ⟨(some 18), none, (.load true 5 (.t 17))⟩,
      ⟨(some 19), none, (.call (.c (.fn (.func 63) [] [])) [(.t 18)])⟩,
      ⟨(some 20), none, (.bsl true 5 1 [(.v (.int .i64 0)), (.v (.string (mkS []))), (.v (.int .i64 0)), (.v (.int .i64 0)), (.v (.slice none 0 0))] [(0, (.t 19))])⟩,
      ⟨(some 21), none, (.append 5 64 (.t 13) (.t 20))⟩,
      ⟨(some 3), none, (.mv (.t 21))⟩]))
    (.ops [⟨(some 11), none, (.mv (.t 4))⟩,
      ⟨(some 12), none, (.bin .int .add (.t 11) (.c (.v (.int .i64 1))))⟩,
      ⟨(some 4), none, (.mv (.t 12))⟩]))))))
    (.seq (.ops [⟨(some 22), none, (.mv (.t 3))⟩,
      ⟨(some 23), none, (.faddr 4 (.t 1))⟩,
      ⟨none, none, (.store 1 (.t 23) (.t 22))⟩])
    (.seq (.ops [⟨(some 24), none, (.load true 5 (.t 1))⟩,
      ⟨none, none, (.store 5 (.t 2) (.t 24))⟩])
    .ret)))))⟩
theorem L63_ok : lowFn Try.prog Try.f63 [⟨5, 7, .imm⟩] = some L63 := by kernel_rfl

/-- assessor_tree.fits -/
def L75 : LFn := ⟨64, [(.tmp 4)], (.seq (.ops [⟨(some 2), none, (.box false (.t 0))⟩,
      ⟨(some 3), none, (.box false (.t 1))⟩,
      ⟨(some 4), none, (.mv (.c (.v (.bool false))))⟩])
    (.seq (.seq (.ops [⟨(some 8), none, (.faddr 0 (.t 2))⟩,
      ⟨(some 9), none, (.load false 1 (.t 8))⟩,
      ⟨(some 10), none, (.faddr 1 (.t 3))⟩,
      ⟨(some 11), none, (.load false 1 (.t 10))⟩,
      ⟨(some 12), none, (.call (.t 9) [(.t 11)])⟩,
      ⟨(some 13), none, (.not (.t 12))⟩,
      ⟨(some 14), none, (.mv (.t 13))⟩,
      ⟨(some 15), (some (14, false)), (.faddr 2 (.t 2))⟩,
      ⟨(some 16), (some (14, false)), (.load false 1 (.t 15))⟩,
      ⟨(some 17), (some (14, false)), (.bin .fn .eql (.t 16) (.c (.v .nilFunc)))⟩,
      ⟨(some 18), (some (14, false)), (.mv (.t 17))⟩,
      ⟨(some 19), (some (18, true)), (.faddr 4 (.t 3))⟩,
      ⟨(some 20), (some (18, true)), (.load false 1 (.t 19))⟩,
      ⟨(some 21), (some (18, true)), (.len .slc (.t 20))⟩,
      ⟨(some 22), (some (18, true)), (.faddr 1 (.t 2))⟩,
      ⟨(some 23), (some (18, true)), (.load false 1 (.t 22))⟩,
      ⟨(some 24), (some (18, true)), (.len .slc (.t 23))⟩,
      ⟨(some 25), (some (18, true)), (.bin .int .neq (.t 21) (.t 24))⟩,
      ⟨(some 26), (some (14, false)), (.pick (.t 18) (.t 25) (.c (.v (.bool false))))⟩,
      ⟨(some 27), none, (.pick (.t 14) (.c (.v (.bool true))) (.t 26))⟩,
      ⟨(some 28), none, (.mv (.t 27))⟩,
      ⟨(some 29), (some (28, false)), (.faddr 2 (.t 2))⟩,
      ⟨(some 30), (some (28, false)), (.load false 1 (.t 29))⟩,
      ⟨(some 31), (some (28, false)), (.bin .fn .neq (.t 30) (.c (.v .nilFunc)))⟩,
      ⟨(some 32), (some (28, false)), (.mv (.t 31))⟩,
      ⟨(some 33), (some (32, true)), (.faddr 4 (.t 3))⟩,
      ⟨(some 34), (some (32, true)), (.load false 1 (.t 33))⟩,
      ⟨(some 35), (some (32, true)), (.len .slc (.t 34))⟩,
      ⟨(some 36), (some (32, true)), (.faddr 3 (.t 2))⟩,
      ⟨(some 37), (some (32, true)), (.load false 1 (.t 36))⟩,
      ⟨(some 38), (some (32, true)), (.bin .int .lss (.t 35) (.t 37))⟩,
      ⟨(some 39), (some (28, false)), (.pick (.t 32) (.t 38) (.c (.v (.bool false))))⟩,
      ⟨(some 40), none, (.pick (.t 28) (.c (.v (.bool true))) (.t 39))⟩])
    (.cond (.t 40)
    (.seq (.ops [⟨(some 4), none, (.mv (.c (.v (.bool false))))⟩])
    .ret)
    .skip))
    (.seq (.seq (.ops [⟨(some 41), none, (.faddr 4 (.t 3))⟩,
      ⟨(some 42), none, (.load false 1 (.t 41))⟩,
      ⟨(some 43), none, (.len .slc (.t 42))⟩,
      ⟨(some 44), none, (.mv (.c (.v (.int .i64 0))))⟩])
    (.block 0 (.loop (.seq (.ops [⟨(some 45), none, (.bin .int .lss (.t 44) (.t 43))⟩])
    (.seq (.cond (.t 45)
    .skip
    (.exit 0))
    (.seq (.block 1 (.seq (.ops [⟨(some 46), none, (.mv (.t 44))⟩,
      ⟨(some 47), none, (.iaddr 5 (.t 42) (.t 44))⟩,
      ⟨(some 48), none, (.load true 5 (.t 47))⟩,
      ⟨(some 6), none, (.alloc [(.v (.int .i64 0)), (.v (.string (mkS []))), (.v (.int .i64 0)), (.v (.int .i64 0)), (.v (.slice none 0 0))])⟩,
      ⟨(some 5), none, (.mv (.t 46))⟩,
      ⟨none, none, (.store 5 (.t 6) (.t 48))⟩])
    (.seq (.ops [⟨(some 49), none, (.faddr 2 (.t 2))⟩,
      ⟨(some 50), none, (.load false 1 (.t 49))⟩,
      ⟨(some 7), none, (.mv (.t 50))⟩])
    (.seq (.seq (.ops [⟨(some 51), none, (.mv (.t 7))⟩,
      ⟨(some 52), none, (.bin .fn .eql (.t 51) (.c (.v .nilFunc)))⟩])
    (.cond (.t 52)
    (.ops [⟨(some 53), none, (.faddr 1 (.t 2))⟩,
      ⟨(some 54), none, (.load false 1 (.t 53))⟩,
      ⟨(some 55), none, (.mv (.t 5))⟩,
      ⟨(some 56), none, (.iaddr 1 (.t 54) (.t 55))⟩,
      ⟨(some 57), none, (.load false 1 (.t 56))⟩,
      ⟨(some 7), none, (.mv (.t 57))⟩])
    .skip))
    (.seq (.ops [⟨(some 58), none, (.mv (.t 7))⟩,
      ⟨(some 59), none, (.faddr 0 (.t 6))⟩,
      ⟨(some 60), none, (.load false 1 (.t 59))⟩,
      ⟨(some 61), none, (.call (.t 58) [(.t 60)])⟩,
      ⟨(some 62), none, (.not (.t 61))⟩])
    (.cond (.t 62)
    (.seq (.ops [⟨(some 4), none, (.mv (.c (.v (.bool false))))⟩])
    .ret)
    .skip))))))
    (.ops [⟨(some 63), none, (.bin .int .add (.t 44) (.c (.v (.int .i64 1))))⟩,
      ⟨(some 44), none, (.mv (.t 63))⟩])))))))
    (.seq (.ops [⟨(some 4), none, (.mv (.c (.v (.bool true))))⟩])
    .ret))))⟩
theorem L75_ok : lowFn Try.prog Try.f75 [] = some L75 := by kernel_rfl

/-- assessor_assessorref03.text -/
def L76 : LFn := ⟨70, [(.tmp 2)], (.seq (.ops [⟨(some 1), none, (.box false (.t 0))⟩,
      ⟨(some 2), none, (.mv (.c (.v (.bool false))))⟩])
    (.seq (.seq (.ops [⟨(some 3), none, (.faddr 0 (.t 1))⟩,
      ⟨(some 4), none, (.load false 1 (.t 3))⟩])
    (.block 0 (.seq (.seq (.ops [⟨(some 6), none, (.bin .int .eql (.t 4) (.c (.v (.int .i64 3))))⟩,
      ⟨(some 5), none, (.mv (.t 6))⟩])
    (.cond (.t 5)
    .skip
    (.seq (.ops [⟨(some 7), none, (.bin .int .eql (.t 4) (.c (.v (.int .i64 4))))⟩,
      ⟨(some 5), none, (.mv (.t 7))⟩])
    (.cond (.t 5)
    .skip
    (.seq (.ops [⟨(some 8), none, (.bin .int .eql (.t 4) (.c (.v (.int .i64 5))))⟩,
      ⟨(some 5), none, (.mv (.t 8))⟩])
    (.cond (.t 5)
    .skip
    (.seq (.ops [⟨(some 9), none, (.bin .int .eql (.t 4) (.c (.v (.int .i64 7))))⟩,
      ⟨(some 5), none, (.mv (.t 9))⟩])
    (.cond (.t 5)
    .skip
    (.seq (.ops [⟨(some 10), none, (.bin .int .eql (.t 4) (.c (.v (.int .i64 8))))⟩,
      ⟨(some 5), none, (.mv (.t 10))⟩])
    (.cond (.t 5)
    .skip
    (.seq (.ops [⟨(some 11), none, (.bin .int .eql (.t 4) (.c (.v (.int .i64 12))))⟩,
      ⟨(some 5), none, (.mv (.t 11))⟩])
    (.cond (.t 5)
    .skip
    (.seq (.ops [⟨(some 12), none, (.bin .int .eql (.t 4) (.c (.v (.int .i64 16))))⟩,
      ⟨(some 5), none, (.mv (.t 12))⟩])
    (.cond (.t 5)
    .skip
    (.seq (.ops [⟨(some 13), none, (.bin .int .eql (.t 4) (.c (.v (.int .i64 19))))⟩,
      ⟨(some 5), none, (.mv (.t 13))⟩])
    (.cond (.t 5)
    .skip
    (.seq (.ops [⟨(some 14), none, (.bin .int .eql (.t 4) (.c (.v (.int .i64 20))))⟩,
      ⟨(some 5), none, (.mv (.t 14))⟩])
    (.cond (.t 5)
    .skip
    (.seq (.ops [⟨(some 15), none, (.bin .int .eql (.t 4) (.c (.v (.int .i64 22))))⟩,
      ⟨(some 5), none, (.mv (.t 15))⟩])
    (.cond (.t 5)
    .skip
    (.ops [⟨(some 16), none, (.bin .int .eql (.t 4) (.c (.v (.int .i64 27))))⟩,
      ⟨(some 5), none, (.mv (.t 16))⟩])))))))))))))))))))))
    (.cond (.t 5)
    (.seq (.ops [⟨(some 17), none, (.faddr 1 (.t 1))⟩,
      ⟨(some 18), none, (.load false 1 (.t 17))⟩,
      ⟨(some 19), none, (.call (.c (.fn (.func 102) [] [])) [(.t 18)])⟩,
      ⟨(some 2), none, (.mv (.t 19))⟩])
    .ret)
    (.seq (.ops [⟨(some 21), none, (.bin .int .eql (.t 4) (.c (.v (.int .i64 9))))⟩,
      ⟨(some 20), none, (.mv (.t 21))⟩])
    (.cond (.t 20)
    (.seq (.ops [⟨(some 22), none, (.faddr 1 (.t 1))⟩,
      ⟨(some 23), none, (.load false 1 (.t 22))⟩,
      ⟨(some 24), none, (.bin .str .eql (.t 23) (.c (.v (.string (mkS [105, 110, 116])))))⟩,
      ⟨(some 25), none, (.mv (.t 24))⟩,
      ⟨(some 26), (some (25, false)), (.faddr 1 (.t 1))⟩,
      ⟨(some 27), (some (25, false)), (.load false 1 (.t 26))⟩,
      ⟨(some 28), (some (25, false)), (.bin .str .eql (.t 27) (.c (.v (.string (mkS [98, 111, 111, 108])))))⟩,
      ⟨(some 29), none, (.pick (.t 25) (.c (.v (.bool true))) (.t 28))⟩,
      ⟨(some 30), none, (.mv (.t 29))⟩,
      ⟨(some 31), (some (30, false)), (.faddr 1 (.t 1))⟩,
      ⟨(some 32), (some (30, false)), (.load false 1 (.t 31))⟩,
      ⟨(some 33), (some (30, false)), (.call (.c (.fn (.func 102) [] [])) [(.t 32)])⟩,
      ⟨(some 34), none, (.pick (.t 30) (.c (.v (.bool true))) (.t 33))⟩,
      ⟨(some 2), none, (.mv (.t 34))⟩])
    .ret)
    (.seq (.seq (.ops [⟨(some 36), none, (.bin .int .eql (.t 4) (.c (.v (.int .i64 10))))⟩,
      ⟨(some 35), none, (.mv (.t 36))⟩])
    (.cond (.t 35)
    .skip
    (.ops [⟨(some 37), none, (.bin .int .eql (.t 4) (.c (.v (.int .i64 24))))⟩,
      ⟨(some 35), none, (.mv (.t 37))⟩])))
    (.cond (.t 35)
    (.seq (.ops [⟨(some 38), none, (.faddr 1 (.t 1))⟩,
      ⟨(some 39), none, (.load false 1 (.t 38))⟩,
      ⟨(some 40), none, (.call (.c (.fn (.func 103) [] [])) [(.t 39)])⟩,
      ⟨(some 2), none, (.mv (.t 40))⟩])
    .ret)
    (.seq (.ops [⟨(some 42), none, (.bin .int .eql (.t 4) (.c (.v (.int .i64 25))))⟩,
      ⟨(some 41), none, (.mv (.t 42))⟩])
    (.cond (.t 41)
    (.seq (.ops [⟨(some 43), none, (.faddr 1 (.t 1))⟩,
      ⟨(some 44), none, (.load false 1 (.t 43))⟩,
      ⟨(some 45), none, (.bin .str .eql (.t 44) (.c (.v (.string (mkS [116, 114, 117, 101])))))⟩,
      ⟨(some 46), none, (.mv (.t 45))⟩,
      ⟨(some 47), (some (46, false)), (.faddr 1 (.t 1))⟩,
      ⟨(some 48), (some (46, false)), (.load false 1 (.t 47))⟩,
      ⟨(some 49), (some (46, false)), (.bin .str .eql (.t 48) (.c (.v (.string (mkS [102, 97, 108, 115, 101])))))⟩,
      ⟨(some 50), none, (.pick (.t 46) (.c (.v (.bool true))) (.t 49))⟩,
      ⟨(some 2), none, (.mv (.t 50))⟩])
    .ret)
    (.seq (.ops [⟨(some 52), none, (.bin .int .eql (.t 4) (.c (.v (.int .i64 28))))⟩,
      ⟨(some 51), none, (.mv (.t 52))⟩])
    (.cond (.t 51)
    (.seq (.ops [⟨(some 53), none, (.faddr 1 (.t 1))⟩,
      ⟨(some 54), none, (.load false 1 (.t 53))⟩,
      ⟨(some 55), none, (.bin .str .eql (.t 54) (.c (.v (.string (mkS [45])))))⟩,
      ⟨(some 56), none, (.mv (.t 55))⟩,
      ⟨(some 57), (some (56, false)), (.faddr 1 (.t 1))⟩,
      ⟨(some 58), (some (56, false)), (.load false 1 (.t 57))⟩,
      ⟨(some 59), (some (56, false)), (.bin .str .eql (.t 58) (.c (.v (.string (mkS [110, 111, 116])))))⟩,
      ⟨(some 60), none, (.pick (.t 56) (.c (.v (.bool true))) (.t 59))⟩,
      ⟨(some 2), none, (.mv (.t 60))⟩])
    .ret)
    (.seq (.ops [⟨(some 62), none, (.bin .int .eql (.t 4) (.c (.v (.int .i64 29))))⟩,
      ⟨(some 61), none, (.mv (.t 62))⟩])
    (.cond (.t 61)
    (.seq (.ops [⟨(some 63), none, (.bsl true 1 13 [(.v (.string (mkS [])))] [(0, (.c (.v (.string (mkS [111, 114]))))), (1, (.c (.v (.string (mkS [97, 110, 100]))))), (2, (.c (.v (.string (mkS [61, 61]))))), (3, (.c (.v (.string (mkS [33, 61]))))), (4, (.c (.v (.string (mkS [60]))))), (5, (.c (.v (.string (mkS [60, 61]))))), (6, (.c (.v (.string (mkS [62]))))), (7, (.c (.v (.string (mkS [62, 61]))))), (8, (.c (.v (.string (mkS [43]))))), (9, (.c (.v (.string (mkS [45]))))), (10, (.c (.v (.string (mkS [42]))))), (11, (.c (.v (.string (mkS [47]))))), (12, (.c (.v (.string (mkS [37])))))])⟩,
      ⟨(some 64), none, (.faddr 1 (.t 1))⟩,
      ⟨(some 65), none, (.load false 1 (.t 64))⟩,
      ⟨(some 66), none, (.call (.c (.fn (.func 104) [] [])) [(.t 63), (.t 65)])⟩,
      ⟨(some 2), none, (.mv (.t 66))⟩])
    .ret)
    .skip))))))))))))))
    (.seq (.ops [⟨(some 67), none, (.faddr 1 (.t 1))⟩,
      ⟨(some 68), none, (.load false 1 (.t 67))⟩,
      ⟨(some 69), none, (.bin .str .eql (.t 68) (.c (.v (.string (mkS [])))))⟩,
      ⟨(some 2), none, (.mv (.t 69))⟩])
    .ret)))⟩
theorem L76_ok : lowFn Try.prog Try.f76 [⟨24, 0, .imm⟩] = some L76 := by kernel_rfl

/-- assessor_assessorref03.most -/
def L77 : LFn := ⟨33, [(.tmp 2), (.tmp 3)], (.seq (.ops [⟨(some 2), none, (.mv (.c (.v (.int .i64 0))))⟩,
      ⟨(some 3), none, (.mv (.c (.v (.int .i64 0))))⟩])
    (.seq (.seq (.ops [⟨(some 4), none, (.mv (.t 0))⟩])
    (.block 0 (.seq (.seq (.ops [⟨(some 6), none, (.bin .int .eql (.t 4) (.c (.v (.int .i64 2))))⟩,
      ⟨(some 5), none, (.mv (.t 6))⟩])
    (.cond (.t 5)
    .skip
    (.seq (.ops [⟨(some 7), none, (.bin .int .eql (.t 4) (.c (.v (.int .i64 6))))⟩,
      ⟨(some 5), none, (.mv (.t 7))⟩])
    (.cond (.t 5)
    .skip
    (.seq (.ops [⟨(some 8), none, (.bin .int .eql (.t 4) (.c (.v (.int .i64 11))))⟩,
      ⟨(some 5), none, (.mv (.t 8))⟩])
    (.cond (.t 5)
    .skip
    (.seq (.ops [⟨(some 9), none, (.bin .int .eql (.t 4) (.c (.v (.int .i64 19))))⟩,
      ⟨(some 5), none, (.mv (.t 9))⟩])
    (.cond (.t 5)
    .skip
    (.ops [⟨(some 10), none, (.bin .int .eql (.t 4) (.c (.v (.int .i64 27))))⟩,
      ⟨(some 5), none, (.mv (.t 10))⟩])))))))))
    (.cond (.t 5)
    (.seq (.ops [⟨(some 2), none, (.mv (.c (.v (.int .i64 0))))⟩,
      ⟨(some 3), none, (.mv (.c (.v (.int .i64 4096))))⟩])
    .ret)
    (.seq (.seq (.ops [⟨(some 12), none, (.bin .int .eql (.t 4) (.c (.v (.int .i64 3))))⟩,
      ⟨(some 11), none, (.mv (.t 12))⟩])
    (.cond (.t 11)
    .skip
    (.ops [⟨(some 13), none, (.bin .int .eql (.t 4) (.c (.v (.int .i64 26))))⟩,
      ⟨(some 11), none, (.mv (.t 13))⟩])))
    (.cond (.t 11)
    (.seq (.ops [⟨(some 2), none, (.mv (.c (.v (.int .i64 1))))⟩,
      ⟨(some 3), none, (.mv (.c (.v (.int .i64 4096))))⟩])
    .ret)
    (.seq (.seq (.ops [⟨(some 15), none, (.bin .int .eql (.t 4) (.c (.v (.int .i64 5))))⟩,
      ⟨(some 14), none, (.mv (.t 15))⟩])
    (.cond (.t 14)
    .skip
    (.seq (.ops [⟨(some 16), none, (.bin .int .eql (.t 4) (.c (.v (.int .i64 14))))⟩,
      ⟨(some 14), none, (.mv (.t 16))⟩])
    (.cond (.t 14)
    .skip
    (.ops [⟨(some 17), none, (.bin .int .eql (.t 4) (.c (.v (.int .i64 16))))⟩,
      ⟨(some 14), none, (.mv (.t 17))⟩])))))
    (.cond (.t 14)
    (.seq (.ops [⟨(some 2), none, (.mv (.c (.v (.int .i64 3))))⟩,
      ⟨(some 3), none, (.mv (.c (.v (.int .i64 3))))⟩])
    .ret)
    (.seq (.seq (.ops [⟨(some 19), none, (.bin .int .eql (.t 4) (.c (.v (.int .i64 12))))⟩,
      ⟨(some 18), none, (.mv (.t 19))⟩])
    (.cond (.t 18)
    .skip
    (.seq (.ops [⟨(some 20), none, (.bin .int .eql (.t 4) (.c (.v (.int .i64 13))))⟩,
      ⟨(some 18), none, (.mv (.t 20))⟩])
    (.cond (.t 18)
    .skip
    (.seq (.ops [⟨(some 21), none, (.bin .int .eql (.t 4) (.c (.v (.int .i64 15))))⟩,
      ⟨(some 18), none, (.mv (.t 21))⟩])
    (.cond (.t 18)
    .skip
    (.seq (.ops [⟨(some 22), none, (.bin .int .eql (.t 4) (.c (.v (.int .i64 21))))⟩,
      ⟨(some 18), none, (.mv (.t 22))⟩])
    (.cond (.t 18)
    .skip
    (.ops [⟨(some 23), none, (.bin .int .eql (.t 4) (.c (.v (.int .i64 29))))⟩,
      ⟨(some 18), none, (.mv (.t 23))⟩])))))))))
    (.cond (.t 18)
    (.seq (.ops [⟨(some 2), none, (.mv (.c (.v (.int .i64 2))))⟩,
      ⟨(some 3), none, (.mv (.c (.v (.int .i64 2))))⟩])
    .ret)
    (.seq (.seq (.ops [⟨(some 25), none, (.bin .int .eql (.t 4) (.c (.v (.int .i64 4))))⟩,
      ⟨(some 24), none, (.mv (.t 25))⟩])
    (.cond (.t 24)
    .skip
    (.seq (.ops [⟨(some 26), none, (.bin .int .eql (.t 4) (.c (.v (.int .i64 7))))⟩,
      ⟨(some 24), none, (.mv (.t 26))⟩])
    (.cond (.t 24)
    .skip
    (.seq (.ops [⟨(some 27), none, (.bin .int .eql (.t 4) (.c (.v (.int .i64 8))))⟩,
      ⟨(some 24), none, (.mv (.t 27))⟩])
    (.cond (.t 24)
    .skip
    (.seq (.ops [⟨(some 28), none, (.bin .int .eql (.t 4) (.c (.v (.int .i64 17))))⟩,
      ⟨(some 24), none, (.mv (.t 28))⟩])
    (.cond (.t 24)
    .skip
    (.seq (.ops [⟨(some 29), none, (.bin .int .eql (.t 4) (.c (.v (.int .i64 18))))⟩,
      ⟨(some 24), none, (.mv (.t 29))⟩])
    (.cond (.t 24)
    .skip
    (.seq (.ops [⟨(some 30), none, (.bin .int .eql (.t 4) (.c (.v (.int .i64 22))))⟩,
      ⟨(some 24), none, (.mv (.t 30))⟩])
    (.cond (.t 24)
    .skip
    (.seq (.ops [⟨(some 31), none, (.bin .int .eql (.t 4) (.c (.v (.int .i64 23))))⟩,
      ⟨(some 24), none, (.mv (.t 31))⟩])
    (.cond (.t 24)
    .skip
    (.ops [⟨(some 32), none, (.bin .int .eql (.t 4) (.c (.v (.int .i64 28))))⟩,
      ⟨(some 24), none, (.mv (.t 32))⟩])))))))))))))))
    (.cond (.t 24)
    (.seq (.ops [⟨(some 2), none, (.mv (.c (.v (.int .i64 1))))⟩,
      ⟨(some 3), none, (.mv (.c (.v (.int .i64 1))))⟩])
    .ret)
    .skip))))))))))))
    (.seq (.ops [⟨(some 2), none, (.mv (.c (.v (.int .i64 0))))⟩,
      ⟨(some 3), none, (.mv (.c (.v (.int .i64 0))))⟩])
    .ret)))⟩
theorem L77_ok : lowFn Try.prog Try.f77 [] = some L77 := by kernel_rfl

/-- assessor_assessorref03.kid -/
def L78 : LFn := ⟨217, [(.tmp 6)], (.seq (.ops [⟨(some 5), none, (.box false (.t 2))⟩,
      ⟨(some 6), none, (.mv (.c (.v (.bool false))))⟩])
    (.seq (.ops [⟨(some 8), none, (.faddr 0 (.t 5))⟩,
      ⟨(some 9), none, (.load false 1 (.t 8))⟩,
      ⟨(some 7), none, (.mv (.t 9))⟩])
    (.seq (.seq (.ops [⟨(some 10), none, (.mv (.t 0))⟩])
    (.block 0 (.seq (.ops [⟨(some 12), none, (.bin .int .eql (.t 10) (.c (.v (.int .i64 2))))⟩,
      ⟨(some 11), none, (.mv (.t 12))⟩])
    (.cond (.t 11)
    (.seq (.ops [⟨(some 13), none, (.mv (.t 7))⟩,
      ⟨(some 14), none, (.bin .int .eql (.t 13) (.c (.v (.int .i64 3))))⟩,
      ⟨(some 15), none, (.mv (.t 14))⟩,
      ⟨(some 16), (some (15, false)), (.mv (.t 7))⟩,
      ⟨(some 17), (some (15, false)), (.bin .int .eql (.t 16) (.c (.v (.int .i64 5))))⟩,
      ⟨(some 18), none, (.pick (.t 15) (.c (.v (.bool true))) (.t 17))⟩,
      ⟨(some 6), none, (.mv (.t 18))⟩])
    .ret)
    (.seq (.ops [⟨(some 20), none, (.bin .int .eql (.t 10) (.c (.v (.int .i64 3))))⟩,
      ⟨(some 19), none, (.mv (.t 20))⟩])
    (.cond (.t 19)
    (.seq (.ops [⟨(some 21), none, (.mv (.t 7))⟩,
      ⟨(some 22), none, (.bin .int .eql (.t 21) (.c (.v (.int .i64 4))))⟩,
      ⟨(some 6), none, (.mv (.t 22))⟩])
    .ret)
    (.seq (.ops [⟨(some 24), none, (.bin .int .eql (.t 10) (.c (.v (.int .i64 4))))⟩,
      ⟨(some 23), none, (.mv (.t 24))⟩])
    (.cond (.t 23)
    (.seq (.ops [⟨(some 25), none, (.mv (.t 7))⟩,
      ⟨(some 26), none, (.bin .int .eql (.t 25) (.c (.v (.int .i64 9))))⟩,
      ⟨(some 27), none, (.mv (.t 26))⟩,
      ⟨(some 28), (some (27, true)), (.faddr 1 (.t 5))⟩,
      ⟨(some 29), (some (27, true)), (.load false 1 (.t 28))⟩,
      ⟨(some 30), (some (27, true)), (.bin .str .eql (.t 29) (.c (.v (.string (mkS [105, 110, 116])))))⟩,
      ⟨(some 31), (some (27, true)), (.mv (.t 30))⟩,
      ⟨(some 32), (some (31, false)), (.faddr 1 (.t 5))⟩,
      ⟨(some 33), (some (31, false)), (.load false 1 (.t 32))⟩,
      ⟨(some 34), (some (31, false)), (.bin .str .eql (.t 33) (.c (.v (.string (mkS [98, 111, 111, 108])))))⟩,
      ⟨(some 35), (some (27, true)), (.pick (.t 31) (.c (.v (.bool true))) (.t 34))⟩,
      ⟨(some 36), none, (.pick (.t 27) (.t 35) (.c (.v (.bool false))))⟩,
      ⟨(some 6), none, (.mv (.t 36))⟩])
    .ret)
    (.seq (.ops [⟨(some 38), none, (.bin .int .eql (.t 10) (.c (.v (.int .i64 5))))⟩,
      ⟨(some 37), none, (.mv (.t 38))⟩])
    (.cond (.t 37)
    (.seq (.ops [⟨(some 39), none, (.mv (.t 1))⟩,
      ⟨(some 40), none, (.bin .int .eql (.t 39) (.c (.v (.int .i64 0))))⟩,
      ⟨(some 41), none, (.mv (.t 40))⟩,
      ⟨(some 42), (some (41, true)), (.mv (.t 7))⟩,
      ⟨(some 43), (some (41, true)), (.bin .int .eql (.t 42) (.c (.v (.int .i64 6))))⟩,
      ⟨(some 44), none, (.pick (.t 41) (.t 43) (.c (.v (.bool false))))⟩,
      ⟨(some 45), none, (.mv (.t 44))⟩,
      ⟨(some 46), (some (45, false)), (.mv (.t 1))⟩,
      ⟨(some 47), (some (45, false)), (.bin .int .eql (.t 46) (.c (.v (.int .i64 1))))⟩,
      ⟨(some 48), (some (45, false)), (.mv (.t 47))⟩,
      ⟨(some 49), (some (48, true)), (.mv (.t 7))⟩,
      ⟨(some 50), (some (48, true)), (.call (.c (.fn (.func 105) [] [])) [(.t 49)])⟩,
      ⟨(some 51), (some (48, true)), (.mv (.t 50))⟩,
      ⟨(some 52), (some (51, false)), (.mv (.t 7))⟩,
      ⟨(some 53), (some (51, false)), (.bin .int .eql (.t 52) (.c (.v (.int .i64 0))))⟩,
      ⟨(some 54), (some (48, true)), (.pick (.t 51) (.c (.v (.bool true))) (.t 53))⟩,
      ⟨(some 55), (some (45, false)), (.pick (.t 48) (.t 54) (.c (.v (.bool false))))⟩,
      ⟨(some 56), none, (.pick (.t 45) (.c (.v (.bool true))) (.t 55))⟩,
      ⟨(some 57), none, (.mv (.t 56))⟩,
      ⟨(some 58), (some (57, false)), (.mv (.t 1))⟩,
      ⟨(some 59), (some (57, false)), (.bin .int .eql (.t 58) (.c (.v (.int .i64 2))))⟩,
      ⟨(some 60), (some (57, false)), (.mv (.t 59))⟩,
      ⟨(some 61), (some (60, true)), (.mv (.t 7))⟩,
      ⟨(some 62), (some (60, true)), (.bin .int .eql (.t 61) (.c (.v (.int .i64 11))))⟩,
      ⟨(some 63), (some (57, false)), (.pick (.t 60) (.t 62) (.c (.v (.bool false))))⟩,
      ⟨(some 64), none, (.pick (.t 57) (.c (.v (.bool true))) (.t 63))⟩,
      ⟨(some 6), none, (.mv (.t 64))⟩])
    .ret)
    (.seq (.ops [⟨(some 66), none, (.bin .int .eql (.t 10) (.c (.v (.int .i64 6))))⟩,
      ⟨(some 65), none, (.mv (.t 66))⟩])
    (.cond (.t 65)
    (.seq (.ops [⟨(some 67), none, (.mv (.t 7))⟩,
      ⟨(some 68), none, (.bin .int .eql (.t 67) (.c (.v (.int .i64 7))))⟩,
      ⟨(some 69), none, (.mv (.t 68))⟩,
      ⟨(some 70), (some (69, false)), (.mv (.t 7))⟩,
      ⟨(some 71), (some (69, false)), (.bin .int .eql (.t 70) (.c (.v (.int .i64 8))))⟩,
      ⟨(some 72), none, (.pick (.t 69) (.c (.v (.bool true))) (.t 71))⟩,
      ⟨(some 6), none, (.mv (.t 72))⟩])
    .ret)
    (.seq (.seq (.ops [⟨(some 74), none, (.bin .int .eql (.t 10) (.c (.v (.int .i64 7))))⟩,
      ⟨(some 73), none, (.mv (.t 74))⟩])
    (.cond (.t 73)
    .skip
    (.ops [⟨(some 75), none, (.bin .int .eql (.t 10) (.c (.v (.int .i64 8))))⟩,
      ⟨(some 73), none, (.mv (.t 75))⟩])))
    (.cond (.t 73)
    (.seq (.ops [⟨(some 76), none, (.mv (.t 7))⟩,
      ⟨(some 77), none, (.call (.c (.fn (.func 105) [] [])) [(.t 76)])⟩,
      ⟨(some 78), none, (.mv (.t 77))⟩,
      ⟨(some 79), (some (78, false)), (.mv (.t 7))⟩,
      ⟨(some 80), (some (78, false)), (.bin .int .eql (.t 79) (.c (.v (.int .i64 0))))⟩,
      ⟨(some 81), none, (.pick (.t 78) (.c (.v (.bool true))) (.t 80))⟩,
      ⟨(some 6), none, (.mv (.t 81))⟩])
    .ret)
    (.seq (.ops [⟨(some 83), none, (.bin .int .eql (.t 10) (.c (.v (.int .i64 11))))⟩,
      ⟨(some 82), none, (.mv (.t 83))⟩])
    (.cond (.t 82)
    (.seq (.ops [⟨(some 84), none, (.mv (.t 7))⟩,
      ⟨(some 85), none, (.call (.c (.fn (.func 55) [] [])) [(.t 84)])⟩,
      ⟨(some 6), none, (.mv (.t 85))⟩])
    .ret)
    (.seq (.ops [⟨(some 87), none, (.bin .int .eql (.t 10) (.c (.v (.int .i64 12))))⟩,
      ⟨(some 86), none, (.mv (.t 87))⟩])
    (.cond (.t 86)
    (.seq (.ops [⟨(some 88), none, (.mv (.t 1))⟩,
      ⟨(some 89), none, (.bin .int .eql (.t 88) (.c (.v (.int .i64 0))))⟩,
      ⟨(some 90), none, (.mv (.t 89))⟩,
      ⟨(some 91), (some (90, true)), (.mv (.t 7))⟩,
      ⟨(some 92), (some (90, true)), (.call (.c (.fn (.func 105) [] [])) [(.t 91)])⟩,
      ⟨(some 93), (some (90, true)), (.mv (.t 92))⟩,
      ⟨(some 94), (some (93, false)), (.mv (.t 7))⟩,
      ⟨(some 95), (some (93, false)), (.bin .int .eql (.t 94) (.c (.v (.int .i64 0))))⟩,
      ⟨(some 96), (some (90, true)), (.pick (.t 93) (.c (.v (.bool true))) (.t 95))⟩,
      ⟨(some 97), none, (.pick (.t 90) (.t 96) (.c (.v (.bool false))))⟩,
      ⟨(some 98), none, (.mv (.t 97))⟩,
      ⟨(some 99), (some (98, false)), (.mv (.t 1))⟩,
      ⟨(some 100), (some (98, false)), (.bin .int .eql (.t 99) (.c (.v (.int .i64 1))))⟩,
      ⟨(some 101), (some (98, false)), (.mv (.t 100))⟩,
      ⟨(some 102), (some (101, true)), (.mv (.t 7))⟩,
      ⟨(some 103), (some (101, true)), (.call (.c (.fn (.func 53) [] [])) [(.t 102)])⟩,
      ⟨(some 104), (some (98, false)), (.pick (.t 101) (.t 103) (.c (.v (.bool false))))⟩,
      ⟨(some 105), none, (.pick (.t 98) (.c (.v (.bool true))) (.t 104))⟩,
      ⟨(some 6), none, (.mv (.t 105))⟩])
    .ret)
    (.seq (.ops [⟨(some 107), none, (.bin .int .eql (.t 10) (.c (.v (.int .i64 13))))⟩,
      ⟨(some 106), none, (.mv (.t 107))⟩])
    (.cond (.t 106)
    (.seq (.ops [⟨(some 108), none, (.mv (.t 1))⟩,
      ⟨(some 109), none, (.bin .int .eql (.t 108) (.c (.v (.int .i64 0))))⟩,
      ⟨(some 110), none, (.mv (.t 109))⟩,
      ⟨(some 111), (some (110, true)), (.mv (.t 7))⟩,
      ⟨(some 112), (some (110, true)), (.call (.c (.fn (.func 106) [] [])) [(.t 111)])⟩,
      ⟨(some 113), none, (.pick (.t 110) (.t 112) (.c (.v (.bool false))))⟩,
      ⟨(some 114), none, (.mv (.t 113))⟩,
      ⟨(some 115), (some (114, false)), (.mv (.t 1))⟩,
      ⟨(some 116), (some (114, false)), (.bin .int .eql (.t 115) (.c (.v (.int .i64 1))))⟩,
      ⟨(some 117), (some (114, false)), (.mv (.t 116))⟩,
      ⟨(some 118), (some (117, true)), (.mv (.t 7))⟩,
      ⟨(some 119), (some (117, true)), (.call (.c (.fn (.func 53) [] [])) [(.t 118)])⟩,
      ⟨(some 120), (some (114, false)), (.pick (.t 117) (.t 119) (.c (.v (.bool false))))⟩,
      ⟨(some 121), none, (.pick (.t 114) (.c (.v (.bool true))) (.t 120))⟩,
      ⟨(some 6), none, (.mv (.t 121))⟩])
    .ret)
    (.seq (.ops [⟨(some 123), none, (.bin .int .eql (.t 10) (.c (.v (.int .i64 14))))⟩,
      ⟨(some 122), none, (.mv (.t 123))⟩])
    (.cond (.t 122)
    (.seq (.ops [⟨(some 124), none, (.mv (.t 1))⟩,
      ⟨(some 125), none, (.bin .int .eql (.t 124) (.c (.v (.int .i64 0))))⟩,
      ⟨(some 126), none, (.mv (.t 125))⟩,
      ⟨(some 127), (some (126, true)), (.mv (.t 7))⟩,
      ⟨(some 128), (some (126, true)), (.call (.c (.fn (.func 53) [] [])) [(.t 127)])⟩,
      ⟨(some 129), none, (.pick (.t 126) (.t 128) (.c (.v (.bool false))))⟩,
      ⟨(some 130), none, (.mv (.t 129))⟩,
      ⟨(some 131), (some (130, false)), (.mv (.t 1))⟩,
      ⟨(some 132), (some (130, false)), (.bin .int .eql (.t 131) (.c (.v (.int .i64 1))))⟩,
      ⟨(some 133), (some (130, false)), (.mv (.t 132))⟩,
      ⟨(some 134), (some (133, true)), (.mv (.t 7))⟩,
      ⟨(some 135), (some (133, true)), (.bin .int .eql (.t 134) (.c (.v (.int .i64 11))))⟩,
      ⟨(some 136), (some (130, false)), (.pick (.t 133) (.t 135) (.c (.v (.bool false))))⟩,
      ⟨(some 137), none, (.pick (.t 130) (.c (.v (.bool true))) (.t 136))⟩,
      ⟨(some 138), none, (.mv (.t 137))⟩,
      ⟨(some 139), (some (138, false)), (.mv (.t 1))⟩,
      ⟨(some 140), (some (138, false)), (.bin .int .eql (.t 139) (.c (.v (.int .i64 2))))⟩,
      ⟨(some 141), (some (138, false)), (.mv (.t 140))⟩,
      ⟨(some 142), (some (141, true)), (.mv (.t 7))⟩,
      ⟨(some 143), (some (141, true)), (.bin .int .eql (.t 142) (.c (.v (.int .i64 11))))⟩,
      ⟨(some 144), (some (141, true)), (.mv (.t 143))⟩,
      ⟨(some 145), (some (144, false)), (.mv (.t 7))⟩,
      ⟨(some 146), (some (144, false)), (.bin .int .eql (.t 145) (.c (.v (.int .i64 14))))⟩,
      ⟨(some 147), (some (141, true)), (.pick (.t 144) (.c (.v (.bool true))) (.t 146))⟩,
      ⟨(some 148), (some (141, true)), (.mv (.t 147))⟩,
      ⟨(some 149), (some (148, false)), (.mv (.t 7))⟩,
      ⟨(some 150), (some (148, false)), (.bin .int .eql (.t 149) (.c (.v (.int .i64 0))))⟩,
      ⟨(some 151), (some (141, true)), (.pick (.t 148) (.c (.v (.bool true))) (.t 150))⟩,
      ⟨(some 152), (some (138, false)), (.pick (.t 141) (.t 151) (.c (.v (.bool false))))⟩,
      ⟨(some 153), none, (.pick (.t 138) (.c (.v (.bool true))) (.t 152))⟩,
      ⟨(some 6), none, (.mv (.t 153))⟩])
    .ret)
    (.seq (.ops [⟨(some 155), none, (.bin .int .eql (.t 10) (.c (.v (.int .i64 15))))⟩,
      ⟨(some 154), none, (.mv (.t 155))⟩])
    (.cond (.t 154)
    (.seq (.ops [⟨(some 156), none, (.mv (.t 1))⟩,
      ⟨(some 157), none, (.bin .int .eql (.t 156) (.c (.v (.int .i64 0))))⟩,
      ⟨(some 158), none, (.mv (.t 157))⟩,
      ⟨(some 159), (some (158, true)), (.mv (.t 7))⟩,
      ⟨(some 160), (some (158, true)), (.call (.c (.fn (.func 53) [] [])) [(.t 159)])⟩,
      ⟨(some 161), none, (.pick (.t 158) (.t 160) (.c (.v (.bool false))))⟩,
      ⟨(some 162), none, (.mv (.t 161))⟩,
      ⟨(some 163), (some (162, false)), (.mv (.t 1))⟩,
      ⟨(some 164), (some (162, false)), (.bin .int .eql (.t 163) (.c (.v (.int .i64 1))))⟩,
      ⟨(some 165), (some (162, false)), (.mv (.t 164))⟩,
      ⟨(some 166), (some (165, true)), (.mv (.t 7))⟩,
      ⟨(some 167), (some (165, true)), (.bin .int .eql (.t 166) (.c (.v (.int .i64 11))))⟩,
      ⟨(some 168), (some (162, false)), (.pick (.t 165) (.t 167) (.c (.v (.bool false))))⟩,
      ⟨(some 169), none, (.pick (.t 162) (.c (.v (.bool true))) (.t 168))⟩,
      ⟨(some 6), none, (.mv (.t 169))⟩])
    .ret)
    (.seq (.ops [⟨(some 171), none, (.bin .int .eql (.t 10) (.c (.v (.int .i64 16))))⟩,
      ⟨(some 170), none, (.mv (.t 171))⟩])
    (.cond (.t 170)
    (.seq (.ops [⟨(some 172), none, (.mv (.t 1))⟩,
      ⟨(some 173), none, (.bin .int .lss (.t 172) (.c (.v (.int .i64 2))))⟩,
      ⟨(some 174), none, (.mv (.t 173))⟩,
      ⟨(some 175), (some (174, true)), (.mv (.t 7))⟩,
      ⟨(some 176), (some (174, true)), (.call (.c (.fn (.func 53) [] [])) [(.t 175)])⟩,
      ⟨(some 177), none, (.pick (.t 174) (.t 176) (.c (.v (.bool false))))⟩,
      ⟨(some 178), none, (.mv (.t 177))⟩,
      ⟨(some 179), (some (178, false)), (.mv (.t 1))⟩,
      ⟨(some 180), (some (178, false)), (.bin .int .eql (.t 179) (.c (.v (.int .i64 2))))⟩,
      ⟨(some 181), (some (178, false)), (.mv (.t 180))⟩,
      ⟨(some 182), (some (181, true)), (.mv (.t 7))⟩,
      ⟨(some 183), (some (181, true)), (.bin .int .eql (.t 182) (.c (.v (.int .i64 11))))⟩,
      ⟨(some 184), (some (178, false)), (.pick (.t 181) (.t 183) (.c (.v (.bool false))))⟩,
      ⟨(some 185), none, (.pick (.t 178) (.c (.v (.bool true))) (.t 184))⟩,
      ⟨(some 6), none, (.mv (.t 185))⟩])
    .ret)
    (.seq (.ops [⟨(some 187), none, (.bin .int .eql (.t 10) (.c (.v (.int .i64 17))))⟩,
      ⟨(some 186), none, (.mv (.t 187))⟩])
    (.cond (.t 186)
    (.seq (.ops [⟨(some 188), none, (.mv (.t 7))⟩,
      ⟨(some 189), none, (.call (.c (.fn (.func 53) [] [])) [(.t 188)])⟩,
      ⟨(some 190), none, (.mv (.t 189))⟩,
      ⟨(some 191), (some (190, false)), (.mv (.t 7))⟩,
      ⟨(some 192), (some (190, false)), (.bin .int .eql (.t 191) (.c (.v (.int .i64 0))))⟩,
      ⟨(some 193), none, (.pick (.t 190) (.c (.v (.bool true))) (.t 192))⟩,
      ⟨(some 6), none, (.mv (.t 193))⟩])
    .ret)
    (.seq (.ops [⟨(some 195), none, (.bin .int .eql (.t 10) (.c (.v (.int .i64 21))))⟩,
      ⟨(some 194), none, (.mv (.t 195))⟩])
    (.cond (.t 194)
    (.seq (.ops [⟨(some 196), none, (.mv (.t 1))⟩,
      ⟨(some 197), none, (.bin .int .eql (.t 196) (.c (.v (.int .i64 0))))⟩,
      ⟨(some 198), none, (.mv (.t 197))⟩,
      ⟨(some 199), (some (198, true)), (.mv (.t 7))⟩,
      ⟨(some 200), (some (198, true)), (.bin .int .eql (.t 199) (.c (.v (.int .i64 20))))⟩,
      ⟨(some 201), none, (.pick (.t 198) (.t 200) (.c (.v (.bool false))))⟩,
      ⟨(some 202), none, (.mv (.t 201))⟩,
      ⟨(some 203), (some (202, false)), (.mv (.t 1))⟩,
      ⟨(some 204), (some (202, false)), (.bin .int .eql (.t 203) (.c (.v (.int .i64 1))))⟩,
      ⟨(some 205), (some (202, false)), (.mv (.t 204))⟩,
      ⟨(some 206), (some (205, true)), (.mv (.t 7))⟩,
      ⟨(some 207), (some (205, true)), (.call (.c (.fn (.func 53) [] [])) [(.t 206)])⟩,
      ⟨(some 208), (some (202, false)), (.pick (.t 205) (.t 207) (.c (.v (.bool false))))⟩,
      ⟨(some 209), none, (.pick (.t 202) (.c (.v (.bool true))) (.t 208))⟩,
      ⟨(some 6), none, (.mv (.t 209))⟩])
    .ret)
    (.seq (.seq (.ops [⟨(some 211), none, (.bin .int .eql (.t 10) (.c (.v (.int .i64 22))))⟩,
      ⟨(some 210), none, (.mv (.t 211))⟩])
    (.cond (.t 210)
    .skip
    (.ops [⟨(some 212), none, (.bin .int .eql (.t 10) (.c (.v (.int .i64 23))))⟩,
      ⟨(some 210), none, (.mv (.t 212))⟩])))
    (.cond (.t 210)
    (.seq (.ops [⟨(some 213), none, (.mv (.t 7))⟩,
      ⟨(some 214), none, (.bin .int .eql (.t 213) (.c (.v (.int .i64 20))))⟩,
      ⟨(some 6), none, (.mv (.t 214))⟩])
    .ret)
    .skip))))))))))))))))))))))))))))))))
    (.seq (.ops [⟨(some 215), none, (.mv (.t 7))⟩,
      ⟨(some 216), none, (.call (.c (.fn (.func 53) [] [])) [(.t 215)])⟩,
      ⟨(some 6), none, (.mv (.t 216))⟩])
    .ret))))⟩
theorem L78_ok : lowFn Try.prog Try.f78 [] = some L78 := by kernel_rfl

/-- assessor_tree.one -/
def L80 : LFn := ⟨4, [(.tmp 2)], (.seq (.ops [⟨(some 1), none, (.box true (.t 0))⟩,
      ⟨(some 2), none, (.mv (.c (.v .nilFunc)))⟩])
    (.seq (.ops [⟨(some 3), none, (.mkfn (.func 110) [] [(.t 1)])⟩,
      ⟨(some 2), none, (.mv (.t 3))⟩])
    .ret))⟩
theorem L80_ok : lowFn Try.prog Try.f80 [⟨0, 0, .imm⟩] = some L80 := by kernel_rfl

/-- assessor_tree.optional -/
def L81 : LFn := ⟨4, [(.tmp 2)], (.seq (.ops [⟨(some 1), none, (.box true (.t 0))⟩,
      ⟨(some 2), none, (.mv (.c (.v .nilFunc)))⟩])
    (.seq (.ops [⟨(some 3), none, (.mkfn (.func 112) [] [(.t 1)])⟩,
      ⟨(some 2), none, (.mv (.t 3))⟩])
    .ret))⟩
theorem L81_ok : lowFn Try.prog Try.f81 [⟨0, 0, .imm⟩] = some L81 := by kernel_rfl

/-- assessor_tree.isType -/
def L82 : LFn := ⟨9, [(.tmp 2)], (.seq (.ops [⟨(some 2), none, (.mv (.c (.v (.bool false))))⟩])
    (.seq (.ops [⟨(some 3), none, (.mv (.t 0))⟩,
      ⟨(some 4), none, (.bin .int .eql (.t 3) (.c (.v (.int .i64 9))))⟩,
      ⟨(some 5), none, (.mv (.t 4))⟩,
      ⟨(some 6), (some (5, false)), (.mv (.t 0))⟩,
      ⟨(some 7), (some (5, false)), (.bin .int .eql (.t 6) (.c (.v (.int .i64 10))))⟩,
      ⟨(some 8), none, (.pick (.t 5) (.c (.v (.bool true))) (.t 7))⟩,
      ⟨(some 2), none, (.mv (.t 8))⟩])
    .ret))⟩
theorem L82_ok : lowFn Try.prog Try.f82 [] = some L82 := by kernel_rfl

/-- assessor_tree.word -/
def L83 : LFn := ⟨4, [(.tmp 2)], (.seq (.ops [⟨(some 1), none, (.box true (.t 0))⟩,
      ⟨(some 2), none, (.mv (.c (.v .nilFunc)))⟩])
    (.seq (.ops [⟨(some 3), none, (.mkfn (.func 113) [] [(.t 1)])⟩,
      ⟨(some 2), none, (.mv (.t 3))⟩])
    .ret))⟩
theorem L83_ok : lowFn Try.prog Try.f83 [⟨0, 0, .imm⟩] = some L83 := by kernel_rfl
/-- assessor_tree.empty -/
def L84 : LFn := ⟨5, [(.tmp 2)], (.seq (.ops [⟨(some 2), none, (.mv (.c (.v (.bool false))))⟩])
    (.seq (.ops [⟨(some 3), none, (.mv (.t 0))⟩,
      ⟨(some 4), none, (.bin .str .eql (.t 3) (.c (.v (.string (mkS [])))))⟩,
      ⟨(some 2), none, (.mv (.t 4))⟩])
    .ret))⟩
theorem L84_ok : lowFn Try.prog Try.f84 [] = some L84 := by kernel_rfl

/-- assessor_tree.shapes$1 -/
def L85 : LFn := ⟨13, [(.tmp 4)], (.seq (.ops [⟨(some 4), none, (.mv (.c (.v (.bool false))))⟩])
    (.seq (.ops [⟨(some 5), none, (.load false 1 (.t 1))⟩,
      ⟨(some 6), none, (.mv (.t 0))⟩,
      ⟨(some 7), none, (.call (.t 5) [(.t 6)])⟩,
      ⟨(some 8), none, (.mv (.t 7))⟩,
      ⟨(some 9), (some (8, false)), (.load false 1 (.t 2))⟩,
      ⟨(some 10), (some (8, false)), (.mv (.t 0))⟩,
      ⟨(some 11), (some (8, false)), (.call (.t 9) [(.t 10)])⟩,
      ⟨(some 12), none, (.pick (.t 8) (.c (.v (.bool true))) (.t 11))⟩,
      ⟨(some 4), none, (.mv (.t 12))⟩])
    .ret))⟩
theorem L85_ok : lowFn Try.prog Try.f85 [] = some L85 := by kernel_rfl

/-- assessor_tree.number -/
def L86 : LFn := ⟨20, [(.tmp 2)], (.seq (.ops [⟨(some 2), none, (.mv (.c (.v (.bool false))))⟩])
    (.seq (.ops [⟨(some 6), none, (.mv (.t 0))⟩,
      ⟨(some 7), none, (.call (.c (.fn (.func 70) [] [])) [(.t 6)])⟩,
      ⟨(some 5), none, (.mv (.t 7))⟩,
      ⟨(some 8), none, (.ext (.t 5) 0)⟩,
      ⟨(some 9), none, (.ext (.t 5) 1)⟩,
      ⟨(some 3), none, (.mv (.t 8))⟩,
      ⟨(some 4), none, (.mv (.t 9))⟩])
    (.seq (.ops [⟨(some 10), none, (.mv (.t 4))⟩,
      ⟨(some 11), none, (.mv (.t 10))⟩,
      ⟨(some 12), (some (11, true)), (.mv (.t 0))⟩,
      ⟨(some 13), (some (11, true)), (.bin .str .eql (.t 12) (.c (.v (.string (mkS [48])))))⟩,
      ⟨(some 14), (some (11, true)), (.mv (.t 13))⟩,
      ⟨(some 15), (some (14, false)), (.mv (.t 0))⟩,
      ⟨(some 16), (some (14, false)), (.idx (.t 15) (.c (.v (.int .i64 0))))⟩,
      ⟨(some 17), (some (14, false)), (.bin .int .neq (.t 16) (.c (.v (.int .u8 48))))⟩,
      ⟨(some 18), (some (11, true)), (.pick (.t 14) (.c (.v (.bool true))) (.t 17))⟩,
      ⟨(some 19), none, (.pick (.t 11) (.t 18) (.c (.v (.bool false))))⟩,
      ⟨(some 2), none, (.mv (.t 19))⟩])
    .ret)))⟩
theorem L86_ok : lowFn Try.prog Try.f86 [] = some L86 := by kernel_rfl

/-- assessor_tree.isPlace -/
def L87 : LFn := ⟨13, [(.tmp 2)], (.seq (.ops [⟨(some 2), none, (.mv (.c (.v (.bool false))))⟩])
    (.seq (.ops [⟨(some 3), none, (.mv (.t 0))⟩,
      ⟨(some 4), none, (.bin .int .eql (.t 3) (.c (.v (.int .i64 20))))⟩,
      ⟨(some 5), none, (.mv (.t 4))⟩,
      ⟨(some 6), (some (5, false)), (.mv (.t 0))⟩,
      ⟨(some 7), (some (5, false)), (.bin .int .eql (.t 6) (.c (.v (.int .i64 21))))⟩,
      ⟨(some 8), none, (.pick (.t 5) (.c (.v (.bool true))) (.t 7))⟩,
      ⟨(some 9), none, (.mv (.t 8))⟩,
      ⟨(some 10), (some (9, false)), (.mv (.t 0))⟩,
      ⟨(some 11), (some (9, false)), (.bin .int .eql (.t 10) (.c (.v (.int .i64 22))))⟩,
      ⟨(some 12), none, (.pick (.t 9) (.c (.v (.bool true))) (.t 11))⟩,
      ⟨(some 2), none, (.mv (.t 12))⟩])
    .ret))⟩
theorem L87_ok : lowFn Try.prog Try.f87 [] = some L87 := by kernel_rfl

/-- assessor_tree.nodes$1 -/
def L88 : LFn := ⟨6, [], (.ops [⟨(some 3), none, (.load true 5 (.t 1))⟩,
      ⟨(some 4), none, (.mv (.t 0))⟩,
      ⟨(some 5), none, (.call (.c (.fn (.func 89) [] [])) [(.t 3), (.t 4)])⟩])⟩
theorem L88_ok : lowFn Try.prog Try.f88 [] = some L88 := by kernel_rfl

/-- assessor_tree.visit -/
def L89 : LFn := ⟨23, [(.tmp 4)], (.seq (.ops [⟨(some 2), none, (.box false (.t 0))⟩,
      ⟨(some 4), none, (.mv (.c (.v (.bool false))))⟩])
    (.seq (.seq (.ops [⟨(some 7), none, (.mv (.t 1))⟩,
      ⟨(some 8), none, (.load true 5 (.t 2))⟩,
      ⟨(some 9), none, (.call (.t 7) [(.t 8)])⟩,
      ⟨(some 10), none, (.not (.t 9))⟩])
    (.cond (.t 10)
    (.seq (.ops [⟨(some 4), none, (.mv (.c (.v (.bool false))))⟩])
    .ret)
    .skip))
    (.seq (.seq (.ops [⟨(some 11), none, (.faddr 4 (.t 2))⟩,
      ⟨(some 12), none, (.load false 1 (.t 11))⟩,
      ⟨(some 13), none, (.len .slc (.t 12))⟩,
      ⟨(some 14), none, (.mv (.c (.v (.int .i64 0))))⟩])
    (.block 0 (.loop (.seq (.ops [⟨(some 15), none, (.bin .int .lss (.t 14) (.t 13))⟩])
    (.seq (.cond (.t 15)
    .skip
    (.exit 0))
    (.seq (.block 1 (.seq (.ops [⟨(some 16), none, (.iaddr 5 (.t 12) (.t 14))⟩,
      ⟨(some 17), none, (.load true 5 (.t 16))⟩,
      ⟨(some 6), none, (.alloc [(.v (.int .i64 0)), (.v (.string (mkS []))), (.v (.int .i64 0)), (.v (.int .i64 0)), (.v (.slice none 0 0))])⟩,
      ⟨none, none, (.store 5 (.t 6) (.t 17))⟩])
    (.seq (.ops [⟨(some 18), none, (.load true 5 (.t 6))⟩,
      ⟨(some 19), none, (.mv (.t 1))⟩,
      ⟨(some 20), none, (.call (.c (.fn (.func 89) [] [])) [(.t 18), (.t 19)])⟩,
      ⟨(some 21), none, (.not (.t 20))⟩])
    (.cond (.t 21)
    (.seq (.ops [⟨(some 4), none, (.mv (.c (.v (.bool false))))⟩])
    .ret)
    .skip))))
    (.ops [⟨(some 22), none, (.bin .int .add (.t 14) (.c (.v (.int .i64 1))))⟩,
      ⟨(some 14), none, (.mv (.t 22))⟩])))))))
    (.seq (.ops [⟨(some 4), none, (.mv (.c (.v (.bool true))))⟩])
    .ret))))⟩
theorem L89_ok : lowFn Try.prog Try.f89 [] = some L89 := by kernel_rfl

/-- assessor_tree.copied -/
def L90 : LFn := ⟨24, [(.tmp 2)], (.seq (.ops [⟨(some 2), none, (.mv (.c (.v (.slice none 0 0))))⟩])
    (.seq (.ops [⟨(some 5), none, (.mv (.t 0))⟩,
      ⟨(some 6), none, (.call (.c (.fn (.func 115) [] [])) [(.t 5)])⟩,
      ⟨(some 3), none, (.mv (.t 6))⟩])
    (.seq (.seq (.ops [⟨(some 7), none, (.mv (.t 3))⟩,
      ⟨(some 8), none, (.len .slc (.t 7))⟩,
      ⟨(some 9), none, (.mv (.c (.v (.int .i64 0))))⟩])
    (.block 0 (.loop (.seq (.ops [⟨(some 10), none, (.bin .int .lss (.t 9) (.t 8))⟩])
    (.seq (.cond (.t 10)
    .skip
    (.exit 0))
    (.seq (.block 1 (.seq (.ops [⟨(some 11), none, (.mv (.t 9))⟩,
      ⟨(some 4), none, (.mv (.t 11))⟩])
    (.ops [⟨(some 12), none, (.mv (.t 3))⟩,
      ⟨(some 13), none, (.mv (.t 4))⟩,
      ⟨(some 14), none, (.mv (.t 3))⟩,
      ⟨(some 15), none, (.mv (.t 4))⟩,
      ⟨(some 16), none, (.iaddr 5 (.t 14) (.t 15))⟩,
      ⟨(some 17), none, (.faddr 4 (.t 16))⟩,
      ⟨(some 18), none, (.load false 1 (.t 17))⟩,
      ⟨(some 19), none, (.call (.c (.fn (.func 90) [] [])) [(.t 18)])⟩,
      ⟨(some 20), none, (.iaddr 5 (.t 12) (.t 13))⟩,
      ⟨(some 21), none, (.faddr 4 (.t 20))⟩,
      ⟨none, none, (.store 1 (.t 21) (.t 19))⟩])))
    (.ops [⟨(some 22), none, (.bin .int .add (.t 9) (.c (.v (.int .i64 1))))⟩,
      ⟨(some 9), none, (.mv (.t 22))⟩])))))))
    (.seq (.ops [⟨(some 23), none, (.mv (.t 3))⟩,
      ⟨(some 2), none, (.mv (.t 23))⟩])
    .ret))))⟩
theorem L90_ok : lowFn Try.prog Try.f90 [] = some L90 := by kernel_rfl

/-- slices.Concat___assessor_api.Node_assessor_api.Node_ -/
def L91 : LFn := ⟨36, [(.tmp 2)], (.seq (.ops [⟨(some 2), none, (.mv (.c (.v (.slice none 0 0))))⟩])
    (.seq (.ops [⟨(some 3), none, (.mv (.c (.v (.int .i64 0))))⟩])
    (.seq (.seq (.ops [⟨(some 9), none, (.mv (.t 0))⟩,
      ⟨(some 10), none, (.len .slc (.t 9))⟩,
      ⟨(some 11), none, (.mv (.c (.v (.int .i64 0))))⟩])
    (.block 0 (.loop (.seq (.ops [⟨(some 12), none, (.bin .int .lss (.t 11) (.t 10))⟩])
    (.seq (.cond (.t 12)
    .skip
    (.exit 0))
    (.seq (.block 1 (.seq (.ops [⟨(some 13), none, (.iaddr 1 (.t 9) (.t 11))⟩,
      ⟨(some 14), none, (.load false 1 (.t 13))⟩,
      ⟨(some 5), none, (.mv (.t 14))⟩])
    (.seq (.ops [⟨(some 15), none, (.mv (.t 3))⟩,
      ⟨(some 16), none, (.mv (.t 5))⟩,
      ⟨(some 17), none, (.len .slc (.t 16))⟩,
      ⟨(some 18), none, (.bin .int .add (.t 15) (.t 17))⟩,
      ⟨(some 3), none, (.mv (.t 18))⟩])
    (.seq (.ops [⟨(some 19), none, (.mv (.t 3))⟩,
      ⟨(some 20), none, (.bin .int .lss (.t 19) (.c (.v (.int .i64 0))))⟩])
    (.cond (.t 20)
    (.ops [⟨(some 21), none, .bad⟩,
      ⟨none, none, .bad⟩])
    .skip)))))
    (.ops [⟨(some 22), none, (.bin .int .add (.t 11) (.c (.v (.int .i64 1))))⟩,
      ⟨(some 11), none, (.mv (.t 22))⟩])))))))
    (.seq (.ops [⟨(some 23), none, (.mv (.t 3))⟩,
      ⟨(some 24), none, (.call (.c (.fn (.func 116) [] [])) [(.c (.v (.slice none 0 0))), (.t 23)])⟩,
      ⟨(some 6), none, (.mv (.t 24))⟩])
    (.seq (.seq (.ops [⟨(some 25), none, (.mv (.t 0))⟩,
      ⟨(some 26), none, (.len .slc (.t 25))⟩,
      ⟨(some 27), none, (.mv (.c (.v (.int .i64 0))))⟩])
    (.block 2 (.loop (.seq (.ops [⟨(some 28), none, (.bin .int .lss (.t 27) (.t 26))⟩])
    (.seq (.cond (.t 28)
    .skip
    (.exit 2))
    (.seq (.block 3 (.seq (.ops [⟨(some 29), none, (.iaddr 1 (.t 25) (.t 27))⟩,
      ⟨(some 30), none, (.load false 1 (.t 29))⟩,
      ⟨(some 8), none, (.mv (.t 30))⟩])
    (.ops [⟨(some 31), none, (.mv (.t 6))⟩,
      ⟨(some 32), none, (.mv (.t 8))⟩,
      ⟨(some 33), none, (.append 5 64 (.t 31) (.t 32))⟩,
      ⟨(some 6), none, (.mv (.t 33))⟩])))
    (.ops [⟨(some 34), none, (.bin .int .add (.t 27) (.c (.v (.int .i64 1))))⟩,
      ⟨(some 27), none, (.mv (.t 34))⟩])))))))
    (.seq (.ops [⟨(some 35), none, (.mv (.t 6))⟩,
      ⟨(some 2), none, (.mv (.t 35))⟩,
      ⟨(some 2), none, (.frz (.t 2))⟩])
    .ret))))))⟩
theorem L91_ok : lowFn Try.prog Try.f91 [⟨15, 2, (.pre 2 (.frz (.t 2)))⟩] = some L91 := by kernel_rfl

/-- assessor_assessorref03.number -/
def L103 : LFn := ⟨20, [(.tmp 2)], (.seq (.ops [⟨(some 2), none, (.mv (.c (.v (.bool false))))⟩])
    (.seq (.ops [⟨(some 6), none, (.mv (.t 0))⟩,
      ⟨(some 7), none, (.call (.c (.fn (.func 73) [] [])) [(.t 6)])⟩,
      ⟨(some 5), none, (.mv (.t 7))⟩,
      ⟨(some 8), none, (.ext (.t 5) 0)⟩,
      ⟨(some 9), none, (.ext (.t 5) 1)⟩,
      ⟨(some 3), none, (.mv (.t 8))⟩,
      ⟨(some 4), none, (.mv (.t 9))⟩])
    (.seq (.ops [⟨(some 10), none, (.mv (.t 4))⟩,
      ⟨(some 11), none, (.mv (.t 10))⟩,
      ⟨(some 12), (some (11, true)), (.mv (.t 0))⟩,
      ⟨(some 13), (some (11, true)), (.bin .str .eql (.t 12) (.c (.v (.string (mkS [48])))))⟩,
      ⟨(some 14), (some (11, true)), (.mv (.t 13))⟩,
      ⟨(some 15), (some (14, false)), (.mv (.t 0))⟩,
      ⟨(some 16), (some (14, false)), (.idx (.t 15) (.c (.v (.int .i64 0))))⟩,
      ⟨(some 17), (some (14, false)), (.bin .int .neq (.t 16) (.c (.v (.int .u8 48))))⟩,
      ⟨(some 18), (some (11, true)), (.pick (.t 14) (.c (.v (.bool true))) (.t 17))⟩,
      ⟨(some 19), none, (.pick (.t 11) (.t 18) (.c (.v (.bool false))))⟩,
      ⟨(some 2), none, (.mv (.t 19))⟩])
    .ret)))⟩
theorem L103_ok : lowFn Try.prog Try.f103 [] = some L103 := by kernel_rfl

/-- assessor_assessorref03.Type -/
def L105 : LFn := ⟨9, [(.tmp 2)], (.seq (.ops [⟨(some 2), none, (.mv (.c (.v (.bool false))))⟩])
    (.seq (.ops [⟨(some 3), none, (.mv (.t 0))⟩,
      ⟨(some 4), none, (.bin .int .eql (.t 3) (.c (.v (.int .i64 9))))⟩,
      ⟨(some 5), none, (.mv (.t 4))⟩,
      ⟨(some 6), (some (5, false)), (.mv (.t 0))⟩,
      ⟨(some 7), (some (5, false)), (.bin .int .eql (.t 6) (.c (.v (.int .i64 10))))⟩,
      ⟨(some 8), none, (.pick (.t 5) (.c (.v (.bool true))) (.t 7))⟩,
      ⟨(some 2), none, (.mv (.t 8))⟩])
    .ret))⟩
theorem L105_ok : lowFn Try.prog Try.f105 [] = some L105 := by kernel_rfl

/-- assessor_assessorref03.Place -/
def L106 : LFn := ⟨13, [(.tmp 2)], (.seq (.ops [⟨(some 2), none, (.mv (.c (.v (.bool false))))⟩])
    (.seq (.ops [⟨(some 3), none, (.mv (.t 0))⟩,
      ⟨(some 4), none, (.bin .int .eql (.t 3) (.c (.v (.int .i64 20))))⟩,
      ⟨(some 5), none, (.mv (.t 4))⟩,
      ⟨(some 6), (some (5, false)), (.mv (.t 0))⟩,
      ⟨(some 7), (some (5, false)), (.bin .int .eql (.t 6) (.c (.v (.int .i64 21))))⟩,
      ⟨(some 8), none, (.pick (.t 5) (.c (.v (.bool true))) (.t 7))⟩,
      ⟨(some 9), none, (.mv (.t 8))⟩,
      ⟨(some 10), (some (9, false)), (.mv (.t 0))⟩,
      ⟨(some 11), (some (9, false)), (.bin .int .eql (.t 10) (.c (.v (.int .i64 22))))⟩,
      ⟨(some 12), none, (.pick (.t 9) (.c (.v (.bool true))) (.t 11))⟩,
      ⟨(some 2), none, (.mv (.t 12))⟩])
    .ret))⟩
theorem L106_ok : lowFn Try.prog Try.f106 [] = some L106 := by kernel_rfl

/-- assessor_tree.one$1 -/
def L110 : LFn := ⟨7, [(.tmp 3)], (.seq (.ops [⟨(some 3), none, (.mv (.c (.v (.bool false))))⟩])
    (.seq (.ops [⟨(some 4), none, (.load false 1 (.t 1))⟩,
      ⟨(some 5), none, (.mv (.t 0))⟩,
      ⟨(some 6), none, (.call (.c (.fn (.func 111) [] [])) [(.t 4), (.t 5)])⟩,
      ⟨(some 3), none, (.mv (.t 6))⟩])
    .ret))⟩
theorem L110_ok : lowFn Try.prog Try.f110 [] = some L110 := by kernel_rfl

/-- slices.Contains___int_int_ -/
def L111 : LFn := ⟨9, [(.tmp 4)], (.seq (.ops [⟨(some 4), none, (.mv (.c (.v (.bool false))))⟩])
    (.seq (.ops [⟨(some 5), none, (.mv (.t 0))⟩,
      ⟨(some 6), none, (.mv (.t 1))⟩,
      ⟨(some 7), none, (.call (.c (.fn (.func 130) [] [])) [(.t 5), (.t 6)])⟩,
      ⟨(some 8), none, (.bin .int .geq (.t 7) (.c (.v (.int .i64 0))))⟩,
      ⟨(some 4), none, (.mv (.t 8))⟩])
    .ret))⟩
theorem L111_ok : lowFn Try.prog Try.f111 [] = some L111 := by kernel_rfl

/-- assessor_tree.optional$1 -/
def L112 : LFn := ⟨11, [(.tmp 3)], (.seq (.ops [⟨(some 3), none, (.mv (.c (.v (.bool false))))⟩])
    (.seq (.ops [⟨(some 4), none, (.mv (.t 0))⟩,
      ⟨(some 5), none, (.bin .int .eql (.t 4) (.c (.v (.int .i64 0))))⟩,
      ⟨(some 6), none, (.mv (.t 5))⟩,
      ⟨(some 7), (some (6, false)), (.load false 1 (.t 1))⟩,
      ⟨(some 8), (some (6, false)), (.mv (.t 0))⟩,
      ⟨(some 9), (some (6, false)), (.call (.t 7) [(.t 8)])⟩,
      ⟨(some 10), none, (.pick (.t 6) (.c (.v (.bool true))) (.t 9))⟩,
      ⟨(some 3), none, (.mv (.t 10))⟩])
    .ret))⟩
theorem L112_ok : lowFn Try.prog Try.f112 [] = some L112 := by kernel_rfl

/-- assessor_tree.word$1 -/
def L113 : LFn := ⟨7, [(.tmp 3)], (.seq (.ops [⟨(some 3), none, (.mv (.c (.v (.bool false))))⟩])
    (.seq (.ops [⟨(some 4), none, (.load false 1 (.t 1))⟩,
      ⟨(some 5), none, (.mv (.t 0))⟩,
      ⟨(some 6), none, (.call (.c (.fn (.func 114) [] [])) [(.t 4), (.t 5)])⟩,
      ⟨(some 3), none, (.mv (.t 6))⟩])
    .ret))⟩
theorem L113_ok : lowFn Try.prog Try.f113 [] = some L113 := by kernel_rfl

/-- slices.Contains___string_string_ -/
def L114 : LFn := ⟨9, [(.tmp 4)], (.seq (.ops [⟨(some 4), none, (.mv (.c (.v (.bool false))))⟩])
    (.seq (.ops [⟨(some 5), none, (.mv (.t 0))⟩,
      ⟨(some 6), none, (.mv (.t 1))⟩,
      ⟨(some 7), none, (.call (.c (.fn (.func 131) [] [])) [(.t 5), (.t 6)])⟩,
      ⟨(some 8), none, (.bin .int .geq (.t 7) (.c (.v (.int .i64 0))))⟩,
      ⟨(some 4), none, (.mv (.t 8))⟩])
    .ret))⟩
theorem L114_ok : lowFn Try.prog Try.f114 [] = some L114 := by kernel_rfl

/-- slices.Clone___assessor_api.Node_assessor_api.Node_ -/
def L115 : LFn := ⟨8, [(.tmp 2)], (.seq (.ops [⟨(some 2), none, (.mv (.c (.v (.slice none 0 0))))⟩])
    (.seq (.seq (.ops [⟨(some 3), none, (.mv (.t 0))⟩,
      ⟨(some 4), none, (.isnil false (.t 3))⟩])
    (.cond (.t 4)
    (.seq (.ops [⟨(some 2), none, (.mv (.c (.v (.slice none 0 0))))⟩])
    .ret)
    .skip))
    (.seq (.ops [⟨(some 5), none, (.bsl false 5 0 [(.v (.int .i64 0)), (.v (.string (mkS []))), (.v (.int .i64 0)), (.v (.int .i64 0)), (.v (.slice none 0 0))] [])⟩,
      ⟨(some 6), none, (.mv (.t 0))⟩,
      ⟨(some 7), none, (.append 5 64 (.t 5) (.t 6))⟩,
      ⟨(some 2), none, (.mv (.t 7))⟩])
    .ret)))⟩
theorem L115_ok : lowFn Try.prog Try.f115 [] = some L115 := by kernel_rfl

/-- slices.Index___int_int_ -/
def L130 : LFn := ⟨19, [(.tmp 4)], (.seq (.ops [⟨(some 4), none, (.mv (.c (.v (.int .i64 0))))⟩])
    (.seq (.seq (.ops [⟨(some 6), none, (.mv (.t 0))⟩,
      ⟨(some 7), none, (.len .slc (.t 6))⟩,
      ⟨(some 8), none, (.mv (.c (.v (.int .i64 0))))⟩])
    (.block 0 (.loop (.seq (.ops [⟨(some 9), none, (.bin .int .lss (.t 8) (.t 7))⟩])
    (.seq (.cond (.t 9)
    .skip
    (.exit 0))
    (.seq (.block 1 (.seq (.ops [⟨(some 10), none, (.mv (.t 8))⟩,
      ⟨(some 5), none, (.mv (.t 10))⟩])
    (.seq (.ops [⟨(some 11), none, (.mv (.t 1))⟩,
      ⟨(some 12), none, (.mv (.t 0))⟩,
      ⟨(some 13), none, (.mv (.t 5))⟩,
      ⟨(some 14), none, (.iaddr 1 (.t 12) (.t 13))⟩,
      ⟨(some 15), none, (.load false 1 (.t 14))⟩,
      ⟨(some 16), none, (.bin .int .eql (.t 11) (.t 15))⟩])
    (.cond (.t 16)
    (.seq (.ops [⟨(some 17), none, (.mv (.t 5))⟩,
      ⟨(some 4), none, (.mv (.t 17))⟩])
    .ret)
    .skip))))
    (.ops [⟨(some 18), none, (.bin .int .add (.t 8) (.c (.v (.int .i64 1))))⟩,
      ⟨(some 8), none, (.mv (.t 18))⟩])))))))
    (.seq (.ops [⟨(some 4), none, (.mv (.c (.v (.int .i64 (-1)))))⟩])
    .ret)))⟩
theorem L130_ok : lowFn Try.prog Try.f130 [] = some L130 := by kernel_rfl

/-- slices.Index___string_string_ -/
def L131 : LFn := ⟨19, [(.tmp 4)], (.seq (.ops [⟨(some 4), none, (.mv (.c (.v (.int .i64 0))))⟩])
    (.seq (.seq (.ops [⟨(some 6), none, (.mv (.t 0))⟩,
      ⟨(some 7), none, (.len .slc (.t 6))⟩,
      ⟨(some 8), none, (.mv (.c (.v (.int .i64 0))))⟩])
    (.block 0 (.loop (.seq (.ops [⟨(some 9), none, (.bin .int .lss (.t 8) (.t 7))⟩])
    (.seq (.cond (.t 9)
    .skip
    (.exit 0))
    (.seq (.block 1 (.seq (.ops [⟨(some 10), none, (.mv (.t 8))⟩,
      ⟨(some 5), none, (.mv (.t 10))⟩])
    (.seq (.ops [⟨(some 11), none, (.mv (.t 1))⟩,
      ⟨(some 12), none, (.mv (.t 0))⟩,
      ⟨(some 13), none, (.mv (.t 5))⟩,
      ⟨(some 14), none, (.iaddr 1 (.t 12) (.t 13))⟩,
      ⟨(some 15), none, (.load false 1 (.t 14))⟩,
      ⟨(some 16), none, (.bin .str .eql (.t 11) (.t 15))⟩])
    (.cond (.t 16)
    (.seq (.ops [⟨(some 17), none, (.mv (.t 5))⟩,
      ⟨(some 4), none, (.mv (.t 17))⟩])
    .ret)
    .skip))))
    (.ops [⟨(some 18), none, (.bin .int .add (.t 8) (.c (.v (.int .i64 1))))⟩,
      ⟨(some 8), none, (.mv (.t 18))⟩])))))))
    (.seq (.ops [⟨(some 4), none, (.mv (.c (.v (.int .i64 (-1)))))⟩])
    .ret)))⟩
theorem L131_ok : lowFn Try.prog Try.f131 [] = some L131 := by kernel_rfl


end Go.Proofs.Ytnbdogodcjhfiaa
