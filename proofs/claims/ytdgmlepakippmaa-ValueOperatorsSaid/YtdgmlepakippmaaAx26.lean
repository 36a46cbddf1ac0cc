/- Taking arguments apart by their types; rows of typed things. -/
import Derived.Test.YtdgmlepakippmaaAx25
import Derived.Test.YtdgmlepakippmaaAx23
namespace Go.Ax
open Go Go.RowKit
set_option linter.unusedSimpArgs false
set_option linter.unusedVariables false

section
variable {P : Program} {t e : TypeId} {xs : List AV}
def i64R (n : Int) : Prop := -9223372036854775808 ≤ n ∧ n ≤ 9223372036854775807
theorem val_int (hu : P.underlying t = some (.int .i64)) (h : Val P t xs) : ∃ n : Int, xs = [int n] ∧ i64R n := by
  cases h with
  | int hu' hw =>
    rw [hu] at hu'
    cases hu'
    refine ⟨_, rfl, ?_⟩
    simp [Lit.wf, IntKind.min, IntKind.max, IntKind.signed, IntKind.bits] at hw
    unfold i64R; omega
  | bool hu' => rw [hu] at hu'; cases hu'
  | str hu' => rw [hu] at hu'; cases hu'
  | sl hu' => rw [hu] at hu'; cases hu'
  | st hu' => rw [hu] at hu'; cases hu'
theorem val_bool (hu : P.underlying t = some .bool) (h : Val P t xs) : ∃ b : Bool, xs = [bool b] := by
  cases h with
  | bool hu' => exact ⟨_, rfl⟩
  | int hu' => rw [hu] at hu'; cases hu'
  | str hu' => rw [hu] at hu'; cases hu'
  | sl hu' => rw [hu] at hu'; cases hu'
  | st hu' => rw [hu] at hu'; cases hu'
theorem val_str (hu : P.underlying t = some .string) (h : Val P t xs) : ∃ s : List UInt8, xs = [str s] ∧ s.length ≤ 9223372036854775807 := by
  cases h with
  | str hu' hs =>
    rename_i s
    refine ⟨bs s, by rw [str, mkS_bs], ?_⟩
    have : (bs s).length = s.size := by simp [bs]
    unfold maxLen at hs
    omega
  | int hu' => rw [hu] at hu'; cases hu'
  | bool hu' => rw [hu] at hu'; cases hu'
  | sl hu' => rw [hu] at hu'; cases hu'
  | st hu' => rw [hu] at hu'; cases hu'
theorem val_sl {k : Nat} (hu : P.underlying t = some (.slice e)) (hk : P.cellsOf e = k) (h : Val P t xs) : ∃ rows, xs = [.sl k rows] ∧ rows.length ≤ 9223372036854775807 ∧ ∀ x ∈ rows, Val P e x := by
  cases h with
  | sl hu' hl hr =>
    rw [hu] at hu'
    cases hu'
    subst hk
    unfold maxLen at hl
    exact ⟨_, rfl, by omega, hr⟩
  | int hu' => rw [hu] at hu'; cases hu'
  | bool hu' => rw [hu] at hu'; cases hu'
  | str hu' => rw [hu] at hu'; cases hu'
  | st hu' => rw [hu] at hu'; cases hu'
theorem val_st {fs : Array Field} {k : Nat} (hu : P.underlying t = some (.struct fs)) (hk : P.cellsOf t = k) (h : Val P t xs) : xs.length = k ∧ ∀ (i : Nat) (f : Field), fs[i]? = some f → Val P f.type ((xs.drop f.offset).take (P.cellsOf f.type)) := by
  cases h with
  | st hu' hl hr =>
    rw [hu] at hu'
    cases hu'
    exact ⟨hl.trans hk, hr⟩
  | int hu' => rw [hu] at hu'; cases hu'
  | bool hu' => rw [hu] at hu'; cases hu'
  | str hu' => rw [hu] at hu'; cases hu'
  | sl hu' => rw [hu] at hu'; cases hu'
theorem val_fld {fs : Array Field} (hf : ∀ (i : Nat) (f : Field), fs[i]? = some f → Val P f.type ((xs.drop f.offset).take (P.cellsOf f.type))) (i t' off k : Nat) (h : (fs[i]?).map (fun f => (f.type, f.offset)) = some (t', off)) (hk : P.cellsOf t' = k) : Val P t' ((xs.drop off).take k) := by
  cases hh : fs[i]? with
  | none => rw [hh] at h; cases h
  | some f =>
    rw [hh] at h
    simp only [Option.map_some, Option.some.injEq, Prod.mk.injEq] at h
    have := hf i f hh
    rw [h.1, h.2, hk] at this
    exact this
theorem val_rows {α : Type} {enc : α → List AV} {ok : α → Prop} {rows : List (List AV)} (h : ∀ x ∈ rows, Val P e x) (ho : ∀ x, Val P e x → ∃ a, x = enc a ∧ ok a) : ∃ l : List α, rows = l.map enc ∧ ∀ a ∈ l, ok a := by
  induction rows with
  | nil => exact ⟨[], rfl, by simp⟩
  | cons x rows ih =>
    obtain ⟨a, rfl, ha⟩ := ho x (h x (by simp))
    obtain ⟨l, rfl, hl⟩ := ih fun y hy => h y (by simp [hy])
    exact ⟨a :: l, rfl, by simp only [List.mem_cons, forall_eq_or_imp]; exact ⟨ha, hl⟩⟩
end

@[push_cast] theorem one_nilFunc : one .nilFunc = true := rfl
@[push_cast] theorem one_func (f : Fn) (a b : Array Value) : one (.func f a b) = true := rfl
theorem kEqI (k : IntKind) (a b : Int) : kEq (.int k a) (.int k b) = decide (a = b) := by rw [Bool.eq_iff_iff]; simp [kEq]
theorem kEqS (a b : List UInt8) : kEq (.string (mkS a)) (.string (mkS b)) = decide (a = b) := by rw [Bool.eq_iff_iff]; simp [kEq, bs_mkS]
theorem kEqB (a b : Bool) : kEq (.bool a) (.bool b) = decide (a = b) := by cases a <;> cases b <;> rfl
@[push_cast] theorem rConv_bytes_os (r ver off len : Nat) (H : AHeap) : rConv .bytesStr (.os r ver off len) H = ⟨szOk H 1 (.os r ver off len) ∧ ((rowsOf H (.os r ver off len)).bind rowBytes).isSome = true, str (((rowsOf H (.os r ver off len)).bind rowBytes).getD []), H⟩ := rfl
@[push_cast] theorem rConv_bytes_sl (sz : Nat) (xs : List (List AV)) (H : AHeap) : rConv .bytesStr (.sl sz xs) H = ⟨szOk H 1 (.sl sz xs) ∧ ((rowsOf H (.sl sz xs)).bind rowBytes).isSome = true, str (((rowsOf H (.sl sz xs)).bind rowBytes).getD []), H⟩ := rfl
theorem rowBytes_nil : rowBytes [] = some [] := rfl
theorem rowBytes_cons (n : Int) (l : List (List AV)) : rowBytes ([.v (.int .u8 n)] :: l) = (rowBytes l).map (UInt8.ofNat n.toNat :: ·) := rfl
attribute [push_cast] Option.bind_some Bool.true_xor Bool.false_xor Bool.xor_false Bool.xor_true
/-! copy, step by step -/
def rCopyO (sz r ver off len : Nat) (ys : List (List AV)) (x : AV) (H : AHeap) : Option HO → Res
  | some (.arr ver' sz' xs) => ⟨ver = ver' ∧ sz' = sz ∧ szOk H sz x ∧ off + len ≤ xs.length, int (min ys.length len : Nat), H.set r (.arr ver sz (xs.take off ++ ys.take (min ys.length len) ++ xs.drop (off + min ys.length len)))⟩
  | _ => .no H
def rCopyN (sz : Nat) (s x : AV) (H : AHeap) : Option (List (List AV)) → Res
  | some ys => match s with
    | .os r ver off len => rCopyO sz r ver off len ys x H H[r]?
    | _ => .no H
  | none => .no H
@[push_cast] theorem rCopy_eq (sz : Nat) (s x : AV) (H : AHeap) : rCopy sz s x H = rCopyN sz s x H (rowsOf H x) := by
  unfold rCopy rCopyN rCopyO
  cases rowsOf H x with
  | none => cases s <;> rfl
  | some ys => cases s <;> rfl
@[push_cast] theorem rCopyN_os (sz r ver off len : Nat) (x : AV) (H : AHeap) (ys : List (List AV)) : rCopyN sz (.os r ver off len) x H (some ys) = rCopyO sz r ver off len ys x H H[r]? := rfl
@[push_cast] theorem rCopyO_arr (sz r ver off len ver' sz' : Nat) (ys xs : List (List AV)) (x : AV) (H : AHeap) : rCopyO sz r ver off len ys x H (some (.arr ver' sz' xs)) = ⟨ver = ver' ∧ sz' = sz ∧ szOk H sz x ∧ off + len ≤ xs.length, int (min ys.length len : Nat), H.set r (.arr ver sz (xs.take off ++ ys.take (min ys.length len) ++ xs.drop (off + min ys.length len)))⟩ := rfl
attribute [push_cast] List.length_replicate
def osRowsO (ver off len : Nat) : Option HO → Option (List (List AV))
  | some (.arr ver' _ xs) => if ver = ver' ∧ off + len ≤ xs.length then some ((xs.drop off).take len) else none
  | _ => none
theorem osRows_eq (r ver off len : Nat) (H : AHeap) : osRows r ver off len H = osRowsO ver off len H[r]? := rfl
theorem osRowsO_if (ver off len ver' sz : Nat) (xs : List (List AV)) : osRowsO ver off len (some (.arr ver' sz xs)) = if ver = ver' ∧ off + len ≤ xs.length then some ((xs.drop off).take len) else none := rfl
theorem osRowsO_arr {ver off len ver' sz : Nat} {xs : List (List AV)} (h : ver = ver' ∧ off + len ≤ xs.length) : osRowsO ver off len (some (.arr ver' sz xs)) = some ((xs.drop off).take len) := if_pos h

theorem rows_getD {α : Type} [Inhabited α] {l : List α} {enc : α → List AV} {j : Nat} (h : j < l.length) : (l.map enc).getD j [] = enc (l.getD j default) := by
  simp [List.getD_eq_getElem?_getD, h]
theorem rows_getD0 {α : Type} [Inhabited α] {l : List α} {enc : α → List AV} {j : Nat} (h : j < l.length) : (l.map enc).getD (0 + j) [] = enc (l.getD j default) := by
  rw [Nat.zero_add]; exact rows_getD h
theorem getD_mem' {α : Type} [Inhabited α] {l : List α} {j : Nat} (h : j < l.length) : l.getD j default ∈ l := by
  simp [List.getD_eq_getElem?_getD, h]
theorem take_snoc {α : Type} [Inhabited α] {l : List α} {j : Nat} (h : j < l.length) : l.take (j + 1) = l.take j ++ [l.getD j default] := by
  rw [List.take_succ_eq_append_getElem h]; simp [List.getD_eq_getElem?_getD, h]
theorem drop_cons {α : Type} [Inhabited α] {l : List α} {j : Nat} (h : j < l.length) : l.drop j = l.getD j default :: l.drop (j + 1) := by
  rw [List.drop_eq_getElem_cons h]; simp [List.getD_eq_getElem?_getD, h]
theorem intc {x : AV} {a : Int} {b : Int} (h : x = int a) (h2 : a = b) : x = int b := h.trans (by rw [h2])
theorem upto_succ {j : Nat} {p : Nat → Prop} (h : ∀ i, i < j → p i) (hj : p j) : ∀ i, i < j + 1 → p i := fun i hi => by
  by_cases e : i = j
  · rw [e]; exact hj
  · exact h i (by omega)
/-! Tests that the context decides. -/
theorem dT_lt {a b : Int} (h : a < b) : decide (a < b) = true := decide_eq_true h
theorem dF_lt {a b : Int} (h : ¬ a < b) : decide (a < b) = false := decide_eq_false h
theorem dT_le {a b : Int} (h : a ≤ b) : decide (a ≤ b) = true := decide_eq_true h
theorem dF_le {a b : Int} (h : ¬ a ≤ b) : decide (a ≤ b) = false := decide_eq_false h
theorem dT_eq {a b : Int} (h : a = b) : decide (a = b) = true := decide_eq_true h
theorem dF_eq {a b : Int} (h : ¬ a = b) : decide (a = b) = false := decide_eq_false h
attribute [push_cast] decide_true decide_false
/-- An index as Go says it. -/
def idxI : Option Nat → Int
  | some i => i
  | none => -1
theorem find_some {α : Type} [Inhabited α] {l : List α} {p : α → Bool} {j : Nat} (h : j < l.length) (hp : p (l.getD j default) = true) (hb : ∀ i, i < j → p (l.getD i default) = false) : l.findIdx? p = some j := by
  rw [List.findIdx?_eq_some_iff_getElem]
  have e : ∀ i (hi : i < l.length), l.getD i default = l[i] := fun i hi => by simp [List.getD_eq_getElem?_getD, hi]
  refine ⟨h, by rw [← e j h]; exact hp, fun i hi => ?_⟩
  have := hb i hi
  rw [e i (by omega)] at this
  simp [this]
theorem find_none {α : Type} [Inhabited α] {l : List α} {p : α → Bool} (hb : ∀ i, i < l.length → p (l.getD i default) = false) : l.findIdx? p = none := by
  rw [List.findIdx?_eq_none_iff]
  intro x hx
  obtain ⟨i, hi, rfl⟩ := List.mem_iff_getElem.1 hx
  have := hb i hi
  simpa [List.getD_eq_getElem?_getD, hi] using this
theorem find_lt {α : Type} [Inhabited α] {l : List α} {p : α → Bool} {j : Nat} (h : l.findIdx? p = some j) : j < l.length ∧ p (l.getD j default) = true := by
  rw [List.findIdx?_eq_some_iff_getElem] at h
  obtain ⟨h1, h2, _⟩ := h
  exact ⟨h1, by simpa [List.getD_eq_getElem?_getD, h1] using h2⟩
theorem ext_take {α : Type} [Inhabited α] {a b : List α} {j : Nat} (h : a.take j = b.take j) (ha : j < a.length) (hb : j < b.length) (he : a.getD j default = b.getD j default) : a.take (j + 1) = b.take (j + 1) := by
  rw [take_snoc ha, take_snoc hb, h, he]
theorem all_take {α : Type} (l : List α) {n : Nat} (h : l.length ≤ n) : l.take n = l := List.take_of_length_le h
end Go.Ax
