/- Arguments of plain types (numbers, strings, structs, slices, trees of them) as values without addresses; they read behind the call as they did. -/
import Derived.Test.YtdgmlepakippmaaAx24
import Derived.Carry
import Derived.ChangeArms
import Derived.ProofKit
import Derived.HandedShaped
import Derived.Shelf.Vars
namespace Go.Ax
open Go Go.RowKit Go.WideShapes Go.ChangeShapes
set_option linter.unusedSimpArgs false
set_option linter.unusedVariables false

/-- Cells of a value of type t. -/
inductive Val (P : Program) : TypeId → List AV → Prop
  | int {t : TypeId} {k : IntKind} {n : Int} : P.underlying t = some (.int k) → (Lit.int k n).wf = true → Val P t [.v (.int k n)]
  | bool {t : TypeId} {b : Bool} : P.underlying t = some .bool → Val P t [.v (.bool b)]
  | str {t : TypeId} {s : ByteArray} : P.underlying t = some .string → s.size ≤ maxLen → Val P t [.v (.string s)]
  | sl {t e : TypeId} {rows : List (List AV)} : P.underlying t = some (.slice e) → rows.length ≤ maxLen → (∀ x ∈ rows, Val P e x) → Val P t [.sl (P.cellsOf e) rows]
  | st {t : TypeId} {fs : Array Field} {xs : List AV} : P.underlying t = some (.struct fs) → xs.length = P.cellsOf t → (∀ (i : Nat) (f : Field), fs[i]? = some f → Val P f.type ((xs.drop f.offset).take (P.cellsOf f.type))) → Val P t xs

/-- Fields one behind the other. -/
def contig (P : Program) : Nat → List Field → Option Nat
  | o, [] => some o
  | o, f :: fs => if f.offset = o then contig P (o + P.cellsOf f.type) fs else none
/-- A closed set of plain types. -/
def plainB (P : Program) (S : List TypeId) : Bool := S.all fun t =>
  match P.underlying t with
  | some (.int _) => decide (P.cellsOf t = 1)
  | some .bool => decide (P.cellsOf t = 1)
  | some .string => decide (P.cellsOf t = 1)
  | some (.slice e) => decide (P.cellsOf t = 1) && S.contains e && decide (0 < P.cellsOf e)
  | some (.struct fs) => decide (contig P 0 fs.toList = some (P.cellsOf t)) && fs.toList.all fun f => S.contains f.type
  | _ => false

section
variable {H : Type} {enc : TypeId × Value → H} {P : Program} {w : World} {sp : Nat → Bool} {held : Bool}

/-- xs stand for the cells cs. -/
def RepC (w : World) (xs : List AV) (cs : List Value) : Prop := xs.length = cs.length ∧ ∀ (i : Nat) (x : AV) (u : Value), xs[i]? = some x → cs[i]? = some u → Rep w X0 (fun _ => {}) 0 x u ∧ one u = true

theorem contig_ge : ∀ (fl : List Field) {o n : Nat}, contig P o fl = some n → o ≤ n ∧ ∀ f ∈ fl, o ≤ f.offset ∧ f.offset + P.cellsOf f.type ≤ n
  | [], o, n, h => by simp [contig] at h; subst h; simp
  | f :: fs, o, n, h => by
    simp only [contig] at h
    split at h
    · rename_i hf
      obtain ⟨h1, h2⟩ := contig_ge fs h
      refine ⟨by omega, fun g hg => ?_⟩
      rcases List.mem_cons.1 hg with rfl | hg
      · omega
      · have := h2 g hg; omega
    · cases h

theorem fields_open (cs : List Value) : ∀ (fl : List Field) {o n : Nat}, contig P o fl = some n → n ≤ cs.length → (∀ f ∈ fl, ∃ ys, RepC w ys ((cs.drop f.offset).take (P.cellsOf f.type)) ∧ Val P f.type ys) →
    ∃ xs, RepC w xs ((cs.drop o).take (n - o)) ∧ ∀ f ∈ fl, Val P f.type ((xs.drop (f.offset - o)).take (P.cellsOf f.type))
  | [], o, n, h, _, _ => by
    simp [contig] at h; subst h
    exact ⟨[], ⟨by simp, fun i x u hx => by simp at hx⟩, by simp⟩
  | f :: fs, o, n, h, hn, hf => by
    simp only [contig] at h
    split at h
    · rename_i hfo
      obtain ⟨h1, h2⟩ := contig_ge fs h
      obtain ⟨ys, ⟨hyl, hyr⟩, hyv⟩ := hf f (by simp)
      obtain ⟨zs, ⟨hzl, hzr⟩, hzv⟩ := fields_open cs fs h hn fun g hg => hf g (by simp [hg])
      rw [hfo] at hyl hyr
      have hyl' : ys.length = P.cellsOf f.type := by rw [hyl]; simp; omega
      have hzl' : zs.length = n - (o + P.cellsOf f.type) := by rw [hzl]; simp; omega
      refine ⟨ys ++ zs, ⟨by simp [hyl', hzl']; omega, fun i x u hx hu => ?_⟩, fun g hg => ?_⟩
      · have hu' : cs[o + i]? = some u := by
          rw [List.getElem?_take] at hu
          split at hu
          · simpa using hu
          · cases hu
        by_cases hi : i < ys.length
        · rw [List.getElem?_append_left hi] at hx
          refine hyr i x u hx ?_
          rw [List.getElem?_take, if_pos (by omega)]
          simpa using hu'
        · rw [List.getElem?_append_right (by omega)] at hx
          refine hzr (i - ys.length) x u hx ?_
          have hlt := (List.getElem?_eq_some_iff.1 hx).1
          rw [List.getElem?_take, if_pos (by omega)]
          simp only [List.getElem?_drop]
          rw [← hu']
          congr 1
          omega
      · rcases List.mem_cons.1 hg with rfl | hg
        · rw [hfo, Nat.sub_self, List.drop_zero, List.take_left' hyl']
          exact hyv
        · have := h2 g hg
          have e : (ys ++ zs).drop (g.offset - o) = zs.drop (g.offset - (o + P.cellsOf f.type)) := by
            rw [show g.offset - o = ys.length + (g.offset - (o + P.cellsOf f.type)) by omega, ← List.drop_drop, List.drop_left]
          rw [e]
          exact hzv g hg
    · cases h

theorem add_zero_ (a : Addr) : a.add 0 = a := rfl
theorem add_off (b o n : Nat) : (⟨b, o, none⟩ : Addr).add n = ⟨b, o + n, none⟩ := by
  unfold Addr.add
  split
  · rename_i h; rw [h]; rfl
  · rfl
theorem cell_one {t : TypeId} {a : Addr} {u : Value} (h : w.cell? a = some u) : a.spot = none := by
  unfold World.cell? at h
  split at h
  · split at h
    · cases h
    · rename_i hs; simpa using hs
  · cases h

theorem open_cells {S : List TypeId} (hS : plainB P S = true) : ∀ (fuel : Nat) {t : TypeId} {cs : List Value} {x : DataW H × List MemPlace}, t ∈ S → DataW.trod enc P w 0 sp held fuel t cs = some x → ∃ xs, RepC w xs cs ∧ Val P t xs := by
  intro fuel
  induction fuel with
  | zero => intro t cs x _ h; simp [DataW.trod] at h
  | succ fuel ih =>
    intro t cs x ht h
    have hS0 := hS
    unfold plainB at hS
    rw [List.all_eq_true] at hS
    have h1 := hS t ht
    have single : ∀ (u : Value), one u = true → RepC w [.v u] [u] := fun u hu => ⟨rfl, fun i x y hx hy => by
      cases i with
      | zero => simp at hx hy; subst hx; subst hy; exact ⟨.v _ _, hu⟩
      | succ i => simp at hx⟩
    split at h1
    · rename_i k hu
      obtain ⟨n, rfl, -, hw⟩ := DataW.trod_int hu h
      exact ⟨_, single _ rfl, .int hu hw⟩
    · rename_i hu
      obtain ⟨b, rfl, -⟩ := DataW.trod_bool hu h
      exact ⟨_, single _ rfl, .bool hu⟩
    · rename_i hu
      obtain ⟨s, rfl, -, hs⟩ := DataW.trod_string hu h
      exact ⟨_, single _ rfl, .str hu hs⟩
    · rename_i e hu
      simp only [Bool.and_eq_true, decide_eq_true_eq, List.contains_iff_mem] at h1
      obtain ⟨⟨_, he⟩, hpos⟩ := h1
      have wrap : ∀ (y : AV) (u : Value), one u = true → Rep w X0 (fun _ => {}) 0 y u → RepC w [y] [u] := fun y u h1 hu => ⟨rfl, fun i x z hx hz => by
        cases i with
        | zero => simp at hx hz; subst hx; subst hz; exact ⟨hu, h1⟩
        | succ i => simp at hx⟩
      rcases DataW.trod_slice hu h with ⟨rfl, -⟩ | ⟨a, len, cap, elems, rest, n, hn, rfl, -, _, hlc, hcap, hel, helems, -, -⟩
      · exact ⟨[.sl (P.cellsOf e) []], wrap _ _ rfl (.slE _ _ _ _), .sl hu (by simp) (by simp)⟩
      · obtain rfl : n = fuel := by omega
        by_cases hlen : len = 0
        · subst hlen
          exact ⟨[.sl (P.cellsOf e) []], wrap _ _ rfl (.slE _ _ _ _), .sl hu (by simp) (by simp)⟩
        · have hrow : ∀ i, i < len → ∃ (cs : List Value) (xs : List AV), w.cells? 0 (a.add (i * P.cellsOf e)) (P.cellsOf e) = some cs ∧ RepC w xs cs ∧ Val P e xs := by
            intro i hi
            have hg := helems i hi
            rw [List.getElem?_eq_getElem (by omega)] at hg
            cases hc : w.cells? 0 (a.add (i * P.cellsOf e)) (P.cellsOf e) with
            | none => rw [hc] at hg; cases hg
            | some cs =>
              rw [hc] at hg
              obtain ⟨xs, h1, h2⟩ := ih he hg
              exact ⟨cs, xs, rfl, h1, h2⟩
          have hcell : ∀ i cs, w.cells? 0 (a.add (i * P.cellsOf e)) (P.cellsOf e) = some cs → cs.length = P.cellsOf e ∧ ∀ j, j < P.cellsOf e → w.cell? ((a.add (i * P.cellsOf e)).add j) = cs[j]? := by
            intro i cs hc
            obtain ⟨_, h2, h3⟩ := World.cells?_some hc
            exact ⟨h2, h3⟩
          obtain ⟨f, hf⟩ : ∃ f : Nat → List Value × List AV, ∀ i, i < len → w.cells? 0 (a.add (i * P.cellsOf e)) (P.cellsOf e) = some (f i).1 ∧ RepC w (f i).2 (f i).1 ∧ Val P e (f i).2 := by
            refine ⟨fun i => if hi : i < len then (Classical.choose (hrow i hi), Classical.choose (Classical.choose_spec (hrow i hi))) else ([], []), fun i hi => ?_⟩
            simp only [dif_pos hi]
            exact Classical.choose_spec (Classical.choose_spec (hrow i hi))
          have hfl : ∀ i, i < len → (f i).2.length = P.cellsOf e := fun i hi => (hf i hi).2.1.1.trans (hcell i _ (hf i hi).1).1
          have hspot : a.spot = none := by
            have h0 := (hcell 0 _ (hf 0 (by omega)).1).2 0 hpos
            rw [List.getElem?_eq_getElem (by rw [(hcell 0 _ (hf 0 (by omega)).1).1]; exact hpos)] at h0
            simp only [Nat.zero_mul, add_zero_] at h0
            exact cell_one (t := t) h0
          have hblk : a.block < w.heap.size := by
            have := World.cells?_block (hf 0 (by omega)).1 hpos
            simpa only [Nat.zero_mul, add_zero_] using this
          obtain ⟨b, o, spot⟩ := a
          simp only at hspot hblk
          subst hspot
          have hget : ∀ i x, ((List.range len).map fun i => (f i).2)[i]? = some x → i < len ∧ x = (f i).2 := by
            intro i x hx
            simp only [List.getElem?_map, List.getElem?_range] at hx
            by_cases hi : i < len
            · simp [hi] at hx; exact ⟨hi, hx.symm⟩
            · simp [hi] at hx
          have hc : ∀ (i j : Nat) (x : List AV) (y : AV), ((List.range len).map fun i => (f i).2)[i]? = some x → x[j]? = some y → w.cell? ⟨b, o + i * P.cellsOf e + j, none⟩ = some ((f i).1.getD j default) ∧ Rep w X0 (fun _ => {}) 0 y ((f i).1.getD j default) ∧ one ((f i).1.getD j default) = true := by
            intro i j x y hx hy
            obtain ⟨hi, rfl⟩ := hget i x hx
            have hj : j < (f i).2.length := (List.getElem?_eq_some_iff.1 hy).1
            have hl := hcell i _ (hf i hi).1
            have hj' : j < (f i).1.length := by rw [hl.1, ← hfl i hi]; exact hj
            have hgd : (f i).1[j]? = some ((f i).1.getD j default) := by simp [List.getD_eq_getElem?_getD, hj']
            refine ⟨?_, (hf i hi).2.1.2 j y _ hy hgd⟩
            have := hl.2 j (by rw [← hfl i hi]; exact hj)
            rw [hgd, add_off, add_off] at this
            exact this
          refine ⟨[.sl (P.cellsOf e) ((List.range len).map fun i => (f i).2)], wrap _ _ rfl ?_, .sl hu (by simp; omega) fun x hx => ?_⟩
          · have := Rep.slN (w := w) (M := X0) (ρ := fun _ => {}) 0 (P.cellsOf e) ((List.range len).map fun i => (f i).2) b o cap (fun i j => (f i).1.getD j default) (fun h => h.elim) hblk (by simpa using hlc)
              (fun x hx => by obtain ⟨i, hi, rfl⟩ := List.mem_map.1 hx; exact hfl i (by simpa using hi)) (fun i j x y hx hy => ⟨(hc i j x y hx hy).1, (hc i j x y hx hy).2.2⟩) (fun i j x y hx hy => (hc i j x y hx hy).2.1)
            simpa using this
          · obtain ⟨i, hi, rfl⟩ := List.mem_map.1 hx
            exact (hf i (by simpa using hi)).2.2
    · rename_i fs hu
      simp only [Bool.and_eq_true, decide_eq_true_eq, List.all_eq_true, List.contains_iff_mem] at h1
      obtain ⟨ys, n, hn, -, hcl, hyl, hy⟩ := DataW.trod_struct hu h
      obtain rfl : n = fuel := by omega
      obtain ⟨xs, hxr, hxv⟩ := fields_open (w := w) cs fs.toList h1.1 (by omega) fun f hf => by
        obtain ⟨i, hi, hif⟩ := List.mem_iff_getElem.1 hf
        have hg := hy i f (by rw [← hif]; simp at hi; simp [hi])
        rw [List.getElem?_eq_getElem (by simp at hi; omega)] at hg
        exact ih (h1.2 f hf) hg
      rw [Nat.sub_zero, List.drop_zero, List.take_of_length_le (by omega)] at hxr
      refine ⟨xs, hxr, .st hu (by rw [hxr.1]; exact hcl) fun i f hf => ?_⟩
      have := hxv f (by rw [← Array.getElem?_toList] at hf; exact List.mem_of_getElem? hf)
      simpa using this
    · cases h1

/-- An argument of type t. -/
def topV (P : Program) (t : TypeId) (xs : List AV) : AV := match P.underlying t with | some (.struct _) => .agg xs | _ => xs.headD .any

theorem open_val {S : List TypeId} (hS : plainB P S = true) {t : TypeId} {v : Value} {d : DataW H} {ps : List MemPlace} {r : Reach} {base : Nat} (ht : t ∈ S) (hval : Value.okWide P w r base t v) (h : DataW.Trod enc P w 0 sp held t v d ps) :
    ∃ xs, Val P t xs ∧ Rep w X0 (fun _ => {}) 0 (topV P t xs) v := by
  obtain ⟨fuel, hf⟩ := h
  obtain ⟨xs, hx, hv⟩ := open_cells hS fuel ht hf
  refine ⟨xs, hv, ?_⟩
  unfold plainB at hS
  rw [List.all_eq_true] at hS
  have h1 := hS t ht
  have single : v.cells = #[v] → (∀ fs, P.underlying t ≠ some (.struct fs)) → Rep w X0 (fun _ => {}) 0 (topV P t xs) v := by
    intro hc hn
    have e : topV P t xs = xs.headD .any := by
      unfold topV
      split
      · rename_i fs hu; exact absurd hu (hn fs)
      · rfl
    rw [e]
    rw [hc] at hx
    obtain ⟨hl, hr⟩ := hx
    match xs, hl with
    | [x], _ => exact (hr 0 x v rfl rfl).1
  split at h1
  · rename_i k hu
    obtain ⟨n, rfl⟩ := okWide_int hu hval
    exact single rfl fun fs => by rw [hu]; simp
  · rename_i hu
    obtain ⟨n, rfl⟩ := okWide_bool hu hval
    exact single rfl fun fs => by rw [hu]; simp
  · rename_i hu
    obtain ⟨n, rfl⟩ := okWide_string hu hval
    exact single rfl fun fs => by rw [hu]; simp
  · rename_i e hu
    obtain ⟨a, len, cap, rfl⟩ := okWide_slice hu hval
    exact single rfl fun fs => by rw [hu]; simp
  · rename_i fs hu
    obtain ⟨cs, rfl, hsz⟩ := okWide_struct hu hval
    have e : topV P t xs = .agg xs := by unfold topV; rw [hu]
    rw [e]
    exact .agg _ _ _ (by rw [hx.1]; simp [Value.cells]) fun i x u hxi hui => (hx.2 i x u hxi (by simpa [Value.cells] using hui)).1
  · cases h1

/-- Arguments of these types. -/
def ValAll (P : Program) : List TypeId → List (List AV) → Prop
  | [], [] => True
  | t :: ts, xs :: l => Val P t xs ∧ ValAll P ts l
  | _, _ => False
def topAll (P : Program) : List TypeId → List (List AV) → List AV
  | t :: ts, xs :: l => topV P t xs :: topAll P ts l
  | _, _ => []

theorem open_all {S : List TypeId} (hS : plainB P S = true) : ∀ {ts : List TypeId} {vs : List Value} {ds : List (DataW H)} {ps : List MemPlace}, (∀ t ∈ ts, t ∈ S) → (∀ (j : Nat) t v, ts[j]? = some t → vs[j]? = some v → ∃ r base, Value.okWide P w r base t v) →
    DataW.TrodAll enc P w 0 sp held ts vs ds ps → ∃ l, ValAll P ts l ∧ (topAll P ts l).length = vs.length ∧ ∀ (i : Nat) (x : AV) (u : Value), (topAll P ts l)[i]? = some x → vs[i]? = some u → Rep w X0 (fun _ => {}) 0 x u
  | [], vs, ds, ps, _, _, h => by
    obtain ⟨rfl, rfl, rfl⟩ := trodAll_nil h
    exact ⟨[], trivial, rfl, fun i x u hx => by simp [topAll] at hx⟩
  | t :: ts, vs, ds, ps, hts, hv, h => by
    obtain ⟨v, vs1, d, ds1, a, b, rfl, rfl, rfl, h1, h2⟩ := trodAll_cons h
    obtain ⟨r, base, hok⟩ := hv 0 t v rfl rfl
    obtain ⟨xs, hx, hr⟩ := open_val hS (hts t (by simp)) hok h1
    obtain ⟨l, hl, hlen, hrep⟩ := open_all hS (fun t ht => hts t (by simp [ht])) (fun j t v ht hv' => hv (j + 1) t v (by simpa using ht) (by simpa using hv')) h2
    refine ⟨xs :: l, ⟨hx, hl⟩, by simp [topAll, hlen], fun i x u hxi hui => ?_⟩
    cases i with
    | zero => simp [topAll] at hxi hui; subst hxi; subst hui; exact hr
    | succ i => exact hrep i x u (by simpa [topAll] using hxi) (by simpa using hui)

theorem stays_all (hl : laidOutB P = true) {w' : World} {sp' : Nat → Bool} : ∀ {ts : List TypeId} {vs : List Value} {ds : List (DataW H)} {ps : List MemPlace}, (∀ t ∈ ts, P.readableRec t = true ∧ t < P.types.size) →
    DataW.TrodAll enc P w 0 (fun _ => true) true ts vs ds ps → (∀ p ∈ ps, w.sameAt w' p) → (∀ p ∈ ps, sp' p.block = true) → DataW.TrodAll enc P w' 0 sp' true ts vs ds ps
  | [], vs, ds, ps, _, h, _, _ => by
    obtain ⟨rfl, rfl, rfl⟩ := trodAll_nil h
    exact trodAll_mk0
  | t :: ts, vs, ds, ps, hts, h, hsame, hs => by
    obtain ⟨v, vs1, d, ds1, a, b, rfl, rfl, rfl, h1, h2⟩ := trodAll_cons h
    have ht := hts t (by simp)
    exact ⟨a, b, WideElems.Trod_stays hl ht.1 ht.2 h1 (fun p hp => hsame p (by simp [hp])) (fun p hp => hs p (by simp [hp])), stays_all hl (fun t ht => hts t (by simp [ht])) h2 (fun p hp => hsame p (by simp [hp])) (fun p hp => hs p (by simp [hp])), rfl⟩
end

/-- The package variables of glbs are ints. -/
def intVars (P : Program) : Bool := glbs.all fun g => decide (g < P.globals.size) &&
  match ((begin P (fun _ _ => 0) default).world.heap[g]?).bind Obj.row? with
  | some (zero, t) => zero.size == 1 && P.buildable t && P.cellTypes P.depth t == some [t] && (match P.underlying t with | some (.int .i64) => true | _ => false)
  | none => false

theorem glbs_shaped {P : Program} {w : World} (h : intVars P = true) (hsh : w.ShapedOpen P) : ∀ g ∈ glbs, ∃ m, w.cell? ⟨g, 0, none⟩ = some (.int .i64 m) := by
  intro g hg
  have h1 := List.all_eq_true.1 h g hg
  rw [Bool.and_eq_true, decide_eq_true_eq] at h1
  obtain ⟨h1, h2⟩ := h1
  split at h2
  · rename_i zero t h0
    simp only [Bool.and_eq_true, beq_iff_eq] at h2
    obtain ⟨⟨⟨h3, h4⟩, h5⟩, h6⟩ := h2
    refine Go.Proofs.cell_of_shapedOpen_int hsh h1 h0 h3 h4 h5 ?_
    split at h6
    · assumption
    · cases h6
  · cases h2

/-- A law: what holds of every call of plain arguments is what the row says. -/
theorem law_lifted {C : Checked} {k : FuncId} {fn : Func} {s : ChangeSpec} {conds : List PathCond} {tb : TypeId} {S : List TypeId} {os : Os} {H : Type} {enc : TypeId × Value → H} {ts : List TypeId}
    (own : ownKnob C.prog.godebug = none) (started : os.Started) (noInit : C.prog.inits.idxOf? k = none) (hfn : C.prog.funcs[k]? = some fn)
    (witness : ∃ (w : World) (tape : Tape) (i : Input), w.os = os ∧ (w.forCall tape i).Shaped C.prog ∧ i.vars = [] ∧ Input.okWide C.prog (w.forCall tape i) .any w.heap.size k i ∧
      s.pre6 enc C.prog fn conds false (w.forCall tape i).memory i.args ∧ (({} : Assume)).holds C.prog (lone (Frame.enter C.prog k i.args .normal) [] (w.forCall tape i)))
    (hv : s.vars = []) (hts : fn.params.toList = ts) (hf : fn.resultTypes = #[tb]) (htb : C.prog.underlying tb = some .bool) (hs : ∀ ds : List (DataW H), ds.length = ts.length → s.fn H ds = ⟨[.lit (.bool true)], ds, []⟩)
    (hgl : intVars C.prog = true) (hl : laidOutB C.prog = true) (hr : ts.all (fun t => C.prog.readableRec t && decide (t < C.prog.types.size) && S.contains t) = true) (hS : plainB C.prog S = true)
    (law : ∀ l, ValAll C.prog ts l → ∃ R : AHeap → Prop, ACall C.prog k (topAll C.prog ts l) [] fun x H' => x = bool true ∧ R H') :
    ReturnsInHanded {} C os k .any (s.pre6 enc C.prog fn conds false) (s.post enc C.prog fn false true false false) := by
  refine returnsInHanded_of_change_shaped own started noInit hfn witness ?_
  intro W base args ds gs before hval hW hcnd _ hsh _
  have hW' := hW
  obtain ⟨p, q, hA, hV, rfl, hfz, hnd⟩ := hW
  rw [hv] at hV
  obtain ⟨rfl, rfl⟩ := trodVars_none hV
  have hall : ∀ t ∈ ts, C.prog.readableRec t = true ∧ t < C.prog.types.size ∧ t ∈ S := fun t ht => by
    have := List.all_eq_true.1 hr t ht
    simpa [and_assoc] using this
  rw [hts] at hA
  obtain ⟨l, hl1, hl2, hl3⟩ := open_all hS (fun t ht => (hall t ht).2.2) (fun j t v ht hvv => ⟨_, _, hval j t v (by rw [← Array.getElem?_toList, hts]; exact ht) (by rw [← Array.getElem?_toList]; exact hvv)⟩) hA
  obtain ⟨R, hlaw⟩ := law l hl1
  have hrep : RepL W X0 (fun _ => {}) 0 (topAll C.prog ts l) args := ⟨by simpa using hl2, fun i x u hx hu => hl3 i x u hx (by rw [Array.getElem?_toList]; exact hu)⟩
  refine (hlaw.top hrep (glbs_shaped hgl hsh)).mono fun e W' ⟨v, x, H', ρ', he, hx, hrx, hb⟩ => ?_
  obtain ⟨rfl, _⟩ := hx
  have hvv := rep_v hrx
  subst hvv
  subst he
  have hlt : ∀ x ∈ p ++ [], x.block < W.heap.size := fun x hx => hW'.lt x hx
  have hdl : ds.length = ts.length := by
    have aux : ∀ {ts : List TypeId} {vs : List Value} {ds : List (DataW H)} {ps : List MemPlace}, DataW.TrodAll enc C.prog W 0 (fun _ => true) true ts vs ds ps → ds.length = ts.length := by
      intro ts
      induction ts with
      | nil => intro vs ds ps h; obtain ⟨_, rfl, _⟩ := trodAll_nil h; rfl
      | cons t ts ih => intro vs ds ps h; obtain ⟨v, vs1, d, ds1, a, b, rfl, rfl, rfl, h1, h2⟩ := trodAll_cons h; simp [ih h2]
    exact aux hA
  refine ⟨_, rfl, post_law hW' hv hf htb (hs ds hdl) (fun sp hsp => ?_) hb⟩
  rw [hts, List.append_nil]
  exact stays_all hl (fun t ht => ⟨(hall t ht).1, (hall t ht).2.1⟩) hA (fun x hx => hb.same (hlt x (by simpa using hx))) (fun x hx => hsp x (by simpa using hx))
end Go.Ax
