/- That an operation does what is said of it: those that only read. -/
import Derived.Test.YtdgmlepakippmaaAx4
import Derived.Test.YtdgmlepakippmaaAx5
namespace Go.Ax
open Go Go.RowKit

/-- The slots hold what the environment says. -/
def ERep (w : World) (M : Nat → Prop) (ρ : Nat → Loc) (k n : Nat) (e : Env) (a : Act) : Prop := ∀ t, t < n → Rep w M ρ k (e t) (a.tmps.getD t undef)

/-- The run comes to what the result says. -/
def Gives (P : Program) (s : Sem Value) (w : World) (X : Nat → Prop) (ρ : Nat → Loc) (H : AHeap) (r : Res) : Prop :=
  r.ok → ∃ u w' ρ', s.run P w = .ok u w' ∧ HRel w' X ρ' r.H ∧ Rep w' (Mut X ρ' r.H.length) ρ' r.H.length r.x u ∧ Fut w ρ H.length w' ρ' r.H.length
def GivesU (P : Program) (s : Sem Unit) (w : World) (X : Nat → Prop) (ρ : Nat → Loc) (H : AHeap) (r : Res) : Prop :=
  r.ok → r.x = .any ∧ ∃ w' ρ', s.run P w = .ok () w' ∧ HRel w' X ρ' r.H ∧ Fut w ρ H.length w' ρ' r.H.length

section
variable {P : Program} {w : World} {X : Nat → Prop} {ρ : Nat → Loc} {H : AHeap}

theorem gives_no {s : Sem Value} : Gives P s w X ρ H (.no H) := fun h => h.elim
theorem gives_pure {s : Sem Value} {p : Prop} {x : AV} (h : HRel w X ρ H) (f : p → ∃ u, s.run P w = .ok u w ∧ Rep w (Mut X ρ H.length) ρ H.length x u) : Gives P s w X ρ H ⟨p, x, H⟩ := by
  intro hp
  obtain ⟨u, h1, h2⟩ := f hp
  exact ⟨u, w, ρ, h1, h, h2, Fut.refl _ _ _⟩
theorem gives_also {s : Sem Value} {p : Prop} {r : Res} (f : p → Gives P s w X ρ H r) : Gives P s w X ρ H (r.also p) := fun ⟨hp, hr⟩ => f hp hr

theorem ev_rep {M : Nat → Prop} {k n : Nat} {e : Env} {a : Act} (he : ERep w M ρ k n e a) {o : Operand} {x : LX} (h : lx n o = some x) : Rep w M ρ k (ev e x) (a.eval o) := by
  cases o with
  | tmp t =>
    simp only [lx] at h
    split at h
    · rename_i ht
      simp only [Option.some.injEq] at h
      subst h
      exact he t ht
    · cases h
  | const v =>
    simp only [lx, Option.some.injEq] at h
    subst h
    exact .v _ _
  | func f =>
    simp only [lx, Option.some.injEq] at h
    subst h
    exact .fn _ _ _ _ _ _ rfl rfl (fun i x u hx _ => by simp at hx) (fun i x u hx _ => by simp at hx)
  | global g => simp [lx] at h

theorem rep_one {M : Nat → Prop} {k : Nat} {x : AV} {u : Value} (h : Rep w M ρ k x u) (hc : c1 x = true) : one u = true := by
  cases h <;> first | rfl | assumption | (simp [c1] at hc; done) | exact hc

/-- The cells of a value. -/
theorem rep_cells {M : Nat → Prop} {k : Nat} {x : AV} {u : Value} (h : Rep w M ρ k x u) (hc : c1s (cellsOf x) = true) :
    (cellsOf x).length = u.cells.size ∧ ∀ (i : Nat) (y : AV) (v : Value), (cellsOf x)[i]? = some y → u.cells[i]? = some v → Rep w M ρ k y v ∧ one v = true := by
  by_cases hx : ∃ cs, x = .agg cs
  · obtain ⟨cs, rfl⟩ := hx
    cases h with
    | agg n cs us hl hr =>
      refine ⟨hl, fun i y v hy hv => ⟨hr i y v hy hv, ?_⟩⟩
      refine rep_one (hr i y v hy hv) ?_
      simp only [cellsOf, c1s, List.all_eq_true] at hc
      exact hc y (List.mem_of_getElem? hy)
  · have h1 : cellsOf x = [x] := by
      cases x <;> first | rfl | exact absurd ⟨_, rfl⟩ hx
    rw [h1] at hc ⊢
    have hc1 : c1 x = true := by simpa [c1s] using hc
    have hu := rep_one h hc1
    have h2 : u.cells = #[u] := by cases u <;> first | rfl | (simp [one] at hu)
    rw [h2]
    refine ⟨rfl, fun i y v hy hv => ?_⟩
    cases i with
    | zero => simp at hy hv; subst hy; subst hv; exact ⟨h, hu⟩
    | succ i => simp at hy

theorem tyAg_run {t : TypeId} {ag : Bool} (h : tyAg P t = some ag) : (isAgg t).run P w = .ok ag w := by
  unfold tyAg at h
  cases hd : P.underlying t with
  | none => simp [hd] at h
  | some d =>
    simp only [hd] at h
    unfold isAgg
    cases d <;> simp at h <;> subst h <;> simp [run_underlying hd]

theorem tySz_run {t : TypeId} {n : Nat} (h : tySz P t = some n) : (sizeOf t).run P w = .ok n w := by
  unfold tySz at h
  cases hi : P.info? t with
  | none => simp [hi] at h
  | some i =>
    simp [hi] at h
    subst h
    simp [sizeOf, typeInfo, hi]

/-- A variable is read. -/
theorem loadVar_ok {t : TypeId} {ag : Bool} {n : Nat} (hag : tyAg P t = some ag) (hsz : tySz P t = some n) {M : Nat → Prop} {k b o : Nat} {cs : List AV} (hn : n ≤ cs.length) (h1 : ag = true ∨ n = 1) (c : Nat → Value)
    (hc : ∀ j, j < n → w.cell? ⟨b, o + j, none⟩ = some (c j)) (hr : ∀ j y, j < n → cs[j]? = some y → Rep w M ρ k y (c j)) :
    ∃ u, (loadVar t ⟨b, o, none⟩).run P w = .ok u w ∧ Rep w M ρ k (cellsV ag n cs) u := by
  unfold loadVar
  cases ag with
  | true =>
    refine ⟨.agg ((List.range n).map c).toArray, ?_, ?_⟩
    · simp only [Sem.run_bind, tyAg_run hag, tySz_run hsz, Result.andThen_ok, if_true, Sem.run_ite]
      rw [run_loadCells w ⟨b, o, none⟩ n c (fun j hj => by rw [Addr.add_lit]; exact hc j hj)]
      simp
    · simp only [cellsV, if_true]
      refine .agg _ _ _ (by simp; omega) fun i x u hx hu => ?_
      simp only [List.getElem?_take] at hx
      split at hx
      · rename_i hi
        simp [hi] at hu
        subst hu
        exact hr i x hi hx
      · cases hx
  | false =>
    have hn1 : n = 1 := by simpa using h1
    subst hn1
    refine ⟨c 0, ?_, ?_⟩
    · simp only [Sem.run_bind, tyAg_run hag, Result.andThen_ok, Bool.false_eq_true, if_false, Sem.run_ite]
      rw [run_load]
      have := hc 0 (by omega)
      simp only [Nat.add_zero] at this
      rw [this]
    · simp only [cellsV, Bool.false_eq_true, if_false]
      cases cs with
      | nil => simp at hn
      | cons y cs => exact hr 0 y (by omega) rfl

theorem cell_of_blk {b : Nat} {c : Array Value} {el : TypeId} {fr : Nat × Nat} (h : w.heap[b]? = some (.cells c el fr)) (j : Nat) : w.cell? ⟨b, j, none⟩ = c[j]? := by
  simp [World.cell?, h]

/-- Cell i*sz+j of an array's cells is cell j of its element i. -/
theorem mul_lt_of {i sz j n : Nat} (hi : i < n) (hj : j < sz) : i * sz + j < n * sz := by
  have : (i + 1) * sz ≤ n * sz := Nat.mul_le_mul_right _ hi
  rw [Nat.add_mul] at this
  omega

theorem isBox_some {o : Option HO} (h : isBox o) : ∃ cs, o = some (.box cs) := by
  cases o with
  | none => cases h
  | some x => cases x <;> first | exact ⟨_, rfl⟩ | cases h
theorem isArr_some {o : Option HO} (h : isArr o) : ∃ v sz xs, o = some (.arr v sz xs) := by
  cases o with
  | none => cases h
  | some x => cases x <;> first | exact ⟨_, _, _, rfl⟩ | cases h

/-- A pointer into a box: where it lies. -/
theorem ptr_box (h : HRel w X ρ H) {r ver off : Nat} {u : Value} (hx : Rep w (Mut X ρ H.length) ρ H.length (.ptr r ver off) u) {cs : List AV} (ho : H[r]? = some (.box cs)) (hv : ver = 0) :
    r < H.length ∧ ∃ b c e fr, (ρ r).blk = some (b, 0) ∧ u = .pointer (some ⟨b, off, none⟩) ∧ w.heap[b]? = some (.cells c e fr) ∧ cs.length = c.size ∧ noFr fr c.size ∧ (ρ r).ver = 0 ∧
      ∀ (j : Nat) (y : AV) (u : Value), cs[j]? = some y → c[j]? = some u → Rep w (Mut X ρ H.length) ρ H.length y u ∧ one u = true := by
  obtain ⟨h1, b, c, e, fr, h2, h3, h4, h5, h6⟩ := h.objs r _ ho
  cases hx with
  | ptr _ _ _ _ _ hr hle hone hp =>
    subst hv
    obtain ⟨b', o', hb, hu⟩ := hp h1.symm
    rw [h2] at hb
    simp only [Option.some.injEq, Prod.mk.injEq] at hb
    obtain ⟨rfl, rfl⟩ := hb
    exact ⟨hr, b, c, e, fr, h2, by simpa using hu, h3, h4, h5, h1, h6⟩

/-- A pointer into an array's element: where it lies. -/
theorem pe_arr (h : HRel w X ρ H) {r ver i off : Nat} {u : Value} (hx : Rep w (Mut X ρ H.length) ρ H.length (.pe r ver i off) u) {v sz : Nat} {xs : List (List AV)} (ho : H[r]? = some (.arr v sz xs)) (hv : ver = v) (_hi : i < xs.length) :
    r < H.length ∧ ∃ b o c e fr, (ρ r).blk = some (b, o) ∧ u = .pointer (some ⟨b, o + (i * sz + off), none⟩) ∧ w.heap[b]? = some (.cells c e fr) ∧ o + (ρ r).ext ≤ c.size ∧ noFr fr c.size ∧ xs.length * sz ≤ (ρ r).ext ∧
      (∀ x ∈ xs, x.length = sz) ∧ 0 < sz ∧ (ρ r).ver = ver ∧ (ρ r).sz = sz ∧ ∀ (i j : Nat) (x : List AV) (y : AV) (u : Value), xs[i]? = some x → x[j]? = some y → c[o + i * sz + j]? = some u → Rep w (Mut X ρ H.length) ρ 0 y u ∧ one u = true := by
  obtain ⟨h1, h2, h3, h4, h5, h6⟩ := h.objs r _ ho
  cases hx with
  | pe _ _ _ _ _ _ hr hle hone hp =>
    subst hv
    obtain ⟨b', o', hb, hu⟩ := hp h1.symm
    rw [hb] at h6
    obtain ⟨c, e, fr, g1, g2, g3, g4⟩ := h6
    rw [h2] at hu
    exact ⟨hr, b', o', c, e, fr, hb, hu, g1, g2, g3, h5, h4, h3, h1, h2, g4⟩

theorem snd_load {t : TypeId} {ag : Bool} {n : Nat} (hag : tyAg P t = some ag) (hsz : tySz P t = some n) (h : HRel w X ρ H) {p : AV} {u : Value} (hp : Rep w (Mut X ρ H.length) ρ H.length p u) :
    Gives P (Instr.loadAt t u) w X ρ H (rLoad ag n p H) := by
  have at_ : ∀ a : Addr, Instr.loadAt t (.pointer (some a)) = loadVar t a := fun a => rfl
  cases p with
  | vp cs off =>
    simp only [rLoad]
    refine gives_pure h fun ⟨h1, h2⟩ => ?_
    cases hp with
    | vp _ _ _ b o c hm hb hcell hrep =>
      rw [at_]
      refine loadVar_ok hag hsz (cs := cs.drop off) (by simp; omega) h2 (fun j => c (off + j)) (fun j hj => ?_) (fun j y hj hy => ?_)
      · have hlt : off + j < cs.length := by omega
        have := hcell (off + j) cs[off + j] (by simp [hlt])
        rw [Nat.add_assoc]
        exact this.1
      · rw [List.getElem?_drop] at hy
        exact (hrep _ _ hy).mono (Nat.zero_le _)
  | ptr r ver off =>
    simp only [rLoad]
    refine gives_also fun ⟨hb, hv⟩ => ?_
    obtain ⟨cs, ho⟩ := isBox_some hb
    rw [ho] at hv ⊢
    simp only [isVer] at hv
    simp only [rLoadO]
    refine gives_pure h fun ⟨h1, h2⟩ => ?_
    obtain ⟨hr, b, c, e, fr, hblk, rfl, hh, hl, hfr, _, hrep⟩ := ptr_box h hp ho hv
    rw [at_]
    refine loadVar_ok hag hsz (cs := cs.drop off) (by simp; omega) h2 (fun j => c.getD (off + j) undef) (fun j hj => ?_) (fun j y hj hy => ?_)
    · rw [cell_of_blk hh]
      have hlt : off + j < c.size := by omega
      simp [hlt]
    · rw [List.getElem?_drop] at hy
      have hlt : off + j < c.size := by omega
      exact (hrep _ _ _ hy (by simp [hlt])).1
  | pe r ver i off =>
    simp only [rLoad]
    refine gives_also fun ⟨hb, hv⟩ => ?_
    obtain ⟨v, sz, xs, ho⟩ := isArr_some hb
    rw [ho] at hv ⊢
    simp only [isVer] at hv
    simp only [rLoadO]
    refine gives_pure h fun ⟨h0, h1, h2⟩ => ?_
    obtain ⟨hr, b, o, c, e, fr, hblk, rfl, hh, hext, hfr, hle, hrow, hsz0, _, _, hrep⟩ := pe_arr h hp ho hv h0
    rw [at_]
    have hx : xs[i]? = some (xs.getD i []) := by simp [h0]
    have hxl : (xs.getD i []).length = sz := hrow _ (List.mem_of_getElem? hx)
    have hlt : ∀ j, j < n → o + i * sz + (off + j) < c.size := fun j hj => by
      have := mul_lt_of (sz := sz) (j := off + j) h0 (by omega)
      omega
    refine loadVar_ok hag hsz (cs := (xs.getD i []).drop off) (by simp only [List.length_drop]; omega) h2 (fun j => c.getD (o + i * sz + (off + j)) undef) (fun j hj => ?_) (fun j y hj hy => ?_)
    · rw [cell_of_blk hh]
      have := hlt j hj
      rw [show o + (i * sz + off) + j = o + i * sz + (off + j) by omega]
      simp [this]
    · rw [List.getElem?_drop] at hy
      exact (hrep i (off + j) _ _ _ hx hy (by simp [hlt j hj])).1.mono (Nat.zero_le _)
  | _ => exact gives_no
end
end Go.Ax
