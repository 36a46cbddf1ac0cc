/- That an operation does what is said of it: new variables, structs, slices and maps. -/
import Derived.Test.YtdgmlepakippmaaAx11
namespace Go.Ax
open Go Go.RowKit

section
variable {P : Program} {w : World} {X : Nat → Prop} {ρ : Nat → Loc} {H : AHeap}

theorem not_mut_new (h : HRel w X ρ H) {b : Nat} (hb : w.heap.size ≤ b) : ¬ Mut X ρ H.length b := by
  rintro (hx | ho)
  · have := h.xlt b hx; omega
  · have := ho.lt h; omega

theorem heap_new (w : World) (o : Obj) : (w.alloc o).heap[w.heap.size]? = some o := by
  show (w.heap.push o)[w.heap.size]? = _
  simp

/-- A new variable of these cells, which the run owns. -/
theorem push_box (h : HRel w X ρ H) {cs : List AV} {c : Array Value} {t : TypeId} (hl : cs.length = c.size) (hr : ∀ (j : Nat) (y : AV) (u : Value), cs[j]? = some y → c[j]? = some u → Rp w X ρ H y u ∧ one u = true) :
    ∃ ρ', HRel (w.alloc (.cells c t)) X ρ' (H ++ [.box cs]) ∧ Rep (w.alloc (.cells c t)) (Mut X ρ' (H ++ [HO.box cs]).length) ρ' (H ++ [HO.box cs]).length (.ptr H.length 0 0) (.pointer (some ⟨w.heap.size, 0, none⟩)) ∧
      Fut w ρ H.length (w.alloc (.cells c t)) ρ' (H ++ [HO.box cs]).length := by
  obtain ⟨ρ', hl', hrel, hf⟩ := h.push (w' := w.alloc (.cells c t)) { blk := some (w.heap.size, 0) } (.box cs) (Same.alloc _ _) (fun b o hb => by simp at hb; obtain ⟨rfl, _⟩ := hb; simp) (heap_old w _)
    (fun ρ' hf hl' => ⟨rfl, w.heap.size, c, t, (0, 0), rfl, heap_new w _, hl, .inl rfl, fun j y u hy hu => ⟨((hr j y u hy hu).1.next hf (Nat.le_refl _)).mono (Nat.le_succ _), (hr j y u hy hu).2⟩⟩)
  exact ⟨ρ', hrel, .ptr _ _ _ _ _ (by simp) (by rw [hl']; exact Nat.le_refl _) rfl fun _ => ⟨w.heap.size, 0, by rw [hl'], rfl⟩, hf⟩

theorem snd_alloc {t : TypeId} {z : Value} (hz : tyZero P t = some z) (h : HRel w X ρ H) :
    Gives P (Instr.alloc t true (.tuple #[])) w X ρ H ⟨c1s (avs z.cells.toList) = true, .ptr H.length 0 0, H ++ [.box (avs z.cells.toList)]⟩ := by
  intro hc
  have hzr : (zeroValue t).run P w = .ok z w := by
    unfold tyZero at hz
    cases hi : P.info? t with
    | none => simp [hi] at hz
    | some i => simp [hi] at hz; simp [zeroValue, typeInfo, hi, hz]
  obtain ⟨ρ', h1, h2, h3⟩ := push_box h (cs := avs z.cells.toList) (c := z.cells) (t := t) (by simp [avs]) (fun j y u hy hu => by
    simp only [avs, List.getElem?_map, Array.getElem?_toList, hu, Option.map_some, Option.some.injEq] at hy
    subst hy
    refine ⟨.v _ _, ?_⟩
    simp only [c1s, List.all_eq_true, avs, List.mem_map] at hc
    exact hc (.v u) ⟨u, List.mem_of_getElem? (by simpa using hu), rfl⟩)
  exact ⟨_, _, ρ', by simp [Instr.alloc, hzr, newVar, newRow], h1, h2, h3⟩

theorem snd_box {t : TypeId} {imm : Bool} {x : AV} {u : Value} (h : HRel w X ρ H) (hx : Rp w X ρ H x u) : Gives P (Instr.box t u) w X ρ H (rBox imm x H) := by
  have hrun : (Instr.box t u).run P w = .ok (.pointer (some ⟨w.heap.size, 0, none⟩)) (w.alloc (.cells u.cells t)) := by simp [Instr.box, newVar, newRow]
  unfold rBox
  cases imm with
  | true =>
    rw [if_pos rfl]
    rintro ⟨h1, h2⟩
    obtain ⟨hl, hr⟩ := rep_cells hx h1
    obtain ⟨hrel, hf⟩ := h.more (w' := w.alloc (.cells u.cells t)) (Same.alloc _ _) (heap_old w _)
    refine ⟨_, _, ρ, hrun, hrel, ?_, hf⟩
    have := Rep.vp (w := w.alloc (.cells u.cells t)) (M := Mut X ρ H.length) (ρ := ρ) H.length (cellsOf x) 0 w.heap.size 0 (fun j => u.cells.getD j undef) (not_mut_new h (Nat.le_refl _)) (by simp)
      (fun j y hy => by
        have hlt : j < u.cells.size := by have := (List.getElem?_eq_some_iff.1 hy).1; omega
        refine ⟨?_, ?_⟩
        · rw [cell_of_blk (heap_new w _), Nat.zero_add]; simp [hlt]
        · exact (hr j y _ hy (by simp [hlt])).2)
      (fun j y hy => by
        have hlt : j < u.cells.size := by have := (List.getElem?_eq_some_iff.1 hy).1; omega
        exact ((hr j y (u.cells.getD j undef) hy (by simp [hlt])).1.of_cl (clL_all h2 hy)).next hf (Nat.zero_le _))
    exact this
  | false =>
    rw [if_neg (by simp)]
    intro h1
    obtain ⟨hl, hr⟩ := rep_cells hx h1
    obtain ⟨ρ', h1, h2, h3⟩ := push_box h (t := t) hl hr
    exact ⟨_, _, ρ', hrun, h1, h2, h3⟩

/-- A part of a struct put in its place. -/
theorem fold_set (off : Nat) : ∀ (vs : List Value) (s : Nat) (c : Array Value), off + s + vs.length ≤ c.size →
    ((vs.zipIdx s).foldl (fun cs (x : Value × Nat) => cs.setIfInBounds (off + x.2) x.1) c).size = c.size ∧
    ∀ k, ((vs.zipIdx s).foldl (fun cs (x : Value × Nat) => cs.setIfInBounds (off + x.2) x.1) c)[k]? = if off + s ≤ k ∧ k < off + s + vs.length then vs[k - (off + s)]? else c[k]?
  | [], s, c, _ => by simp; intro k h1 h2; omega
  | v :: vs, s, c, h => by
    simp only [List.length_cons] at h
    obtain ⟨h1, h2⟩ := fold_set off vs (s + 1) (c.setIfInBounds (off + s) v) (by simp; omega)
    simp only [List.zipIdx_cons, List.foldl_cons]
    refine ⟨by rw [h1]; simp, fun k => ?_⟩
    rw [h2 k]
    simp only [List.length_cons]
    by_cases hk : k = off + s
    · subst hk
      rw [if_neg (by omega), if_pos (by omega)]
      simp [show off + s < c.size by omega]
    · by_cases hk2 : off + s < k ∧ k < off + s + (vs.length + 1)
      · rw [if_pos (by omega), if_pos (by omega)]
        rw [show k - (off + s) = (k - (off + (s + 1))) + 1 by omega, List.getElem?_cons_succ]
      · rw [if_neg (by omega), if_neg (by omega), Array.getElem?_setIfInBounds_ne (by omega)]

theorem zip_fold (off : Nat) (v c : Array Value) (h : off + v.size ≤ c.size) :
    (v.zipIdx.foldl (fun cs (x : Value × Nat) => cs.setIfInBounds (off + x.2) x.1) c).size = c.size ∧
    ∀ k, (v.zipIdx.foldl (fun cs (x : Value × Nat) => cs.setIfInBounds (off + x.2) x.1) c)[k]? = if off ≤ k ∧ k < off + v.size then v[k - off]? else c[k]? := by
  have := fold_set off v.toList 0 c (by simpa using h)
  rw [← Array.foldl_toList, Array.toList_zipIdx]
  simpa using this

/-- Operands and what they stand for, part by part. -/
def RpPs (w : World) (X : Nat → Prop) (ρ : Nat → Loc) (H : AHeap) (place : Nat → Option (Nat × Nat)) : List (Nat × Value) → List (Nat × Nat × AV) → Prop
  | [], [] => True
  | (i, u) :: l, (off, n, x) :: m => place i = some (off, n) ∧ Rp w X ρ H x u ∧ RpPs w X ρ H place l m
  | _, _ => False

theorem fill_ok {place : Nat → Option (Nat × Nat)} : ∀ (l : List (Nat × Value)) (m : List (Nat × Nat × AV)) (cs : List AV) (c : Array Value), RpPs w X ρ H place l m → cs.length = c.size →
    (∀ (j : Nat) (y : AV) (u : Value), cs[j]? = some y → c[j]? = some u → Rp w X ρ H y u) → (fillA cs m).1 →
    ∃ c', Instr.fill place c l = some c' ∧ (fillA cs m).2.length = c'.size ∧ ∀ (j : Nat) (y : AV) (u : Value), (fillA cs m).2[j]? = some y → c'[j]? = some u → Rp w X ρ H y u
  | [], [], cs, c, _, hl, hr, _ => ⟨c, rfl, hl, hr⟩
  | [], _ :: _, _, _, h, _, _, _ => h.elim
  | _ :: _, [], _, _, h, _, _, _ => h.elim
  | (i, u) :: l, (off, n, x) :: m, cs, c, ⟨hp, hx, hrest⟩, hl, hr, hok => by
    simp only [fillA] at hok ⊢
    obtain ⟨⟨h1, h2, h3⟩, hok⟩ := hok
    obtain ⟨hcl, hcr⟩ := rep_cells hx h3
    have hsz : u.cells.size = n := by omega
    obtain ⟨z1, z2⟩ := zip_fold off u.cells c (by omega)
    have hspl : (splice cs off (cellsOf x)).length = cs.length := by simp only [splice, List.length_append, List.length_take, List.length_drop]; omega
    obtain ⟨c', f1, f2, f3⟩ := fill_ok l m (splice cs off (cellsOf x)) _ hrest (by rw [hspl, z1]; exact hl) (fun j y v hy hv => by
      rw [z2 j] at hv
      simp only [splice] at hy
      rw [getElem?_splice _ _ _ _ (by omega)] at hy
      by_cases hj1 : j < off
      · rw [if_neg (by omega)] at hv; rw [if_pos hj1] at hy; exact hr j y v hy hv
      · rw [if_neg hj1] at hy
        by_cases hj2 : j < off + (cellsOf x).length
        · rw [if_pos (by omega)] at hv; rw [if_pos hj2] at hy; exact (hcr _ y v hy hv).1
        · rw [if_neg (by omega)] at hv; rw [if_neg hj2] at hy; exact hr j y v hy hv) hok
    refine ⟨c', ?_, f2, f3⟩
    simp only [Instr.fill, hp]
    rw [if_neg (by simp [hsz]; omega)]
    exact f1

theorem zero_run {t : TypeId} {z : Value} (hz : tyZero P t = some z) (w : World) : (zeroValue t).run P w = .ok z w := by
  unfold tyZero at hz
  cases hi : P.info? t with
  | none => simp [hi] at hz
  | some i => simp [hi] at hz; simp [zeroValue, typeInfo, hi, hz]

theorem places_run : ∀ (fs : List Field) (pl : List (Nat × Nat)), placesOf P fs = some pl → ∀ w, (fs.mapM (fun f => (do pure (f.offset, ← sizeOf f.type) : Sem (Nat × Nat)))).run P w = .ok pl w
  | [], pl, h, w => by simp [placesOf] at h; subst h; simp
  | f :: fs, pl, h, w => by
    simp only [placesOf] at h
    cases hn : tySz P f.type with
    | none => simp [hn] at h
    | some n =>
      cases hm : placesOf P fs with
      | none => simp [hn, hm] at h
      | some m =>
        simp [hn, hm] at h
        subst h
        have := places_run fs m hm w
        simp only [List.mapM_cons, Sem.run_bind, tySz_run hn, Result.andThen_ok, Sem.run_pure] at this ⊢
        rw [this]
        rfl

theorem agg_rep {cs : List AV} {c : Array Value} (hl : cs.length = c.size) (hr : ∀ (j : Nat) (y : AV) (u : Value), cs[j]? = some y → c[j]? = some u → Rp w X ρ H y u) : Rp w X ρ H (.agg cs) (.agg c) := .agg _ _ _ hl hr

theorem avs_rep (c : Array Value) : ∀ (j : Nat) (y : AV) (u : Value), (avs c.toList)[j]? = some y → c[j]? = some u → Rp w X ρ H y u := by
  intro j y u hy hu
  simp only [avs, List.getElem?_map, Array.getElem?_toList, hu, Option.map_some, Option.some.injEq] at hy
  subst hy
  exact .v _ _

theorem snd_build_struct {t : TypeId} {z : Array Value} {fs : Array Field} {pl : List (Nat × Nat)} {ps : Array (Nat × Value)} {m : List (Nat × Nat × AV)} (hz : tyZero P t = some (.agg z)) (ht : P.underlying t = some (.struct fs)) (hp : placesOf P fs.toList = some pl)
    (h : HRel w X ρ H) (hps : RpPs w X ρ H (fun i => pl[i]?) ps.toList m) : Gives P (Instr.build t ps) w X ρ H (rBuild (avs z.toList) m H) := by
  unfold rBuild
  refine gives_pure h fun hok => ?_
  obtain ⟨c', f1, f2, f3⟩ := fill_ok ps.toList m (avs z.toList) z hps (by simp [avs]) (avs_rep z) hok
  refine ⟨.agg c', ?_, agg_rep f2 f3⟩
  have hpl : (fs.mapM (fun f => (do pure (f.offset, ← sizeOf f.type) : Sem (Nat × Nat)))).run P w = .ok pl.toArray w := by
    rw [Array.mapM_eq_mapM_toList, Sem.run_map, places_run fs.toList pl hp w]
    rfl
  have hf : Instr.fill (fun x => pl.toArray[x]?) z ps.toList = some c' := by simpa using f1
  unfold Instr.build
  simp only [Sem.run_bind, zero_run hz, Result.andThen_ok, run_underlying ht, hpl, Value.cells, hf, Sem.run_pure]

theorem snd_build_array {t el : TypeId} {n sz : Nat} {z : Array Value} {ps : Array (Nat × Value)} {m : List (Nat × Nat × AV)} (hz : tyZero P t = some (.agg z)) (ht : P.underlying t = some (.array n el)) (hsz : tySz P el = some sz)
    (h : HRel w X ρ H) (hps : RpPs w X ρ H (fun i => some (i * sz, sz)) ps.toList m) : Gives P (Instr.build t ps) w X ρ H (rBuild (avs z.toList) m H) := by
  unfold rBuild
  refine gives_pure h fun hok => ?_
  obtain ⟨c', f1, f2, f3⟩ := fill_ok ps.toList m (avs z.toList) z hps (by simp [avs]) (avs_rep z) hok
  refine ⟨.agg c', ?_, agg_rep f2 f3⟩
  unfold Instr.build
  simp only [Sem.run_bind, zero_run hz, Result.andThen_ok, run_underlying ht, tySz_run hsz, Value.cells, f1, Sem.run_pure]
end
end Go.Ax
