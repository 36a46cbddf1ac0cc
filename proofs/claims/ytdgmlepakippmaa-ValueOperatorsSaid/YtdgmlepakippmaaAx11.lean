/- That an operation does what is said of it: those that make memory, and stores. -/
import Derived.Test.YtdgmlepakippmaaAx10
namespace Go.Ax
open Go Go.RowKit

theorem one_eq (v : Value) : v.oneCell' = one v := by cases v <;> rfl

/-- A row of cells written into a list. -/
theorem getElem?_splice {α : Type} (l vs : List α) (o j : Nat) (h : o + vs.length ≤ l.length) :
    (l.take o ++ vs ++ l.drop (o + vs.length))[j]? = if j < o then l[j]? else if j < o + vs.length then vs[j - o]? else l[j]? := by
  have h1 : (l.take o).length = o := by simp; omega
  rw [List.append_assoc, List.getElem?_append, h1]
  split
  · rename_i hj; rw [List.getElem?_take, if_pos hj]
  · rename_i hj
    rw [List.getElem?_append]
    split
    · rename_i h2; rw [if_pos (by omega)]
    · rename_i h2
      rw [if_neg (by omega), List.getElem?_drop]
      congr 1
      omega

section
variable {P : Program} {w : World} {X : Nat → Prop} {ρ : Nat → Loc} {H : AHeap}

theorem run_storeCells_fr (g o : Nat) (t : TypeId) (fr : Nat × Nat) : ∀ (vs : List Value) (i : Nat) (cur : Array Value) (w : World), w.heap[g]? = some (.cells cur t fr) → noFr fr cur.size → o + i + vs.length ≤ cur.size → (∀ v ∈ vs, one v = true) →
    (storeCells ⟨g, o, none⟩ vs i).run P w = .ok () (w.setRow g (cur.toList.take (o + i) ++ vs ++ cur.toList.drop (o + i + vs.length)).toArray)
  | [], i, cur, w, hg, _, _, _ => by
    simp only [storeCells, List.append_nil, List.length_nil, Nat.add_zero, List.take_append_drop, Array.toArray_toList]
    rw [setRow_self w g cur t fr hg]
    rfl
  | v :: rest, i, cur, w, hg, hfr, hl, h1 => by
    have hi : o + i < cur.size := by simp at hl; omega
    have hadd : (⟨g, o, none⟩ : Addr).add i = ⟨g, o + i, none⟩ := Addr.add_lit _ _ _
    have hcell : w.cell? ⟨g, o + i, none⟩ = some cur[o + i] := by simp [World.cell?, hg, hi]
    have hfro : w.frozen? ⟨g, o + i, none⟩ = false := by
      simp only [World.frozen?, hg]
      rcases hfr with h | h
      · simp; omega
      · simp; omega
    have hst : (store ((⟨g, o, none⟩ : Addr).add i) v).run P w = .ok () (w.setRow g (cur.setIfInBounds (o + i) v)) := by
      rw [hadd, run_store P w _ v _ (by rw [one_eq]; exact h1 v (by simp)), hcell]
      simp [hfro, setCell_eq_setRow w g (o + i) cur t fr v hg]
    have ih := run_storeCells_fr g o t fr rest (i + 1) (cur.setIfInBounds (o + i) v) (w.setRow g (cur.setIfInBounds (o + i) v)) (setRow_heap w g cur _ t _ hg) (by simpa using hfr) (by simp at hl ⊢; omega) (fun x hx => h1 x (by simp [hx]))
    simp only [storeCells, Sem.run_bind, hst, Result.andThen_ok, ih, setRow_setRow]
    congr 3
    have e := list_seg_step cur.toList (o + i) v rest (by simp at hl ⊢; omega)
    simpa [Array.toList_setIfInBounds, Nat.add_assoc] using e

theorem Same.setRow (w : World) (g : Nat) (cs : Array Value) : Same w (w.setRow g cs) := ⟨rfl, rfl, rfl, by simp [World.setRow]⟩

theorem giveU_mk {s : Sem Unit} {p : Prop} {H' : AHeap} (f : p → ∃ w' ρ', s.run P w = .ok () w' ∧ HRel w' X ρ' H' ∧ Fut w ρ H.length w' ρ' H'.length) : GivesU P s w X ρ H ⟨p, .any, H'⟩ := fun hp => ⟨rfl, f hp⟩

/-- A variable is written. -/
theorem storeVar_ok {t : TypeId} {n b o : Nat} (hn : tySz P t = some n) {x : AV} {u : Value} {M : Nat → Prop} {k : Nat} (hx : Rep w M ρ k x u) (hl : (cellsOf x).length = n) (h1 : c1s (cellsOf x) = true)
    {c : Array Value} {e : TypeId} {fr : Nat × Nat} (hh : w.heap[b]? = some (.cells c e fr)) (hfr : noFr fr c.size) (hb : o + n ≤ c.size) :
    (storeVar t ⟨b, o, none⟩ u).run P w = .ok () (w.setRow b (c.toList.take o ++ u.cells.toList ++ c.toList.drop (o + u.cells.toList.length)).toArray) := by
  obtain ⟨hc, hr⟩ := rep_cells hx h1
  have hsz : u.cells.size = n := by omega
  have hst := run_storeCells_fr (P := P) b o e fr u.cells.toList 0 c w hh hfr (by simp [hsz]; omega) (fun v hv => by
    obtain ⟨i, hi⟩ := List.mem_iff_getElem?.1 hv
    have hlt : i < (cellsOf x).length := by
      have := (List.getElem?_eq_some_iff.1 hi).1
      simp at this
      omega
    exact (hr i (cellsOf x)[i] v (by simp [hlt]) (by simpa using hi)).2)
  simp only [Nat.add_zero] at hst
  simp [storeVar, tySz_run hn, hsz, hst]

theorem snd_store {t : TypeId} {n : Nat} {p x : AV} {u v : Value} (hn : tySz P t = some n) (h : HRel w X ρ H) (hp : Rp w X ρ H p u) (hx : Rp w X ρ H x v) : GivesU P (Instr.storeAt t u v) w X ρ H (rStore n p x H) := by
  have at_ : ∀ a : Addr, Instr.storeAt t (.pointer (some a)) v = storeVar t a v := fun a => rfl
  cases p with
  | ptr r ver off =>
    simp only [rStore]
    rintro ⟨⟨hb, hv⟩, hok⟩
    obtain ⟨cs, ho⟩ := isBox_some hb
    rw [ho] at hv hok ⊢
    simp only [rStoreO] at hok
    obtain ⟨h1, h2, h3⟩ := hok
    obtain ⟨hr, b, c, e, fr, hblk, rfl, hh, hl, hfr, hver, hrep⟩ := ptr_box h hp ho hv
    obtain ⟨hcl, hcr⟩ := rep_cells hx h3
    rw [at_]
    have hst := storeVar_ok (P := P) hn hx h2 h3 hh hfr (o := off) (by omega)
    simp only [Res.also, rStoreO]
    obtain ⟨ρ', _, hrel, hfut⟩ := h.setAt (w' := w.setRow b (c.toList.take off ++ v.cells.toList ++ c.toList.drop (off + v.cells.toList.length)).toArray) hr (ρ r) (.box (splice cs off (cellsOf x)))
      (Same.setRow _ _ _) (.inl rfl) (fun b o hb => .inl ⟨o, hb⟩) (fun b' hb' hne => setRow_other _ _ _ _ (fun e => hne 0 (by rw [e]; exact hblk))) (fun ρ' hρ' hf => by
        refine ⟨hver, b, _, e, fr, hblk, setRow_heap w b c _ e fr hh, ?_, ?_, ?_⟩
        · simp [splice]; omega
        · have : ((c.toList.take off ++ v.cells.toList ++ c.toList.drop (off + v.cells.toList.length)).toArray).size = c.size := by simp; omega
          rw [this]; exact hfr
        · intro j y z hy hz
          have hz' : (c.toList.take off ++ v.cells.toList ++ c.toList.drop (off + v.cells.toList.length))[j]? = some z := by simpa using hz
          rw [getElem?_splice _ _ _ _ (by simp; omega)] at hz'
          simp only [splice] at hy
          rw [getElem?_splice _ _ _ _ (by omega)] at hy
          have hlen : v.cells.toList.length = (cellsOf x).length := by simp; omega
          rw [hlen] at hz'
          by_cases hj1 : j < off
          · rw [if_pos hj1] at hy hz'
            have := hrep j y z hy (by simpa using hz')
            exact ⟨this.1.nextN hf, this.2⟩
          · rw [if_neg hj1] at hy hz'
            by_cases hj2 : j < off + (cellsOf x).length
            · rw [if_pos hj2] at hy hz'
              have := hcr (j - off) y z hy (by simpa using hz')
              exact ⟨this.1.nextN hf, this.2⟩
            · rw [if_neg hj2] at hy hz'
              have := hrep j y z hy (by simpa using hz')
              exact ⟨this.1.nextN hf, this.2⟩)
    exact ⟨trivial, _, ρ', hst, hrel, hfut⟩
  | pe r ver i off =>
    simp only [rStore]
    rintro ⟨⟨hb, hv⟩, hok⟩
    obtain ⟨ver', sz, xs, ho⟩ := isArr_some hb
    rw [ho] at hv hok ⊢
    simp only [rStoreO] at hok
    obtain ⟨h0, h1, h2, h3, h4⟩ := hok
    simp only [isVer] at hv
    obtain ⟨hr, b, o, c, e, fr, hblk, rfl, hh, hext, hfr, hle, hrow, hsz0, hver, hszr, hrep⟩ := pe_arr h hp ho hv h0
    obtain ⟨hcl, hcr⟩ := rep_cells hx h3
    have hgi : xs[i]? = some (xs.getD i []) := by simp [h0]
    have hxl : (xs.getD i []).length = sz := hrow _ (List.mem_of_getElem? hgi)
    have hin : o + (i * sz + off) + n ≤ c.size := by
      have : (i + 1) * sz ≤ xs.length * sz := Nat.mul_le_mul_right _ h0
      rw [Nat.add_mul] at this
      omega
    rw [at_]
    have hst := storeVar_ok (P := P) hn hx h2 h3 hh hfr (o := o + (i * sz + off)) hin
    simp only [Res.also, rStoreO]
    have hlen : v.cells.toList.length = (cellsOf x).length := by simp; omega
    obtain ⟨ρ', _, hrel, hfut⟩ := h.setAt (w' := w.setRow b (c.toList.take (o + (i * sz + off)) ++ v.cells.toList ++ c.toList.drop (o + (i * sz + off) + v.cells.toList.length)).toArray) hr (ρ r) (.arr ver' sz (xs.set i (splice (xs.getD i []) off (cellsOf x))))
      (Same.setRow _ _ _) (.inl rfl) (fun b o hb => .inl ⟨o, hb⟩) (fun b' hb' hne => setRow_other _ _ _ _ (fun e => hne o (by rw [e]; exact hblk))) (fun ρ' hρ' hf => by
        have hsl : (splice (xs.getD i []) off (cellsOf x)).length = sz := by simp only [splice, List.length_append, List.length_take, List.length_drop]; omega
        refine ⟨by omega, hszr, hsz0, ?_, by simpa using hle, ?_⟩
        · intro y hy
          rcases List.mem_or_eq_of_mem_set hy with hy | rfl
          · exact hrow y hy
          · exact hsl
        · rw [hblk]
          have hsize : ((c.toList.take (o + (i * sz + off)) ++ v.cells.toList ++ c.toList.drop (o + (i * sz + off) + v.cells.toList.length)).toArray).size = c.size := by simp; omega
          refine ⟨_, e, fr, setRow_heap w b c _ e fr hh, by rw [hsize]; exact hext, by rw [hsize]; exact hfr, ?_⟩
          intro i' j x' y z hx' hy hz
          have hz' : (c.toList.take (o + (i * sz + off)) ++ v.cells.toList ++ c.toList.drop (o + (i * sz + off) + v.cells.toList.length))[o + i' * sz + j]? = some z := by simpa using hz
          rw [getElem?_splice _ _ _ _ (by simp; omega), hlen] at hz'
          have hold : ∀ (x'' : List AV), xs[i']? = some x'' → x''[j]? = some y → c[o + i' * sz + j]? = some z → Rep (w.setRow b (c.toList.take (o + (i * sz + off)) ++ v.cells.toList ++ c.toList.drop (o + (i * sz + off) + v.cells.toList.length)).toArray) (Mut X ρ' H.length) ρ' 0 y z ∧ one z = true := fun x'' g1 g2 g3 => by
            have := hrep i' j x'' y z g1 g2 g3
            exact ⟨this.1.next hf (Nat.zero_le _), this.2⟩
          by_cases hii : i' = i
          · subst hii
            rw [List.getElem?_set_self h0] at hx'
            simp only [Option.some.injEq] at hx'
            subst hx'
            simp only [splice] at hy
            rw [getElem?_splice _ _ _ _ (by omega)] at hy
            by_cases hj1 : j < off
            · rw [if_pos (by omega)] at hz'
              rw [if_pos hj1] at hy
              exact hold _ hgi hy (by simpa using hz')
            · rw [if_neg (by omega)] at hz'
              rw [if_neg hj1] at hy
              by_cases hj2 : j < off + (cellsOf x).length
              · rw [if_pos (by omega)] at hz'
                rw [if_pos hj2] at hy
                rw [show o + i' * sz + j - (o + (i' * sz + off)) = j - off by omega] at hz'
                have := hcr (j - off) y z hy (by simpa using hz')
                have hcy := clL_all h4 hy
                exact ⟨(this.1.of_cl hcy).next hf (Nat.zero_le _), this.2⟩
              · rw [if_neg (by omega)] at hz'
                rw [if_neg hj2] at hy
                exact hold _ hgi hy (by simpa using hz')
          · rw [List.getElem?_set_ne (fun e => hii e.symm)] at hx'
            have hj : j < sz := by
              have := (List.getElem?_eq_some_iff.1 hy).1
              rw [hrow x' (List.mem_of_getElem? hx')] at this
              exact this
            have hi' : i' < xs.length := (List.getElem?_eq_some_iff.1 hx').1
            rcases Nat.lt_or_gt_of_ne hii with hlt | hgt
            · have : (i' + 1) * sz ≤ i * sz := Nat.mul_le_mul_right _ hlt
              rw [Nat.add_mul] at this
              rw [if_pos (by omega)] at hz'
              exact hold _ hx' hy (by simpa using hz')
            · have : (i + 1) * sz ≤ i' * sz := Nat.mul_le_mul_right _ hgt
              rw [Nat.add_mul] at this
              rw [if_neg (by omega), if_neg (by omega)] at hz'
              exact hold _ hx' hy (by simpa using hz'))
    exact ⟨trivial, _, ρ', hst, hrel, hfut⟩
  | _ => intro hok; exact hok.elim
end
end Go.Ax
