/- How the objects stand after a step: nothing owned has changed, one object is new, one object has changed. -/
import Derived.Test.YtdgmlepakippmaaAx2
namespace Go.Ax
open Go Go.RowKit

section
variable {w w' : World} {X : Nat → Prop} {ρ ρ' : Nat → Loc} {H : AHeap}

theorem Own.lt (h : HRel w X ρ H) {b : Nat} (hb : Own ρ H.length b) : b < w.heap.size := by
  obtain ⟨r, o, hr, hb⟩ := hb
  exact (h.lt r b o hr hb).1

theorem mut_keep {n n' : Nat} (hf : Fut w ρ n w' ρ' n') : ∀ b, b < w.heap.size → ¬ Mut X ρ n b → ¬ Mut X ρ' n' b := by
  intro b hb hm hm'
  rcases hm' with hx | ho
  · exact hm (.inl hx)
  · rcases hf.own b ho with h1 | h1
    · exact hm (.inr h1)
    · omega

theorem mut_own {n : Nat} : ∀ b, ¬ Mut X ρ n b → ¬ Own ρ n b := fun _ hm ho => hm (.inr ho)

/-- What stood for a value goes on standing for it. -/
theorem Rep.next {n n' k : Nat} (hf : Fut w ρ n w' ρ' n') {x : AV} {u : Value} (h : Rep w (Mut X ρ n) ρ k x u) (hk : k ≤ n) : Rep w' (Mut X ρ' n') ρ' k x u :=
  h.fut hf (mut_keep hf) mut_own hk

theorem Rep.nextN {n n' : Nat} (hf : Fut w ρ n w' ρ' n') {x : AV} {u : Value} (h : Rep w (Mut X ρ n) ρ n x u) : Rep w' (Mut X ρ' n') ρ' n' x u :=
  (h.next hf (Nat.le_refl _)).mono hf.len

theorem ObjOk.next {n n' : Nat} {l : Loc} {o : HO} (h : ObjOk w (Mut X ρ n) ρ n l o) (hf : Fut w ρ n w' ρ' n') (hb : ∀ b o', l.blk = some (b, o') → w'.heap[b]? = w.heap[b]?) :
    ObjOk w' (Mut X ρ' n') ρ' n' l o := by
  cases o with
  | dead => trivial
  | box cs =>
    obtain ⟨h1, b, c, e, fr, h2, h3, h4, h5, h6⟩ := h
    exact ⟨h1, b, c, e, fr, h2, by rw [hb b 0 h2]; exact h3, h4, h5, fun j y u hy hu => ⟨(h6 j y u hy hu).1.nextN hf, (h6 j y u hy hu).2⟩⟩
  | arr ver sz xs =>
    obtain ⟨h1, h2, h3, h4, h5, h6⟩ := h
    refine ⟨h1, h2, h3, h4, h5, ?_⟩
    split
    · rename_i hl; rw [hl] at h6; exact h6
    · rename_i b o hl
      rw [hl] at h6
      obtain ⟨c, e, fr, g1, g2, g3, g4⟩ := h6
      exact ⟨c, e, fr, by rw [hb b o hl]; exact g1, g2, g3, fun i j x y u hx hy hu => ⟨(g4 i j x y u hx hy hu).1.next hf (Nat.zero_le _), (g4 i j x y u hx hy hu).2⟩⟩
  | map ver ks vs =>
    obtain ⟨h1, b, es, clock, h2, h3, h4, h5, h6⟩ := h
    exact ⟨h1, b, es, clock, h2, by rw [hb b 0 h2]; exact h3, h4, h5, fun i x e hx he => (h6 i x e hx he).next hf (Nat.zero_le _)⟩
  | iter s pos =>
    obtain ⟨h1, b, h2, h3⟩ := h
    exact ⟨h1, b, h2, by rw [hb b 0 h2]; exact h3⟩

/-- The streams stand still, no block goes. -/
structure Same (w w' : World) : Prop where
  os : w'.os = w.os
  tape : w'.tape = w.tape
  output : w'.output = w.output
  size : w.heap.size ≤ w'.heap.size

theorem Same.refl (w : World) : Same w w := ⟨rfl, rfl, rfl, Nat.le_refl _⟩
theorem Same.drew (w : World) : Same w w.drew := ⟨rfl, rfl, rfl, Nat.le_refl _⟩
theorem Same.alloc (w : World) (o : Obj) : Same w (w.alloc o) := ⟨rfl, rfl, rfl, by simp⟩
theorem Same.trans {a b c : World} (h : Same a b) (k : Same b c) : Same a c := ⟨k.os.trans h.os, k.tape.trans h.tape, k.output.trans h.output, Nat.le_trans h.size k.size⟩

/-- Nothing that was there has changed. -/
theorem HRel.more (h : HRel w X ρ H) (hs : Same w w') (keep : ∀ b, b < w.heap.size → w'.heap[b]? = w.heap[b]?) : HRel w' X ρ H ∧ Fut w ρ H.length w' ρ H.length := by
  have hf : Fut w ρ H.length w' ρ H.length := ⟨hs.os, hs.tape, hs.output, hs.size, fun b hb _ => keep b hb, fun b hb => .inl hb, Nat.le_refl _, fun _ _ => .inl rfl⟩
  refine ⟨⟨fun r o hr => ?_, h.inj, fun r b o hr hb => ⟨Nat.lt_of_lt_of_le (h.lt r b o hr hb).1 hs.size, (h.lt r b o hr hb).2⟩, fun b hb => Nat.lt_of_lt_of_le (h.xlt b hb) hs.size, h.gl.fut hf⟩, hf⟩
  have hlt : r < H.length := (List.getElem?_eq_some_iff.1 hr).1
  exact (h.objs r o hr).next hf fun b o' hb => keep b (h.lt r b o' hlt hb).1

/-- Object r has changed; it may lie somewhere else now. -/
theorem HRel.setAtX (h : HRel w X ρ H) {r : Nat} (hr : r < H.length) (l : Loc) (ho : HO) (hs : Same w w')
    (hl : l = ρ r ∨ (ρ r).ver < l.ver) (hb : ∀ b o, l.blk = some (b, o) → (∃ o', (ρ r).blk = some (b, o')) ∨ (w.heap.size ≤ b ∧ b < w'.heap.size))
    (keep : ∀ b, b < w.heap.size → (∀ o, (ρ r).blk ≠ some (b, o)) → w'.heap[b]? = w.heap[b]?)
    (hobj : ∀ ρ', ρ' = (fun i => if i = r then l else ρ i) → Fut w ρ H.length w' ρ' H.length → ObjOk w' (Mut X ρ' H.length) ρ' H.length l ho) :
    ∃ ρ', ρ' r = l ∧ (∀ i, i ≠ r → ρ' i = ρ i) ∧ HRel w' X ρ' (H.set r ho) ∧ Fut w ρ H.length w' ρ' (H.set r ho).length := by
  refine ⟨fun i => if i = r then l else ρ i, by simp, fun i hi => by simp [hi], ?_⟩
  generalize hρ' : (fun i => if i = r then l else ρ i) = ρ'
  have hpr : ρ' r = l := by subst hρ'; simp
  have hpo : ∀ i, i ≠ r → ρ' i = ρ i := fun i hi => by subst hρ'; simp [hi]
  have hxb : ∀ i b o, i < H.length → (ρ' i).blk = some (b, o) → Own ρ H.length b ∨ (w.heap.size ≤ b ∧ b < w'.heap.size) := by
    intro i b o hi hbl
    by_cases hir : i = r
    · subst hir
      rw [hpr] at hbl
      rcases hb b o hbl with ⟨o', h1⟩ | h1
      · exact .inl ⟨i, o', hi, h1⟩
      · exact .inr h1
    · rw [hpo i hir] at hbl; exact .inl ⟨i, o, hi, hbl⟩
  have hf : Fut w ρ H.length w' ρ' H.length :=
    ⟨hs.os, hs.tape, hs.output, hs.size, fun b hb' ho' => keep b hb' fun o he => ho' ⟨r, o, hr, he⟩, fun b ⟨i, o, hi, hbl⟩ => (hxb i b o hi hbl).imp id (·.1), Nat.le_refl _,
      fun i hi => by
        by_cases hir : i = r
        · subst hir; rw [hpr]; exact hl
        · exact .inl (hpo i hir)⟩
  have hob := hobj ρ' hρ'.symm hf
  have hlen : (H.set r ho).length = H.length := List.length_set
  rw [hlen]
  refine ⟨⟨?_, ?_, ?_, fun b hb' => Nat.lt_of_lt_of_le (h.xlt b hb') hs.size, hlen ▸ h.gl.fut hf⟩, hf⟩
  · intro i o hi
    rw [hlen]
    by_cases hir : i = r
    · subst hir
      rw [List.getElem?_set_self hr] at hi
      simp only [Option.some.injEq] at hi
      subst hi
      rw [hpr]
      exact hob
    · rw [List.getElem?_set_ne (fun e => hir e.symm)] at hi
      have hlt : i < H.length := (List.getElem?_eq_some_iff.1 hi).1
      rw [hpo i hir]
      exact (h.objs i o hi).next hf fun b o' hbl => keep b (h.lt i b o' hlt hbl).1 fun o'' he => h.inj i r b o' b o'' hlt hr hir hbl he rfl
  · intro i j b o b' o' hi hj hij hbi hbj
    rw [hlen] at hi hj
    by_cases hir : i = r
    · have hjr : j ≠ r := fun e => hij (hir.trans e.symm)
      rw [hir, hpr] at hbi
      rw [hpo j hjr] at hbj
      have hlj := (h.lt j b' o' hj hbj).1
      rcases hb b o hbi with ⟨o1, h1⟩ | h1
      · exact h.inj r j b o1 b' o' hr hj (fun e => hjr e.symm) h1 hbj
      · omega
    · rw [hpo i hir] at hbi
      have hli := (h.lt i b o hi hbi).1
      by_cases hjr : j = r
      · rw [hjr, hpr] at hbj
        rcases hb b' o' hbj with ⟨o1, h1⟩ | h1
        · exact h.inj i r b o b' o1 hi hr hir hbi h1
        · omega
      · rw [hpo j hjr] at hbj
        exact h.inj i j b o b' o' hi hj hij hbi hbj
  · intro i b o hi hbl
    rw [hlen] at hi
    rcases hxb i b o hi hbl with h1 | ⟨h1, h2⟩
    · refine ⟨Nat.lt_of_lt_of_le (h1.lt h) hs.size, ?_⟩
      obtain ⟨j, o', hj, hbj⟩ := h1
      exact (h.lt j b o' hj hbj).2
    · exact ⟨h2, fun hx => by have := h.xlt b hx; omega⟩

theorem HRel.setAt (h : HRel w X ρ H) {r : Nat} (hr : r < H.length) (l : Loc) (ho : HO) (hs : Same w w')
    (hl : l = ρ r ∨ (ρ r).ver < l.ver) (hb : ∀ b o, l.blk = some (b, o) → (∃ o', (ρ r).blk = some (b, o')) ∨ (w.heap.size ≤ b ∧ b < w'.heap.size))
    (keep : ∀ b, b < w.heap.size → (∀ o, (ρ r).blk ≠ some (b, o)) → w'.heap[b]? = w.heap[b]?)
    (hobj : ∀ ρ', ρ' = (fun i => if i = r then l else ρ i) → Fut w ρ H.length w' ρ' H.length → ObjOk w' (Mut X ρ' H.length) ρ' H.length l ho) :
    ∃ ρ', ρ' r = l ∧ HRel w' X ρ' (H.set r ho) ∧ Fut w ρ H.length w' ρ' (H.set r ho).length := by
  obtain ⟨ρ', h1, _, h2, h3⟩ := h.setAtX hr l ho hs hl hb keep hobj
  exact ⟨ρ', h1, h2, h3⟩

/-- A new object. -/
theorem HRel.push (h : HRel w X ρ H) (l : Loc) (ho : HO) (hs : Same w w') (hb : ∀ b o, l.blk = some (b, o) → w.heap.size ≤ b ∧ b < w'.heap.size)
    (keep : ∀ b, b < w.heap.size → w'.heap[b]? = w.heap[b]?)
    (hobj : ∀ ρ', Fut w ρ H.length w' ρ' (H.length + 1) → ρ' H.length = l → ObjOk w' (Mut X ρ' (H.length + 1)) ρ' (H.length + 1) l ho) :
    ∃ ρ', ρ' H.length = l ∧ HRel w' X ρ' (H ++ [ho]) ∧ Fut w ρ H.length w' ρ' (H ++ [ho]).length := by
  refine ⟨fun i => if i = H.length then l else ρ i, by simp, ?_⟩
  generalize hρ' : (fun i => if i = H.length then l else ρ i) = ρ'
  have hpr : ρ' H.length = l := by subst hρ'; simp
  have hpo : ∀ i, i < H.length → ρ' i = ρ i := fun i hi => by subst hρ'; simp [Nat.ne_of_lt hi]
  have hxb : ∀ i b o, i < H.length + 1 → (ρ' i).blk = some (b, o) → Own ρ H.length b ∨ (w.heap.size ≤ b ∧ b < w'.heap.size) := by
    intro i b o hi hbl
    by_cases hir : i = H.length
    · subst hir
      rw [hpr] at hbl
      exact .inr (hb b o hbl)
    · rw [hpo i (by omega)] at hbl; exact .inl ⟨i, o, by omega, hbl⟩
  have hf : Fut w ρ H.length w' ρ' (H.length + 1) :=
    ⟨hs.os, hs.tape, hs.output, hs.size, fun b hb' _ => keep b hb', fun b ⟨i, o, hi, hbl⟩ => (hxb i b o hi hbl).imp id (·.1), Nat.le_succ _, fun i hi => .inl (hpo i hi)⟩
  have hob := hobj ρ' hf hpr
  have hlen : (H ++ [ho]).length = H.length + 1 := by simp
  rw [hlen]
  refine ⟨⟨?_, ?_, ?_, fun b hb' => Nat.lt_of_lt_of_le (h.xlt b hb') hs.size, hlen ▸ h.gl.fut hf⟩, hf⟩
  · intro i o hi
    rw [hlen]
    by_cases hir : i = H.length
    · subst hir
      simp at hi
      subst hi
      rw [hpr]
      exact hob
    · have hlt : i < H.length := by
        have := (List.getElem?_eq_some_iff.1 hi).1
        simp at this
        omega
      rw [List.getElem?_append_left hlt] at hi
      rw [hpo i hlt]
      exact (h.objs i o hi).next hf fun b o' hbl => keep b (h.lt i b o' hlt hbl).1
  · intro i j b o b' o' hi hj hij hbi hbj
    rw [hlen] at hi hj
    by_cases hir : i = H.length
    · rw [hir, hpr] at hbi
      rw [hpo j (by omega)] at hbj
      have hlj := (h.lt j b' o' (by omega) hbj).1
      have := (hb b o hbi).1
      omega
    · rw [hpo i (by omega)] at hbi
      have hli := (h.lt i b o (by omega) hbi).1
      by_cases hjr : j = H.length
      · rw [hjr, hpr] at hbj
        have := (hb b' o' hbj).1
        omega
      · rw [hpo j (by omega)] at hbj
        exact h.inj i j b o b' o' (by omega) (by omega) hij hbi hbj
  · intro i b o hi hbl
    rw [hlen] at hi
    rcases hxb i b o hi hbl with h1 | ⟨h1, h2⟩
    · refine ⟨Nat.lt_of_lt_of_le (h1.lt h) hs.size, ?_⟩
      obtain ⟨j, o', hj, hbj⟩ := h1
      exact (h.lt j b o' hj hbj).2
    · exact ⟨h2, fun hx => by have := h.xlt b hx; omega⟩

theorem heap_old (w : World) (o : Obj) : ∀ b, b < w.heap.size → (w.alloc o).heap[b]? = w.heap[b]? := fun b hb => Below.heap_alloc w o b hb

end
end Go.Ax
