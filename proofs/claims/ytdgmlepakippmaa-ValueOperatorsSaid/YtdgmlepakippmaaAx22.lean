/- What a call has made and does not hand back may be forgotten. -/
import Derived.Test.YtdgmlepakippmaaAx21
namespace Go.Ax
open Go Go.RowKit

section
variable {P : Program} {w w' : World} {X M M' M'' : Nat → Prop} {ρ ρ' : Nat → Loc} {H : AHeap} {n n' : Nat}

theorem Rep.narrow {x : AV} {u : Value} (h : Rep w M' ρ 0 x u) (hM : ∀ b, M'' b → M' b) : Rep w M'' ρ 0 x u :=
  h.fut (n0 := 0) (Fut.refl _ _ _) (fun b _ hb hb' => hb (hM b hb')) (fun b _ ⟨r, o, hr, _⟩ => by omega) (Nat.le_refl _)

/-- It names objects of the first n alone, if it did so once. -/
theorem Rep.scope {x : AV} {u0 : Value} (h0 : Rep w M ρ n x u0) (hM : ∀ b, M'' b → M' b) : ∀ {u : Value}, Rep w' M' ρ' n' x u → Rep w' M'' ρ' n x u := by
  induction h0 with
  | any => intro u _; exact .any _ _
  | v => intro u h; cases h; exact .v _ _
  | agg n cs us hl _ ih =>
    intro u h
    cases h with
    | agg _ _ us' hl' h' =>
      refine .agg _ _ _ hl' fun i x u hx hu => ?_
      have hlt : i < us.size := by rw [← hl]; exact (List.getElem?_eq_some_iff.1 hx).1
      exact ih i x us[i] hx (by simp [hlt]) (h' i x u hx hu)
  | tup n cs us hl _ ih =>
    intro u h
    cases h with
    | tup _ _ us' hl' h' =>
      refine .tup _ _ _ hl' fun i x u hx hu => ?_
      have hlt : i < us.size := by rw [← hl]; exact (List.getElem?_eq_some_iff.1 hx).1
      exact ih i x us[i] hx (by simp [hlt]) (h' i x u hx hu)
  | nc => intro u h; cases h; exact .nc _ _
  | slE =>
    intro u h
    cases h with
    | slE => exact .slE _ _ _ _
    | slN _ _ _ b o cap c hm hb hcap hsz hcell hc => exact .slN _ _ _ _ _ _ c (fun h => hm (hM _ h)) hb hcap hsz hcell fun i j x y hx hy => (hc i j x y hx hy).narrow hM
  | slN =>
    intro u h
    cases h with
    | slE => exact .slE _ _ _ _
    | slN _ _ _ b o cap c hm hb hcap hsz hcell hc => exact .slN _ _ _ _ _ _ c (fun h => hm (hM _ h)) hb hcap hsz hcell fun i j x y hx hy => (hc i j x y hx hy).narrow hM
  | vp =>
    intro u h
    cases h with
    | vp _ _ _ b o c hm hb hcell hc => exact .vp _ _ _ _ _ c (fun h => hm (hM _ h)) hb hcell fun j y hy => (hc j y hy).narrow hM
  | fn n f first caps fs us h1 h2 _ _ ih1 ih2 =>
    intro u h
    cases h with
    | fn _ _ _ _ fs' us' g1 g2 g3 g4 =>
      refine .fn _ _ _ _ _ _ g1 g2 (fun i x u hx hu => ?_) (fun i x u hx hu => ?_)
      · have hlt : i < fs.size := by rw [← h1]; exact (List.getElem?_eq_some_iff.1 hx).1
        exact ih1 i x fs[i] hx (by simp [hlt]) (g3 i x u hx hu)
      · have hlt : i < us.size := by rw [← h2]; exact (List.getElem?_eq_some_iff.1 hx).1
        exact ih2 i x us[i] hx (by simp [hlt]) (g4 i x u hx hu)
  | mp =>
    intro u h
    cases h with
    | mp _ _ _ b es clock hm hb hh hks hvs hc => exact .mp _ _ _ _ es clock (fun h => hm (hM _ h)) hb hh hks hvs fun i x e hx he => (hc i x e hx he).narrow hM
  | os n r ver off len u hr _ _ _ =>
    intro u h
    cases h with
    | os _ _ _ _ _ _ _ hle h1 hp => exact .os _ _ _ _ _ _ hr hle h1 hp
  | ptr n r ver off u hr _ _ _ =>
    intro u h
    cases h with
    | ptr _ _ _ _ _ _ hle h1 hp => exact .ptr _ _ _ _ _ hr hle h1 hp
  | pe n r ver i off u hr _ _ _ =>
    intro u h
    cases h with
    | pe _ _ _ _ _ _ _ hle h1 hp => exact .pe _ _ _ _ _ _ hr hle h1 hp
  | om n r ver u hr _ _ _ =>
    intro u h
    cases h with
    | om _ _ _ _ _ hle h1 hp => exact .om _ _ _ _ hr hle h1 hp

theorem ObjOk.scope {l l' : Loc} {o : HO} (h0 : ObjOk w M ρ n l o) (hM : ∀ b, M'' b → M' b) (h : ObjOk w' M' ρ' n' l' o) : ObjOk w' M'' ρ' n l' o := by
  cases o with
  | dead => trivial
  | box cs =>
    obtain ⟨_, _, c0, _, _, _, _, hl0, _, h06⟩ := h0
    obtain ⟨h1, b, c, e, fr, h2, h3, h4, h5, h6⟩ := h
    refine ⟨h1, b, c, e, fr, h2, h3, h4, h5, fun j y u hy hu => ⟨?_, (h6 j y u hy hu).2⟩⟩
    have hlt : j < c0.size := by rw [← hl0]; exact (List.getElem?_eq_some_iff.1 hy).1
    exact (h06 j y c0[j] hy (by simp [hlt])).1.scope hM (h6 j y u hy hu).1
  | arr ver sz xs =>
    obtain ⟨h1, h2, h3, h4, h5, h6⟩ := h
    refine ⟨h1, h2, h3, h4, h5, ?_⟩
    split
    · rename_i hl; rw [hl] at h6; exact h6
    · rename_i b o hl
      rw [hl] at h6
      obtain ⟨c, e, fr, g1, g2, g3, g4⟩ := h6
      exact ⟨c, e, fr, g1, g2, g3, fun i j x y u hx hy hu => ⟨(g4 i j x y u hx hy hu).1.narrow hM, (g4 i j x y u hx hy hu).2⟩⟩
  | map ver ks vs =>
    obtain ⟨h1, b, es, clock, h2, h3, h4, h5, h6⟩ := h
    exact ⟨h1, b, es, clock, h2, h3, h4, h5, fun i x e hx he => (h6 i x e hx he).narrow hM⟩
  | iter s pos => exact h

/-- A call that hands back a value without objects, and leaves the objects that were there: what else it has made may be forgotten. -/
theorem ACall.drop {k : FuncId} {args : List AV} {R : AV → Prop} (h : ACall P k args H fun x H' => R x ∧ x.cl = true ∧ ∃ rest, H' = H ++ rest) : ACall P k args H fun x H' => R x ∧ H' = H := by
  refine ⟨h.1, fun X ρ w vs hrel hargs => (h.2 X ρ w vs hrel hargs).mono ?_⟩
  rintro en w' ⟨v, x, H', ρ', rfl, ⟨hR, hcl, rest, rfl⟩, g1, g2, g3⟩
  have hle : H.length ≤ (H ++ rest).length := by simp
  have hM : ∀ b, Mut X ρ' H.length b → Mut X ρ' (H ++ rest).length b := fun b hb => hb.imp id fun ⟨r, o, hr, hbl⟩ => ⟨r, o, by omega, hbl⟩
  refine ⟨v, x, H, ρ', rfl, ⟨hR, rfl⟩, ⟨fun r o hr => ?_, fun r r' b o b' o' hr hr' => g1.inj r r' b o b' o' (by omega) (by omega), fun r b o hr => g1.lt r b o (by omega), g1.xlt, fun g hg => ⟨fun ⟨r, o, hr, hbl⟩ => (g1.gl g hg).1 ⟨r, o, by omega, hbl⟩, (g1.gl g hg).2⟩⟩, ?_, ?_⟩
  · have hlt : r < H.length := (List.getElem?_eq_some_iff.1 hr).1
    exact (hrel.objs r o hr).scope hM (g1.objs r o (by rw [List.getElem?_append_left hlt]; exact hr))
  · exact ((g2.of_cl hcl).narrow hM).closed rfl _ _
  · exact ⟨g3.os, g3.tape, g3.output, g3.size, g3.keep, fun b ⟨r, o, hr, hbl⟩ => g3.own b ⟨r, o, by omega, hbl⟩, Nat.le_refl _, g3.loc⟩
end

theorem bool_eq {a b : Bool} (h : a = true ↔ b = true) : bool a = bool b := by rw [Bool.eq_iff_iff.2 h]
end Go.Ax
