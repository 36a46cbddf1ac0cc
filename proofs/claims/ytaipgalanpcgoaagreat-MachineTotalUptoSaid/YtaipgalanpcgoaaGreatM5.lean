/- Parts, merged by a program (wip/tools/merge2.py): Mc10g Mc11 Mc12 Mc13 Vb5 Vb6 Vb7 Vb3 Vb8 Vb9 Fz Mc14 Mc26 Mc15 Mc16 Mc17 Mc18 Mc19 Mc20 Mc21 Mc22 Mc23 Mc24 Mc25 Mc27 Mc28 Mc29 Mc30 Mc31 Mc32 Mc33 Mc34 Mc36 Mc37 Ax31. -/
import Derived.Test.YtaipgalanpcgoaaGreatM4
import Derived.Test.YtaipgalanpcgoaaGreatChecked
namespace Go.Proofs.YtaipgalanpcgoaaGreat
open Go Go.Ax
set_option maxRecDepth 100000
set_option linter.unusedSimpArgs false
set_option linter.unusedVariables false
set_option maxHeartbeats 4000000
set_option maxHeartbeats 8000000 in
theorem rnd_19 (ps : List Pr) (k : Nat) (hk : k < ps.length) (hps : ps.length ≤ 1048576) (hp : zBX ps k) (hh : zCt (ps.getD k default)) (l : List Ins) (out : Bool) (level c : Int) (r : Nat) (G : zC) : RndP ps k l out level c r G 19 := by
 intro j h e' G' a b bd el hlt hx hs hbd hel hrl hc0 hl0 hl1 ⟨e0, e2, e3, e9, e10, e11, e12, e42, e43, e44, gr, g9, g10, fr, gl, hj, hhh, cc, lv, ef⟩
 have hrow : (l.map zAs).getD j [] = [int 19, int a, int b, .sl 5 (bd.map zAs), .sl 5 (el.map zAs)] := by
  rw [zS hlt, hx]; simp [zAs, zAI]
 have hrl' := Nat.lt_of_lt_of_le hrl fr.1
 have hb := zAj l (j + 1)
 have hb2 := zAQ l (j + 1)
 have hsn := zAd hlt
 have hsl := zAN hlt
 rw [hx] at hsn hsl
 simp only [zBu, zCI] at hsn hsl
 have hbl := zP bd
 have hell := zP el
 have hbv := zAg bd
 have helv := zAg el
 obtain ⟨q1, q2, q3, q4, q5, q6, q7, q8⟩ := hh
 have ef0 := ef
 rw [zAV ps k hlt, hx] at ef
 have fA : ∀ B b, Fr1 r G (G'.set r B ++ [b]) := fun B b => (fr.trans (Fr1.set B)).trans (Fr1.app _)
 have fB : ∀ B b X, Fr1 r G ((G'.set r B).set (G.length + 1) X ++ [b]) := fun B b X => ((fr.trans (Fr1.set B)).set' (i := G.length + 1) (by omega) X).trans (Fr1.app _)
 have hng : ((∀ h', ¬ zBY ps k (.mk 19 a b bd el) out h = some h') ∨ 32768 < c + zL (l.take j) + zBu (.mk 19 a b bd el) ∨ 257 < level + zCI (.mk 19 a b bd el)) → ¬ goodL ps k l out level c := zBn hlt hx ef0
 have hSr : ∀ B b, (G'.set r B ++ [b])[r]? = some B := fun B b => by rw [zB (by simpa using hrl'), zK hrl']
 have hS9 : ∀ B b, (G'.set r B ++ [b])[G.length]? = some (.box (prR (ps.getD k default))) := fun B b => by rw [zB (by rw [List.length_set]; omega), zG (by omega)]; exact g9
 have hS10 : ∀ B b, (G'.set r B ++ [b])[G.length + 1]? = some (.box [int h]) := fun B b => by rw [zB (by rw [List.length_set]; omega), zG (by omega)]; exact g10
 have hSx : ∀ B b, (G'.set r B ++ [b])[G'.length]? = some b := fun B b => by rw [List.getElem?_append_right (by simp)]; simp
 have hTx : ∀ B b X, ((G'.set r B).set (G.length + 1) X ++ [b])[G'.length]? = some b := fun B b X => by rw [List.getElem?_append_right (by simp)]; simp
 have hln := zP l
 have hXr : ∀ B X, (G'.set r B ++ X)[r]? = some B := fun B X => by rw [zB (by simpa using hrl'), zK hrl']
 have hX9 : ∀ B X, (G'.set r B ++ X)[G.length]? = some (.box (prR (ps.getD k default))) := fun B X => by rw [zB (by rw [List.length_set]; omega), zG (by omega)]; exact g9
 have hX10 : ∀ B X, (G'.set r B ++ X)[G.length + 1]? = some (.box [int h]) := fun B X => by rw [zB (by rw [List.length_set]; omega), zG (by omega)]; exact g10
 have hXx : ∀ B b X, (G'.set r B ++ b :: X)[G'.length]? = some b := fun B b X => by rw [List.getElem?_append_right (by simp)]; simp
 have hXy : ∀ B b d X, (G'.set r B ++ b :: d :: X)[G'.length + 1]? = some d := fun B b d X => by rw [List.getElem?_append_right (by simp)]; simp
 have hYr : ∀ B Y X, ((G'.set r B).set (G.length + 1) Y ++ X)[r]? = some B := fun B Y X => by rw [zB (by simpa using hrl'), zG (by omega), zK hrl']
 have hY9 : ∀ B Y X, ((G'.set r B).set (G.length + 1) Y ++ X)[G.length]? = some (.box (prR (ps.getD k default))) := fun B Y X => by rw [zB (by simp; omega), zG (by omega), zG (by omega)]; exact g9
 have hY10 : ∀ B Y X, ((G'.set r B).set (G.length + 1) Y ++ X)[G.length + 1]? = some Y := fun B Y X => by rw [zB (by simp; omega), zK (by simp; omega)]
 have hYx : ∀ B Y b X, ((G'.set r B).set (G.length + 1) Y ++ b :: X)[G'.length]? = some b := fun B Y b X => by rw [List.getElem?_append_right (by simp)]; simp
 have hXs : ∀ B b z Y, (G'.set r B ++ [b, z]).set (G'.length + 1) Y = G'.set r B ++ [b, Y] := fun B b z Y => by rw [List.set_append_right _ _ (by simp)]; simp
 have fX : ∀ B X, Fr1 r G (G'.set r B ++ X) := fun B X => (fr.trans (Fr1.set B)).trans (Fr1.app _)
 have fY : ∀ B Y X, Fr1 r G ((G'.set r B).set (G.length + 1) Y ++ X) := fun B Y X => ((fr.trans (Fr1.set B)).set' (i := G.length + 1) (by omega) Y).trans (Fr1.app _)
 by_cases hcn : c + zL (l.take j) + 1 ≤ 32768
 ·by_cases hh0 : h = 0
  ·subst hh0
   cases out with
   | false =>
    have ng := hng (.inl fun h' hh => by have := (eff19.1 hh).2.2.1; cases this)
    repeat' (first | refine And.intro (by omega) ?_ | refine zD (zAP _) ?_ | refine zQ (zBa _) ?_ | simp -implicitDefEqProofs (disch := omega) only [e0, e2, e10, e42, e43, e44, gr, hrow, zB, zJ, splice, List.length_map, zW, hXr, hX10, hXx, L131, LCode.sub, zM, zAa, push_cast, simprocAttr, ↓reduceIte, Bool.and_self])
    all_goals first | exact fX _ _ | exact ⟨ng, fX _ _⟩
   | true =>
    repeat' (first | refine And.intro (by omega) ?_ | refine zD (zAP _) ?_ | simp -implicitDefEqProofs (disch := omega) only [e0, e2, e3, e10, e42, e43, e44, gr, hrow, zB, zJ, splice, List.length_map, zW, hXr, hX10, hXx, L131, LCode.sub, zM, zAa, push_cast, simprocAttr, ↓reduceIte, Bool.and_self])
    refine zAW (hbd true (level + 1) (c + zL (l.take j) + 1) _ r (hXr _ _) (by omega) (by omega) (by omega) (by omega)) ?_ ?_
    ·rintro y0 G2 ⟨y1, rfl, he1, hc1, hv1, hf1, hr2⟩
     have fr2 : Fr1 r G G2 := (fX _ _).trans hf1
     have l2 : G'.length + 1 ≤ G2.length := by have := hf1.1; simpa using this
     have k9 : G2[G.length]? = some (.box (prR (ps.getD k default))) := (hf1.2 _ (by simp; omega) (by omega)).trans (hX9 _ _)
     have k10 : G2[G.length + 1]? = some (.box [int 0]) := (hf1.2 _ (by simp; omega) (by omega)).trans (hX10 _ _)
     have kx : G2[G'.length]? = some (.box [int 19, int a, int b, .sl 5 (bd.map zAs), .sl 5 (el.map zAs)]) := (hf1.2 _ (by simp) (by omega)).trans (hXx _ _ _)
     clear hf1
     by_cases hy1 : y1 = 0
     ·subst hy1
      repeat' (simp -implicitDefEqProofs (disch := omega) only [e0, e3, kx, push_cast, simprocAttr, ↓reduceIte])
      refine zAW (hel false (level + 1) (c + zL (l.take j) + 1 + zL bd) G2 r hr2 (by omega) (by omega) (by omega) (by omega)) ?_ ?_
      ·rintro y0 G3 ⟨y2, rfl, he2, hc2, hv2, hf2, hr3⟩
       have fr3 : Fr1 r G G3 := fr2.trans hf2
       have l3 : G'.length + 1 ≤ G3.length := Nat.le_trans l2 hf2.1
       have m9 : G3[G.length]? = some (.box (prR (ps.getD k default))) := (hf2.2 _ (by omega) (by omega)).trans k9
       have m10 : G3[G.length + 1]? = some (.box [int 0]) := (hf2.2 _ (by omega) (by omega)).trans k10
       have mx : G3[G'.length]? = some (.box [int 19, int a, int b, .sl 5 (bd.map zAs), .sl 5 (el.map zAs)]) := (hf2.2 _ (by omega) (by omega)).trans kx
       clear hf2 k9 k10 kx
       by_cases hy2 : y2 = 1
       ·subst hy2
        by_cases hab : a = 0 ∧ b = 0
        ·have hI := (eff19 (ps := ps) (k := k) (a := a) (b := b) (bd := bd) (el := el) (out := true) (h := 0) (h' := 0)).2 ⟨hab.1, hab.2, rfl, rfl, he2, he1, rfl⟩
         rw [hI] at ef
         repeat' (first | refine zD (zAP _) ?_ | simp -implicitDefEqProofs (disch := omega) only [e44, mx, zAi, push_cast, simprocAttr, ↓reduceIte])
         have hcnt : c + (zL (l.take j) : Int) + 1 + zL bd + zL el = c + (zL (l.take (j + 1)) : Nat) := by rw [hsn]; push_cast; omega
         exact .mk (j + 1, 0) ⟨e0, e2, e3, e9, e10, e11, e12, e42, e43, rfl, by rw [hr3, hcnt], m9, m10, fr3, by omega, hlt, by dsimp only; omega, by dsimp only; rw [hsn]; omega, by dsimp only; rw [hsl]; omega, ef⟩ (by dsimp only; omega)
        ·have ng := hng (.inl fun h' hh => hab (by obtain ⟨g1, g2, _⟩ := eff19.1 hh; exact ⟨g1, g2⟩))
         repeat' (first | refine And.intro (by omega) ?_ | refine zD (zAP _) ?_ | refine zQ (zBa _) ?_ | simp -implicitDefEqProofs (disch := omega) only [mx, zAi, zX, push_cast, simprocAttr, ↓reduceIte] | split)
         all_goals first | exact fr3 | exact ⟨ng, fr3⟩ | (exfalso; omega)
       ·have ng := hng (.inl fun h' hh => by
         have := (eff19.1 hh).2.2.2.2.1
         rw [he2] at this
         simp only [Option.some.injEq] at this
         omega)
        repeat' (first | refine And.intro (by omega) ?_ | refine zQ (zBa _) ?_ | simp -implicitDefEqProofs (disch := omega) only [zX, push_cast, ↓reduceIte, Nat.reduceEqDiff])
        all_goals first | exact fr3 | exact ⟨ng, fr3⟩ | (exfalso; omega)
      ·rintro z0 G3 ⟨rfl, hb2, hf2⟩
       have ng := hng (by
        by_cases hg : ∃ e, zBp ps k el false 0 = some e
        ·refine .inr (Classical.byContradiction fun hno => hb2 ⟨hg, ?_, ?_⟩) <;> simp only [zBu, zCI] at hno <;> omega
        ·exact .inl fun h' hh => hg ⟨_, (eff19.1 hh).2.2.2.2.1⟩)
       repeat' (first | refine And.intro (by omega) ?_ | simp -implicitDefEqProofs (disch := omega) only [push_cast])
       first | exact fr2.trans hf2 | exact ⟨ng, fr2.trans hf2⟩
     ·have ng := hng (.inl fun h' hh => by
       have := (eff19.1 hh).2.2.2.2.2.1
       rw [he1] at this
       simp only [Option.some.injEq] at this
       omega)
      repeat' (first | refine And.intro (by omega) ?_ | refine zQ (zBa _) ?_ | simp -implicitDefEqProofs (disch := omega) only [zX, push_cast, ↓reduceIte, Nat.reduceEqDiff])
      all_goals first | exact fr2 | exact ⟨ng, fr2⟩ | (exfalso; omega)
    ·rintro z0 G2 ⟨rfl, hb2, hf2⟩
     have ng := hng (by
      by_cases hg : ∃ e, zBp ps k bd true 0 = some e
      ·refine .inr (Classical.byContradiction fun hno => hb2 ⟨hg, ?_, ?_⟩) <;> simp only [zBu, zCI] at hno <;> omega
      ·exact .inl fun h' hh => hg ⟨_, (eff19.1 hh).2.2.2.2.2.1⟩)
     repeat' (first | refine And.intro (by omega) ?_ | simp -implicitDefEqProofs (disch := omega) only [push_cast])
     first | exact (fX _ _).trans hf2 | exact ⟨ng, (fX _ _).trans hf2⟩
  ·have ng := hng (.inl fun h' hh => hh0 (eff19.1 hh).2.2.2.1)
   repeat' (first | refine And.intro (by omega) ?_ | refine zD (zAP _) ?_ | refine zQ (zBa _) ?_ | simp -implicitDefEqProofs (disch := omega) only [e0, e10, e42, e43, e44, gr, hrow, zB, zJ, splice, List.length_map, zW, hXr, hX10, hXx, L131, LCode.sub, zM, zAa, zX, push_cast, simprocAttr, ↓reduceIte, Bool.and_self])
   all_goals first | exact fX _ _ | exact ⟨ng, fX _ _⟩
 ·repeat' (first | refine And.intro (by omega) ?_ | refine zQ (zBa _) ?_ | simp -implicitDefEqProofs (disch := omega) only [e0, e42, e43, e44, gr, hrow, zB, zJ, splice, List.length_map, zW, hXr, L131, LCode.sub, zM, zAo, push_cast, simprocAttr, ↓reduceIte, Bool.and_self])
  exact ⟨hng (.inr (.inl (by simp only [zBu]; omega))), fX _ _⟩
theorem rnd_all (ps : List Pr) (k : Nat) (hk : k < ps.length) (hps : ps.length ≤ 1048576) (hp : zBX ps k) (hh : zCt (ps.getD k default)) (l : List Ins) (out : Bool) (level c : Int) (r : Nat) (G : zC) (o : Int) : RndP ps k l out level c r G o := by
 have hcase : (o < 0 ∨ 22 < o) ∨ (o = 0) ∨ (o = 1) ∨ (o = 2) ∨ (o = 22) ∨ (o = 3) ∨ (o = 16) ∨ (o = 17) ∨ (o = 4) ∨ (5 ≤ o ∧ o ≤ 15) ∨ o = 18 ∨ o = 19 ∨ o = 20 ∨ o = 21 := by omega
 rcases hcase with hc | rfl | rfl | rfl | rfl | rfl | rfl | rfl | rfl | hc | rfl | rfl | rfl | rfl
 ·exact rnd_bad ps k hk hps hp hh l out level c r G o hc
 ·exact rnd_0 ps k hk hps hp hh l out level c r G
 ·exact rnd_1 ps k hk hps hp hh l out level c r G
 ·exact rnd_2 ps k hk hps hp hh l out level c r G
 ·exact rnd_22 ps k hk hps hp hh l out level c r G
 ·exact rnd_3 ps k hk hps hp hh l out level c r G
 ·exact rnd_16 ps k hk hps hp hh l out level c r G
 ·exact rnd_17 ps k hk hps hp hh l out level c r G
 ·exact rnd_4 ps k hk hps hp hh l out level c r G
 ·exact rnd_bin ps k hk hps hp hh l out level c r G o hc
 ·exact rnd_18 ps k hk hps hp hh l out level c r G
 ·exact rnd_19 ps k hk hps hp hh l out level c r G
 ·exact rnd_20 ps k hk hps hp hh l out level c r G
 ·exact rnd_21 ps k hk hps hp hh l out level c r G
theorem effC (ps : List Pr) (k : Nat) (hk : k < ps.length) (hps : ps.length ≤ 1048576) (hp : zBX ps k) (hh : zCt (ps.getD k default)) (l : List Ins) : zL l ≤ 1048576 → effP ps k l := by
 induction l using Ins.indL with
 | h l ih =>
 intro hs out level c G r hr hc0 hc1 hl0 hl1
 have hrl := (List.getElem?_eq_some_iff.1 hr).1
 refine zBo Tryz.func131 L131_ok (Nat.le_of_ble_eq_true rfl) ?_
 have hln := zP l
 by_cases hlev : level ≤ 256
 ·repeat' (first | refine And.intro (by omega) ?_ | refine zD (zAP _) ?_ | simp -implicitDefEqProofs (disch := omega) only [L131, hr, zAJ, zO, zBL, pr_c1s, splice, List.length_map, zAa, push_cast, simprocAttr, ↓reduceIte, Bool.and_self])
  refine zAf (fun (st : Nat × Int) e' H' => EfI ps k l out level c r G st.1 st.2 e' H') (fun st => l.length - st.1) (0, 0) ?_ ?_
  ·exact ⟨rfl, rfl, rfl, rfl, rfl, rfl, rfl, rfl, rfl, rfl, by rw [zB hrl, hr]; simp [zL], by simp, by simp, Fr1.app _, by simp, Nat.zero_le _, by simp, by simp [zL]; omega, by simp [zAK]; omega, by simp⟩
  rintro ⟨j, h⟩ e' G' hI
  by_cases hlt : j < l.length
  ·have hk0 := zAr hlt
   have hx := ih _ hk0
   have hb := zAj l (j + 1)
   rw [zAd hlt, zCD] at hb
   have hx1 := hx.1 (by omega)
   have hx2 := hx.2 (by omega)
   exact rnd_all ps k hk hps hp hh l out level c r G (l.getD j default).op j h e' G' (l.getD j default).a (l.getD j default).b (l.getD j default).body (l.getD j default).els hlt (by cases l.getD j default; rfl) hs hx1 hx2 hrl hc0 hl0 hlev hI
  ·obtain ⟨e0, e2, e3, e9, e10, e11, e12, e42, e43, e44, gr, g9, g10, fr, gl, hj, hhh, cc, lv, ef⟩ := hI
   simp only at *
   have e : j = l.length := by omega
   subst e
   rw [List.drop_length] at ef
   rw [List.take_length] at gr cc lv
   repeat' (simp -implicitDefEqProofs (disch := omega) only [e43, e44, e10, g10, zR, push_cast, simprocAttr, ↓reduceIte])
   exact ⟨h, rfl, ef, cc, lv, fr, gr⟩
 ·by_cases hl : l.length = 0
  ·have hl2 := List.length_eq_zero_iff.1 hl
   subst hl2
   have hL : (Ax.LX.c (.v (.int .i64 0))) = (Ax.LX.c (.v (.int .i64 0))) := rfl
   repeat' (first | refine And.intro (by omega) ?_ | refine zD (zAP _) ?_ | simp -implicitDefEqProofs (disch := omega) only [L131, hr, zAJ, zO, zBL, pr_c1s, splice, List.length_map, List.map_nil, List.length_nil, zAo, push_cast, simprocAttr, ↓reduceIte, Bool.and_self])
   refine zAf (fun (_ : Unit) e' H' => e' 10 = .ptr (G.length + 1) 0 0 ∧ e' 43 = int 0 ∧ e' 44 = int 0 ∧ H' = G ++ [.box (prR (ps.getD k default)), .box [int 0]]) (fun _ => 0) () ⟨rfl, rfl, rfl, rfl⟩ ?_
   rintro _ e' H' ⟨h10, h43, h44, rfl⟩
   repeat' (simp -implicitDefEqProofs (disch := omega) only [h10, h43, h44, push_cast, simprocAttr, ↓reduceIte])
   exact ⟨0, rfl, by simp [zBp], by simp [zL]; omega, by simp [zAK]; omega, Fr1.app _, by rw [zB hrl, hr]; simp [zL]⟩
  ·repeat' (first | refine zQ (zBa _) ?_ | simp -implicitDefEqProofs (disch := omega) only [L131, List.length_map, zAo, zX, push_cast, simprocAttr, ↓reduceIte])
   have h1 : 1 ≤ zAK l := by
    cases l with
    | nil => exact absurd rfl hl
    | cons x l => simp only [zAK]; rw [ilev_eq]; omega
   first | exact ⟨fun hg => by have := hg.2.2; omega, Fr1.refl⟩ | exact Fr1.refl
theorem nmEqC (m q : Pr) (r : Nat) (H : zC) (hr : H[r]? = some (.box (prR q))) : zAn 130 [.agg (prR m), .ptr r 0 0] H (bool (decide (m.name = q.name))) := by
 refine ACall.drop (R := fun x => x = bool (decide (m.name = q.name))) ?_
 refine enter Tryz.func130 L130_ok (Nat.le_of_ble_eq_true rfl) ?_
 have hlt : r < H.length := (List.getElem?_eq_some_iff.1 hr).1
 have hg : ∀ l, (H ++ l)[r]? = some (HO.box (prR q)) := fun l => by rw [List.getElem?_append_left hlt]; exact hr
 repeat' (simp -implicitDefEqProofs (disch := omega) only [L130, zW, pr_c1s, zO, zBR, hg, push_cast, simprocAttr, ↓reduceIte])
 exact ⟨_, rfl⟩
theorem nmIdxC (l : List Pr) (q : Pr) (hl : l.length ≤ 1048576) (r : Nat) (H : zC) (hr : H[r]? = some (.box (prR q))) : zAn 176 [.sl 6 (l.map prR), .fn (.func 130) [] [.ptr r 0 0]] H (int (idxI (l.findIdx? fun m => decide (m.name = q.name)))) := by
 refine enter Tryz.func176 L176_ok (Nat.le_of_ble_eq_true rfl) ?_
 repeat' (simp -implicitDefEqProofs (disch := omega) only [L176, push_cast, simprocAttr, ↓reduceIte])
 refine zAf (fun (j : Nat) e' H' => e' 0 = .sl 6 (l.map prR) ∧ e' 1 = .fn (.func 130) [] [.ptr r 0 0] ∧ e' 7 = int l.length ∧ e' 8 = int j ∧ H = H' ∧ j ≤ l.length ∧ ∀ i, i < j → ¬ (l.getD i default).name = q.name) (fun j => l.length - j) 0 ?_ ?_
 ·exact ⟨rfl, rfl, rfl, rfl, rfl, Nat.zero_le _, by simp⟩
 rintro j e' H' ⟨h0, h1, h7, h8, rfl, hj, hb⟩
 by_cases hlt : j < l.length
 ·have hc := fun m => nmEqC m q r H hr
  cases hin : decide ((l.getD j default).name = q.name)
  ·have hc1 := hc (l.getD j default)
   rw [hin] at hc1
   repeat' (first | refine And.intro (by omega) ?_ | refine zA (hc1) ?_ | simp -implicitDefEqProofs (disch := omega) only [h0, h1, h7, h8, zAJ, zO, zBL, zM, push_cast, simprocAttr, ↓reduceIte])
   exact .mk (j + 1) ⟨h0, h1, h7, rfl, rfl, hlt, zBq hb (of_decide_eq_false hin)⟩ (by omega)
  ·have hc1 := hc (l.getD j default)
   rw [hin] at hc1
   repeat' (first | refine And.intro (by omega) ?_ | refine zA (hc1) ?_ | simp -implicitDefEqProofs (disch := omega) only [h0, h1, h7, h8, zAJ, zO, zBL, zM, push_cast, simprocAttr, ↓reduceIte])
   rw [find_some hlt hin fun i hi => decide_eq_false (hb i hi)]
   rfl
 ·rw [find_none (l := l) (p := fun m => decide (m.name = q.name)) fun i hi => decide_eq_false (hb i (by omega))]
  repeat' (simp -implicitDefEqProofs (disch := omega) only [h7, h8, zR, push_cast, ↓reduceIte, Int.reduceNeg])
  rfl
theorem nmHasC (l : List Pr) (q : Pr) (hl : l.length ≤ 1048576) (r : Nat) (H : zC) (hr : H[r]? = some (.box (prR q))) : zAn 129 [.sl 6 (l.map prR), .fn (.func 130) [] [.ptr r 0 0]] H (bool (l.any fun m => decide (m.name = q.name))) := by
 refine enter Tryz.func129 L129_ok (Nat.le_of_ble_eq_true rfl) ?_
 have hi : (l.any fun m => decide (m.name = q.name)) = decide (0 ≤ idxI (l.findIdx? fun m => decide (m.name = q.name))) := by
  cases h : l.findIdx? fun m => decide (m.name = q.name) with
  | none =>
   rw [List.findIdx?_eq_none_iff] at h
   refine (?_ : _ = false).trans (show false = decide (0 ≤ idxI none) from rfl)
   rw [List.any_eq_false]
   intro x hx
   rw [h x hx]; decide
  | some i =>
   refine (?_ : _ = true).trans (decide_eq_true (show 0 ≤ idxI (some i) by simp only [idxI]; omega)).symm
   rw [List.any_eq_true]
   obtain ⟨h1, h2, _⟩ := List.findIdx?_eq_some_iff_getElem.1 h
   exact ⟨_, List.getElem_mem h1, h2⟩
 rw [hi]
 have hb : -1 ≤ idxI (l.findIdx? fun m => decide (m.name = q.name)) := by
  cases l.findIdx? fun m => decide (m.name = q.name) <;> simp only [idxI] <;> omega
 repeat' (first | refine zA (nmIdxC l q hl r H hr) ?_ | simp -implicitDefEqProofs (disch := omega) only [L129, push_cast, simprocAttr, ↓reduceIte])
@[push_cast] theorem recE_one (m : Option Value) (d : Nat) (e : Env) : recE m [d] e = up e d (.v (Go.Ax.recV m)) := rfl
@[push_cast] theorem recE_nil (m : Option Value) (e : Env) : recE m [] e = e := rfl
@[push_cast] theorem recV_none : Go.Ax.recV none = .nilIface := rfl
@[push_cast] theorem recV_some (z : Value) : Go.Ax.recV (some z) = z := rfl
theorem validDefN (r : Nat) (H : zC) : ADef Tryz.prog 126 [.ptr r 0 0] none H fun H' => H' = H := by
 refine enterDef Tryz.func126 L126_ok (Nat.le_of_ble_eq_true rfl) ?_
 repeat' (simp -implicitDefEqProofs (disch := omega) only [L126, push_cast, simprocAttr, ↓reduceIte])
theorem validDefW (r : Nat) (H : zC) (b : Bool) (hr : H[r]? = some (.box [bool b])) : ADef Tryz.prog 126 [.ptr r 0 0] (some wrongV) H fun H' => H' = (H ++ [HO.box []]).set r (.box [bool false]) := by
 have hl := (List.getElem?_eq_some_iff.1 hr).1
 refine enterDef Tryz.func126 L126_ok (Nat.le_of_ble_eq_true rfl) ?_
 repeat' (simp -implicitDefEqProofs (disch := omega) only [L126, zB, zJ, hr, splice, push_cast, simprocAttr, ↓reduceIte, Bool.and_self])
structure VdI (ps : List Pr) (H : zC) (j : Nat) (own : Int) (e' : Env) (G : zC) : Prop where
 e1 : e' 1 = .ptr H.length 0 0
 e2 : e' 2 = .ptr (H.length + 1) 0 0
 e3 : e' 3 = .ptr (H.length + 2) 0 0
 e18 : e' 18 = zAz ps
 e19 : e' 19 = int ps.length
 e20 : e' 20 = int j
 fr : ∀ i, i < H.length → G[i]? = H[i]?
 gl : H.length + 3 ≤ G.length
 g0 : G[H.length]? = some (.box [zAz ps])
 g1 : G[H.length + 1]? = some (.box [bool false])
 g2 : G[H.length + 2]? = some (.box [zAz ps, int own, int (zA4 (ps.take j) : Nat)])
 hj : j ≤ ps.length
 all : ∀ i, i < j → prP ps i
abbrev VdR (ps : List Pr) (H : zC) (x : AV) (H' : zC) : Prop := x = bool (zCW ps) ∧ x.cl = true ∧ ∃ rest, H' = H ++ rest
theorem zCo (ps : List Pr) (H G : zC) (e : Env) (h2 : e 2 = .ptr (H.length + 1) 0 0) (fr : ∀ i, i < H.length → G[i]? = H[i]?) (gl : H.length + 2 ≤ G.length) (g1 : G[H.length + 1]? = some (.box [bool false])) (hn : ¬ zBA ps) :
  postD Tryz.prog L69.res (VdR ps H) 126 [.ptr (H.length + 1) 0 0] (.pan wrongV) e G := by
 intro X ρ w vs hr hv
 refine (validDefW (H.length + 1) G false g1 X ρ w vs hr hv).mono ?_
 rintro en u' w' ⟨v, H', ρ', h1, h2', h3, h4, h5⟩
 refine ⟨v, H', ρ', h1, h2', ?_, h4, h5⟩
 subst h3
 have hg : ((G ++ [HO.box []]).set (H.length + 1) (.box [bool false]))[H.length + 1]? = some (.box [bool false]) := by
  rw [List.getElem?_set_self (by simp; omega)]
 obtain ⟨rest, hrest⟩ := zBv (H := H) (G := (G ++ [HO.box []]).set (H.length + 1) (.box [bool false])) (by simp; omega) fun i hi => by
  rw [List.getElem?_set_ne (by omega), List.getElem?_append_left (by omega), fr i hi]
 have hvb := validB_f hn
 refine ⟨?_, ?_, ?_, rest, hrest⟩
 ·simp [L69, zAU, zDb, h2, rLoad, hg, rLoadO, isVer, Res.also, isBox]
 ·simp [L69, zAU, zDb, h2, rLoad, hg, rLoadO, isVer, Res.also, isBox, cellsV, hvb]
 ·simp [L69, zAU, zDb, h2, rLoad, hg, rLoadO, isVer, Res.also, isBox, cellsV, AV.cl]
theorem vd_ret (ps : List Pr) (H G : zC) (e : Env) (h2 : e 2 = .ptr (H.length + 1) 0 0) (fr : ∀ i, i < H.length → G[i]? = H[i]?) (gl : H.length + 2 ≤ G.length) (g1 : G[H.length + 1]? = some (.box [bool true])) (hn : zBA ps) :
  postD Tryz.prog L69.res (VdR ps H) 126 [.ptr (H.length + 1) 0 0] .ret e G := by
 intro X ρ w vs hr hv
 refine (validDefN (H.length + 1) G X ρ w vs hr hv).mono ?_
 rintro en u' w' ⟨v, H', ρ', h1, h2', h3, h4, h5⟩
 refine ⟨v, H', ρ', h1, h2', ?_, h4, h5⟩
 subst h3
 obtain ⟨rest, hrest⟩ := zBv (H := H) (G := H') (by omega) fr
 have hvb := zBO.2 hn
 refine ⟨?_, ?_, ?_, rest, hrest⟩
 ·simp [L69, zAU, zDb, h2, rLoad, g1, rLoadO, isVer, Res.also, isBox]
 ·simp [L69, zAU, zDb, h2, rLoad, g1, rLoadO, isVer, Res.also, isBox, cellsV, hvb]
 ·simp [L69, zAU, zDb, h2, rLoad, g1, rLoadO, isVer, Res.also, isBox, cellsV, AV.cl]
theorem enter_vd : Enter Tryz.prog 126 := ⟨_, Tryz.func126, by kernel_rfl, by kernel_rfl⟩
set_option maxHeartbeats 8000000 in
theorem codeValidC (ps : List Pr) (hs : zCn ps) (H : zC) : zAn 69 [.agg [zAz ps]] H (bool (zCW ps)) := by
 obtain ⟨hs1, hs2, hs3⟩ := hs
 refine ACall.drop (R := fun x => x = bool (zCW ps)) ?_
 refine enterD Tryz.func69 L69_ok (Nat.le_of_ble_eq_true rfl) ?_
 show wpD _ L69.res (VdR ps H) _ _ _
 generalize hres : L69.res = res
 by_cases h8 : ps.length ≤ 8
 ·repeat' (simp -implicitDefEqProofs (disch := omega) only [L69, zW, List.length_map, zAa, push_cast, simprocAttr, ↓reduceIte, Bool.and_self])
  refine ⟨_, _, _, rfl, enter_vd, ?_⟩
  repeat' (first | refine zD (zAP _) ?_ | simp -implicitDefEqProofs (disch := omega) only [zE, zW, rBuild, fillA, List.length_map, push_cast, simprocAttr, ↓reduceIte, Bool.and_self])
  refine zAf (fun (st : Nat × Int) e' G => VdI ps H st.1 st.2 e' G) (fun st => ps.length - st.1) (0, 0) ?_ ?_
  ·refine ⟨rfl, rfl, rfl, rfl, rfl, rfl, fun i hi => List.getElem?_append_left hi, by simp, by simp [zAe], by simp [zAe], by simp [zAe, zA4], by omega, fun i hi => by omega⟩
  rintro ⟨j, own⟩ e' G ⟨h1, h2, h3, h18, h19, h20, fr, gl, g0, g1, g2, hj, hall⟩
  simp only at h20 g2 hj hall
  by_cases hlt : j < ps.length
  ·obtain ⟨m1, m2, m3⟩ := hs3 _ (zAr hlt)
   have hfail : ¬ prP ps j → ¬ zBA ps := fun hn hv => hn (hv.2 j hlt)
   repeat' (first | refine And.intro (by omega) ?_ | simp -implicitDefEqProofs (disch := omega) only [h3, h18, h19, h20, g2, zB, zJ, zAJ, zO, zBR, splice, List.length_map, zM, push_cast, simprocAttr, ↓reduceIte, Bool.and_self])
   have z0 : (G.set (H.length + 2) (HO.box [zAz ps, int j, int (zA4 (ps.take j) : Nat)]) ++ [HO.box (prR (ps.getD j default))])[H.length]? = some (.box [zAz ps]) := by
    rw [List.getElem?_append_left (by simp; omega), List.getElem?_set_ne (by omega), g0]
   have z1 : (G.set (H.length + 2) (HO.box [zAz ps, int j, int (zA4 (ps.take j) : Nat)]) ++ [HO.box (prR (ps.getD j default))])[H.length + 1]? = some (.box [bool false]) := by
    rw [List.getElem?_append_left (by simp; omega), List.getElem?_set_ne (by omega), g1]
   have z2 : (G.set (H.length + 2) (HO.box [zAz ps, int j, int (zA4 (ps.take j) : Nat)]) ++ [HO.box (prR (ps.getD j default))])[H.length + 2]? = some (.box [zAz ps, int j, int (zA4 (ps.take j) : Nat)]) := by
    rw [List.getElem?_append_left (by simp; omega), List.getElem?_set_self (by omega)]
   have z5 : (G.set (H.length + 2) (HO.box [zAz ps, int j, int (zA4 (ps.take j) : Nat)]) ++ [HO.box (prR (ps.getD j default))])[G.length]? = some (.box (prR (ps.getD j default))) := by
    rw [List.getElem?_append_right (by simp)]; simp
   have zf : ∀ i, i < H.length → (G.set (H.length + 2) (HO.box [zAz ps, int j, int (zA4 (ps.take j) : Nat)]) ++ [HO.box (prR (ps.getD j default))])[i]? = H[i]? := fun i hi => by
    rw [List.getElem?_append_left (by simp; omega), List.getElem?_set_ne (by omega), fr i hi]
   have zl : H.length + 4 ≤ (G.set (H.length + 2) (HO.box [zAz ps, int j, int (zA4 (ps.take j) : Nat)]) ++ [HO.box (prR (ps.getD j default))]).length := by simp; omega
   have zl2 : G.length < (G.set (H.length + 2) (HO.box [zAz ps, int j, int (zA4 (ps.take j) : Nat)]) ++ [HO.box (prR (ps.getD j default))]).length := by simp
   have zr : H.length + 3 ≤ G.length := gl
   simp only [prR] at z0 z1 z2 z5 zf zl zl2
   generalize (G.set (H.length + 2) (HO.box [zAz ps, int j, int (zA4 (ps.take j) : Nat)]) ++ [HO.box [str (ps.getD j default).name, int (ps.getD j default).par, int (ps.getD j default).slots, int (ps.getD j default).res, .sl 1 ((ps.getD j default).outs.map iR), .sl 5 ((ps.getD j default).body.map zAs)]]) = Z at *
   generalize hrr : G.length = r at *
   clear fr gl g0 g1 g2 hrr
   have z5' : Z[r]? = some (.box (prR (ps.getD j default))) := z5
   cases hN : isName (ps.getD j default).name with
   | false =>
    repeat' (first | refine zA (nameLx (ps.getD j default).name _ (by omega)) ?_ | refine zQ (zBa _) ?_ | simp -implicitDefEqProofs (disch := omega) only [z5, hN, push_cast, simprocAttr, ↓reduceIte])
    subst hres
    exact zCo ps H _ _ h2 zf (by omega) z1 (hfail fun hp => by rw [hp.1.1] at hN; cases hN)
   | true =>
    have cN : zAn 129 [.sl 6 ((ps.map prR).take (j - 0)), .fn (.func 130) [] [.ptr r 0 0]] Z (bool ((ps.take j).any fun m => decide (m.name = (ps.getD j default).name))) := by
     have := nmHasC (ps.take j) (ps.getD j default) (by simp; omega) r Z z5'
     rw [List.map_take] at this
     exact this
    cases hC : (ps.take j).any fun m => decide (m.name = (ps.getD j default).name) with
    | true =>
     rw [hC] at cN
     repeat' (first | refine And.intro (by omega) ?_ | refine zA (nameLx (ps.getD j default).name _ (by omega)) ?_ | refine zA (cN) ?_ | refine zQ (zBa _) ?_ | simp -implicitDefEqProofs (disch := omega) only [h1, z0, z5, hN, List.length_map, push_cast, simprocAttr, ↓reduceIte])
     subst hres
     refine zCo ps H _ _ h2 zf (by omega) z1 (hfail fun hp => ?_)
     obtain ⟨m, hm, hmn⟩ := List.any_eq_true.1 hC
     obtain ⟨i, hi, rfl⟩ := List.mem_iff_getElem.1 hm
     simp only [List.length_take] at hi
     have e : (ps.take j)[i] = ps.getD i default := by rw [List.getElem_take, List.getD_eq_getElem?_getD, List.getElem?_eq_getElem (by omega)]; rfl
     rw [e, decide_eq_true_eq] at hmn
     exact hp.1.2 i (by omega) hmn
    | false =>
     rw [hC] at cN
     have hne : ∀ i, i < j → ¬ (ps.getD i default).name = (ps.getD j default).name := fun i hi hh => by
      rw [List.any_eq_false] at hC
      refine hC (ps.getD i default) ?_ (decide_eq_true hh)
      rw [List.mem_iff_getElem]
      refine ⟨i, by simp; omega, ?_⟩
      rw [List.getElem_take, List.getD_eq_getElem?_getD, List.getElem?_eq_getElem (by omega)]; rfl
     by_cases hP1 : 0 ≤ (ps.getD j default).par ∧ (ps.getD j default).par ≤ (ps.getD j default).slots ∧ (ps.getD j default).slots ≤ 1024 ∧ -1 ≤ (ps.getD j default).res ∧ (ps.getD j default).res ≤ 128
     ·obtain ⟨q1, q2, q3, q4, q5⟩ := hP1
      by_cases hP2 : (ps.getD j default).outs.length ≤ 128 ∧ ((ps.getD j default).res = -1 ∨ (ps.getD j default).outs.length = 0)
      ·obtain ⟨q6, q7⟩ := hP2
       by_cases hrs : (ps.getD j default).res = -1
       ·repeat' (first | refine And.intro (by omega) ?_ | refine zA (nameLx (ps.getD j default).name _ (by omega)) ?_ | refine zA (cN) ?_ | refine zD (zAP _) ?_ | simp -implicitDefEqProofs (disch := omega) only [h1, z0, z5, hN, List.length_map, zAa, zAi, push_cast, simprocAttr, ↓reduceIte])
        refine zAf (fun (m : Nat) e' G' => e' 1 = .ptr H.length 0 0 ∧ e' 2 = .ptr (H.length + 1) 0 0 ∧ e' 3 = .ptr (H.length + 2) 0 0 ∧ e' 5 = .ptr r 0 0 ∧ e' 18 = zAz ps ∧ e' 19 = int ps.length ∧ e' 20 = int j ∧ e' 85 = .sl 1 ((ps.getD j default).outs.map iR) ∧ e' 86 = int (ps.getD j default).outs.length ∧ e' 87 = int m ∧ Z = G' ∧ m ≤ (ps.getD j default).outs.length ∧ ∀ m', m' < m → 0 ≤ (ps.getD j default).outs.getD m' default ∧ (ps.getD j default).outs.getD m' default < (ps.getD j default).slots) (fun m => (ps.getD j default).outs.length - m) 0 ?_ ?_
        ·exact ⟨h1, h2, h3, rfl, h18, h19, h20, rfl, rfl, rfl, rfl, Nat.zero_le _, fun m hm => by omega⟩
        clear h1 h2 h3 h18 h19 h20
        rintro m e' G' ⟨h1, h2, h3, h5, h18, h19, h20, h85, h86, h87, hGZ, hm, hout⟩
        subst hGZ
        by_cases hlt3 : m < (ps.getD j default).outs.length
        ·have hor : ((ps.getD j default).outs.map iR).getD m [] = [int ((ps.getD j default).outs.getD m default)] := zS hlt3
         by_cases hO : 0 ≤ (ps.getD j default).outs.getD m default ∧ (ps.getD j default).outs.getD m default < (ps.getD j default).slots
         ·repeat' (first | refine And.intro (by omega) ?_ | refine zD (zAP _) ?_ | simp -implicitDefEqProofs (disch := omega) only [h5, h85, h86, h87, z5, hor, List.length_map, zM, zAa, push_cast, simprocAttr, ↓reduceIte])
          exact .mk (m + 1) ⟨h1, h2, h3, h5, h18, h19, h20, h85, h86, rfl, rfl, hlt3, zBq hout hO⟩ (by omega)
         ·have hv : ¬ zBA ps := hfail fun hp => hO (hp.2.1.2.2.2.2.2.2.2 _ (zAr hlt3))
          have hO' : ¬ 0 ≤ (ps.getD j default).outs.getD m default ∨ (0 ≤ (ps.getD j default).outs.getD m default ∧ ¬ (ps.getD j default).outs.getD m default < (ps.getD j default).slots) := by omega
          subst hres
          rcases hO' with hc | ⟨hc1, hc2⟩
          ·repeat' (first | refine And.intro (by omega) ?_ | refine zQ (zBa _) ?_ | simp -implicitDefEqProofs (disch := omega) only [h85, h86, h87, hor, List.length_map, zM, zAo, push_cast, simprocAttr, ↓reduceIte])
           exact zCo ps H _ _ h2 zf (by omega) z1 hv
          ·repeat' (first | refine And.intro (by omega) ?_ | refine zQ (zBa _) ?_ | simp -implicitDefEqProofs (disch := omega) only [h5, h85, h86, h87, z5, hor, List.length_map, zM, zR, zAa, push_cast, simprocAttr, ↓reduceIte])
           exact zCo ps H _ _ h2 zf (by omega) z1 hv
        ·have e : m = (ps.getD j default).outs.length := by omega
         subst e
         have hout' : ∀ s ∈ (ps.getD j default).outs, 0 ≤ s ∧ s < (ps.getD j default).slots := by
          intro s hs
          obtain ⟨m, hm, rfl⟩ := List.mem_iff_getElem.1 hs
          have := hout m hm
          have e : (ps.getD j default).outs.getD m default = (ps.getD j default).outs[m] := by rw [List.getD_eq_getElem?_getD, List.getElem?_eq_getElem hm]; rfl
          rw [e] at this
          exact this
         have hH : zCt (ps.getD j default) := ⟨q1, q2, q3, q4, q5, q6, q7.imp id List.length_eq_zero_iff.1, hout'⟩
         have hsn := zBy hlt
         have hcnt : zA4 (ps.take j) ≤ 32768 := by
          cases j with
          | zero => simp [zA4]
          | succ j => exact (hall j (by omega)).2.2.1
         have cE := effC ps j hlt hs1 (prsOk_of hall) hH (ps.getD j default).body m3 true 1 (zA4 (ps.take j) : Nat) Z (H.length + 2) z2 (by omega) (by omega) (by omega) (by omega)
         repeat' (simp -implicitDefEqProofs (disch := omega) only [h3, h5, h86, h87, z5, zR, push_cast, simprocAttr, ↓reduceIte])
         refine zH cE ?_ ?_
         ·rintro x G' ⟨e, rfl, hE, hc1, hc2, hfr, hg2⟩
          have y0 := (hfr.2 H.length (by omega) (by omega)).trans z0
          have y1 := (hfr.2 (H.length + 1) (by omega) (by omega)).trans z1
          have yf : ∀ i, i < H.length → G'[i]? = H[i]? := fun i hi => (hfr.2 i (by omega) (by omega)).trans (zf i hi)
          have yl := hfr.1
          by_cases he : e = 0
          ·subst he
           repeat' (first | refine zD (zAP _) ?_ | simp -implicitDefEqProofs (disch := omega) only [h20, push_cast, ↓reduceIte, Nat.reduceEqDiff])
           exact .mk (j + 1, (j : Int)) ⟨h1, h2, h3, h18, h19, rfl, yf, by omega, y0, y1, by rw [hg2, hsn]; simp, hlt, zBq hall ⟨⟨hN, hne⟩, hH, by omega, by omega, hE⟩⟩ (by dsimp only; omega)
          ·have hv : ¬ zBA ps := hfail fun hp => by have := hp.2.2.2.2; rw [hE] at this; exact he (by simpa using this)
           repeat' (first | refine zQ (zBa _) ?_ | simp -implicitDefEqProofs (disch := omega) only [zX, push_cast])
           subst hres
           exact zCo ps H _ _ h2 yf (by omega) y1 hv
         ·rintro z G' ⟨rfl, hng, hfr⟩
          have y1 := (hfr.2 (H.length + 1) (by omega) (by omega)).trans z1
          have yf : ∀ i, i < H.length → G'[i]? = H[i]? := fun i hi => (hfr.2 i (by omega) (by omega)).trans (zf i hi)
          have yl := hfr.1
          repeat' (simp -implicitDefEqProofs (disch := omega) only [push_cast])
          subst hres
          exact zCo ps H _ _ h2 yf (by omega) y1 (hfail fun hp => hng ⟨⟨0, hp.2.2.2.2⟩, by have := hp.2.2.1; omega, by have := hp.2.2.2.1; omega⟩)
       ·repeat' (first | refine And.intro (by omega) ?_ | refine zA (nameLx (ps.getD j default).name _ (by omega)) ?_ | refine zA (cN) ?_ | refine zD (zAP _) ?_ | simp -implicitDefEqProofs (disch := omega) only [h1, z0, z5, hN, List.length_map, zAa, zAi, zX, push_cast, simprocAttr, ↓reduceIte])
        refine zAf (fun (m : Nat) e' G' => e' 1 = .ptr H.length 0 0 ∧ e' 2 = .ptr (H.length + 1) 0 0 ∧ e' 3 = .ptr (H.length + 2) 0 0 ∧ e' 5 = .ptr r 0 0 ∧ e' 18 = zAz ps ∧ e' 19 = int ps.length ∧ e' 20 = int j ∧ e' 85 = .sl 1 ((ps.getD j default).outs.map iR) ∧ e' 86 = int (ps.getD j default).outs.length ∧ e' 87 = int m ∧ Z = G' ∧ m ≤ (ps.getD j default).outs.length ∧ ∀ m', m' < m → 0 ≤ (ps.getD j default).outs.getD m' default ∧ (ps.getD j default).outs.getD m' default < (ps.getD j default).slots) (fun m => (ps.getD j default).outs.length - m) 0 ?_ ?_
        ·exact ⟨h1, h2, h3, rfl, h18, h19, h20, rfl, rfl, rfl, rfl, Nat.zero_le _, fun m hm => by omega⟩
        clear h1 h2 h3 h18 h19 h20
        rintro m e' G' ⟨h1, h2, h3, h5, h18, h19, h20, h85, h86, h87, hGZ, hm, hout⟩
        subst hGZ
        by_cases hlt3 : m < (ps.getD j default).outs.length
        ·exfalso; omega
        ·have e : m = (ps.getD j default).outs.length := by omega
         subst e
         have hout' : ∀ s ∈ (ps.getD j default).outs, 0 ≤ s ∧ s < (ps.getD j default).slots := by
          intro s hs
          obtain ⟨m, hm, rfl⟩ := List.mem_iff_getElem.1 hs
          have := hout m hm
          have e : (ps.getD j default).outs.getD m default = (ps.getD j default).outs[m] := by rw [List.getD_eq_getElem?_getD, List.getElem?_eq_getElem hm]; rfl
          rw [e] at this
          exact this
         have hH : zCt (ps.getD j default) := ⟨q1, q2, q3, q4, q5, q6, q7.imp id List.length_eq_zero_iff.1, hout'⟩
         have hsn := zBy hlt
         have hcnt : zA4 (ps.take j) ≤ 32768 := by
          cases j with
          | zero => simp [zA4]
          | succ j => exact (hall j (by omega)).2.2.1
         have cE := effC ps j hlt hs1 (prsOk_of hall) hH (ps.getD j default).body m3 true 1 (zA4 (ps.take j) : Nat) Z (H.length + 2) z2 (by omega) (by omega) (by omega) (by omega)
         repeat' (simp -implicitDefEqProofs (disch := omega) only [h3, h5, h86, h87, z5, zR, push_cast, simprocAttr, ↓reduceIte])
         refine zH cE ?_ ?_
         ·rintro x G' ⟨e, rfl, hE, hc1, hc2, hfr, hg2⟩
          have y0 := (hfr.2 H.length (by omega) (by omega)).trans z0
          have y1 := (hfr.2 (H.length + 1) (by omega) (by omega)).trans z1
          have yf : ∀ i, i < H.length → G'[i]? = H[i]? := fun i hi => (hfr.2 i (by omega) (by omega)).trans (zf i hi)
          have yl := hfr.1
          by_cases he : e = 0
          ·subst he
           repeat' (first | refine zD (zAP _) ?_ | simp -implicitDefEqProofs (disch := omega) only [h20, push_cast, ↓reduceIte, Nat.reduceEqDiff])
           exact .mk (j + 1, (j : Int)) ⟨h1, h2, h3, h18, h19, rfl, yf, by omega, y0, y1, by rw [hg2, hsn]; simp, hlt, zBq hall ⟨⟨hN, hne⟩, hH, by omega, by omega, hE⟩⟩ (by dsimp only; omega)
          ·have hv : ¬ zBA ps := hfail fun hp => by have := hp.2.2.2.2; rw [hE] at this; exact he (by simpa using this)
           repeat' (first | refine zQ (zBa _) ?_ | simp -implicitDefEqProofs (disch := omega) only [zX, push_cast])
           subst hres
           exact zCo ps H _ _ h2 yf (by omega) y1 hv
         ·rintro z G' ⟨rfl, hng, hfr⟩
          have y1 := (hfr.2 (H.length + 1) (by omega) (by omega)).trans z1
          have yf : ∀ i, i < H.length → G'[i]? = H[i]? := fun i hi => (hfr.2 i (by omega) (by omega)).trans (zf i hi)
          have yl := hfr.1
          repeat' (simp -implicitDefEqProofs (disch := omega) only [push_cast])
          subst hres
          exact zCo ps H _ _ h2 yf (by omega) y1 (hfail fun hp => hng ⟨⟨0, hp.2.2.2.2⟩, by have := hp.2.2.1; omega, by have := hp.2.2.2.1; omega⟩)
      ·have hc : ¬ (ps.getD j default).outs.length ≤ 128 ∨ ((ps.getD j default).outs.length ≤ 128 ∧ ¬ (ps.getD j default).res = -1 ∧ ¬ (ps.getD j default).outs.length = 0) := by omega
       have hv : ¬ zBA ps := hfail fun hp => hP2 ⟨hp.2.1.2.2.2.2.2.1, hp.2.1.2.2.2.2.2.2.1.imp id fun h => by rw [h]; rfl⟩
       rcases hc with hc | ⟨hc1, hc2, hc3⟩
       ·repeat' (first | refine And.intro (by omega) ?_ | refine zA (nameLx (ps.getD j default).name _ (by omega)) ?_ | refine zA (cN) ?_ | refine zD (zAP _) ?_ | refine zQ (zBa _) ?_ | simp -implicitDefEqProofs (disch := omega) only [h1, z0, z5, hN, List.length_map, zAa, zAo, push_cast, simprocAttr, ↓reduceIte])
        subst hres
        exact zCo ps H _ _ h2 zf (by omega) z1 hv
       ·repeat' (first | refine And.intro (by omega) ?_ | refine zA (nameLx (ps.getD j default).name _ (by omega)) ?_ | refine zA (cN) ?_ | refine zD (zAP _) ?_ | refine zQ (zBa _) ?_ | simp -implicitDefEqProofs (disch := omega) only [h1, z0, z5, hN, List.length_map, zAa, zX, push_cast, simprocAttr, ↓reduceIte])
        subst hres
        exact zCo ps H _ _ h2 zf (by omega) z1 hv
     ·have hc : ¬ 0 ≤ (ps.getD j default).par ∨ (0 ≤ (ps.getD j default).par ∧ ¬ (ps.getD j default).par ≤ (ps.getD j default).slots) ∨ (0 ≤ (ps.getD j default).par ∧ (ps.getD j default).par ≤ (ps.getD j default).slots ∧ ¬ (ps.getD j default).slots ≤ 1024) ∨ (0 ≤ (ps.getD j default).par ∧ (ps.getD j default).par ≤ (ps.getD j default).slots ∧ (ps.getD j default).slots ≤ 1024 ∧ ¬ -1 ≤ (ps.getD j default).res) ∨ (0 ≤ (ps.getD j default).par ∧ (ps.getD j default).par ≤ (ps.getD j default).slots ∧ (ps.getD j default).slots ≤ 1024 ∧ -1 ≤ (ps.getD j default).res ∧ ¬ (ps.getD j default).res ≤ 128) := by omega
      have hv : ¬ zBA ps := hfail fun hp => hP1 ⟨hp.2.1.1, hp.2.1.2.1, hp.2.1.2.2.1, hp.2.1.2.2.2.1, hp.2.1.2.2.2.2.1⟩
      subst hres
      rcases hc with hc | ⟨hc1, hc2⟩ | ⟨hc1, hc2, hc3⟩ | ⟨hc1, hc2, hc3, hc4⟩ | ⟨hc1, hc2, hc3, hc4, hc5⟩
      ·repeat' (first | refine And.intro (by omega) ?_ | refine zA (nameLx (ps.getD j default).name _ (by omega)) ?_ | refine zA (cN) ?_ | refine zD (zAP _) ?_ | refine zQ (zBa _) ?_ | simp -implicitDefEqProofs (disch := omega) only [h1, z0, z5, hN, List.length_map, zAo, push_cast, simprocAttr, ↓reduceIte])
       exact zCo ps H _ _ h2 zf (by omega) z1 hv
      ·repeat' (first | refine And.intro (by omega) ?_ | refine zA (nameLx (ps.getD j default).name _ (by omega)) ?_ | refine zA (cN) ?_ | refine zD (zAP _) ?_ | refine zQ (zBa _) ?_ | simp -implicitDefEqProofs (disch := omega) only [h1, z0, z5, hN, List.length_map, zAa, zAo, push_cast, simprocAttr, ↓reduceIte])
       exact zCo ps H _ _ h2 zf (by omega) z1 hv
      ·repeat' (first | refine And.intro (by omega) ?_ | refine zA (nameLx (ps.getD j default).name _ (by omega)) ?_ | refine zA (cN) ?_ | refine zD (zAP _) ?_ | refine zQ (zBa _) ?_ | simp -implicitDefEqProofs (disch := omega) only [h1, z0, z5, hN, List.length_map, zAa, zAo, push_cast, simprocAttr, ↓reduceIte])
       exact zCo ps H _ _ h2 zf (by omega) z1 hv
      ·repeat' (first | refine And.intro (by omega) ?_ | refine zA (nameLx (ps.getD j default).name _ (by omega)) ?_ | refine zA (cN) ?_ | refine zD (zAP _) ?_ | refine zQ (zBa _) ?_ | simp -implicitDefEqProofs (disch := omega) only [h1, z0, z5, hN, List.length_map, zAa, zAo, push_cast, simprocAttr, ↓reduceIte])
       exact zCo ps H _ _ h2 zf (by omega) z1 hv
      ·repeat' (first | refine And.intro (by omega) ?_ | refine zA (nameLx (ps.getD j default).name _ (by omega)) ?_ | refine zA (cN) ?_ | refine zD (zAP _) ?_ | refine zQ (zBa _) ?_ | simp -implicitDefEqProofs (disch := omega) only [h1, z0, z5, hN, List.length_map, zAa, zAo, push_cast, simprocAttr, ↓reduceIte])
       exact zCo ps H _ _ h2 zf (by omega) z1 hv
  ·have e : j = ps.length := by omega
   subst e
   repeat' (simp -implicitDefEqProofs (disch := omega) only [h2, h19, h20, g1, splice, zR, push_cast, simprocAttr, ↓reduceIte, Bool.and_self])
   subst hres
   refine vd_ret ps H _ _ h2 (fun i hi => ?_) (by simpa using (by omega : H.length + 2 ≤ G.length)) (by rw [List.getElem?_set_self (by omega)]) ⟨h8, hall⟩
   rw [List.getElem?_set_ne (by omega), fr i hi]
 ·repeat' (simp -implicitDefEqProofs (disch := omega) only [L69, zW, List.length_map, zAo, push_cast, simprocAttr, ↓reduceIte, Bool.and_self])
  refine ⟨_, _, _, rfl, enter_vd, ?_⟩
  repeat' (first | refine zQ (zBa _) ?_ | simp -implicitDefEqProofs (disch := omega) only [push_cast, Int.reduceNeg])
  subst hres
  exact zCo ps H _ _ rfl (fun i hi => by rw [List.getElem?_append_left hi]) (by simp) (by simp [zAe]) fun hv => h8 hv.1
theorem costCC (ps : List Pr) (hs : zCn ps) (p L : Int) (H : zC) : zAn 70 [.agg [zAz ps], int p, int L] H (zBw ps p L) := by
 obtain ⟨hs1, hs2, hs3⟩ := hs
 have cV := fun H => codeValidC ps ⟨hs1, hs2, hs3⟩ H
 have hcl : ∀ x, x = zBw ps p L → x.cl = true := fun x hx => by subst hx; unfold zBw; split <;> (try split) <;> (try split) <;> simp [AV.cl, clL]
 refine ACall.drop (R := fun x => x = zBw ps p L) ?_
 refine enter Tryz.func70 L70_ok (Nat.le_of_ble_eq_true rfl) ?_
 cases hv : zCW ps with
 | false =>
  rw [hv] at cV
  have hA : zBw ps p L = .tup [int 0, int 1] := by unfold zBw; rw [if_pos hv]
  rw [hA]
  repeat' (first | refine zA (cV _) ?_ | simp -implicitDefEqProofs (disch := omega) only [L70, zW, push_cast, simprocAttr, ↓reduceIte, Bool.and_self])
  first | exact ⟨_, rfl⟩ | exact ⟨rfl, by simp [AV.cl, clL], _, rfl⟩
 | true =>
  rw [hv] at cV
  have hv2 := zBO.1 hv
  by_cases hp : p < 0 ∨ ps.length ≤ p
  ·have hA : zBw ps p L = .tup [int 0, int 7] := by unfold zBw; rw [if_neg (by simp [hv]), if_pos hp]
   rw [hA]
   rcases hp with hp | hp
   ·repeat' (first | refine zA (cV _) ?_ | simp -implicitDefEqProofs (disch := omega) only [L70, zW, zM, push_cast, simprocAttr, ↓reduceIte, Bool.and_self])
    first | exact ⟨_, rfl⟩ | exact ⟨rfl, by simp [AV.cl, clL], _, rfl⟩
   ·by_cases hp0 : p < 0
    ·omega
    ·repeat' (first | refine zA (cV _) ?_ | simp -implicitDefEqProofs (disch := omega) only [L70, zW, List.length_map, zR, zAa, push_cast, simprocAttr, ↓reduceIte, Bool.and_self])
     first | exact ⟨_, rfl⟩ | exact ⟨rfl, by simp [AV.cl, clL], _, rfl⟩
  ·by_cases hL : L < 0 ∨ 8 < L
   ·have hA : zBw ps p L = .tup [int 0, int 2] := by unfold zBw; rw [if_neg (by simp [hv]), if_neg hp, if_pos hL]
    rw [hA]
    rcases hL with hL | hL
    ·repeat' (first | refine zA (cV _) ?_ | simp -implicitDefEqProofs (disch := omega) only [L70, zW, List.length_map, zM, zR, zAo, push_cast, simprocAttr, ↓reduceIte, Bool.and_self])
     first | exact ⟨_, rfl⟩ | exact ⟨rfl, by simp [AV.cl, clL], _, rfl⟩
    ·by_cases hL0 : L < 0
     ·omega
     ·repeat' (first | refine zA (cV _) ?_ | simp -implicitDefEqProofs (disch := omega) only [L70, zW, List.length_map, zM, zR, zAo, push_cast, simprocAttr, ↓reduceIte, Bool.and_self])
      first | exact ⟨_, rfl⟩ | exact ⟨rfl, by simp [AV.cl, clL], _, rfl⟩
   ·have hA : zBw ps p L = .tup [int (zBW ps p.toNat L), int 0] := by unfold zBw; rw [if_neg (by simp [hv]), if_neg hp, if_neg hL]
    rw [hA]
    have hlen8 := hv2.1
    have hL1 : 0 ≤ L ∧ L ≤ 8 := by omega
    have hp1 : 0 ≤ p ∧ p < ps.length := by omega
    repeat' (first | refine And.intro (by omega) ?_ | refine zA (cV _) ?_ | simp -implicitDefEqProofs (disch := omega) only [L70, zW, List.length_map, zR, zAo, push_cast, simprocAttr, ↓reduceIte, Bool.and_self])
    have hbl : (1 : Int) * 1 = 1 := rfl
    refine zAf (fun (st : Nat × Nat × zC) e' G => e' 1 = int p ∧ e' 2 = int L ∧ e' 3 = .ptr H.length 0 0 ∧ e' 8 = .os (H.length + 1) st.2.1 0 st.1 ∧ e' 36 = .sl 6 ((ps.map prR).take (p.toNat + 1)) ∧ e' 37 = int (p.toNat + 1 : Nat) ∧ e' 38 = int st.1 ∧ G = st.2.2 ∧ H.length + 2 ≤ G.length ∧ (∀ i, i < H.length → G[i]? = H[i]?) ∧ G[H.length + 1]? = some (.arr st.2.1 1 ((zA9 ps L st.1).map iR)) ∧ st.1 ≤ p.toNat + 1) (fun st => p.toNat + 1 - st.1) (0, 0, H ++ [.box [zAz ps], .arr 0 1 []]) ?_ ?_
    ·refine ⟨rfl, rfl, rfl, rfl, ?_, ?_, rfl, rfl, by simp, fun i hi => List.getElem?_append_left hi, by simp [zAe, zA9], by dsimp only; omega⟩
     ·show AV.sl 6 (List.take ((p + 1).toNat - 0) (List.map prR ps)) = _
      rw [show (p + 1).toNat - 0 = p.toNat + 1 by omega]
     ·show int ((List.take ((p + 1).toNat - 0) (List.map prR ps)).length : Nat) = _
      rw [show (p + 1).toNat - 0 = p.toNat + 1 by omega, List.length_take, List.length_map, Nat.min_eq_left (by omega)]
    rintro ⟨j, v, _⟩ e' G ⟨h1, h2, h3, h8, h36, h37, h38, rfl, gl, fr, g1, hj⟩
    simp only at h8 h38 gl fr g1 hj
    have hcl := costsF_len ps L j
    have htk : ((zA9 ps L j).map iR).take j = (zA9 ps L j).map iR := all_take _ (by simp [hcl])
    by_cases hlt : j < p.toNat + 1
    ·obtain ⟨m1, m2, m3⟩ := hs3 _ (zAr (show j < ps.length by omega))
     have hrow : ((ps.map prR).take (p.toNat + 1)).getD j [] = prR (ps.getD j default) := by
      rw [← zAJ (show j < ps.length by omega)]
      simp only [List.getD_eq_getElem?_getD, List.getElem?_take, hlt, if_true]
     have hll : ((ps.map prR).take (p.toNat + 1)).length = p.toNat + 1 := by simp; omega
     have cc := fun G' hG => costsC (zA9 ps L j) L (zCf ps hL1.1 hL1.2 j) hL1.1 hL1.2 (by omega) (ps.getD j default).body m3 (by rw [hcl]; exact zCe _ _ _ _ (hv2.2 j (by omega)).2.2.2.2) G' (H.length + 1) v hG
     rw [hcl] at cc
     have hgx : ∀ x : zC, (G ++ x)[H.length + 1]? = some (.arr v 1 ((zA9 ps L j).map iR)) := fun x => by rw [List.getElem?_append_left (by omega)]; exact g1
     repeat' (first | refine And.intro (by omega) ?_ | refine zA (cc _ (hgx _)) ?_ | simp -implicitDefEqProofs (disch := omega) only [h2, h8, h36, h37, h38, hrow, hll, hgx, zJ, zO, zBL, pr_c1s, zA8, splice, List.length_map, hcl, htk, zM, push_cast, simprocAttr, ↓reduceIte, Bool.and_self])
     refine .mk (j + 1, v + 1, _) ⟨h1, h2, h3, rfl, h36, h37, rfl, rfl, by simp; omega, fun i hi => ?_, ?_, by dsimp only; omega⟩ (by dsimp only; omega)
     ·rw [List.getElem?_append_left (by simp; omega), List.getElem?_set_ne (by omega), fr i hi]
     ·rw [List.getElem?_append_left (by simp; omega), List.getElem?_set_self (by omega)]
      simp only [zA9, List.map_append, List.map_cons, List.map_nil, iR]
    ·have e : j = p.toNat + 1 := by omega
     subst e
     have hg : ((zA9 ps L (p.toNat + 1)).map iR).getD p.toNat [] = [int (zBW ps p.toNat L)] := by
      rw [zS (by omega), costsF_get ps L (by omega)]; rfl
     repeat' (first | refine And.intro (by omega) ?_ | simp -implicitDefEqProofs (disch := omega) only [h1, h8, h37, h38, g1, List.length_map, hcl, hg, Nat.zero_add, zR, push_cast, simprocAttr, ↓reduceIte, Bool.and_self])
     obtain ⟨rest, hrest⟩ := zBv (H := H) (G := G) (by omega) fr
     first | exact ⟨rest, hrest⟩ | exact ⟨rfl, by simp [AV.cl, clL], rest, hrest⟩
theorem widthR (w : Int) (H : zC) : zAn 32 [int w] H (bool (decide (wOk w))) := by
 refine enter Tryz.func32 L32_ok (Nat.le_of_ble_eq_true rfl) ?_
 by_cases h1 : 2 ≤ w
 ·by_cases h2 : w ≤ 8
  ·repeat' (simp -implicitDefEqProofs (disch := omega) only [L32, zAa, push_cast, simprocAttr, ↓reduceIte])
   simp [wOk, h1, h2]
  ·repeat' (simp -implicitDefEqProofs (disch := omega) only [L32, zAa, zAo, push_cast, simprocAttr, ↓reduceIte])
   simp [wOk, h1, h2]
 ·repeat' (simp -implicitDefEqProofs (disch := omega) only [L32, zAo, push_cast, simprocAttr, ↓reduceIte])
  simp [wOk, h1]
theorem powerR (n : Nat) (hn : n ≤ 8) (H : zC) : zAn 40 [int n] H (int (2 ^ n)) := by
 refine enter Tryz.func40 L40_ok (Nat.le_of_ble_eq_true rfl) ?_
 repeat' (simp -implicitDefEqProofs (disch := omega) only [L40, push_cast, Nat.reduceAdd])
 refine zAf (fun (j : Nat) e' H' => e' 0 = int n ∧ e' 3 = int (2 ^ j) ∧ e' 4 = int j ∧ H = H' ∧ j ≤ n) (fun j => n - j) 0 ?_ ?_
 ·exact ⟨rfl, rfl, rfl, rfl, Nat.zero_le _⟩
 rintro j e' H' ⟨h0, h3, h4, rfl, hj⟩
 by_cases hlt : j < n
 ·have hp : (2 : Int) ^ j ≤ 256 ∧ 0 < (2 : Int) ^ j := by
   have : j = 0 ∨ j = 1 ∨ j = 2 ∨ j = 3 ∨ j = 4 ∨ j = 5 ∨ j = 6 ∨ j = 7 := by omega
   rcases this with rfl | rfl | rfl | rfl | rfl | rfl | rfl | rfl <;> decide
  have hs : (2 : Int) ^ (j + 1) = 2 * 2 ^ j := by rw [Int.pow_succ]; omega
  repeat' (simp -implicitDefEqProofs (disch := omega) only [h0, h3, h4, zM, push_cast, simprocAttr, ↓reduceIte])
  exact .mk (j + 1) ⟨h0, by rw [hs]; rfl, rfl, rfl, hlt⟩ (by omega)
 ·have e : j = n := by omega
  subst e
  repeat' (simp -implicitDefEqProofs (disch := omega) only [h0, h3, h4, zR, push_cast, simprocAttr, ↓reduceIte])
theorem hf_of {n : Nat} : hf ((n : Int) + 1) = 2 ^ n := by
 unfold hf
 rw [show ((n : Int) + 1).toNat - 1 = n by omega]
theorem leastR (w : Int) (H : zC) : zAn 15 [int w] H (int (leF w)) := by
 refine enter Tryz.func15 L15_ok (Nat.le_of_ble_eq_true rfl) ?_
 by_cases h : wOk w
 ·have hd : decide (wOk w) = true := by simp [h]
  have e : leF w = -hf w := by unfold leF; rw [if_pos h]
  have hp := hf_pos h
  rw [e]
  clear e
  unfold wOk at h
  obtain ⟨n, rfl⟩ : ∃ n : Nat, w = (n : Int) + 1 := ⟨(w - 1).toNat, by omega⟩
  have e1 : (n : Int) + 1 - 1 = n := by omega
  have p := fun H => powerR n (by omega) H
  rw [← hf_of] at p
  repeat' (first | refine zA (widthR _ _) ?_ | refine zA (p _) ?_ | simp -implicitDefEqProofs (disch := omega) only [L15, hd, e1, push_cast, simprocAttr, ↓reduceIte])
  rw [Int.zero_sub]
 ·have hd : decide (wOk w) = false := by simp [h]
  have e : leF w = 0 := by unfold leF; rw [if_neg h]
  repeat' (first | refine zA (widthR _ _) ?_ | simp -implicitDefEqProofs (disch := omega) only [L15, hd, e, push_cast, simprocAttr, ↓reduceIte])
theorem greatestR (w : Int) (H : zC) : zAn 16 [int w] H (int (grF w)) := by
 refine enter Tryz.func16 L16_ok (Nat.le_of_ble_eq_true rfl) ?_
 by_cases h : wOk w
 ·have hd : decide (wOk w) = true := by simp [h]
  have e : grF w = hf w - 1 := by unfold grF; rw [if_pos h]
  have hp := hf_pos h
  rw [e]
  clear e
  unfold wOk at h
  obtain ⟨n, rfl⟩ : ∃ n : Nat, w = (n : Int) + 1 := ⟨(w - 1).toNat, by omega⟩
  have e1 : (n : Int) + 1 - 1 = n := by omega
  have p := fun H => powerR n (by omega) H
  rw [← hf_of] at p
  repeat' (first | refine zA (widthR _ _) ?_ | refine zA (p _) ?_ | simp -implicitDefEqProofs (disch := omega) only [L16, hd, e1, push_cast, simprocAttr, ↓reduceIte])
 ·have hd : decide (wOk w) = false := by simp [h]
  have e : grF w = 0 := by unfold grF; rw [if_neg h]
  repeat' (first | refine zA (widthR _ _) ?_ | simp -implicitDefEqProofs (disch := omega) only [L16, hd, e, push_cast, simprocAttr, ↓reduceIte])
section
variable {w a : Int} {o : List UInt8}
end
section
variable {w a b : Int} {o : List UInt8}
end
section
variable {w a b : Int} {o : List UInt8}
end
def L26z : LFn := ⟨20,[(.tmp 2)],(sO [oX 1 (.box true (.t 0)),oX 2 (.mv (.c (.v (.map none))))] (sO [⟨(some 6),none,.mkmap⟩,oX 7 (.mkfn (.func 54) [] [(.t 1)]),oN (.ins .int (.t 6) (kI 16) (.t 7)),oN (.ins .int (.t 6) (kI 17) (.c (.fn (.func 55) [] []))),oM 8 6,oM 3 8] (.seq (sO [oX 9 (y0 56),oX 10 (.rangem (.t 9))] (.block 0 (.loop (sO [oX 11 (.nextm (.t 10)),oE 12 11 0] (.seq (cD 12 .skip (.exit 0)) (.block 1 (sO [oX 13 (.entrym (.t 10)),oE 14 13 0,oE 15 13 1,oX 5 (.alloc [s0]),oM 4 14,oS 1 5 15] (.ops [oX 5 (.frz (.t 5)),oM 16 3,oM 17 4,oX 18 (.mkfn (.func 57) [] [(.t 1),(.t 5)]),oN (.ins .int (.t 16) (.t 17) (.t 18))])))))))) (sO [oM 19 3,oM 2 19,oX 2 (.frz (.t 2))] .ret))))⟩
theorem L26z_ok : zZ Tryz.prog Tryz.f26 [⟨5,0,(.pre 5 (.frz (.t 5)))⟩,⟨0,0,.imm⟩,⟨6,2,(.pre 2 (.frz (.t 2)))⟩] = some L26z := by kernel_rfl
def opS (o : Int) : List UInt8 :=
 if o = 5 then [43] else if o = 6 then [45] else if o = 7 then [42] else if o = 8 then [47] else if o = 9 then [37] else if o = 10 then [61, 61] else if o = 11 then [33, 61]
 else if o = 12 then [60] else if o = 13 then [60, 61] else if o = 14 then [62] else [62, 61]
theorem op11 {o : Int} (h5 : 5 ≤ o) (h15 : o ≤ 15) : o = 5 ∨ o = 6 ∨ o = 7 ∨ o = 8 ∨ o = 9 ∨ o = 10 ∨ o = 11 ∨ o = 12 ∨ o = 13 ∨ o = 14 ∨ o = 15 := by omega
section
variable {w a b o : Int}
theorem binC (hw : wOk w) (h5 : 5 ≤ o) (h15 : o ≤ 15) (ha : inI w a) (hb : inI w b) (H : zC) : zAn 18 [int w, str (opS o), int a, int b] H (binA (binO o w a b).1 (binO o w a b).2 0) := by
 rcases op11 h5 h15 with rfl | rfl | rfl | rfl | rfl | rfl | rfl | rfl | rfl | rfl | rfl
 ·exact bin_add hw ha hb H
 ·exact bin_sub hw ha hb H
 ·exact bin_mul hw ha hb H
 ·by_cases hz : b = 0
  ·subst hz; exact bin_zero hw (.inl rfl) ha hb H
  ·have e : binO 8 w a b = (wrF w (a.tdiv b), 0) := by simp [binO, hz]
   rw [e]; exact bin_quo hw ha hb hz H
 ·by_cases hz : b = 0
  ·subst hz; exact bin_zero hw (.inr rfl) ha hb H
  ·have e : binO 9 w a b = (a.tmod b, 0) := by simp [binO, hz]
   have h := bin_rem hw ha hb hz H
   rw [wrF_id hw (tmod_in hw ha)] at h
   rw [e]; exact h
 ·exact bin_go hw ops_eq (by decide) (by decide) ha hb (.inr (by decide)) _ (op_eq a b) rfl (by unfold zCT; split <;> omega) H
 ·exact bin_go hw ops_ne (by decide) (by decide) ha hb (.inr (by decide)) _ (op_ne a b) rfl (by unfold zCT; split <;> omega) H
 ·exact bin_go hw ops_lt (by decide) (by decide) ha hb (.inr (by decide)) _ (op_lt a b) rfl (by unfold zCT; split <;> omega) H
 ·exact bin_go hw ops_le (by decide) (by decide) ha hb (.inr (by decide)) _ (op_le a b) rfl (by unfold zCT; split <;> omega) H
 ·exact bin_go hw ops_gt (by decide) (by decide) ha hb (.inr (by decide)) _ (op_gt a b) rfl (by unfold zCT; split <;> omega) H
 ·exact bin_go hw ops_ge (by decide) (by decide) ha hb (.inr (by decide)) _ (op_ge a b) rfl (by unfold zCT; split <;> omega) H
end
def opnK : List Value := [.int .i64 5, .int .i64 6, .int .i64 7, .int .i64 8, .int .i64 9, .int .i64 10, .int .i64 11, .int .i64 12, .int .i64 13, .int .i64 14, .int .i64 15]
def opnX : List AV := [str [43], str [45], str [42], str [47], str [37], str [61, 61], str [33, 61], str [60], str [60, 61], str [62], str [62, 61]]
theorem opnsC (H : zC) : zAn 56 [] H (.mp opnK opnX) := by
 refine ACall.drop (R := fun x => x = .mp opnK opnX) ?_
 refine enter Tryz.func56 L56_ok (Nat.le_of_ble_eq_true rfl) ?_
 repeat' (simp -implicitDefEqProofs (disch := omega) only [L56, kEq, List.cons_append, List.nil_append, List.mem_cons, List.not_mem_nil, forall_eq_or_imp, false_implies, implies_true, Int.reduceBEq, Bool.and_false, and_true, true_and, push_cast])
 exact ⟨rfl, _, rfl⟩
theorem mget_snoc (k k' : Value) (x : AV) : ∀ (ks : List Value) (vs : List AV), ks.length = vs.length → mget k (ks ++ [k']) (vs ++ [x]) = match mget k ks vs with | some y => some y | none => if kEq k k' = true then some x else none
 | [], [], _ => by simp only [List.nil_append, mget]
 | a :: ks, b :: vs, h => by
  simp only [List.cons_append, mget]
  by_cases hk : kEq k a = true
  ·rw [if_pos hk, if_pos hk]
  ·rw [if_neg hk, if_neg hk]
   exact mget_snoc k k' x ks vs (by simpa using h)
 | [], b :: vs, h => by simp at h
 | a :: ks, [], h => by simp at h
def opFn (w : Int) (left : List Nat) (o : Int) : Option AV :=
 if o = 16 then some (.fn (.func 54) [] [.vp [int w] 0]) else if o = 17 then some (.fn (.func 55) [] [])
 else if 5 ≤ o ∧ o ≤ 15 ∧ ¬ (o - 5).toNat ∈ left then some (.fn (.func 57) [] [.vp [int w] 0, .vp [str (opS o)] 0]) else none
structure OpM (w : Int) (left : List Nat) (ks : List Value) (vs : List AV) : Prop where
 len : ks.length = vs.length
 key : ∀ k ∈ ks, ∃ i : Int, k = .int .i64 i ∧ (i = 16 ∨ i = 17 ∨ (5 ≤ i ∧ i ≤ 15 ∧ ¬ (i - 5).toNat ∈ left))
 get : ∀ o, mget (.int .i64 o) ks vs = opFn w left o
 cl : clL vs = true
theorem opn_at {i : Nat} (h : i < 11) : opnK.getD i default = .int .i64 (i + 5 : Nat) ∧ opnX.getD i .any = str (opS (i + 5 : Nat)) := by
 rcases (by omega : i = 0 ∨ i = 1 ∨ i = 2 ∨ i = 3 ∨ i = 4 ∨ i = 5 ∨ i = 6 ∨ i = 7 ∨ i = 8 ∨ i = 9 ∨ i = 10) with rfl | rfl | rfl | rfl | rfl | rfl | rfl | rfl | rfl | rfl | rfl <;> exact ⟨rfl, rfl⟩
theorem kEq_int (a b : Int) : kEq (.int .i64 a) (.int .i64 b) = decide (a = b) := by
 simp only [kEq, beq_self_eq_true, Bool.true_and]
 rw [Bool.eq_iff_iff]; simp
theorem clL_snoc : ∀ (l : List AV) (x : AV), clL l = true → x.cl = true → clL (l ++ [x]) = true
 | [], x, _, h => by simp [clL, h]
 | y :: l, x, h, hx => by
  simp only [clL, Bool.and_eq_true] at h
  simp only [List.cons_append, clL, Bool.and_eq_true]
  exact ⟨h.1, clL_snoc l x h.2 hx⟩
theorem OpM.step0 {w : Int} {left : List Nat} {ks : List Value} {vs : List AV} (h : OpM w left ks vs) {i : Nat} (hi : i < 11) (hl : i ∈ left) :
  OpM w (left.filter fun j => !decide (j = i)) (ks ++ [.int .i64 (i + 5 : Nat)]) (vs ++ [.fn (.func 57) [] [.vp [int w] 0, .vp [str (opS (i + 5 : Nat))] 0]]) where
 len := by simp [h.len]
 key := by
  intro k hk
  rcases List.mem_append.1 hk with hk | hk
  ·obtain ⟨j, rfl, hj⟩ := h.key k hk
   refine ⟨j, rfl, ?_⟩
   rcases hj with hj | hj | ⟨h1, h2, h3⟩
   ·exact .inl hj
   ·exact .inr (.inl hj)
   ·exact .inr (.inr ⟨h1, h2, fun hh => h3 (List.mem_filter.1 hh).1⟩)
  ·rw [List.mem_singleton] at hk
   subst hk
   refine ⟨_, rfl, .inr (.inr ⟨by omega, by omega, fun hh => ?_⟩)⟩
   have := (List.mem_filter.1 hh).2
   simp only [Bool.not_eq_true', decide_eq_false_iff_not] at this
   omega
 get := by
  intro o
  rw [mget_snoc _ _ _ _ _ h.len, h.get o, kEq_int]
  unfold opFn
  by_cases h16 : o = 16
  ·rw [if_pos h16, if_pos h16]
  rw [if_neg h16, if_neg h16]
  by_cases h17 : o = 17
  ·rw [if_pos h17, if_pos h17]
  rw [if_neg h17, if_neg h17]
  by_cases hin : 5 ≤ o ∧ o ≤ 15 ∧ ¬ (o - 5).toNat ∈ left
  ·rw [if_pos hin, if_pos (show 5 ≤ o ∧ o ≤ 15 ∧ ¬ (o - 5).toNat ∈ left.filter fun j => !decide (j = i) from ⟨hin.1, hin.2.1, fun hh => hin.2.2 (List.mem_filter.1 hh).1⟩)]
  ·rw [if_neg hin]
   by_cases ho : o = (i + 5 : Nat)
   ·subst ho
    have hno : ¬ (((i + 5 : Nat) : Int) - 5).toNat ∈ left.filter fun j => !decide (j = i) := fun hh => by
     have := (List.mem_filter.1 hh).2
     simp only [Bool.not_eq_true', decide_eq_false_iff_not] at this
     omega
    have hyes : (5 : Int) ≤ (i + 5 : Nat) ∧ ((i + 5 : Nat) : Int) ≤ 15 ∧ ¬ (((i + 5 : Nat) : Int) - 5).toNat ∈ left.filter fun j => !decide (j = i) := ⟨by omega, by omega, hno⟩
    rw [decide_eq_true rfl, if_pos hyes]
    rfl
   ·have hno : ¬ (5 ≤ o ∧ o ≤ 15 ∧ ¬ (o - 5).toNat ∈ left.filter fun j => !decide (j = i)) := fun hh => hin ⟨hh.1, hh.2.1, fun hm => hh.2.2 (List.mem_filter.2 ⟨hm, by
     simp only [Bool.not_eq_true', decide_eq_false_iff_not]
     omega⟩)⟩
    rw [decide_eq_false ho, if_neg hno]
    simp
 cl := clL_snoc _ _ h.cl (by simp [AV.cl, clL])
theorem OpM.step {w : Int} {left : List Nat} {ks : List Value} {vs : List AV} (h : OpM w left ks vs) {i : Nat} (hi : i < 11) (hl : i ∈ left) {o : Int} (ho : o = (i + 5 : Nat)) :
  OpM w (left.filter fun j => !decide (j = i)) (ks ++ [.int .i64 o]) (vs ++ [.fn (.func 57) [] [.vp [int w] 0, .vp [str (opS o)] 0]]) := by
 subst ho; exact h.step0 hi hl
theorem OpM.start (w : Int) : OpM w (List.range 11) [.int .i64 16, .int .i64 17] [.fn (.func 54) [] [.vp [int w] 0], .fn (.func 55) [] []] where
 len := rfl
 key := by
  intro k hk
  simp only [List.mem_cons, List.not_mem_nil, or_false] at hk
  rcases hk with rfl | rfl
  ·exact ⟨16, rfl, .inl rfl⟩
  ·exact ⟨17, rfl, .inr (.inl rfl)⟩
 get := by
  intro o
  simp only [mget, kEq_int, decide_eq_true_eq, opFn]
  by_cases h16 : o = 16
  ·rw [if_pos h16, if_pos h16]
  rw [if_neg h16, if_neg h16]
  by_cases h17 : o = 17
  ·rw [if_pos h17, if_pos h17]
  rw [if_neg h17, if_neg h17, if_neg]
  rintro ⟨h1, h2, h3⟩
  exact h3 (List.mem_range.2 (by omega))
 cl := by simp [AV.cl, clL]
theorem OpM.cmp {w : Int} {left : List Nat} {ks : List Value} {vs : List AV} (h : OpM w left ks vs) (o : Int) : ∀ k' ∈ ks, kCmp (.int .i64 o) k' = true := by
 intro k hk
 obtain ⟨i, rfl, _⟩ := h.key k hk
 rfl
theorem OpM.new {w : Int} {left : List Nat} {ks : List Value} {vs : List AV} (h : OpM w left ks vs) {i : Nat} (hi : i < 11) (hl : i ∈ left) {o : Int} (ho : o = (i + 5 : Nat)) : ∀ k' ∈ ks, kCmp (.int .i64 o) k' = true ∧ kEq (.int .i64 o) k' = false := by
 subst ho
 intro k hk
 obtain ⟨j, rfl, hj⟩ := h.key k hk
 refine ⟨rfl, ?_⟩
 rw [kEq_int, decide_eq_false]
 rintro rfl
 rcases hj with hj | hj | ⟨_, _, h3⟩
 ·omega
 ·omega
 ·exact h3 (by rwa [show ((i + 5 : Nat) - 5 : Int).toNat = i by omega])
theorem zCl {G : zC} (a : Nat) (x y : HO) : (G.set a x ++ [y])[G.length]? = some y := by
 rw [List.getElem?_append_right (by simp)]; simp
theorem zCU {G : zC} (a : Nat) (x y z : HO) : (G.set a x ++ [y]).set G.length z = G.set a x ++ [z] := by
 have := List.set_append_right (s := G.set a x) (t := [y]) G.length z (by simp)
 rw [this]; simp
theorem zBr (w : Int) (H : zC) : ACall Tryz.prog 26 [int w] H fun x H' => (∃ ks vs, x = .mp ks vs ∧ OpM w [] ks vs) ∧ H' = H := by
 refine ACall.drop (R := fun x => ∃ ks vs, x = .mp ks vs ∧ OpM w [] ks vs) ?_
 refine enter Tryz.func26 L26z_ok (Nat.le_of_ble_eq_true rfl) ?_
 repeat' (first | refine zA (opnsC _) ?_ | simp -implicitDefEqProofs (disch := omega) only [L26z, zE, kEq, List.mem_cons, List.not_mem_nil, false_implies, implies_true, Int.reduceBEq, Bool.and_false, and_true, true_and, push_cast, simprocAttr, ↓reduceIte, Bool.and_self])
 refine zAf (fun (st : List Nat × List Value × List AV × zC) e' G => e' 1 = .vp [int w] 0 ∧ e' 3 = .om H.length 0 ∧ e' 10 = .ptr (H.length + 1) 0 0 ∧ G = st.2.2.2 ∧ H.length + 2 ≤ G.length ∧ (∀ i, i < H.length → G[i]? = H[i]?) ∧ G[H.length]? = some (.map 0 st.2.1 st.2.2.1) ∧ (∃ cur, G[H.length + 1]? = some (.mit opnK opnX st.1 cur)) ∧ OpM w st.1 st.2.1 st.2.2.1 ∧ ∀ i ∈ st.1, i < 11)
  (fun st => st.1.length) (List.range 11, [.int .i64 16, .int .i64 17], [.fn (.func 54) [] [.vp [int w] 0], .fn (.func 55) [] []], H ++ [.map 0 [.int .i64 16, .int .i64 17] [.fn (.func 54) [] [.vp [int w] 0], .fn (.func 55) [] []], .mit opnK opnX (List.range opnK.length) none]) ?_ ?_
 ·exact ⟨rfl, rfl, rfl, rfl, by simp, fun i hi => List.getElem?_append_left hi, by simp, ⟨none, by simp [zAe]; rfl⟩, OpM.start w, fun i hi => List.mem_range.1 hi⟩
 rintro ⟨left, ks, vs, _⟩ e' G ⟨h1, h3, h10, rfl, gl, fr, g0, ⟨cur, g1⟩, hm, hin⟩
 simp only at gl fr g0 g1 hm hin
 repeat' (simp -implicitDefEqProofs (disch := omega) only [h10, push_cast])
 refine nextK_of g1 (fun hl => ?_) fun i hi => ?_
 ·subst hl
  repeat' (simp -implicitDefEqProofs (disch := omega) only [h3, g0, push_cast, simprocAttr, ↓reduceIte])
  obtain ⟨rest, hrest⟩ := zBv (H := H) (G := G.set H.length .dead) (by simp; omega) fun i hi => by rw [List.getElem?_set_ne (by omega), fr i hi]
  have hcl := hm.cl
  exact ⟨⟨ks, vs, rfl, hm⟩, rest, hrest⟩
 ·have hi11 := hin i hi
  obtain ⟨o, ho, k1, x1⟩ : ∃ o : Int, o = (i + 5 : Nat) ∧ opnK.getD i default = .int .i64 o ∧ opnX.getD i .any = str (opS o) := ⟨_, rfl, opn_at hi11⟩
  rw [k1, x1]
  have h11 : opnK.length = 11 := rfl
  have hn := hm.new hi11 hi ho
  repeat' (first | refine And.intro (by omega) ?_ | simp -implicitDefEqProofs (disch := omega) only [h1, h3, h10, zG, zK, zAq, zT, zCl, zCU, h11, k1, x1, g0, splice, push_cast, simprocAttr, ↓reduceIte, Bool.and_self])
  refine .mk (left.filter fun j => !decide (j = i), ks ++ [.int .i64 o], _, _) ⟨h1, h3, h10, rfl, by simp; omega, fun i hi => ?_, ?_, ⟨some i, ?_⟩, hm.step hi11 hi ho, fun j hj => hin j (List.mem_filter.1 hj).1⟩ ?_
  ·rw [List.getElem?_append_left (by simp; omega), List.getElem?_set_ne (by omega), List.getElem?_set_ne (by omega), fr i hi]
  ·rw [List.getElem?_append_left (by simp; omega), List.getElem?_set_self (by simp; omega)]
  ·rw [List.getElem?_append_left (by simp; omega), List.getElem?_set_ne (by omega), List.getElem?_set_self (by omega)]
  ·show (left.filter _).length < left.length
   exact List.length_filter_lt_length_iff_exists.2 ⟨i, hi, by simp⟩
mutual
def stpR : Ins → Int → List AV
 | .mk o a b l m, n => [int o, int a, int b, .sl 5 (l.map zAs), .sl 5 (m.map zAs), int n, .sl 8 (zBF l (n + 1)), .sl 8 (zBF m (n + 1 + zL l))]
def zBF : List Ins → Int → List (List AV)
 | [], _ => []
 | x :: l, n => stpR x n :: zBF l (n + zBu x)
end
theorem stpR_eq (x : Ins) (n : Int) : stpR x n = [int x.op, int x.a, int x.b, .sl 5 (x.body.map zAs), .sl 5 (x.els.map zAs), int n, .sl 8 (zBF x.body (n + 1)), .sl 8 (zBF x.els (n + 1 + zL x.body))] := by
 cases x; simp only [stpR]; rfl
theorem stpsR_len : ∀ (l : List Ins) (n : Int), (zBF l n).length = l.length
 | [], _ => rfl
 | x :: l, n => by simp only [zBF, List.length_cons, stpsR_len l]
theorem stpsR_append : ∀ (a b : List Ins) (n : Int), zBF (a ++ b) n = zBF a n ++ zBF b (n + zL a)
 | [], b, n => by simp [zBF, zL]
 | x :: a, b, n => by
  simp only [List.cons_append, zBF, stpsR_append a b, zL]
  congr 3
  omega
theorem stpsR_snoc {l : List Ins} {j : Nat} (h : j < l.length) (n : Int) : zBF (l.take (j + 1)) n = zBF (l.take j) n ++ [stpR (l.getD j default) (n + zL (l.take j))] := by
 rw [zCx h, stpsR_append]; simp [zBF]
theorem stpsR_getD : ∀ {l : List Ins} {j : Nat} (h : j < l.length) (n : Int), (zBF l n).getD j [] = stpR (l.getD j default) (n + zL (l.take j))
 | x :: l, 0, h, n => by simp [zBF, zL]
 | x :: l, j + 1, h, n => by
  simp only [zBF, List.getD_cons_succ, List.take_succ_cons, zL]
  rw [stpsR_getD (by simpa using h)]
  congr 1
  omega
theorem stp_len (x : Ins) (n : Int) : (stpR x n).length = 8 := by rw [stpR_eq]; rfl
theorem stp_take (x : Ins) (n : Int) : (stpR x n).take 8 = stpR x n := by rw [stpR_eq]; rfl
theorem stp_c1s (x : Ins) (n : Int) : c1s (stpR x n) = true := by rw [stpR_eq]; rfl
theorem numberC (l : List Ins) : zL l ≤ 32768 → ∀ (n : Int), 0 ≤ n → n + zL l ≤ 32768 → ∀ H, zAn 72 [.sl 5 (l.map zAs), int n] H (.tup [.sl 8 (zBF l n), int (n + zL l)]) := by
 induction l using Ins.indL with
 | h l ih =>
 intro hs n hn0 hn1 H
 have hln := zP l
 refine ACall.drop (R := fun x => x = .tup [.sl 8 (zBF l n), int (n + zL l)]) ?_
 refine enter Tryz.func72 L72_ok (Nat.le_of_ble_eq_true rfl) ?_
 repeat' (simp -implicitDefEqProofs (disch := omega) only [L72, List.length_map, push_cast, simprocAttr, ↓reduceIte])
 refine zAf (fun (st : Nat × Nat × zC) e' G => e' 1 = int (n + zL (l.take st.1)) ∧ e' 6 = .os H.length st.2.1 0 st.1 ∧ e' 10 = .sl 5 (l.map zAs) ∧ e' 11 = int l.length ∧ e' 12 = int st.1 ∧ G = st.2.2 ∧ H.length + 1 ≤ G.length ∧ (∀ i, i < H.length → G[i]? = H[i]?) ∧ G[H.length]? = some (.arr st.2.1 8 (zBF (l.take st.1) n)) ∧ st.1 ≤ l.length) (fun st => l.length - st.1) (0, 0, H ++ [.arr 0 8 []]) ?_ ?_
 ·exact ⟨intc rfl (by simp [zL]), rfl, rfl, rfl, rfl, rfl, by simp, fun i hi => List.getElem?_append_left hi, by simp [zBF], Nat.zero_le _⟩
 rintro ⟨j, v, _⟩ e' G ⟨h1, h6, h10, h11, h12, rfl, gl, fr, g0, hj⟩
 simp only at h1 h6 h12 gl fr g0 hj
 have hsl : (zBF (l.take j) n).length = j := by rw [stpsR_len, List.length_take]; omega
 have htk : (zBF (l.take j) n).take j = zBF (l.take j) n := List.take_of_length_le (by omega)
 by_cases hlt : j < l.length
 ·have hmem := zAr hlt
  obtain ⟨c1, c2⟩ := ih _ hmem
  have hb := zAj l (j + 1)
  have hsn := zAd hlt
  rw [hsn, zCD] at hb
  have hrow : (l.map zAs).getD j [] = zAs (l.getD j default) := zS hlt
  have hsnoc := stpsR_snoc hlt n
  rw [stpR_eq] at hsnoc
  have d1 := fun H => c1 (by omega) (n + zL (l.take j) + 1) (by omega) (by omega) H
  have d2 := fun H => c2 (by omega) (n + zL (l.take j) + 1 + zL (l.getD j default).body) (by omega) (by omega) H
  rw [zCD] at hsn
  generalize hx : l.getD j default = x at *
  obtain ⟨o, a, b, bd, el⟩ := x
  simp only [Ins.body, Ins.els, Ins.op, Ins.a, Ins.b] at *
  have hi5 : zAs (.mk o a b bd el) = [int o, int a, int b, .sl 5 (bd.map zAs), .sl 5 (el.map zAs)] := by rw [insR_eq]; rfl
  repeat' (first | refine And.intro (by omega) ?_ | refine zA (d1 _) ?_ | refine zA (d2 _) ?_ | simp -implicitDefEqProofs (disch := omega) only [h1, h6, h10, h11, h12, g0, hrow, hi5, hsl, htk, zB, zJ, rBuild, fillA, zW, splice, zAe, zE, List.drop_succ_cons, List.drop_zero, List.length_map, zM, push_cast, simprocAttr, ↓reduceIte, Bool.and_self])
  refine .mk (j + 1, v + 1, _) ⟨intc rfl (by dsimp only <;> omega), rfl, h10, h11, rfl, rfl, by simp; omega, fun i hi => ?_, ?_, hlt⟩ (by dsimp only; omega)
  ·rw [List.getElem?_append_left (by simp; omega), List.getElem?_set_ne (by omega), fr i hi]
  ·rw [List.getElem?_append_left (by simp; omega), List.getElem?_set_self (by omega), hsnoc]
 ·have e : j = l.length := by omega
  subst e
  rw [List.take_length] at *
  repeat' (first | refine And.intro (by omega) ?_ | simp -implicitDefEqProofs (disch := omega) only [h1, h6, h11, h12, g0, hsl, htk, zR, push_cast, ↓reduceIte, Nat.reduceEqDiff, Bool.and_self])
  obtain ⟨rest, hrest⟩ := zBv (H := H) (G := G.set H.length .dead) (by simp; omega) fun i hi => by rw [List.getElem?_set_ne (by omega), fr i hi]
  exact ⟨rest, hrest⟩
section
variable {w a b o x : Int} {G : zC} {r ver n N : Nat} {rows : List (List AV)}
theorem negOp (hw : wOk w) (hx : inI w x) (hg : G[r]? = some (.arr ver 1 rows)) (hN : N = n + 1) (hn : N ≤ rows.length) (hnn : rows.length ≤ 9223372036854775807) (hr : rows.getD n [] = [int x]) :
  zAn 54 [.os r ver 0 N, .vp [int w] 0] G (.tup [.os r ver 0 n, int (wrF w (-x)), int 0]) := by
 have hb := (zCS hw x).1 hx
 have hp := hf_pos hw
 have hi : zCT (-x) := by unfold zCT; omega
 have h1 : ((N : Int) - 1).toNat = n := by omega
 have h2 : 0 - x = -x := by omega
 refine enter Tryz.func54 L54_ok (Nat.le_of_ble_eq_true rfl) ?_
 repeat' (first | refine And.intro (by omega) ?_ | refine zN (wrapC w (-x) hi _) rfl ?_ | simp -implicitDefEqProofs (disch := omega) only [L54, h1, h2, Nat.zero_add, Nat.sub_zero, hg, hr, push_cast, simprocAttr, ↓reduceIte])
theorem notOp (hg : G[r]? = some (.arr ver 1 rows)) (hN : N = n + 1) (hn : N ≤ rows.length) (hnn : rows.length ≤ 9223372036854775807) (hr : rows.getD n [] = [int x]) :
  zAn 55 [.os r ver 0 N] G (.tup [.os r ver 0 n, int (if x = 0 then 1 else 0), int 0]) := by
 have h1 : ((N : Int) - 1).toNat = n := by omega
 refine enter Tryz.func55 L55_ok (Nat.le_of_ble_eq_true rfl) ?_
 by_cases hx : x = 0
 ·rw [if_pos hx]
  repeat' (first | refine And.intro (by omega) ?_ | simp -implicitDefEqProofs (disch := omega) only [L55, h1, Nat.zero_add, Nat.sub_zero, hg, hr, zAi, push_cast, simprocAttr, ↓reduceIte])
  all_goals omega
 ·rw [if_neg hx]
  repeat' (first | refine And.intro (by omega) ?_ | simp -implicitDefEqProofs (disch := omega) only [L55, h1, Nat.zero_add, Nat.sub_zero, hg, hr, zX, push_cast, simprocAttr, ↓reduceIte])
  all_goals omega
theorem binOp (hw : wOk w) (h5 : 5 ≤ o) (h15 : o ≤ 15) (ha : inI w a) (hb : inI w b) (hg : G[r]? = some (.arr ver 1 rows)) (hN : N = n + 2) (hn : N ≤ rows.length) (hnn : rows.length ≤ 9223372036854775807) (hra : rows.getD n [] = [int a]) (hrb : rows.getD (n + 1) [] = [int b]) :
  zAn 57 [.os r ver 0 N, .vp [int w] 0, .vp [str (opS o)] 0] G (.tup [.os r ver 0 n, int (binO o w a b).1, int (binO o w a b).2]) := by
 have h1 : ((N : Int) - 2).toNat = n := by omega
 have h2 : ((N : Int) - 2 + 1).toNat = n + 1 := by omega
 refine enter Tryz.func57 L57_ok (Nat.le_of_ble_eq_true rfl) ?_
 have hB := fun H => binC hw h5 h15 ha hb H
 simp only [binA] at hB
 repeat' (first | refine And.intro (by omega) ?_ | refine zN (hB _) rfl ?_ | simp -implicitDefEqProofs (disch := omega) only [L57, h1, h2, Nat.zero_add, Nat.sub_zero, hg, hra, hrb, push_cast, simprocAttr, ↓reduceIte])
 all_goals omega
theorem isIntM (w n : Int) (H : zC) : zAn 30 [int w, int n] H (bool (decide (inI w n))) := by
 refine enter Tryz.func30 L30_ok (Nat.le_of_ble_eq_true rfl) ?_
 by_cases h1 : leF w ≤ n
 ·by_cases h2 : n ≤ grF w
  ·rw [show decide (inI w n) = true from decide_eq_true ⟨h1, h2⟩]
   repeat' (first | refine zA (leastC _ _) ?_ | refine zA (greatestC _ _) ?_ | simp -implicitDefEqProofs (disch := omega) only [L30, zAa, push_cast, simprocAttr, ↓reduceIte])
  ·rw [show decide (inI w n) = false from decide_eq_false fun h => h2 h.2]
   repeat' (first | refine zA (leastC _ _) ?_ | refine zA (greatestC _ _) ?_ | simp -implicitDefEqProofs (disch := omega) only [L30, zAa, zAo, push_cast, simprocAttr, ↓reduceIte])
 ·rw [show decide (inI w n) = false from decide_eq_false fun h => h1 h.1]
  repeat' (first | refine zA (leastC _ _) ?_ | simp -implicitDefEqProofs (disch := omega) only [L30, zAo, push_cast, simprocAttr, ↓reduceIte])
theorem apply1C (w n : Int) (r : Nat) (H : zC) (hg : H[r]? = some (.box [int w])) : zAn 29 [int n, .ptr r 0 0] H (bool (!decide (inI w n))) := by
 refine enter Tryz.func29 L29_ok (Nat.le_of_ble_eq_true rfl) ?_
 repeat' (first | refine zA (isIntM _ _ _) ?_ | simp -implicitDefEqProofs (disch := omega) only [L29, hg, push_cast, simprocAttr, ↓reduceIte])
theorem popsC (o : Int) (H : zC) : zAn 27 [int o] H (int (if o = 16 ∨ o = 17 then 1 else 2)) := by
 refine enter Tryz.func27 L27_ok (Nat.le_of_ble_eq_true rfl) ?_
 by_cases h1 : o = 16
 ·rw [if_pos (.inl h1)]
  repeat' (simp -implicitDefEqProofs (disch := omega) only [L27, zAi, push_cast, simprocAttr, ↓reduceIte])
 ·by_cases h2 : o = 17
  ·rw [if_pos (.inr h2)]
   repeat' (simp -implicitDefEqProofs (disch := omega) only [L27, zAi, zX, push_cast, simprocAttr, ↓reduceIte])
  ·rw [if_neg (by omega)]
   repeat' (simp -implicitDefEqProofs (disch := omega) only [L27, zX, push_cast, simprocAttr, ↓reduceIte])
end
theorem idxIntC (l : List Int) (hl : l.length ≤ 9223372036854775807) (f : FuncId) (caps : List AV) (p : Int → Bool) (H : zC) (hp : ∀ n, zAn f (int n :: caps) H (bool (p n))) : zAn 58 [.sl 1 (l.map iR), .fn (.func f) [] caps] H (int (idxI (l.findIdx? p))) := by
 refine enter Tryz.func58 L58_ok (Nat.le_of_ble_eq_true rfl) ?_
 repeat' (simp -implicitDefEqProofs (disch := omega) only [L58, push_cast, simprocAttr, ↓reduceIte])
 refine zAf (fun (j : Nat) e' H' => e' 0 = .sl 1 (l.map iR) ∧ e' 1 = .fn (.func f) [] caps ∧ e' 7 = int l.length ∧ e' 8 = int j ∧ H = H' ∧ j ≤ l.length ∧ ∀ i, i < j → p (l.getD i default) = false) (fun j => l.length - j) 0 ?_ ?_
 ·exact ⟨rfl, rfl, rfl, rfl, rfl, Nat.zero_le _, by simp⟩
 rintro j e' H' ⟨h0, h1, h7, h8, rfl, hj, hb⟩
 by_cases hlt : j < l.length
 ·have hc1 := hp (l.getD j default)
  have hor : (l.map iR).getD j [] = [int (l.getD j default)] := zS hlt
  cases hin : p (l.getD j default)
  ·rw [hin] at hc1
   repeat' (first | refine And.intro (by omega) ?_ | refine zA (hc1) ?_ | simp -implicitDefEqProofs (disch := omega) only [h0, h1, h7, h8, hor, zM, push_cast, simprocAttr, ↓reduceIte])
   exact .mk (j + 1) ⟨h0, h1, h7, rfl, rfl, hlt, zBq hb hin⟩ (by omega)
  ·rw [hin] at hc1
   repeat' (first | refine And.intro (by omega) ?_ | refine zA (hc1) ?_ | simp -implicitDefEqProofs (disch := omega) only [h0, h1, h7, h8, hor, zM, push_cast, simprocAttr, ↓reduceIte])
   rw [find_some hlt hin hb]
   rfl
 ·rw [find_none fun i hi => hb i (by omega)]
  repeat' (simp -implicitDefEqProofs (disch := omega) only [h7, h8, zR, push_cast, ↓reduceIte, Int.reduceNeg])
  rfl
theorem hasIntC (l : List Int) (hl : l.length ≤ 9223372036854775806) (f : FuncId) (caps : List AV) (p : Int → Bool) (H : zC) (hp : ∀ n, zAn f (int n :: caps) H (bool (p n))) : zAn 28 [.sl 1 (l.map iR), .fn (.func f) [] caps] H (bool (l.any p)) := by
 refine enter Tryz.func28 L28_ok (Nat.le_of_ble_eq_true rfl) ?_
 have hi : l.any p = decide (0 ≤ idxI (l.findIdx? p)) := by
  cases h : l.findIdx? p with
  | none =>
   rw [List.findIdx?_eq_none_iff] at h
   refine (?_ : _ = false).trans (show false = decide (0 ≤ idxI none) from rfl)
   rw [List.any_eq_false]
   intro x hx
   rw [h x hx]; decide
  | some i =>
   refine (?_ : _ = true).trans (decide_eq_true (show 0 ≤ idxI (some i) by simp only [idxI]; omega)).symm
   rw [List.any_eq_true]
   obtain ⟨h1, h2, _⟩ := List.findIdx?_eq_some_iff_getElem.1 h
   exact ⟨_, List.getElem_mem h1, h2⟩
 rw [hi]
 have hb : -1 ≤ idxI (l.findIdx? p) ∧ idxI (l.findIdx? p) ≤ 9223372036854775807 := by
  cases h : l.findIdx? p with
  | none => simp only [idxI]; omega
  | some i =>
   have := (List.findIdx?_eq_some_iff_getElem.1 h).1
   simp only [idxI]; omega
 repeat' (first | refine zA (idxIntC l (by omega) f caps p H hp) ?_ | simp -implicitDefEqProofs (disch := omega) only [L28, push_cast, simprocAttr, ↓reduceIte])
theorem cloneS (rows : List (List AV)) (h0 : 0 < rows.length) (hl : rows.length ≤ 1048576) (H : zC) : ACall Tryz.prog 31 [.sl 1 rows] H fun y H' => y = .os H.length 1 0 rows.length ∧ H' = H ++ [.arr 1 1 rows] := by
 refine enter Tryz.func31 L31_ok (Nat.le_of_ble_eq_true rfl) ?_
 repeat' (simp -implicitDefEqProofs (disch := omega) only [L31, push_cast, simprocAttr, ↓reduceIte])
 refine ⟨trivial, fun b hb => ?_⟩
 cases b with
 | true =>
  have h1 : rows = [] := hb rfl
  rw [h1] at h0
  simp at h0
 | false =>
  repeat' (first | refine And.intro (by omega) ?_ | simp -implicitDefEqProofs (disch := omega) only [zE, List.nil_append, Nat.zero_add, push_cast, simprocAttr, ↓reduceIte])
  all_goals omega
def opF (w o : Int) (l : List Int) : List Int × Int :=
 if o = 16 then (l.take (l.length - 1) ++ [wrF w (-l.getD (l.length - 1) default)], 0)
 else if o = 17 then (l.take (l.length - 1) ++ [if l.getD (l.length - 1) default = 0 then 1 else 0], 0)
 else if (binO o w (l.getD (l.length - 2) default) (l.getD (l.length - 1) default)).2 = 0 then (l.take (l.length - 2) ++ [(binO o w (l.getD (l.length - 2) default) (l.getD (l.length - 1) default)).1], 0)
 else (l.take (l.length - 2), (binO o w (l.getD (l.length - 2) default) (l.getD (l.length - 1) default)).2)
def zBs (o : Int) : Nat := if o = 16 ∨ o = 17 then 1 else 2
def applyA (w o : Int) (l : List Int) : AV :=
 if ¬ wOk w then .tup [zAp, int 0, int 2] else if o < 5 ∨ 17 < o then .tup [zAp, int 0, int 1] else if l.length < zBs o then .tup [zAp, int 0, int 9]
 else if (l.drop (l.length - zBs o)).any (fun x => !decide (inI w x)) = true then .tup [zAp, int 0, int 2] else .tup [.sl 1 ((opF w o l).1.map iR), int (opF w o l).2, int 0]
theorem applyA_1 {w o : Int} {l : List Int} (h : ¬ wOk w) : applyA w o l = .tup [zAp, int 0, int 2] := if_pos h
theorem applyA_2 {w o : Int} {l : List Int} (h : wOk w) (h2 : o < 5 ∨ 17 < o) : applyA w o l = .tup [zAp, int 0, int 1] := by unfold applyA; rw [if_neg (not_not_intro h), if_pos h2]
theorem applyA_3 {w o : Int} {l : List Int} (h : wOk w) (h2 : ¬ (o < 5 ∨ 17 < o)) (h3 : l.length < zBs o) : applyA w o l = .tup [zAp, int 0, int 9] := by unfold applyA; rw [if_neg (not_not_intro h), if_neg h2, if_pos h3]
theorem applyA_4 {w o : Int} {l : List Int} (h : wOk w) (h2 : ¬ (o < 5 ∨ 17 < o)) (h3 : ¬ l.length < zBs o) (h4 : (l.drop (l.length - zBs o)).any (fun x => !decide (inI w x)) = true) : applyA w o l = .tup [zAp, int 0, int 2] := by unfold applyA; rw [if_neg (not_not_intro h), if_neg h2, if_neg h3, if_pos h4]
theorem applyA_5 {w o : Int} {l : List Int} (h : wOk w) (h2 : ¬ (o < 5 ∨ 17 < o)) (h3 : ¬ l.length < zBs o) (h4 : ¬ (l.drop (l.length - zBs o)).any (fun x => !decide (inI w x)) = true) : applyA w o l = .tup [.sl 1 ((opF w o l).1.map iR), int (opF w o l).2, int 0] := by unfold applyA; rw [if_neg (not_not_intro h), if_neg h2, if_neg h3, if_neg h4]
theorem applyC (w o : Int) (l : List Int) (hl : l.length ≤ 1048576) (H : zC) : zAn 9 [int w, int o, .sl 1 (l.map iR)] H (applyA w o l) := by
 refine ACall.drop (R := fun x => x = applyA w o l) ?_
 refine enter Tryz.func9 L9_ok (Nat.le_of_ble_eq_true rfl) ?_
 by_cases hw : wOk w
 ·have hw' := hw
  unfold wOk at hw'
  have hf : ∀ ks vs, OpM w [] ks vs → (∀ k' ∈ ks, kCmp (.int .i64 o) k' = true) = True := fun ks vs hm => by simp only [eq_iff_iff, iff_true]; exact hm.cmp o
  by_cases ho : o < 5 ∨ 17 < o
  ·rw [applyA_2 hw ho]
   repeat' (simp -implicitDefEqProofs (disch := omega) only [L9, zR, push_cast, simprocAttr, ↓reduceIte, Bool.and_self])
   refine zV (zBr w _) ?_
   rintro _ H' ⟨⟨ks, vs, rfl, hm⟩, rfl⟩
   have hcm := hf ks vs hm
   have hge := hm.get o
   unfold opFn at hge
   rw [if_neg (by omega), if_neg (by omega), if_neg (by omega)] at hge
   repeat' (simp -implicitDefEqProofs (disch := omega) only [hcm, hge, push_cast, simprocAttr, ↓reduceIte, Bool.and_self])
   exact ⟨_, rfl⟩
  by_cases h3 : l.length < zBs o
  ·rw [applyA_3 hw ho h3]
   have hne : (zBs o : Int) = if o = 16 ∨ o = 17 then 1 else 2 := by unfold zBs; split <;> rfl
   have hn2 : zBs o ≤ 2 := by unfold zBs; split <;> omega
   have cP := fun H => popsC o H
   rw [← hne] at cP
   obtain ⟨f, hfn⟩ : ∃ f, opFn w [] o = some f := by
    unfold opFn
    by_cases h16 : o = 16
    ·rw [if_pos h16]; exact ⟨_, rfl⟩
    ·rw [if_neg h16]
     by_cases h17 : o = 17
     ·rw [if_pos h17]; exact ⟨_, rfl⟩
     ·rw [if_neg h17, if_pos ⟨by omega, by omega, by simp⟩]; exact ⟨_, rfl⟩
   repeat' (simp -implicitDefEqProofs (disch := omega) only [L9, zR, push_cast, simprocAttr, ↓reduceIte, Bool.and_self])
   refine zV (zBr w _) ?_
   rintro _ H' ⟨⟨ks, vs, rfl, hm⟩, rfl⟩
   have hcm := hf ks vs hm
   have hge := (hm.get o).trans hfn
   repeat' (first | refine zA (cP _) ?_ | simp -implicitDefEqProofs (disch := omega) only [hcm, hge, zM, push_cast, simprocAttr, ↓reduceIte, Bool.and_self])
   exact ⟨_, rfl⟩
  have hne : (zBs o : Int) = if o = 16 ∨ o = 17 then 1 else 2 := by unfold zBs; split <;> rfl
  have hn2 : 1 ≤ zBs o ∧ zBs o ≤ 2 := by unfold zBs; split <;> omega
  have cP := fun H => popsC o H
  rw [← hne] at cP
  have hlc : (((l.map iR).drop (l.length - zBs o)).take (l.length - (l.length - zBs o))) = (l.drop (l.length - zBs o)).map iR := by rw [← List.map_drop, List.take_of_length_le (by simp)]
  have hix : ((l.length : Int) - zBs o).toNat = l.length - zBs o := by omega
  have cH : ∀ (r : Nat) (G : zC), G[r]? = some (.box [int w]) → zAn 28 [.sl 1 ((l.drop (l.length - zBs o)).map iR), .fn (.func 29) [] [.ptr r 0 0]] G (bool ((l.drop (l.length - zBs o)).any fun x => !decide (inI w x))) := fun r G hr => by
   exact hasIntC _ (by simp; omega) _ _ _ G fun n => apply1C w n r G hr
  by_cases h4 : (l.drop (l.length - zBs o)).any (fun x => !decide (inI w x)) = true
  ·rw [applyA_4 hw ho h3 h4]
   rw [h4] at cH
   obtain ⟨f, hfn⟩ : ∃ f, opFn w [] o = some f := by
    unfold opFn
    by_cases h16 : o = 16
    ·rw [if_pos h16]; exact ⟨_, rfl⟩
    ·rw [if_neg h16]
     by_cases h17 : o = 17
     ·rw [if_pos h17]; exact ⟨_, rfl⟩
     ·rw [if_neg h17, if_pos ⟨by omega, by omega, by simp⟩]; exact ⟨_, rfl⟩
   repeat' (simp -implicitDefEqProofs (disch := omega) only [L9, zR, push_cast, simprocAttr, ↓reduceIte, Bool.and_self])
   refine zV (zBr w _) ?_
   rintro _ H' ⟨⟨ks, vs, rfl, hm⟩, rfl⟩
   have hcm := hf ks vs hm
   have hge := (hm.get o).trans hfn
   repeat' (first | refine And.intro (by omega) ?_ | refine zA (cP _) ?_ | refine zA (cH _ _ (by simp)) ?_ | simp -implicitDefEqProofs (disch := omega) only [hcm, hge, hix, hlc, List.length_map, zR, push_cast, simprocAttr, ↓reduceIte, Bool.and_self])
   exact ⟨_, rfl⟩
  ·rw [applyA_5 hw ho h3 h4]
   rw [Bool.not_eq_true] at h4
   rw [h4] at cH
   rw [List.any_eq_false] at h4
   have hin : ∀ x ∈ l.drop (l.length - zBs o), inI w x := fun x hx => by
    have := h4 x hx
    simpa using this
   have hmem : ∀ i, l.length - zBs o ≤ i → i < l.length → inI w (l.getD i default) := fun i h1 h2 => hin _ (by
    have e : l.getD i default = (l.drop (l.length - zBs o)).getD (i - (l.length - zBs o)) default := by
     simp only [List.getD_eq_getElem?_getD, List.getElem?_drop]
     congr 2
     omega
    rw [e]
    exact zAr (by simp; omega))
   have ht1 : ∀ k, k ≤ l.length → ((l.map iR).take k).length = k := fun k hk => by simp; omega
   have ht2 : ∀ k, k ≤ l.length → ∀ y : List AV, ((l.map iR).take k ++ [y]).take (k + 1) = (l.map iR).take k ++ [y] := fun k hk y => List.take_of_length_le (by simp; omega)
   by_cases h16 : o = 16
   ·have hnd : zBs o = 1 := by unfold zBs; rw [if_pos (.inl h16)]
    have hfn : opFn w [] o = some (.fn (.func 54) [] [.vp [int w] 0]) := by unfold opFn; rw [if_pos h16]
    have hX : opF w o l = (l.take (l.length - 1) ++ [wrF w (-l.getD (l.length - 1) default)], 0) := by unfold opF; rw [if_pos h16]
    rw [hX]
    have hx := hmem (l.length - 1) (by omega) (by omega)
    have hr : (l.map iR).getD (l.length - 1) [] = [int (l.getD (l.length - 1) default)] := zS (by omega)
    have hT1 := ht1 (l.length - 1) (by omega)
    have hT2 := ht2 (l.length - 1) (by omega)
    have cO := negOp (G := H ++ [HO.box [int w], HO.arr 1 1 (l.map iR)]) (r := H.length + 1) (ver := 1) hw hx (by simp [zAe]) (N := l.length) (n := l.length - 1) (by omega) (by simp) (by simp; omega) hr
    repeat' (simp -implicitDefEqProofs (disch := omega) only [L9, zR, push_cast, simprocAttr, ↓reduceIte, Bool.and_self])
    refine zV (zBr w _) ?_
    rintro _ H' ⟨⟨ks, vs, rfl, hm⟩, rfl⟩
    have hcm := hf ks vs hm
    have hge := (hm.get o).trans hfn
    repeat' (first | refine And.intro (by omega) ?_ | refine zA (cP _) ?_ | refine zA (cH _ _ (by simp)) ?_ | simp -implicitDefEqProofs (disch := omega) only [hcm, hge, hix, hlc, List.length_map, zR, push_cast, simprocAttr, ↓reduceIte])
    refine zV (cloneS (l.map iR) (by simp; omega) (by simpa using hl) _) ?_
    rintro _ G ⟨rfl, rfl⟩
    repeat' (first | refine And.intro (by omega) ?_ | refine zA (cO) ?_ | simp -implicitDefEqProofs (disch := omega) only [List.length_map, hT1, hT2, List.drop_zero, Nat.zero_add, push_cast, simprocAttr, ↓reduceIte, Bool.and_self])
    first | exact ⟨by simp [List.map_append, List.map_take, iR], _, rfl⟩ | trace_state
   by_cases h17 : o = 17
   ·have hnd : zBs o = 1 := by unfold zBs; rw [if_pos (.inr h17)]
    have hfn : opFn w [] o = some (.fn (.func 55) [] []) := by unfold opFn; rw [if_neg h16, if_pos h17]
    have hX : opF w o l = (l.take (l.length - 1) ++ [if l.getD (l.length - 1) default = 0 then 1 else 0], 0) := by unfold opF; rw [if_neg h16, if_pos h17]
    rw [hX]
    have hr : (l.map iR).getD (l.length - 1) [] = [int (l.getD (l.length - 1) default)] := zS (by omega)
    have hT1 := ht1 (l.length - 1) (by omega)
    have hT2 := ht2 (l.length - 1) (by omega)
    have cO := notOp (G := H ++ [HO.box [int w], HO.arr 1 1 (l.map iR)]) (r := H.length + 1) (ver := 1) (x := l.getD (l.length - 1) default) (by simp [zAe]) (N := l.length) (n := l.length - 1) (by omega) (by simp) (by simp; omega) hr
    generalize (if l.getD (l.length - 1) default = 0 then (1 : Int) else 0) = v at *
    repeat' (simp -implicitDefEqProofs (disch := omega) only [L9, zR, push_cast, simprocAttr, ↓reduceIte, Bool.and_self])
    refine zV (zBr w _) ?_
    rintro _ H' ⟨⟨ks, vs, rfl, hm⟩, rfl⟩
    have hcm := hf ks vs hm
    have hge := (hm.get o).trans hfn
    repeat' (first | refine And.intro (by omega) ?_ | refine zA (cP _) ?_ | refine zA (cH _ _ (by simp)) ?_ | simp -implicitDefEqProofs (disch := omega) only [hcm, hge, hix, hlc, List.length_map, zR, push_cast, simprocAttr, ↓reduceIte])
    refine zV (cloneS (l.map iR) (by simp; omega) (by simpa using hl) _) ?_
    rintro _ G ⟨rfl, rfl⟩
    repeat' (first | refine And.intro (by omega) ?_ | refine zA (cO) ?_ | simp -implicitDefEqProofs (disch := omega) only [List.length_map, hT1, hT2, List.drop_zero, Nat.zero_add, push_cast, simprocAttr, ↓reduceIte, Bool.and_self])
    first | exact ⟨by simp [List.map_append, List.map_take, iR], _, rfl⟩ | trace_state
   have hnd : zBs o = 2 := by unfold zBs; rw [if_neg (by omega)]
   have hfn : opFn w [] o = some (.fn (.func 57) [] [.vp [int w] 0, .vp [str (opS o)] 0]) := by unfold opFn; rw [if_neg h16, if_neg h17, if_pos ⟨by omega, by omega, by simp⟩]
   have ha := hmem (l.length - 2) (by omega) (by omega)
   have hb := hmem (l.length - 1) (by omega) (by omega)
   have hra : (l.map iR).getD (l.length - 2) [] = [int (l.getD (l.length - 2) default)] := zS (by omega)
   have hrb : (l.map iR).getD (l.length - 2 + 1) [] = [int (l.getD (l.length - 1) default)] := by rw [show l.length - 2 + 1 = l.length - 1 by omega]; exact zS (by omega)
   have hT1 := ht1 (l.length - 2) (by omega)
   have hT2 := ht2 (l.length - 2) (by omega)
   have cO := binOp (G := H ++ [HO.box [int w], HO.arr 1 1 (l.map iR)]) (r := H.length + 1) (ver := 1) (o := o) hw (by omega) (by omega) ha hb (by simp [zAe]) (N := l.length) (n := l.length - 2) (by omega) (by simp) (by simp; omega) hra hrb
   have hX : opF w o l = if (binO o w (l.getD (l.length - 2) default) (l.getD (l.length - 1) default)).2 = 0 then (l.take (l.length - 2) ++ [(binO o w (l.getD (l.length - 2) default) (l.getD (l.length - 1) default)).1], 0) else (l.take (l.length - 2), (binO o w (l.getD (l.length - 2) default) (l.getD (l.length - 1) default)).2) := by
    unfold opF; rw [if_neg h16, if_neg h17]
   generalize binO o w (l.getD (l.length - 2) default) (l.getD (l.length - 1) default) = q at *
   by_cases hq : q.2 = 0
   ·rw [hX, if_pos hq]
    rw [hq] at cO
    repeat' (simp -implicitDefEqProofs (disch := omega) only [L9, zR, push_cast, simprocAttr, ↓reduceIte, Bool.and_self])
    refine zV (zBr w _) ?_
    rintro _ H' ⟨⟨ks, vs, rfl, hm⟩, rfl⟩
    have hcm := hf ks vs hm
    have hge := (hm.get o).trans hfn
    repeat' (first | refine And.intro (by omega) ?_ | refine zA (cP _) ?_ | refine zA (cH _ _ (by simp)) ?_ | simp -implicitDefEqProofs (disch := omega) only [hcm, hge, hix, hlc, List.length_map, zR, push_cast, simprocAttr, ↓reduceIte])
    refine zV (cloneS (l.map iR) (by simp; omega) (by simpa using hl) _) ?_
    rintro _ G ⟨rfl, rfl⟩
    repeat' (first | refine And.intro (by omega) ?_ | refine zA (cO) ?_ | simp -implicitDefEqProofs (disch := omega) only [List.length_map, hT1, hT2, List.drop_zero, Nat.zero_add, push_cast, simprocAttr, ↓reduceIte, Bool.and_self])
    first | exact ⟨by simp [List.map_append, List.map_take, iR], _, rfl⟩ | trace_state
   ·rw [hX, if_neg hq]
    repeat' (simp -implicitDefEqProofs (disch := omega) only [L9, zR, push_cast, simprocAttr, ↓reduceIte, Bool.and_self])
    refine zV (zBr w _) ?_
    rintro _ H' ⟨⟨ks, vs, rfl, hm⟩, rfl⟩
    have hcm := hf ks vs hm
    have hge := (hm.get o).trans hfn
    repeat' (first | refine And.intro (by omega) ?_ | refine zA (cP _) ?_ | refine zA (cH _ _ (by simp)) ?_ | simp -implicitDefEqProofs (disch := omega) only [hcm, hge, hix, hlc, List.length_map, zR, push_cast, simprocAttr, ↓reduceIte])
    refine zV (cloneS (l.map iR) (by simp; omega) (by simpa using hl) _) ?_
    rintro _ G ⟨rfl, rfl⟩
    repeat' (first | refine And.intro (by omega) ?_ | refine zA (cO) ?_ | simp -implicitDefEqProofs (disch := omega) only [List.length_map, List.drop_zero, Nat.zero_add, zX, push_cast, simprocAttr, ↓reduceIte, Bool.and_self])
    first | exact ⟨by simp [List.map_append, List.map_take, iR], _, rfl⟩ | trace_state
 ·rw [applyA_1 hw]
  unfold wOk at hw
  have hc : w < 2 ∨ (2 ≤ w ∧ 8 < w) := by omega
  rcases hc with hc | ⟨hc1, hc2⟩
  ·repeat' (simp -implicitDefEqProofs (disch := omega) only [L9, zM, push_cast, simprocAttr, ↓reduceIte, Bool.and_self])
   exact ⟨_, rfl⟩
  ·repeat' (simp -implicitDefEqProofs (disch := omega) only [L9, zM, zR, push_cast, simprocAttr, ↓reduceIte, Bool.and_self])
   exact ⟨_, rfl⟩
section
variable {w o : Int} {l : List Int}
end
inductive SkO (G : zC) (N0 rs : Nat) : AV → List Int → Prop
 | nil : SkO G N0 rs zAp []
 | os (rt vt : Nat) (rows : List (List AV)) (stk : List Int) (n : Nat) (hn : n = stk.length) (hg : G[rt]? = some (.arr vt 1 rows)) (ht : rows.take n = stk.reverse.map iR) (hl : n ≤ rows.length) (hb : rows.length ≤ 400000) (h0 : N0 ≤ rt) (hne : ¬ rt = rs) : SkO G N0 rs (.os rt vt 0 n) stk
structure FR (G : zC) (N0 rf rs vs : Nat) (k : Int) (slots stk : List Int) (sk : AV) : Prop where
 f : G[rf]? = some (.box [int k, .os rs vs 0 slots.length, sk])
 s : G[rs]? = some (.arr vs 1 (slots.map iR))
 t : SkO G N0 rs sk stk
 nf : N0 ≤ rf
 ns : N0 ≤ rs
theorem zF {G : zC} {r : Nat} {x : HO} (h : G[r]? = some x) : r < G.length := (List.getElem?_eq_some_iff.1 h).1
theorem zAl {G : zC} {r q : Nat} {x y : HO} (h : G[r]? = some x) (h' : G[q]? = some y) (hxy : ¬ x = y) : ¬ r = q := fun e => by
 subst e; rw [h] at h'; exact hxy (by simpa using h')
structure Kp0 (N0 rf : Nat) (G G' : zC) : Prop where
 le : G.length ≤ G'.length
 keep : ∀ i, i < N0 → G'[i]? = G[i]?
 box : ∀ i c, ¬ i = rf → G[i]? = some (.box c) → G'[i]? = some (.box c)
structure KpX (N0 rx rf : Nat) (G G' : zC) : Prop where
 le : G.length ≤ G'.length
 keep : ∀ i, i < N0 → ¬ i = rx → G'[i]? = G[i]?
 box : ∀ i c, ¬ i = rx → ¬ i = rf → G[i]? = some (.box c) → G'[i]? = some (.box c)
section
variable {N0 rf rx r : Nat} {G G' G'' : zC}
theorem Kp0.refl : Kp0 N0 rf G G := ⟨Nat.le_refl _, fun _ _ => rfl, fun _ _ _ h => h⟩
theorem Kp0.trans (h : Kp0 N0 rf G G') (h' : Kp0 N0 rf G' G'') : Kp0 N0 rf G G'' := ⟨Nat.le_trans h.1 h'.1, fun i hi => (h'.2 i hi).trans (h.2 i hi), fun i c hi hc => h'.3 i c hi (h.3 i c hi hc)⟩
theorem Kp0.x (h : Kp0 N0 rf G G') (rx : Nat) : KpX N0 rx rf G G' := ⟨h.1, fun i hi _ => h.2 i hi, fun i c _ hi hc => h.3 i c hi hc⟩
theorem KpX.refl : KpX N0 rx rf G G := ⟨Nat.le_refl _, fun _ _ _ => rfl, fun _ _ _ _ h => h⟩
theorem KpX.trans (h : KpX N0 rx rf G G') (h' : KpX N0 rx rf G' G'') : KpX N0 rx rf G G'' := ⟨Nat.le_trans h.1 h'.1, fun i hi hx => (h'.2 i hi hx).trans (h.2 i hi hx), fun i c h1 h2 hc => h'.3 i c h1 h2 (h.3 i c h1 h2 hc)⟩
theorem KpX.set (h : KpX N0 rx rf G G') (x : HO) : KpX N0 rx rf G (G'.set rx x) := ⟨by simpa using h.1, fun i hi hx => by rw [List.getElem?_set_ne (fun e => hx e.symm)]; exact h.2 i hi hx, fun i c h1 h2 hc => by rw [List.getElem?_set_ne (fun e => h1 e.symm)]; exact h.3 i c h1 h2 hc⟩
theorem KpX.setx (x : HO) : KpX N0 rx rf G (G.set rx x) := KpX.refl.set x
theorem Kp0.setf (hr : N0 ≤ rf) (x : HO) : Kp0 N0 rf G (G.set rf x) := ⟨by simp, fun i hi => List.getElem?_set_ne (by omega), fun i c hi hc => by rw [List.getElem?_set_ne (fun e => hi e.symm)]; exact hc⟩
theorem Kp0.seta {v z : Nat} {l : List (List AV)} (hr : N0 ≤ r) (hg : G[r]? = some (.arr v z l)) (x : HO) : Kp0 N0 rf G (G.set r x) := ⟨by simp, fun i hi => List.getElem?_set_ne (by omega), fun i c hi hc => by rw [List.getElem?_set_ne (zAl hg hc (by simp))]; exact hc⟩
theorem Kp0.app (hr : N0 ≤ G.length) (x : zC) : Kp0 N0 rf G (G ++ x) := ⟨by simp, fun i hi => List.getElem?_append_left (by omega), fun i c hi hc => by rw [List.getElem?_append_left (zF hc)]; exact hc⟩
theorem KpX.app (hr : N0 ≤ G.length) (x : zC) : KpX N0 rx rf G (G ++ x) := (Kp0.app hr x).x rx
end
theorem SkO.cons {G : zC} {N0 rs : Nat} {sk : AV} {v : Int} {stk : List Int} (h : SkO G N0 rs sk (v :: stk)) : ∃ (rt vt : Nat) (rows : List (List AV)), sk = .os rt vt 0 (stk.length + 1) ∧ G[rt]? = some (.arr vt 1 rows) ∧ rows.take (stk.length + 1) = stk.reverse.map iR ++ [[int v]] ∧ stk.length + 1 ≤ rows.length ∧ rows.length ≤ 400000 ∧ N0 ≤ rt ∧ ¬ rt = rs ∧
  rows.getD stk.length [] = [int v] ∧ rows.take stk.length = stk.reverse.map iR := by
 cases h with
 | os rt vt rows _ n hn hg ht hl hb h0 hne =>
  subst hn
  simp only [List.length_cons, List.reverse_cons, List.map_append, List.map_cons, List.map_nil] at ht hl
  refine ⟨rt, vt, rows, rfl, hg, ht, hl, hb, h0, hne, ?_, ?_⟩
  ·have e : rows.getD stk.length [] = (rows.take (stk.length + 1)).getD stk.length [] := by
    simp only [List.getD_eq_getElem?_getD, List.getElem?_take, Nat.lt_succ_self, if_true]
   rw [e, ht, List.getD_eq_getElem?_getD, List.getElem?_append_right (by simp)]
   simp [iR]
  ·have e : rows.take stk.length = (rows.take (stk.length + 1)).take stk.length := by rw [List.take_take, Nat.min_eq_left (by omega)]
   rw [e, ht, List.take_append_of_le_length (by simp), List.take_of_length_le (by simp)]
section
variable {G : zC} {N0 rf rs vs : Nat} {k v : Int} {slots stk : List Int} {sk : AV}
end
theorem FR.mono {G G' : zC} {N0 rf rs vs : Nat} {k : Int} {slots stk : List Int} {sk : AV} (h : FR G N0 rf rs vs k slots stk sk) (hk : ∀ i, N0 ≤ i → i < G.length → G'[i]? = G[i]?) : FR G' N0 rf rs vs k slots stk sk := by
 obtain ⟨hf, hs, ht, nf, ns⟩ := h
 refine ⟨by rw [hk _ nf (zF hf)]; exact hf, by rw [hk _ ns (zF hs)]; exact hs, ?_, nf, ns⟩
 cases ht with
 | nil => exact .nil
 | os rt vt rows stk n hn hg ht hl hb h0 hne => exact .os rt vt rows stk n hn (by rw [hk _ h0 (zF hg)]; exact hg) ht hl hb h0 hne
abbrev RnB (C : Cx) (f p a cnt : Int) : HO := .box [zAz C.ps, int C.w, int C.L, int f, int p, int a, int cnt]
structure StH (C : Cx) (N0 rx rf rs vs : Nat) (s : St) (G : zC) : Prop where
 rn : G[rx]? = some (RnB C 0 (-1) (-1) s.cnt)
 fr : ∃ sk, FR G N0 rf rs vs C.k s.slots s.stk sk
 hx : rx < N0
def StP (C : Cx) (N0 rx rf rs vs : Nat) (r : Flow × St) (y : AV) (G G' : zC) : Prop :=
 KpX N0 rx rf G G' ∧ match r with
  | (.go, s) => y = bool false ∧ StH C N0 rx rf rs vs s G'
  | (.ret, s) => y = bool true ∧ StH C N0 rx rf rs vs s G'
  | (.flt f p a, s) => y = bool false ∧ G'[rx]? = some (RnB C f p a s.cnt)
theorem FR.put {G : zC} {N0 rf rs vs : Nat} {k : Int} {slots stk : List Int} {sk : AV} (h : FR G N0 rf rs vs k slots stk sk) (i : Nat) (v : Int) : FR (G.set rs (.arr vs 1 ((slots.map iR).set i [int v]))) N0 rf rs vs k (slots.set i v) stk sk := by
 obtain ⟨hf, hs, ht, nf, ns⟩ := h
 have hfs := zAl hs hf (by simp)
 refine ⟨by rw [List.getElem?_set_ne hfs, List.length_set]; exact hf, by rw [List.getElem?_set_self (zF hs), List.map_set]; rfl, ?_, nf, ns⟩
 cases ht with
 | nil => exact .nil
 | os rt vt rows stk n hn hg ht hl hb h0 hne => exact .os rt vt rows stk n hn (by rw [List.getElem?_set_ne (fun e => hne e.symm)]; exact hg) ht hl hb h0 hne
section
variable {C : Cx} {N0 rx rf rs vs : Nat} {slots stk : List Int} {cnt : Int} {G : zC} {a b num : Int} {bd el : List Ins}
end
theorem FR.newt {G : zC} {N0 rf rs vs v : Nat} {k : Int} {slots stk stk' : List Int} {sk : AV} (h : FR G N0 rf rs vs k slots stk sk) (hN : N0 ≤ G.length) (hl : stk'.length ≤ 400000) :
  FR ((G ++ [HO.arr v 1 (stk'.reverse.map iR)]).set rf (.box [int k, .os rs vs 0 slots.length, .os G.length v 0 stk'.length])) N0 rf rs vs k slots stk' (.os G.length v 0 stk'.length) := by
 obtain ⟨hf, hs, ht, nf, ns⟩ := h
 have hrf := zF hf
 have hrs := zF hs
 have hfs := zAl hs hf (by simp)
 refine ⟨?_, ?_, ?_, nf, ns⟩
 ·rw [List.getElem?_set_self (by simp; omega)]
 ·rw [List.getElem?_set_ne (fun e => hfs e.symm), List.getElem?_append_left hrs]; exact hs
 ·refine .os G.length v (stk'.reverse.map iR) stk' _ rfl ?_ ?_ (by simp) (by simpa using hl) hN (by omega)
  ·rw [List.getElem?_set_ne (by omega), List.getElem?_append_right (Nat.le_refl _), Nat.sub_self]; rfl
  ·rw [List.take_of_length_le (by simp)]
section
variable {C : Cx} {N0 rx rf rs vs : Nat} {slots stk : List Int} {cnt : Int} {G : zC} {a b num : Int} {bd el : List Ins}
end
theorem StP.kp {C : Cx} {N0 rx rf rs vs : Nat} {r : Flow × St} {y : AV} {G G1 G2 : zC} (hk : KpX N0 rx rf G G1) (h : StP C N0 rx rf rs vs r y G1 G2) : StP C N0 rx rf rs vs r y G G2 := ⟨hk.trans h.1, h.2⟩
section
variable {c b : St → Flow × St} {k num : Int} {n : Nat} {s s1 s3 : St}
theorem lp_flt {x y z : Int} (hc : c s = (.flt x y z, s1)) : zBG c b k num n s = (.flt x y z, s1) := by
 cases n <;> (unfold zBG; simp only [hc])
theorem lp_stop (hc : c s = (.go, s1)) (h : s1.top = 0) : zBG c b k num n s = (.go, s1.pop) := by
 cases n <;> (unfold zBG; simp only [hc, h, if_true])
theorem lp_lim (hc : c s = (.go, s1)) (h : ¬ s1.top = 0) : zBG c b k num 0 s = (.flt 5 k num, s1.pop) := by
 unfold zBG; simp only [hc, h, if_false]
theorem lp_go (hc : c s = (.go, s1)) (h : ¬ s1.top = 0) (hb : b s1.pop = (.go, s3)) : zBG c b k num (n + 1) s = zBG c b k num n s3 := by
 rw [zBG]; simp only [hc, h, if_false, hb]
theorem lp_ret (hc : c s = (.go, s1)) (h : ¬ s1.top = 0) (hb : b s1.pop = (.ret, s3)) : zBG c b k num (n + 1) s = (.ret, s3) := by
 rw [zBG]; simp only [hc, h, if_false, hb]
theorem lp_bad {x y z : Int} (hc : c s = (.go, s1)) (h : ¬ s1.top = 0) (hb : b s1.pop = (.flt x y z, s3)) : zBG c b k num (n + 1) s = (.flt x y z, s3) := by
 rw [zBG]; simp only [hc, h, if_false, hb]
end
structure LpI (C : Cx) (N0 rx rf rs vs : Nat) (num oth : Int) (bd el : List Ins) (x : HO) (s0 : St) (G : zC) (r : Nat) (s : St) (e' : Env) (G1 : zC) : Prop where
 e0 : e' 0 = .ptr rx 0 0
 e1 : e' 1 = .ptr rf 0 0
 e3 : e' 3 = int num
 e6 : e' 6 = .ptr G.length 0 0
 e9 : e' 9 = int oth
 e15 : e' 15 = int r
 kp : KpX N0 rx rf G G1
 bx : G1[G.length]? = some x
 sh : StH C N0 rx rf rs vs s G1
 ty : TyS C s 0
 hr : (r : Int) ≤ C.L
 eq : zBG (exL C el oth) (exL C bd (num + 1)) C.k num C.L.toNat s0 = zBG (exL C el oth) (exL C bd (num + 1)) C.k num (C.L.toNat - r) s
section
variable {C : Cx} {N0 rx rf rs vs : Nat} {slots stk : List Int} {cnt : Int} {G : zC} {a b num : Int} {bd el : List Ins}
end
def InO (G : zC) (x : AV) (l : List Int) : Prop := x = .sl 1 (l.map iR) ∨ ∃ r v, x = .os r v 0 l.length ∧ G[r]? = some (.arr v 1 (l.map iR))
theorem kpx_of {N0 rx rf : Nat} {G G' : zC} (h : Fr1 rx G G') (hN : N0 ≤ G.length) : KpX N0 rx rf G G' := ⟨h.1, fun i hi hx => h.2 i (by omega) hx, fun i c h1 h2 hc => by rw [h.2 i (zF hc) h1]; exact hc⟩
theorem FR.newt0 {G : zC} {N0 rf rs vs v m : Nat} {k : Int} {slots stk stk' : List Int} {sk : AV} {L : List (List AV)} (h : FR G N0 rf rs vs k slots stk sk) (hN : N0 ≤ G.length) (hl : stk'.length ≤ 400000) (hL : L = stk'.reverse.map iR) (hm : m = stk'.length) :
  FR (G.set rf (.box [int k, .os rs vs 0 slots.length, .os G.length v 0 m]) ++ [.arr v 1 L]) N0 rf rs vs k slots stk' (.os G.length v 0 m) := by
 subst hL; subst hm
 have := h.newt (v := v) (stk' := stk') hN hl
 rwa [List.set_append_left _ _ (zF h.f)] at this
theorem FR.appt {G : zC} {N0 rf rs vs rt vt v m : Nat} {k : Int} {slots stk stk' : List Int} {sk : AV} {L rows : List (List AV)} (h : FR G N0 rf rs vs k slots stk sk) (hg : G[rt]? = some (.arr vt 1 rows)) (h0 : N0 ≤ rt) (hne : ¬ rt = rs) (hl : stk'.length ≤ 400000) (hL : L = stk'.reverse.map iR) (hm : m = stk'.length) :
  FR ((G.set rt (.arr v 1 L)).set rf (.box [int k, .os rs vs 0 slots.length, .os rt v 0 m])) N0 rf rs vs k slots stk' (.os rt v 0 m) := by
 subst hL; subst hm
 obtain ⟨hf, hs, ht, nf, ns⟩ := h
 have hft := zAl hg hf (by simp)
 have hfs := zAl hs hf (by simp)
 refine ⟨by rw [List.getElem?_set_self (by simpa using zF hf)], by rw [List.getElem?_set_ne (fun e => hfs e.symm), List.getElem?_set_ne hne]; exact hs, ?_, nf, ns⟩
 refine .os rt v (stk'.reverse.map iR) stk' _ rfl ?_ ?_ (by simp) (by simpa using hl) h0 hne
 ·rw [List.getElem?_set_ne (fun e => hft e.symm), List.getElem?_set_self (zF hg)]
 ·rw [List.take_of_length_le (by simp)]
theorem FR.fr1 {G G' : zC} {N0 rx rf rs vs : Nat} {k : Int} {slots stk : List Int} {sk : AV} (h : FR G N0 rf rs vs k slots stk sk) (hx : rx < N0) (hf : Fr1 rx G G') : FR G' N0 rf rs vs k slots stk sk := h.mono fun i h1 h2 => hf.2 i h2 (by omega)
theorem drop_rows {rows : List (List AV)} {stk : List Int} {p : Nat} (ht : rows.take stk.length = stk.reverse.map iR) (hp : p ≤ stk.length) : ((rows.drop (stk.length - p)).take p) = (stk.take p).reverse.map iR := by
 have e : (rows.drop (stk.length - p)).take p = (rows.take stk.length).drop (stk.length - p) := by rw [List.drop_take]; congr 1; omega
 rw [e, ht, ← List.map_drop, List.drop_reverse]
 congr 2
 congr 1
 omega
theorem take_rows {rows : List (List AV)} {stk : List Int} {p : Nat} (ht : rows.take stk.length = stk.reverse.map iR) (hp : p ≤ stk.length) : rows.take (stk.length - p) = (stk.drop p).reverse.map iR := by
 have e : rows.take (stk.length - p) = (rows.take stk.length).take (stk.length - p) := by rw [List.take_take, Nat.min_eq_left (by omega)]
 rw [e, ht, ← List.map_take, List.take_reverse]
 congr 2
 congr 1
 omega
section
variable {C : Cx} {N0 rx rf rs vs : Nat} {slots stk : List Int} {cnt : Int} {G : zC} {a b num : Int} {bd el : List Ins}
end
structure CxOk (C : Cx) : Prop where
 hw : wOk C.w
 hp : zBX C.ps C.k
 hcl : ClOk C
 hL : 0 ≤ C.L ∧ C.L ≤ 8
 hkl : C.k < C.ps.length
 hps : C.ps.length ≤ 1048576
 hsl : C.q.slots ≤ 1024
structure InsH (C : Cx) (x : Ins) (num base h h' lev : Int) (out : Bool) (s : St) : Prop where
 he : zBY C.ps C.k x out h = some h'
 h0 : 0 ≤ h
 h1 : h ≤ 1024
 b0 : 0 ≤ base
 bo : out = true → base = 0
 ty : TyS C s (base + h)
 hlev : base ≤ 1024 * lev
 l1 : 1 ≤ lev
 lv : lev + zCI x ≤ 257
 n0 : 0 ≤ num
 nn : num + zBu x ≤ 32768
theorem exI_mk (C : Cx) (o a b : Int) (l m : List Ins) (num : Int) (s : St) : exI C (.mk o a b l m) num s =
  if o = 18 then (if s.tick.top = 0 then exL C m (num + 1 + zL l) s.tick.pop else exL C l (num + 1) s.tick.pop)
  else if o = 19 then zBG (exL C m (num + 1 + zL l)) (exL C l (num + 1)) C.k num C.L.toNat s.tick
  else exS C o a b num s.tick := by rw [exI_eq]; rfl
theorem exS_bad (C : Cx) (o a b num : Int) (s : St) (h18 : ¬ o = 18) (h19 : ¬ o = 19) (l m : List Ins) : exI C (.mk o a b l m) num s = exS C o a b num s.tick := by
 rw [exI_mk, if_neg h18, if_neg h19]
theorem inI_small {w v : Int} (hw : wOk w) (h : inI w v) : -1000 ≤ v ∧ v ≤ 1000 := by
 have := (zCS hw v).1 h
 have := hf_pos hw
 omega
theorem exL_drop (C : Cx) {l : List Ins} {j : Nat} (hj : j < l.length) (num : Int) (s : St) : exL C (l.drop j) num s = match exI C (l.getD j default) num s with
  | (.go, s') => exL C (l.drop (j + 1)) (num + zBu (l.getD j default)) s'
  | (.ret, s') => (.ret, s')
  | (.flt x y z, s') => (.flt x y z, s') := by
 rw [drop_cons hj]; simp only [exL]
 cases exI C (l.getD j default) num s with
 | mk f s' => cases f <;> rfl
structure LsI (C : Cx) (l : List Ins) (num base lev : Int) (out : Bool) (N0 rx rf rs vs : Nat) (s0 : St) (h' : Int) (G : zC) (j : Nat) (s : St) (h : Int) (e' : Env) (G1 : zC) : Prop where
 e0 : e' 0 = .ptr rx 0 0
 e1 : e' 1 = .ptr rf 0 0
 e2 : e' 2 = .sl 5 (l.map zAs)
 e3 : e' 3 = int (num + zL (l.take j))
 e9 : e' 9 = int j
 hj : j ≤ l.length
 kp : KpX N0 rx rf G G1
 sh : StH C N0 rx rf rs vs s G1
 ty : TyS C s (base + h)
 h0 : 0 ≤ h
 h1 : h ≤ 1024
 ef : zBp C.ps C.k (l.drop j) out h = some h'
 eq : exL C l num s0 = exL C (l.drop j) (num + zL (l.take j)) s
theorem ilev_mem {x : Ins} : ∀ {l : List Ins}, x ∈ l → zCI x ≤ zAK l
 | y :: l, h => by
  simp only [zAK]
  rcases List.mem_cons.1 h with rfl | h
  ·omega
  ·have := ilev_mem h; omega
def zCL (n : Nat) (inp : List Int) (i : Nat) : List Int := inp.take i ++ List.replicate (n - i) 0
theorem slotsI_len {n : Nat} {inp : List Int} {i : Nat} (hi : i ≤ inp.length) (hn : inp.length ≤ n) : (zCL n inp i).length = n := by simp [zCL]; omega
theorem slotsI_all (n : Nat) (inp : List Int) : zCL n inp inp.length = inp ++ List.replicate (n - inp.length) 0 := by simp [zCL]
theorem Kp0.put {N0 rf rs vs : Nat} {G : zC} {l : List (List AV)} (ns : N0 ≤ rs) (h : G[rs]? = some (.arr vs 1 l)) (x : HO) : Kp0 N0 rf G (G.set rs x) := Kp0.seta ns h x
structure CpI (C : Cx) (rx : Nat) (inp : List Int) (x : AV) (cnt : Int) (G : zC) (n i : Nat) (e' : Env) (G1 : zC) : Prop where
 e0 : e' 0 = .ptr rx 0 0
 e1 : e' 1 = int C.k
 e2 : e' 2 = x
 e7 : e' 7 = .ptr G.length 0 0
 e8 : e' 8 = .ptr (G.length + 2) 0 0
 e9 : e' 9 = int i
 hi : i ≤ inp.length
 kp : Kp0 G.length (G.length + 2) G G1
 bx : G1[G.length]? = some (.box (prR C.q))
 fr : FR G1 G.length (G.length + 2) (G.length + 1) 0 C.k (zCL n inp i) [] zAp
theorem InO.mono {G G' : zC} {x : AV} {l : List Int} (h : InO G x l) (hk : ∀ i, i < G.length → G'[i]? = G[i]?) : InO G' x l := by
 rcases h with h | ⟨r, v, h1, h2⟩
 ·exact .inl h
 ·exact .inr ⟨r, v, h1, by rw [hk r (zF h2)]; exact h2⟩
theorem cxOk {ps : List Pr} {w L : Int} (hw : wOk w) (hL : 0 ≤ L ∧ L ≤ 8) (hv : zBA ps) {k n : Nat} (hk : k ≤ n) (hkl : k < ps.length) : CxOk ⟨ps, w, L, k, zCM ps w L n⟩ where
 hw := hw
 hp := prsOk_of fun j hj => hv.2 j (Nat.lt_trans hj hkl)
 hcl := fun j hj inp c h1 h2 => runP_ok hw hv n j inp c (by have : j < k := hj; omega) (by have : j < k := hj; omega) h1 h2
 hL := hL
 hkl := hkl
 hps := by have := hv.1; simp only; omega
 hsl := (hv.2 k hkl).2.1.2.2.1
theorem boundsR (w L : Int) (H : zC) : zAn 14 [.agg [int w, int L]] H (bool (decide (wOk w ∧ 0 ≤ L ∧ L ≤ 8))) := by
 refine ACall.drop (R := fun x => x = bool (decide (wOk w ∧ 0 ≤ L ∧ L ≤ 8))) ?_
 refine enter Tryz.func14 L14_ok (Nat.le_of_ble_eq_true rfl) ?_
 by_cases hw : wOk w
 ·by_cases h1 : 0 ≤ L
  ·by_cases h2 : L ≤ 8
   ·rw [show decide (wOk w ∧ 0 ≤ L ∧ L ≤ 8) = true from decide_eq_true ⟨hw, h1, h2⟩]
    repeat' (first | refine zA (widthR _ _) ?_ | simp -implicitDefEqProofs (disch := omega) only [L14, zE, zW, hw, zAa, push_cast, simprocAttr, ↓reduceIte, Bool.and_self])
    exact ⟨_, rfl⟩
   ·rw [show decide (wOk w ∧ 0 ≤ L ∧ L ≤ 8) = false from decide_eq_false fun hh => h2 hh.2.2]
    repeat' (first | refine zA (widthR _ _) ?_ | simp -implicitDefEqProofs (disch := omega) only [L14, zE, zW, hw, zAa, zAo, push_cast, simprocAttr, ↓reduceIte, Bool.and_self])
    exact ⟨_, rfl⟩
  ·rw [show decide (wOk w ∧ 0 ≤ L ∧ L ≤ 8) = false from decide_eq_false fun hh => h1 hh.2.1]
   repeat' (first | refine zA (widthR _ _) ?_ | simp -implicitDefEqProofs (disch := omega) only [L14, zE, zW, hw, zAo, push_cast, simprocAttr, ↓reduceIte, Bool.and_self])
   exact ⟨_, rfl⟩
 ·rw [show decide (wOk w ∧ 0 ≤ L ∧ L ≤ 8) = false from decide_eq_false fun hh => hw hh.1]
  repeat' (first | refine zA (widthR _ _) ?_ | simp -implicitDefEqProofs (disch := omega) only [L14, zE, zW, hw, push_cast, simprocAttr, ↓reduceIte, Bool.and_self])
  exact ⟨_, rfl⟩
open Classical in
noncomputable def errF (ps : List Pr) (p w L : Int) (inp : List Int) : Int :=
 if ¬ (wOk w ∧ 0 ≤ L ∧ L ≤ 8) then 1 else if ¬ zBA ps then 1 else if p < 0 ∨ ps.length ≤ p then 7 else if 67108864 < zBW ps p.toNat L then 8 else if ¬ (inp.length : Int) = (ps.getD p.toNat default).par then 2 else if ¬ (∀ v ∈ inp, inI w v) then 2 else 0
structure RunOk (ps : List Pr) (p w L : Int) (inp : List Int) : Prop where
 hw : wOk w
 hl : 0 ≤ L ∧ L ≤ 8
 hv : zBA ps
 hp : 0 ≤ p ∧ p < ps.length
 hc : zBW ps p.toNat L ≤ 67108864
 hn : (inp.length : Int) = (ps.getD p.toNat default).par
 hi : ∀ v ∈ inp, inI w v
theorem errF_ne {ps : List Pr} {p w L : Int} {inp : List Int} (h : ¬ RunOk ps p w L inp) : ¬ errF ps p w L inp = 0 := by
 unfold errF
 by_cases h1 : wOk w ∧ 0 ≤ L ∧ L ≤ 8
 ·rw [if_neg (not_not_intro h1)]
  by_cases h2 : zBA ps
  ·rw [if_neg (not_not_intro h2)]
   by_cases h3 : p < 0 ∨ ps.length ≤ p
   ·rw [if_pos h3]; decide
   ·rw [if_neg h3]
    by_cases h4 : 67108864 < zBW ps p.toNat L
    ·rw [if_pos h4]; decide
    ·rw [if_neg h4]
     by_cases h5 : (inp.length : Int) = (ps.getD p.toNat default).par
     ·rw [if_neg (not_not_intro h5)]
      by_cases h6 : ∀ v ∈ inp, inI w v
      ·exact absurd ⟨h1.1, h1.2, h2, by omega, by omega, h5, h6⟩ h
      ·rw [if_pos h6]; decide
     ·rw [if_pos h5]; decide
  ·rw [if_pos h2]; decide
 ·rw [if_pos h1]; decide
open Classical in
noncomputable def runV (ps : List Pr) (p w L : Int) (inp : List Int) : Int × List Int × Int × Int × Int :=
 if RunOk ps p w L inp then match (zCM ps w L (p.toNat + 1) p.toNat inp 0).1 with
  | .ok out => (0, out, -1, -1, 0)
  | .flt f q a => (f, [], q, a, 0)
 else (0, [], -1, -1, errF ps p w L inp)
open Classical in
noncomputable def cntV (ps : List Pr) (p w L : Int) (inp : List Int) : Int × Int :=
 if RunOk ps p w L inp then ((zCM ps w L (p.toNat + 1) p.toNat inp 0).2, 0) else (0, errF ps p w L inp)
def outA (v : Int × List Int × Int × Int × Int) (o : AV) : AV := .tup [.agg [int v.1, o], int v.2.2.1, int v.2.2.2.1, int v.2.2.2.2]
theorem Le_slz (z : Nat) (l : List Int) (h : z = 1 ∨ l = []) : AV.Le (.sl z (l.map iR)) (.sl 1 (l.map iR)) := by
 rcases h with rfl | rfl
 ·exact AV.Le.refl _
 ·intro w M ρ n v hv
  simp only [List.map_nil] at hv ⊢
  cases hv with
  | slE _ _ a cap => exact .slE _ _ _ _
  | slN _ _ xs b o cap c h1 h2 h3 h4 h5 h6 => exact .slE _ _ _ _
theorem Le_nil1 : AV.Le zAp (.sl 1 (([] : List Int).map iR)) := AV.Le.nil 1
theorem Le_out (v : Int × List Int × Int × Int × Int) {o o' : AV} (h : AV.Le o o') : AV.Le (outA v o) (outA v o') := fun w M ρ n u hv => by
 cases hv with
 | tup _ _ us hl hr =>
  refine .tup _ _ _ (by simpa using hl) fun i y u hy hu => ?_
  match i with
  | 0 =>
   simp only [List.getElem?_cons_zero, Option.some.injEq] at hy
   subst hy
   refine AV.Le.agg (xs := [int v.1, o]) (ys := [int v.1, o']) rfl (fun j x y hx hy => ?_) _ _ _ _ _ (hr 0 (.agg [int v.1, o]) u rfl hu)
   match j with
   | 0 => cases hx; cases hy; exact AV.Le.refl _
   | 1 => cases hx; cases hy; exact h
   | j + 2 => simp at hx
  | 1 => exact hr 1 y u hy hu
  | 2 => exact hr 2 y u hy hu
  | 3 => exact hr 3 y u hy hu
  | j + 4 => simp at hy
def RawR (v : Int × List Int × Int × Int × Int) (x : AV) : Prop := ∃ o, x = outA v o ∧ AV.Le o (.sl 1 (v.2.1.map iR))
theorem raw_to {k : FuncId} {args : List AV} {H : zC} {v : Int × List Int × Int × Int × Int} (h : ACall Tryz.prog k args H fun x H' => RawR v x ∧ H' = H) : zAn k args H (outA v (.sl 1 (v.2.1.map iR))) :=
 h.resTo fun x H' ⟨⟨o, hx, ho⟩, hH⟩ => ⟨_, by rw [hx]; exact Le_out v ho, rfl, hH⟩
section
variable {G : zC} {N0 rf rs vs : Nat} {k v : Int} {slots stk : List Int} {sk : AV}
theorem popM (h : FR G N0 rf rs vs k slots (v :: stk) sk) : ACall Tryz.prog 226 [.ptr rf 0 0] G fun y G' => y = int v ∧ Kp0 N0 rf G G' ∧ ∃ sk', FR G' N0 rf rs vs k slots stk sk' := by
 obtain ⟨hf, hs, ht, nf, ns⟩ := h
 obtain ⟨rt, vt, rows, rfl, g1, g2, g3, g4, g5, g6, g7, g8⟩ := ht.cons
 have hft := zAl g1 hf (by simp)
 have hfs := zAl hs hf (by simp)
 have hrf := zF hf
 generalize hN : stk.length + 1 = N at *
 have hix : ((N : Int) - 1).toNat = stk.length := by omega
 refine enter Tryz.func226 L226_ok (Nat.le_of_ble_eq_true rfl) ?_
 repeat' (first | refine And.intro (by omega) ?_ | simp -implicitDefEqProofs (disch := omega) only [L226, hf, g1, hix, g7, splice, Nat.zero_add, Nat.sub_zero, List.drop_succ_cons, List.drop_zero, push_cast, simprocAttr, ↓reduceIte, Bool.and_self])
 refine ⟨Kp0.setf nf _, .os rt vt 0 stk.length, ?_, ?_, ?_, nf, ns⟩
 ·rw [List.getElem?_set_self hrf]
 ·rw [List.getElem?_set_ne (fun e => hfs e.symm)]; exact hs
 ·exact .os rt vt rows stk _ rfl (by rw [List.getElem?_set_ne (fun e => hft e.symm)]; exact g1) g8 (by omega) g4 g5 g6
theorem pushM (l : List Int) (z : Nat) (hz : z = 1 ∨ l = []) (hll : l.length ≤ 90000) (h : FR G N0 rf rs vs k slots stk sk) (hl : stk.length ≤ 300000) : ACall Tryz.prog 225 [.ptr rf 0 0, .sl z (l.map iR)] G fun y G' => y = .tup [] ∧ Kp0 N0 rf G G' ∧ ∃ sk', FR G' N0 rf rs vs k slots (l.reverse ++ stk) sk' := by
 have hfr := h
 obtain ⟨hf, hs, ht, nf, ns⟩ := h
 have hrf := zF hf
 have hrs := zF hs
 have hfs := zAl hs hf (by simp)
 refine enter Tryz.func225 L225_ok (Nat.le_of_ble_eq_true rfl) ?_
 cases ht with
 | nil =>
  cases l with
  | nil =>
   repeat' (simp -implicitDefEqProofs (disch := omega) only [L225, hf, zB, zJ, splice, List.drop_succ_cons, List.drop_zero, push_cast, simprocAttr, ↓reduceIte, Bool.and_self])
   exact ⟨by simp [zAU], by simp [zAU], (Kp0.setf nf _).trans (Kp0.app (by simp; omega) _), _, hfr.newt0 (by omega) (by simp) rfl rfl⟩
  | cons x l =>
   have hz1 : z = 1 := hz.resolve_right (by simp)
   subst hz1
   generalize hL : x :: l = ll at *
   repeat' (first | refine And.intro (by omega) ?_ | simp -implicitDefEqProofs (disch := omega) only [L225, hf, zB, zJ, splice, List.drop_succ_cons, List.drop_zero, List.length_map, push_cast, simprocAttr, ↓reduceIte, Bool.and_self])
   exact ⟨by simp [zAU], by simp [zAU], (Kp0.setf nf _).trans (Kp0.app (by simp; omega) _), _, hfr.newt0 (by omega) (by simp; omega) (by simp) (by simp)⟩
 | os rt vt rows _ n hn hg ht hlr hb h0 hne =>
  have hrt := zF hg
  have hft := zAl hg hf (by simp)
  repeat' (simp -implicitDefEqProofs (disch := omega) only [L225, hf, zG, hg, splice, List.drop_succ_cons, List.drop_zero, List.length_map, push_cast, simprocAttr, ↓reduceIte, Bool.and_self])
  refine ⟨⟨hz.imp id fun h => by rw [h]; rfl, hlr, by omega, by omega⟩, by simp [zAU], by simp [zAU], (Kp0.seta h0 hg _).trans (Kp0.setf nf _), _, hfr.appt hg h0 hne (by simp; omega) (by simp [ht]) (by simp [hn]; omega)⟩
theorem pushM1 (h : FR G N0 rf rs vs k slots stk sk) (hl : stk.length ≤ 300000) : ACall Tryz.prog 225 [.ptr rf 0 0, .sl 1 [[int v]]] G fun y G' => y = .tup [] ∧ Kp0 N0 rf G G' ∧ ∃ sk', FR G' N0 rf rs vs k slots (v :: stk) sk' :=
 pushM [v] 1 (.inl rfl) (by simp) h hl
end
@[push_cast] theorem oqK_mkif {P : Program} {e : Env} {H : zC} {d : Option Nat} {l tl : List LO} {k : List Go.Ax.Item} {Q : Out → Env → zC → Prop} (t : TypeId) (x : LX) : oqK P (.mkif t x) e H d l tl k Q = gqK P (rMkif t (ev e x) H) e H d l tl k Q := rfl
abbrev stopV (f p a : Int) : Value := .iface 121 (.agg #[.int .i64 f, .int .i64 p, .int .i64 a])
theorem failM (C : Cx) (G : zC) (rf rp ri : Nat) (k num f : Int) (cs : List AV) (x1 x2 : AV) (hp : G[rp]? = some (.box [.ptr rf 0 0])) (hf : G[rf]? = some (.box [int k, x1, x2])) (i0 i1 i2 i3 i4 i6 i7 : AV) (hi : G[ri]? = some (.box [i0, i1, i2, i3, i4, int num, i6, i7])) :
  ACallX Tryz.prog 223 [int f, .ptr rp 0 0, .ptr ri 0 0] G (fun _ _ => False) fun z G' => z = stopV f k num ∧ G' = G := by
 refine zBo Tryz.func223 L223_ok (Nat.le_of_ble_eq_true rfl) ?_
 repeat' (simp -implicitDefEqProofs (disch := omega) only [L223, hp, hf, hi, rBuild, fillA, rMkif, valA_agg, valsA_nil, valsA_cons, splice, List.drop_succ_cons, List.drop_zero, push_cast, simprocAttr, ↓reduceIte, Bool.and_self])
theorem elemM (C : Cx) (G : zC) (rf rp ri rg : Nat) (k num a b i : Int) (x1 x2 : AV) (hp : G[rp]? = some (.box [.ptr rf 0 0])) (hf : G[rf]? = some (.box [int k, x1, x2])) (i0 i3 i4 i6 i7 : AV) (hi : G[ri]? = some (.box [i0, int a, int b, i3, i4, int num, i6, i7]))
  (hg : G[rg]? = some (.box [.fn (.func 223) [] [.ptr rp 0 0, .ptr ri 0 0]])) (ha : 0 ≤ a ∧ a ≤ 100000) (hb : 0 ≤ b ∧ b ≤ 100000) (hii : -1000 ≤ i ∧ i ≤ 1000) :
  ACallX Tryz.prog 224 [int i, .ptr ri 0 0, .ptr rg 0 0] G (fun y G' => (0 ≤ i ∧ i < b) ∧ y = int (a + i) ∧ G' = G) fun z G' => (i < 0 ∨ b ≤ i) ∧ z = stopV 2 k num ∧ G' = G := by
 refine zBo Tryz.func224 L224_ok (Nat.le_of_ble_eq_true rfl) ?_
 have hF := failM C G rf rp ri k num 2 [] x1 x2 hp hf i0 (int a) (int b) i3 i4 i6 i7 hi
 by_cases h1 : i < 0
 ·repeat' (first | refine And.intro (by omega) ?_ | refine zQ (hF) ?_ | simp -implicitDefEqProofs (disch := omega) only [L224, hg, List.drop_zero, zM, push_cast, simprocAttr, ↓reduceIte])
 ·by_cases h2 : b ≤ i
  ·repeat' (first | refine And.intro (by omega) ?_ | refine zQ (hF) ?_ | simp -implicitDefEqProofs (disch := omega) only [L224, hi, hg, List.drop_succ_cons, List.drop_zero, zR, zAa, push_cast, simprocAttr, ↓reduceIte])
  ·repeat' (first | refine And.intro (by omega) ?_ | simp -implicitDefEqProofs (disch := omega) only [L224, hi, List.drop_succ_cons, List.drop_zero, zR, zAo, push_cast, simprocAttr, ↓reduceIte])
   omega
abbrev RnM (C : Cx) (st sz om : AV) (cnt : Int) : HO := .box [zAz C.ps, int C.w, int C.L, st, sz, om, int cnt]
structure StM (C : Cx) (st sz om : AV) (N0 rx rf rs vs : Nat) (s : St) (G : zC) : Prop where
 rn : G[rx]? = some (RnM C st sz om s.cnt)
 fr : ∃ sk, FR G N0 rf rs vs C.k s.slots s.stk sk
 hx : rx < N0
def StMR (C : Cx) (st sz om : AV) (N0 rx rf rs vs : Nat) (r : Flow × St) (y : AV) (G G' : zC) : Prop :=
 KpX N0 rx rf G G' ∧ match r with
  | (.go, s) => y = bool false ∧ StM C st sz om N0 rx rf rs vs s G'
  | (.ret, s) => y = bool true ∧ StM C st sz om N0 rx rf rs vs s G'
  | (.flt f p a, s) => False
def StMZ (C : Cx) (st sz om : AV) (N0 rx rf : Nat) (r : Flow × St) (z : Value) (G G' : zC) : Prop :=
 KpX N0 rx rf G G' ∧ match r with
  | (.flt f p a, s) => z = stopV f p a ∧ G'[rx]? = some (RnM C st sz om s.cnt)
  | _ => False
abbrev G3 (C : Cx) (st sz om : AV) (cnt : Int) (rx rf : Nat) (G : zC) (cs : List AV) : zC :=
 G.set rx (RnM C st sz om cnt) ++ [.box [.ptr rf 0 0], .box cs, .box [.fn (.func 223) [] [.ptr G.length 0 0, .ptr (G.length + 1) 0 0]]]
theorem hget_sl3 {G : zC} (a : Nat) (x y z w : HO) : (G.set a x ++ [y, z, w])[G.length]? = some y ∧ (G.set a x ++ [y, z, w])[G.length + 1]? = some z ∧ (G.set a x ++ [y, z, w])[G.length + 2]? = some w := by
 refine ⟨?_, ?_, ?_⟩ <;> (rw [List.getElem?_append_right (by simp)]; simp)
theorem zA0 {G : zC} (a : Nat) (x y z w : HO) : (G.set a x ++ [y, z, w])[G.length + 2]? = some w := (hget_sl3 a x y z w).2.2
theorem zAZ {G : zC} (a : Nat) (x y z w w' : HO) : (G.set a x ++ [y, z, w]).set (G.length + 2) w' = G.set a x ++ [y, z, w'] := by
 have := List.set_append_right (s := G.set a x) (t := [y, z, w]) (G.length + 2) w' (by simp)
 rw [this]; simp
section
variable {C : Cx} {st sz om : AV} {N0 rx rf rs vs : Nat} {G G2 : zC} {cnt : Int} {cs : List AV}
theorem g3_kp (hN : N0 ≤ G.length) : KpX N0 rx rf G (G3 C st sz om cnt rx rf G cs) := (KpX.setx _).trans (KpX.app (by simpa using hN) _)
theorem g3_0 : (G3 C st sz om cnt rx rf G cs)[G.length]? = some (.box [.ptr rf 0 0]) := (hget_sl3 _ _ _ _ _).1
theorem g3_1 : (G3 C st sz om cnt rx rf G cs)[G.length + 1]? = some (.box cs) := (hget_sl3 _ _ _ _ _).2.1
theorem g3_2 : (G3 C st sz om cnt rx rf G cs)[G.length + 2]? = some (.box [.fn (.func 223) [] [.ptr G.length 0 0, .ptr (G.length + 1) 0 0]]) := (hget_sl3 _ _ _ _ _).2.2
theorem zCc {i : Nat} (h1 : ¬ rx = i) (h2 : i < G.length) : (G3 C st sz om cnt rx rf G cs)[i]? = G[i]? := by rw [List.getElem?_append_left (by simpa using h2), List.getElem?_set_ne h1]
theorem g3_len : (G3 C st sz om cnt rx rf G cs).length = G.length + 3 := by simp
theorem g3_x (h : rx < G.length) : (G3 C st sz om cnt rx rf G cs)[rx]? = some (RnM C st sz om cnt) := by rw [List.getElem?_append_left (by simpa using h), List.getElem?_set_self h]
theorem g3_go {s' : St} {sk' : AV} {r : Flow × St} (hr : r = (.go, s')) (hN : N0 ≤ G.length) (hx : rx < N0) (hk : Kp0 N0 rf (G3 C st sz om s'.cnt rx rf G cs) G2) (hf : FR G2 N0 rf rs vs C.k s'.slots s'.stk sk') : StMR C st sz om N0 rx rf rs vs r (bool false) G G2 := by
 subst hr
 exact ⟨(g3_kp hN).trans (hk.x rx), rfl, by rw [hk.keep rx hx]; exact g3_x (by omega), ⟨_, hf⟩, hx⟩
theorem g3_ret {s' : St} {sk' : AV} {r : Flow × St} (hr : r = (.ret, s')) (hN : N0 ≤ G.length) (hx : rx < N0) (hk : Kp0 N0 rf (G3 C st sz om s'.cnt rx rf G cs) G2) (hf : FR G2 N0 rf rs vs C.k s'.slots s'.stk sk') : StMR C st sz om N0 rx rf rs vs r (bool true) G G2 := by
 subst hr
 exact ⟨(g3_kp hN).trans (hk.x rx), rfl, by rw [hk.keep rx hx]; exact g3_x (by omega), ⟨_, hf⟩, hx⟩
theorem g3_flt {s' : St} {r : Flow × St} {f p a : Int} (hr : r = (.flt f p a, s')) (hN : N0 ≤ G.length) (hx : rx < N0) (hk : Kp0 N0 rf (G3 C st sz om s'.cnt rx rf G cs) G2) : StMZ C st sz om N0 rx rf r (stopV f p a) G G2 := by
 subst hr
 exact ⟨(g3_kp hN).trans (hk.x rx), rfl, by rw [hk.keep rx hx]; exact g3_x (by omega)⟩
end
section
variable {C : Cx} {st sz om : AV} {N0 rx rf rs vs : Nat} {slots stk : List Int} {cnt : Int} {G : zC} {a b num : Int} {bd el : List Ins}
abbrev zAF (o a b : Int) (bd el : List Ins) (num : Int) : List AV := [int o, int a, int b, .sl 5 (bd.map zAs), .sl 5 (el.map zAs), int num, .sl 8 (zBF bd (num + 1)), .sl 8 (zBF el (num + 1 + zL bd))]
theorem step0M (ha : 0 ≤ a ∧ a ≤ 999999999) (h : StM C st sz om N0 rx rf rs vs ⟨slots, stk, cnt⟩ G) (hN : N0 ≤ G.length) (hl : stk.length ≤ 300000) :
  ACallX Tryz.prog 180 [.ptr rx 0 0, .ptr rf 0 0, .agg (zAF 0 a b bd el num)] G (fun y G' => StMR C st sz om N0 rx rf rs vs (exS C 0 a b num (St.tick ⟨slots, stk, cnt⟩)) y G G') fun z G' => StMZ C st sz om N0 rx rf (exS C 0 a b num (St.tick ⟨slots, stk, cnt⟩)) z G G' := by
 obtain ⟨hrn, ⟨sk, hfr⟩, hx⟩ := h
 simp only at hrn hfr
 have hff := hfr.f
 have hss := hfr.s
 have nf := hfr.nf
 have ns := hfr.ns
 have hrx := zF hrn
 have hrf := zF hff
 have hrs := zF hss
 have hfs := zAl hss hff (by simp)
 have hfr1 : FR (G3 C st sz om (IntKind.i64.wrap (cnt + 1)) rx rf G (zAF 0 a b bd el num)) N0 rf rs vs C.k slots (stk) sk := hfr.mono fun i h1 h2 => zCc (by omega) h2
 have q0 : (G3 C st sz om (IntKind.i64.wrap (cnt + 1)) rx rf G (zAF 0 a b bd el num))[G.length]? = _ := g3_0
 have q1 : (G3 C st sz om (IntKind.i64.wrap (cnt + 1)) rx rf G (zAF 0 a b bd el num))[G.length + 1]? = _ := g3_1
 have q2 : (G3 C st sz om (IntKind.i64.wrap (cnt + 1)) rx rf G (zAF 0 a b bd el num))[G.length + 2]? = _ := g3_2
 have qx : (G3 C st sz om (IntKind.i64.wrap (cnt + 1)) rx rf G (zAF 0 a b bd el num))[rx]? = _ := g3_x hrx
 have qf : (G3 C st sz om (IntKind.i64.wrap (cnt + 1)) rx rf G (zAF 0 a b bd el num))[rf]? = _ := hfr1.f
 have qs : (G3 C st sz om (IntKind.i64.wrap (cnt + 1)) rx rf G (zAF 0 a b bd el num))[rs]? = _ := hfr1.s
 have hi : zCT a := by unfold zCT; omega
 refine zBo Tryz.func180 L180_ok (Nat.le_of_ble_eq_true rfl) ?_
 repeat' (first | refine zA (wrapC C.w a hi _) ?_ | simp -implicitDefEqProofs (disch := omega) only [L180, hrn, q0, q1, qx, zB, zJ, zW, splice, List.drop_succ_cons, List.drop_zero, zA0, zAZ, push_cast, simprocAttr, ↓reduceIte, Bool.and_self])
 refine zV (pushM1 hfr1 hl) ?_
 rintro _ G' ⟨rfl, hk, sk', hfr'⟩
 repeat' (simp -implicitDefEqProofs (disch := omega) only [push_cast])
 exact g3_go (s' := ⟨slots, wrF C.w a :: stk, _⟩) rfl hN hx hk hfr'
theorem step1M (ha : 0 ≤ a ∧ a < slots.length) (h : StM C st sz om N0 rx rf rs vs ⟨slots, stk, cnt⟩ G) (hN : N0 ≤ G.length) (hl : stk.length ≤ 300000) :
  ACallX Tryz.prog 180 [.ptr rx 0 0, .ptr rf 0 0, .agg (zAF 1 a b bd el num)] G (fun y G' => StMR C st sz om N0 rx rf rs vs (exS C 1 a b num (St.tick ⟨slots, stk, cnt⟩)) y G G') fun z G' => StMZ C st sz om N0 rx rf (exS C 1 a b num (St.tick ⟨slots, stk, cnt⟩)) z G G' := by
 obtain ⟨hrn, ⟨sk, hfr⟩, hx⟩ := h
 simp only at hrn hfr
 have hff := hfr.f
 have hss := hfr.s
 have nf := hfr.nf
 have ns := hfr.ns
 have hrx := zF hrn
 have hrf := zF hff
 have hrs := zF hss
 have hfs := zAl hss hff (by simp)
 have hfr1 : FR (G3 C st sz om (IntKind.i64.wrap (cnt + 1)) rx rf G (zAF 1 a b bd el num)) N0 rf rs vs C.k slots (stk) sk := hfr.mono fun i h1 h2 => zCc (by omega) h2
 have q0 : (G3 C st sz om (IntKind.i64.wrap (cnt + 1)) rx rf G (zAF 1 a b bd el num))[G.length]? = _ := g3_0
 have q1 : (G3 C st sz om (IntKind.i64.wrap (cnt + 1)) rx rf G (zAF 1 a b bd el num))[G.length + 1]? = _ := g3_1
 have q2 : (G3 C st sz om (IntKind.i64.wrap (cnt + 1)) rx rf G (zAF 1 a b bd el num))[G.length + 2]? = _ := g3_2
 have qx : (G3 C st sz om (IntKind.i64.wrap (cnt + 1)) rx rf G (zAF 1 a b bd el num))[rx]? = _ := g3_x hrx
 have qf : (G3 C st sz om (IntKind.i64.wrap (cnt + 1)) rx rf G (zAF 1 a b bd el num))[rf]? = _ := hfr1.f
 have qs : (G3 C st sz om (IntKind.i64.wrap (cnt + 1)) rx rf G (zAF 1 a b bd el num))[rs]? = _ := hfr1.s
 have hrow : (slots.map iR).getD a.toNat [] = [int (slots.getD a.toNat default)] := zS (by omega)
 have hrow1 : List.drop 1 ((slots.map iR).getD a.toNat []) = [] := by rw [hrow]; rfl
 refine zBo Tryz.func180 L180_ok (Nat.le_of_ble_eq_true rfl) ?_
 repeat' (first | refine And.intro (by omega) ?_ | simp -implicitDefEqProofs (disch := omega) only [L180, hrn, q0, q1, qf, qs, zB, zJ, zW, splice, List.drop_succ_cons, List.drop_zero, zA0, zAZ, hrow, Nat.zero_add, push_cast, simprocAttr, ↓reduceIte, Bool.and_self])
 refine zV (pushM1 hfr1 hl) ?_
 rintro _ G' ⟨rfl, hk, sk', hfr'⟩
 repeat' (simp -implicitDefEqProofs (disch := omega) only [push_cast])
 exact g3_go (s' := ⟨slots, slots.getD a.toNat default :: stk, _⟩) rfl hN hx hk hfr'
theorem step2M (v : Int) (ha : 0 ≤ a ∧ a < slots.length) (h : StM C st sz om N0 rx rf rs vs ⟨slots, v :: stk, cnt⟩ G) (hN : N0 ≤ G.length) (hl : stk.length ≤ 300000) :
  ACallX Tryz.prog 180 [.ptr rx 0 0, .ptr rf 0 0, .agg (zAF 2 a b bd el num)] G (fun y G' => StMR C st sz om N0 rx rf rs vs (exS C 2 a b num (St.tick ⟨slots, v :: stk, cnt⟩)) y G G') fun z G' => StMZ C st sz om N0 rx rf (exS C 2 a b num (St.tick ⟨slots, v :: stk, cnt⟩)) z G G' := by
 obtain ⟨hrn, ⟨sk, hfr⟩, hx⟩ := h
 simp only at hrn hfr
 have hff := hfr.f
 have hss := hfr.s
 have nf := hfr.nf
 have ns := hfr.ns
 have hrx := zF hrn
 have hrf := zF hff
 have hrs := zF hss
 have hfs := zAl hss hff (by simp)
 have hfr1 : FR (G3 C st sz om (IntKind.i64.wrap (cnt + 1)) rx rf G (zAF 2 a b bd el num)) N0 rf rs vs C.k slots (v :: stk) sk := hfr.mono fun i h1 h2 => zCc (by omega) h2
 have q0 : (G3 C st sz om (IntKind.i64.wrap (cnt + 1)) rx rf G (zAF 2 a b bd el num))[G.length]? = _ := g3_0
 have q1 : (G3 C st sz om (IntKind.i64.wrap (cnt + 1)) rx rf G (zAF 2 a b bd el num))[G.length + 1]? = _ := g3_1
 have q2 : (G3 C st sz om (IntKind.i64.wrap (cnt + 1)) rx rf G (zAF 2 a b bd el num))[G.length + 2]? = _ := g3_2
 have qx : (G3 C st sz om (IntKind.i64.wrap (cnt + 1)) rx rf G (zAF 2 a b bd el num))[rx]? = _ := g3_x hrx
 have qf : (G3 C st sz om (IntKind.i64.wrap (cnt + 1)) rx rf G (zAF 2 a b bd el num))[rf]? = _ := hfr1.f
 have qs : (G3 C st sz om (IntKind.i64.wrap (cnt + 1)) rx rf G (zAF 2 a b bd el num))[rs]? = _ := hfr1.s
 have hrow : (slots.map iR).getD a.toNat [] = [int (slots.getD a.toNat default)] := zS (by omega)
 have hrow1 : List.drop 1 ((slots.map iR).getD a.toNat []) = [] := by rw [hrow]; rfl
 refine zBo Tryz.func180 L180_ok (Nat.le_of_ble_eq_true rfl) ?_
 repeat' (first | refine And.intro (by omega) ?_ | simp -implicitDefEqProofs (disch := omega) only [L180, hrn, q0, q1, qf, qs, zB, zJ, zW, splice, List.drop_succ_cons, List.drop_zero, zA0, zAZ, Nat.zero_add, push_cast, simprocAttr, ↓reduceIte, Bool.and_self])
 refine zV (popM hfr1) ?_
 rintro _ G' ⟨rfl, hk, sk', hfr'⟩
 have hff' := hfr'.f
 have hss' := hfr'.s
 have b0 := hk.box G.length _ (by omega) q0
 have b1 := hk.box (G.length + 1) _ (by omega) q1
 have b2 := hk.box (G.length + 2) _ (by omega) q2
 have bx : _ = some (RnM C st sz om (IntKind.i64.wrap (cnt + 1))) := (hk.keep rx hx).trans qx
 repeat' (first | refine And.intro (by omega) ?_ | simp -implicitDefEqProofs (disch := omega) only [hff', hss', b0, b1, hrow1, Nat.zero_add, splice, List.drop_succ_cons, List.drop_zero, push_cast, simprocAttr, ↓reduceIte, Bool.and_self])
 exact g3_go (s' := ⟨slots.set a.toNat v, stk, _⟩) rfl hN hx (hk.trans (Kp0.seta ns hss' _)) (hfr'.put a.toNat v)
theorem step21M (h : StM C st sz om N0 rx rf rs vs ⟨slots, stk, cnt⟩ G) (hN : N0 ≤ G.length) (hl : stk.length ≤ 300000) :
  ACallX Tryz.prog 180 [.ptr rx 0 0, .ptr rf 0 0, .agg (zAF 21 a b bd el num)] G (fun y G' => StMR C st sz om N0 rx rf rs vs (exS C 21 a b num (St.tick ⟨slots, stk, cnt⟩)) y G G') fun z G' => StMZ C st sz om N0 rx rf (exS C 21 a b num (St.tick ⟨slots, stk, cnt⟩)) z G G' := by
 obtain ⟨hrn, ⟨sk, hfr⟩, hx⟩ := h
 simp only at hrn hfr
 have hff := hfr.f
 have hss := hfr.s
 have nf := hfr.nf
 have ns := hfr.ns
 have hrx := zF hrn
 have hrf := zF hff
 have hrs := zF hss
 have hfs := zAl hss hff (by simp)
 have hfr1 : FR (G3 C st sz om (IntKind.i64.wrap (cnt + 1)) rx rf G (zAF 21 a b bd el num)) N0 rf rs vs C.k slots (stk) sk := hfr.mono fun i h1 h2 => zCc (by omega) h2
 have q0 : (G3 C st sz om (IntKind.i64.wrap (cnt + 1)) rx rf G (zAF 21 a b bd el num))[G.length]? = _ := g3_0
 have q1 : (G3 C st sz om (IntKind.i64.wrap (cnt + 1)) rx rf G (zAF 21 a b bd el num))[G.length + 1]? = _ := g3_1
 have q2 : (G3 C st sz om (IntKind.i64.wrap (cnt + 1)) rx rf G (zAF 21 a b bd el num))[G.length + 2]? = _ := g3_2
 have qx : (G3 C st sz om (IntKind.i64.wrap (cnt + 1)) rx rf G (zAF 21 a b bd el num))[rx]? = _ := g3_x hrx
 have qf : (G3 C st sz om (IntKind.i64.wrap (cnt + 1)) rx rf G (zAF 21 a b bd el num))[rf]? = _ := hfr1.f
 have qs : (G3 C st sz om (IntKind.i64.wrap (cnt + 1)) rx rf G (zAF 21 a b bd el num))[rs]? = _ := hfr1.s
 refine zBo Tryz.func180 L180_ok (Nat.le_of_ble_eq_true rfl) ?_
 repeat' (simp -implicitDefEqProofs (disch := omega) only [L180, hrn, q1, zB, zJ, zW, splice, List.drop_succ_cons, List.drop_zero, zA0, zAZ, push_cast, simprocAttr, ↓reduceIte, Bool.and_self])
 exact g3_ret (s' := ⟨slots, stk, _⟩) rfl hN hx Kp0.refl hfr1
theorem step22M (v : Int) (h : StM C st sz om N0 rx rf rs vs ⟨slots, v :: stk, cnt⟩ G) (hN : N0 ≤ G.length) (hl : stk.length ≤ 300000) :
  ACallX Tryz.prog 180 [.ptr rx 0 0, .ptr rf 0 0, .agg (zAF 22 a b bd el num)] G (fun y G' => StMR C st sz om N0 rx rf rs vs (exS C 22 a b num (St.tick ⟨slots, v :: stk, cnt⟩)) y G G') fun z G' => StMZ C st sz om N0 rx rf (exS C 22 a b num (St.tick ⟨slots, v :: stk, cnt⟩)) z G G' := by
 obtain ⟨hrn, ⟨sk, hfr⟩, hx⟩ := h
 simp only at hrn hfr
 have hff := hfr.f
 have hss := hfr.s
 have nf := hfr.nf
 have ns := hfr.ns
 have hrx := zF hrn
 have hrf := zF hff
 have hrs := zF hss
 have hfs := zAl hss hff (by simp)
 have hfr1 : FR (G3 C st sz om (IntKind.i64.wrap (cnt + 1)) rx rf G (zAF 22 a b bd el num)) N0 rf rs vs C.k slots (v :: stk) sk := hfr.mono fun i h1 h2 => zCc (by omega) h2
 have q0 : (G3 C st sz om (IntKind.i64.wrap (cnt + 1)) rx rf G (zAF 22 a b bd el num))[G.length]? = _ := g3_0
 have q1 : (G3 C st sz om (IntKind.i64.wrap (cnt + 1)) rx rf G (zAF 22 a b bd el num))[G.length + 1]? = _ := g3_1
 have q2 : (G3 C st sz om (IntKind.i64.wrap (cnt + 1)) rx rf G (zAF 22 a b bd el num))[G.length + 2]? = _ := g3_2
 have qx : (G3 C st sz om (IntKind.i64.wrap (cnt + 1)) rx rf G (zAF 22 a b bd el num))[rx]? = _ := g3_x hrx
 have qf : (G3 C st sz om (IntKind.i64.wrap (cnt + 1)) rx rf G (zAF 22 a b bd el num))[rf]? = _ := hfr1.f
 have qs : (G3 C st sz om (IntKind.i64.wrap (cnt + 1)) rx rf G (zAF 22 a b bd el num))[rs]? = _ := hfr1.s
 refine zBo Tryz.func180 L180_ok (Nat.le_of_ble_eq_true rfl) ?_
 repeat' (simp -implicitDefEqProofs (disch := omega) only [L180, hrn, q0, q1, zB, zJ, zW, splice, List.drop_succ_cons, List.drop_zero, zA0, zAZ, push_cast, simprocAttr, ↓reduceIte, Bool.and_self])
 refine zV (popM hfr1) ?_
 rintro _ G' ⟨rfl, hk, sk', hfr'⟩
 have hff' := hfr'.f
 have hss' := hfr'.s
 have b0 := hk.box G.length _ (by omega) q0
 have b1 := hk.box (G.length + 1) _ (by omega) q1
 have b2 := hk.box (G.length + 2) _ (by omega) q2
 have bx : _ = some (RnM C st sz om (IntKind.i64.wrap (cnt + 1))) := (hk.keep rx hx).trans qx
 by_cases h1 : v = 0
 ·repeat' (simp -implicitDefEqProofs (disch := omega) only [b2, List.drop_zero, zAi, push_cast, simprocAttr, ↓reduceIte])
  refine zH (failM C G' rf G.length (G.length + 1) C.k num 3 [] _ _ b0 hff' _ _ _ _ _ _ _ b1) (fun _ _ hh => hh.elim) ?_
  rintro _ G2 ⟨rfl, rfl⟩
  repeat' (simp -implicitDefEqProofs (disch := omega) only [push_cast])
  exact g3_flt (s' := ⟨slots, v :: stk, _⟩) (by simp only [exS, St.tick, St.top, List.headD_cons, h1, if_true]; rfl) hN hx hk
 ·repeat' (simp -implicitDefEqProofs (disch := omega) only [zX, push_cast, ↓reduceIte])
  exact g3_go (s' := ⟨slots, stk, _⟩) (by simp only [exS, St.tick, St.top, St.pop, List.headD_cons, List.tail_cons, h1, if_false]; rfl) hN hx hk hfr'
theorem step3M (i : Int) (ha : 0 ≤ a ∧ a < slots.length) (hb : 1 ≤ b ∧ b ≤ slots.length - a) (hs : slots.length ≤ 1024) (hii : -1000 ≤ i ∧ i ≤ 1000) (h : StM C st sz om N0 rx rf rs vs ⟨slots, i :: stk, cnt⟩ G) (hN : N0 ≤ G.length) (hl : stk.length ≤ 300000) :
  ACallX Tryz.prog 180 [.ptr rx 0 0, .ptr rf 0 0, .agg (zAF 3 a b bd el num)] G (fun y G' => StMR C st sz om N0 rx rf rs vs (exS C 3 a b num (St.tick ⟨slots, i :: stk, cnt⟩)) y G G') fun z G' => StMZ C st sz om N0 rx rf (exS C 3 a b num (St.tick ⟨slots, i :: stk, cnt⟩)) z G G' := by
 obtain ⟨hrn, ⟨sk, hfr⟩, hx⟩ := h
 simp only at hrn hfr
 have hff := hfr.f
 have hss := hfr.s
 have nf := hfr.nf
 have ns := hfr.ns
 have hrx := zF hrn
 have hrf := zF hff
 have hrs := zF hss
 have hfs := zAl hss hff (by simp)
 have hfr1 : FR (G3 C st sz om (IntKind.i64.wrap (cnt + 1)) rx rf G (zAF 3 a b bd el num)) N0 rf rs vs C.k slots (i :: stk) sk := hfr.mono fun i h1 h2 => zCc (by omega) h2
 have q0 : (G3 C st sz om (IntKind.i64.wrap (cnt + 1)) rx rf G (zAF 3 a b bd el num))[G.length]? = _ := g3_0
 have q1 : (G3 C st sz om (IntKind.i64.wrap (cnt + 1)) rx rf G (zAF 3 a b bd el num))[G.length + 1]? = _ := g3_1
 have q2 : (G3 C st sz om (IntKind.i64.wrap (cnt + 1)) rx rf G (zAF 3 a b bd el num))[G.length + 2]? = _ := g3_2
 have qx : (G3 C st sz om (IntKind.i64.wrap (cnt + 1)) rx rf G (zAF 3 a b bd el num))[rx]? = _ := g3_x hrx
 have qf : (G3 C st sz om (IntKind.i64.wrap (cnt + 1)) rx rf G (zAF 3 a b bd el num))[rf]? = _ := hfr1.f
 have qs : (G3 C st sz om (IntKind.i64.wrap (cnt + 1)) rx rf G (zAF 3 a b bd el num))[rs]? = _ := hfr1.s
 refine zBo Tryz.func180 L180_ok (Nat.le_of_ble_eq_true rfl) ?_
 repeat' (simp -implicitDefEqProofs (disch := omega) only [L180, hrn, q0, q1, qf, zB, zJ, zW, splice, List.drop_succ_cons, List.drop_zero, zA0, zAZ, push_cast, simprocAttr, ↓reduceIte, Bool.and_self])
 refine zV (popM hfr1) ?_
 rintro _ G' ⟨rfl, hk, sk', hfr'⟩
 have hff' := hfr'.f
 have hss' := hfr'.s
 have b0 := hk.box G.length _ (by omega) q0
 have b1 := hk.box (G.length + 1) _ (by omega) q1
 have b2 := hk.box (G.length + 2) _ (by omega) q2
 have bx : _ = some (RnM C st sz om (IntKind.i64.wrap (cnt + 1))) := (hk.keep rx hx).trans qx
 repeat' (simp -implicitDefEqProofs (disch := omega) only [hff', b0, List.drop_succ_cons, List.drop_zero, push_cast, simprocAttr, ↓reduceIte])
 refine zAW (elemM C G' rf G.length (G.length + 1) (G.length + 2) C.k num a b i _ _ b0 hff' _ _ _ _ _ b1 b2 (by omega) (by omega) hii) ?_ ?_
 ·rintro _ G2 ⟨⟨h1, h2⟩, rfl, rfl⟩
  have hrow : (slots.map iR).getD (a + i).toNat [] = [int (slots.getD (a + i).toNat default)] := zS (by omega)
  repeat' (first | refine And.intro (by omega) ?_ | simp -implicitDefEqProofs (disch := omega) only [hff', hss', b0, hrow, Nat.zero_add, List.drop_succ_cons, List.drop_zero, push_cast, simprocAttr, ↓reduceIte, Bool.and_self])
  refine zV (pushM1 hfr' hl) ?_
  rintro _ G2 ⟨rfl, hk2, sk2, hfr2⟩
  repeat' (simp -implicitDefEqProofs (disch := omega) only [push_cast])
  exact g3_go (s' := ⟨slots, slots.getD (a + i).toNat default :: stk, _⟩) (by simp only [exS, St.tick, St.top, St.pop, St.push, List.headD_cons, List.tail_cons, show ¬ i < 0 by omega, show ¬ b ≤ i by omega, or_self, if_false]; rfl) hN hx (hk.trans hk2) hfr2
 ·rintro _ G2 ⟨h1, rfl, rfl⟩
  repeat' (simp -implicitDefEqProofs (disch := omega) only [push_cast])
  exact g3_flt (s' := ⟨slots, i :: stk, _⟩) (by simp only [exS, St.tick, St.top, List.headD_cons, h1, if_true]; rfl) hN hx hk
theorem step4M (v i : Int) (ha : 0 ≤ a ∧ a < slots.length) (hb : 1 ≤ b ∧ b ≤ slots.length - a) (hs : slots.length ≤ 1024) (hii : -1000 ≤ i ∧ i ≤ 1000) (h : StM C st sz om N0 rx rf rs vs ⟨slots, v :: i :: stk, cnt⟩ G) (hN : N0 ≤ G.length) (hl : stk.length ≤ 300000) :
  ACallX Tryz.prog 180 [.ptr rx 0 0, .ptr rf 0 0, .agg (zAF 4 a b bd el num)] G (fun y G' => StMR C st sz om N0 rx rf rs vs (exS C 4 a b num (St.tick ⟨slots, v :: i :: stk, cnt⟩)) y G G') fun z G' => StMZ C st sz om N0 rx rf (exS C 4 a b num (St.tick ⟨slots, v :: i :: stk, cnt⟩)) z G G' := by
 obtain ⟨hrn, ⟨sk, hfr⟩, hx⟩ := h
 simp only at hrn hfr
 have hff := hfr.f
 have hss := hfr.s
 have nf := hfr.nf
 have ns := hfr.ns
 have hrx := zF hrn
 have hrf := zF hff
 have hrs := zF hss
 have hfs := zAl hss hff (by simp)
 have hfr1 : FR (G3 C st sz om (IntKind.i64.wrap (cnt + 1)) rx rf G (zAF 4 a b bd el num)) N0 rf rs vs C.k slots (v :: i :: stk) sk := hfr.mono fun i h1 h2 => zCc (by omega) h2
 have q0 : (G3 C st sz om (IntKind.i64.wrap (cnt + 1)) rx rf G (zAF 4 a b bd el num))[G.length]? = _ := g3_0
 have q1 : (G3 C st sz om (IntKind.i64.wrap (cnt + 1)) rx rf G (zAF 4 a b bd el num))[G.length + 1]? = _ := g3_1
 have q2 : (G3 C st sz om (IntKind.i64.wrap (cnt + 1)) rx rf G (zAF 4 a b bd el num))[G.length + 2]? = _ := g3_2
 have qx : (G3 C st sz om (IntKind.i64.wrap (cnt + 1)) rx rf G (zAF 4 a b bd el num))[rx]? = _ := g3_x hrx
 have qf : (G3 C st sz om (IntKind.i64.wrap (cnt + 1)) rx rf G (zAF 4 a b bd el num))[rf]? = _ := hfr1.f
 have qs : (G3 C st sz om (IntKind.i64.wrap (cnt + 1)) rx rf G (zAF 4 a b bd el num))[rs]? = _ := hfr1.s
 refine zBo Tryz.func180 L180_ok (Nat.le_of_ble_eq_true rfl) ?_
 repeat' (simp -implicitDefEqProofs (disch := omega) only [L180, hrn, q0, q1, zB, zJ, zW, splice, List.drop_succ_cons, List.drop_zero, zA0, zAZ, push_cast, simprocAttr, ↓reduceIte, Bool.and_self])
 refine zV (popM hfr1) ?_
 rintro _ G0 ⟨rfl, hk0, sk0, hfr0⟩
 have c0 := hk0.box G.length _ (by omega) q0
 have hff0 := hfr0.f
 have hss0 := hfr0.s
 repeat' (simp -implicitDefEqProofs (disch := omega) only [c0, hff0, List.drop_succ_cons, List.drop_zero, push_cast, simprocAttr, ↓reduceIte])
 refine zV (popM hfr0) ?_
 rintro _ G' ⟨rfl, hk1, sk', hfr'⟩
 have hk := hk0.trans hk1
 have hff' := hfr'.f
 have hss' := hfr'.s
 have b0 := hk.box G.length _ (by omega) q0
 have b1 := hk.box (G.length + 1) _ (by omega) q1
 have b2 := hk.box (G.length + 2) _ (by omega) q2
 have bx : _ = some (RnM C st sz om (IntKind.i64.wrap (cnt + 1))) := (hk.keep rx hx).trans qx
 repeat' (simp -implicitDefEqProofs (disch := omega) only [hff', b0, List.drop_succ_cons, List.drop_zero, push_cast, simprocAttr, ↓reduceIte])
 refine zAW (elemM C G' rf G.length (G.length + 1) (G.length + 2) C.k num a b i _ _ b0 hff' _ _ _ _ _ b1 b2 (by omega) (by omega) hii) ?_ ?_
 ·rintro _ G2 ⟨⟨h1, h2⟩, rfl, rfl⟩
  have hrow1 : List.drop 1 ((slots.map iR).getD (a + i).toNat []) = [] := by rw [zS (by omega)]; rfl
  repeat' (first | refine And.intro (by omega) ?_ | simp -implicitDefEqProofs (disch := omega) only [hff', hss', b0, hrow1, Nat.zero_add, splice, List.drop_succ_cons, List.drop_zero, push_cast, simprocAttr, ↓reduceIte, Bool.and_self])
  exact g3_go (s' := ⟨slots.set (a + i).toNat v, stk, _⟩) (by simp only [exS, St.tick, St.top, St.pop, St.put, List.headD_cons, List.tail_cons, show ¬ i < 0 by omega, show ¬ b ≤ i by omega, or_self, if_false]; rfl) hN hx (hk.trans (Kp0.seta ns hss' _)) (hfr'.put (a + i).toNat v)
 ·rintro _ G2 ⟨h1, rfl, rfl⟩
  repeat' (simp -implicitDefEqProofs (disch := omega) only [push_cast])
  exact g3_flt (s' := ⟨slots, v :: i :: stk, _⟩) (by simp only [exS, St.tick, St.pop, St.top, List.tail_cons, List.headD_cons, h1, if_true]; rfl) hN hx hk
end
theorem OpM.cmpT {w : Int} {left : List Nat} {ks : List Value} {vs : List AV} (h : OpM w left ks vs) (o : Int) : (∀ k' ∈ ks, kCmp (.int .i64 o) k' = true) = True := by
 simp only [eq_iff_iff, iff_true]; exact h.cmp o
theorem rows_at {rows : List (List AV)} {stk : List Int} {i : Nat} (ht : rows.take stk.length = stk.reverse.map iR) (hi : i < stk.length) : rows.getD i [] = [int (stk.reverse.getD i default)] := by
 have e : rows.getD i [] = (rows.take stk.length).getD i [] := by
  simp only [List.getD_eq_getElem?_getD, List.getElem?_take, hi, if_true]
 rw [e, ht]
 exact zS (by simpa using hi)
section
variable {C : Cx} {st sz om : AV} {N0 rx rf rs vs : Nat} {slots stk : List Int} {cnt : Int} {G : zC} {a b num : Int} {ks : List Value} {vm : List AV} {bd el : List Ins}
theorem step16M (v : Int) (hm : OpM C.w [] ks vm) (hw : wOk C.w) (hv : inI C.w v) (h : StM C st sz (.mp ks vm) N0 rx rf rs vs ⟨slots, v :: stk, cnt⟩ G) (hN : N0 ≤ G.length) (hl : stk.length ≤ 300000) :
  ACallX Tryz.prog 180 [.ptr rx 0 0, .ptr rf 0 0, .agg (zAF 16 a b bd el num)] G (fun y G' => StMR C st sz (.mp ks vm) N0 rx rf rs vs (exS C 16 a b num (St.tick ⟨slots, v :: stk, cnt⟩)) y G G') fun z G' => StMZ C st sz (.mp ks vm) N0 rx rf (exS C 16 a b num (St.tick ⟨slots, v :: stk, cnt⟩)) z G G' := by
 obtain ⟨hrn, ⟨sk, hfr⟩, hx⟩ := h
 simp only at hrn hfr
 have hff := hfr.f
 have hss := hfr.s
 have nf := hfr.nf
 have ns := hfr.ns
 have hrx := zF hrn
 have hrf := zF hff
 have hrs := zF hss
 have hfs := zAl hss hff (by simp)
 have hfr1 : FR (G3 C st sz (.mp ks vm) (IntKind.i64.wrap (cnt + 1)) rx rf G (zAF 16 a b bd el num)) N0 rf rs vs C.k slots (v :: stk) sk := hfr.mono fun i h1 h2 => zCc (by omega) h2
 have q0 : (G3 C st sz (.mp ks vm) (IntKind.i64.wrap (cnt + 1)) rx rf G (zAF 16 a b bd el num))[G.length]? = _ := g3_0
 have q1 : (G3 C st sz (.mp ks vm) (IntKind.i64.wrap (cnt + 1)) rx rf G (zAF 16 a b bd el num))[G.length + 1]? = _ := g3_1
 have q2 : (G3 C st sz (.mp ks vm) (IntKind.i64.wrap (cnt + 1)) rx rf G (zAF 16 a b bd el num))[G.length + 2]? = _ := g3_2
 have qx : (G3 C st sz (.mp ks vm) (IntKind.i64.wrap (cnt + 1)) rx rf G (zAF 16 a b bd el num))[rx]? = _ := g3_x hrx
 have qf : (G3 C st sz (.mp ks vm) (IntKind.i64.wrap (cnt + 1)) rx rf G (zAF 16 a b bd el num))[rf]? = _ := hfr1.f
 have qs : (G3 C st sz (.mp ks vm) (IntKind.i64.wrap (cnt + 1)) rx rf G (zAF 16 a b bd el num))[rs]? = _ := hfr1.s
 obtain ⟨rt, vt, rows, N, rfl, hg, hN2, hlr, hbb, ht, h0, hne⟩ : ∃ (rt vt : Nat) (rows : List (List AV)) (N : Nat), sk = .os rt vt 0 N ∧ G[rt]? = some (.arr vt 1 rows) ∧ N = stk.length + 1 ∧ N ≤ rows.length ∧ rows.length ≤ 400000 ∧ rows.take (v :: stk).length = (v :: stk).reverse.map iR ∧ N0 ≤ rt ∧ ¬ rt = rs := by
  cases hfr.t with
  | os rt vt rows _ n hn hg ht hl hb h0 hne => exact ⟨rt, vt, rows, n, rfl, hg, by simpa using hn, hl, hb, by rw [← hn]; exact ht, h0, hne⟩
 have hft := zAl hg hff (by simp)
 have hrt := zF hg
 have qt : (G3 C st sz (.mp ks vm) (IntKind.i64.wrap (cnt + 1)) rx rf G (zAF 16 a b bd el num))[rt]? = some (.arr vt 1 rows) := (zCc (by omega) hrt).trans hg
 have hcm := hm.cmpT 16
 have hge := (hm.get 16).trans (show opFn C.w [] 16 = some _ from rfl)
 have hdr : rows.take stk.length = stk.reverse.map iR := by
  have := take_rows (p := 1) ht (by simp)
  simpa using this
 have hlt1 : (rows.take stk.length).length = stk.length := by rw [List.length_take]; omega
 have hr : rows.getD stk.length [] = [int v] := by
  have := rows_at (i := stk.length) ht (by simp)
  rwa [show (v :: stk).reverse.getD stk.length default = v by rw [List.reverse_cons, List.getD_eq_getElem?_getD, List.getElem?_append_right (by simp)]; simp] at this
 have cO := negOp (G := G3 C st sz (.mp ks vm) (IntKind.i64.wrap (cnt + 1)) rx rf G (zAF 16 a b bd el num)) hw hv qt hN2 hlr (by omega) hr
 refine zBo Tryz.func180 L180_ok (Nat.le_of_ble_eq_true rfl) ?_
 repeat' (simp -implicitDefEqProofs (disch := omega) only [L180, hrn, q0, q1, qx, qf, zB, zJ, zW, splice, List.drop_succ_cons, List.drop_zero, zA0, zAZ, push_cast, simprocAttr, ↓reduceIte, Bool.and_self])
 generalize hZ : (G.set rx (RnM C st sz (.mp ks vm) (IntKind.i64.wrap (cnt + 1))) ++ [HO.box [.ptr rf 0 0], HO.box (zAF 16 a b bd el num), HO.box [.fn (.func 223) [] [.ptr G.length 0 0, .ptr (G.length + 1) 0 0]]]) = Z
 have hZ' : G3 C st sz (.mp ks vm) (IntKind.i64.wrap (cnt + 1)) rx rf G (zAF 16 a b bd el num) = Z := hZ
 rw [hZ'] at q0 q1 q2 qx qf qs qt cO
 repeat' (first | refine And.intro (by omega) ?_ | refine zAG (cO) ?_ | simp -implicitDefEqProofs (disch := omega) only [q0, qf, qt, hcm, hge, hdr, Nat.zero_add, zG, splice, List.drop_succ_cons, List.drop_zero, push_cast, simprocAttr, ↓reduceIte, Bool.and_self])
 subst hZ
 exact g3_go (s' := ⟨slots, wrF C.w (-v) :: stk, IntKind.i64.wrap (cnt + 1)⟩) rfl hN hx ((Kp0.seta h0 qt _).trans (Kp0.setf nf _)) (hfr1.appt (L := stk.reverse.map iR ++ [[int (wrF C.w (-v))]]) qt h0 hne (by simp only [List.length_cons]; omega) (by simp [iR]) rfl)
theorem step17M (v : Int) (hm : OpM C.w [] ks vm) (h : StM C st sz (.mp ks vm) N0 rx rf rs vs ⟨slots, v :: stk, cnt⟩ G) (hN : N0 ≤ G.length) (hl : stk.length ≤ 300000) :
  ACallX Tryz.prog 180 [.ptr rx 0 0, .ptr rf 0 0, .agg (zAF 17 a b bd el num)] G (fun y G' => StMR C st sz (.mp ks vm) N0 rx rf rs vs (exS C 17 a b num (St.tick ⟨slots, v :: stk, cnt⟩)) y G G') fun z G' => StMZ C st sz (.mp ks vm) N0 rx rf (exS C 17 a b num (St.tick ⟨slots, v :: stk, cnt⟩)) z G G' := by
 obtain ⟨hrn, ⟨sk, hfr⟩, hx⟩ := h
 simp only at hrn hfr
 have hff := hfr.f
 have hss := hfr.s
 have nf := hfr.nf
 have ns := hfr.ns
 have hrx := zF hrn
 have hrf := zF hff
 have hrs := zF hss
 have hfs := zAl hss hff (by simp)
 have hfr1 : FR (G3 C st sz (.mp ks vm) (IntKind.i64.wrap (cnt + 1)) rx rf G (zAF 17 a b bd el num)) N0 rf rs vs C.k slots (v :: stk) sk := hfr.mono fun i h1 h2 => zCc (by omega) h2
 have q0 : (G3 C st sz (.mp ks vm) (IntKind.i64.wrap (cnt + 1)) rx rf G (zAF 17 a b bd el num))[G.length]? = _ := g3_0
 have q1 : (G3 C st sz (.mp ks vm) (IntKind.i64.wrap (cnt + 1)) rx rf G (zAF 17 a b bd el num))[G.length + 1]? = _ := g3_1
 have q2 : (G3 C st sz (.mp ks vm) (IntKind.i64.wrap (cnt + 1)) rx rf G (zAF 17 a b bd el num))[G.length + 2]? = _ := g3_2
 have qx : (G3 C st sz (.mp ks vm) (IntKind.i64.wrap (cnt + 1)) rx rf G (zAF 17 a b bd el num))[rx]? = _ := g3_x hrx
 have qf : (G3 C st sz (.mp ks vm) (IntKind.i64.wrap (cnt + 1)) rx rf G (zAF 17 a b bd el num))[rf]? = _ := hfr1.f
 have qs : (G3 C st sz (.mp ks vm) (IntKind.i64.wrap (cnt + 1)) rx rf G (zAF 17 a b bd el num))[rs]? = _ := hfr1.s
 obtain ⟨rt, vt, rows, N, rfl, hg, hN2, hlr, hbb, ht, h0, hne⟩ : ∃ (rt vt : Nat) (rows : List (List AV)) (N : Nat), sk = .os rt vt 0 N ∧ G[rt]? = some (.arr vt 1 rows) ∧ N = stk.length + 1 ∧ N ≤ rows.length ∧ rows.length ≤ 400000 ∧ rows.take (v :: stk).length = (v :: stk).reverse.map iR ∧ N0 ≤ rt ∧ ¬ rt = rs := by
  cases hfr.t with
  | os rt vt rows _ n hn hg ht hl hb h0 hne => exact ⟨rt, vt, rows, n, rfl, hg, by simpa using hn, hl, hb, by rw [← hn]; exact ht, h0, hne⟩
 have hft := zAl hg hff (by simp)
 have hrt := zF hg
 have qt : (G3 C st sz (.mp ks vm) (IntKind.i64.wrap (cnt + 1)) rx rf G (zAF 17 a b bd el num))[rt]? = some (.arr vt 1 rows) := (zCc (by omega) hrt).trans hg
 have hcm := hm.cmpT 17
 have hge := (hm.get 17).trans (show opFn C.w [] 17 = some _ from rfl)
 have hdr : rows.take stk.length = stk.reverse.map iR := by
  have := take_rows (p := 1) ht (by simp)
  simpa using this
 have hlt1 : (rows.take stk.length).length = stk.length := by rw [List.length_take]; omega
 have hr : rows.getD stk.length [] = [int v] := by
  have := rows_at (i := stk.length) ht (by simp)
  rwa [show (v :: stk).reverse.getD stk.length default = v by rw [List.reverse_cons, List.getD_eq_getElem?_getD, List.getElem?_append_right (by simp)]; simp] at this
 have cO := notOp (G := G3 C st sz (.mp ks vm) (IntKind.i64.wrap (cnt + 1)) rx rf G (zAF 17 a b bd el num)) qt hN2 hlr (by omega) hr
 rw [show exS C 17 a b num (St.tick ⟨slots, v :: stk, cnt⟩) = (.go, ⟨slots, (if v = 0 then 1 else 0) :: stk, IntKind.i64.wrap (cnt + 1)⟩) from rfl]
 generalize (if v = 0 then (1 : Int) else 0) = u at *
 refine zBo Tryz.func180 L180_ok (Nat.le_of_ble_eq_true rfl) ?_
 repeat' (simp -implicitDefEqProofs (disch := omega) only [L180, hrn, q0, q1, qx, qf, zB, zJ, zW, splice, List.drop_succ_cons, List.drop_zero, zA0, zAZ, push_cast, simprocAttr, ↓reduceIte, Bool.and_self])
 generalize hZ : (G.set rx (RnM C st sz (.mp ks vm) (IntKind.i64.wrap (cnt + 1))) ++ [HO.box [.ptr rf 0 0], HO.box (zAF 17 a b bd el num), HO.box [.fn (.func 223) [] [.ptr G.length 0 0, .ptr (G.length + 1) 0 0]]]) = Z
 have hZ' : G3 C st sz (.mp ks vm) (IntKind.i64.wrap (cnt + 1)) rx rf G (zAF 17 a b bd el num) = Z := hZ
 rw [hZ'] at q0 q1 q2 qx qf qs qt cO
 repeat' (first | refine And.intro (by omega) ?_ | refine zAG (cO) ?_ | simp -implicitDefEqProofs (disch := omega) only [q0, qf, qt, hcm, hge, hdr, Nat.zero_add, zG, splice, List.drop_succ_cons, List.drop_zero, push_cast, simprocAttr, ↓reduceIte, Bool.and_self])
 subst hZ
 exact g3_go (s' := ⟨slots, u :: stk, IntKind.i64.wrap (cnt + 1)⟩) rfl hN hx ((Kp0.seta h0 qt _).trans (Kp0.setf nf _)) (hfr1.appt (L := stk.reverse.map iR ++ [[int (u)]]) qt h0 hne (by simp only [List.length_cons]; omega) (by simp [iR]) rfl)
theorem stepBM {o : Int} (v2 v1 : Int) (hm : OpM C.w [] ks vm) (hw : wOk C.w) (h5 : 5 ≤ o) (h15 : o ≤ 15) (hv1 : inI C.w v1) (hv2 : inI C.w v2) (h : StM C st sz (.mp ks vm) N0 rx rf rs vs ⟨slots, v2 :: v1 :: stk, cnt⟩ G) (hN : N0 ≤ G.length) (hl : stk.length ≤ 300000) :
  ACallX Tryz.prog 180 [.ptr rx 0 0, .ptr rf 0 0, .agg (zAF o a b bd el num)] G (fun y G' => StMR C st sz (.mp ks vm) N0 rx rf rs vs (exS C o a b num (St.tick ⟨slots, v2 :: v1 :: stk, cnt⟩)) y G G') fun z G' => StMZ C st sz (.mp ks vm) N0 rx rf (exS C o a b num (St.tick ⟨slots, v2 :: v1 :: stk, cnt⟩)) z G G' := by
 obtain ⟨hrn, ⟨sk, hfr⟩, hx⟩ := h
 simp only at hrn hfr
 have hff := hfr.f
 have hss := hfr.s
 have nf := hfr.nf
 have ns := hfr.ns
 have hrx := zF hrn
 have hrf := zF hff
 have hrs := zF hss
 have hfs := zAl hss hff (by simp)
 have hfr1 : FR (G3 C st sz (.mp ks vm) (IntKind.i64.wrap (cnt + 1)) rx rf G (zAF o a b bd el num)) N0 rf rs vs C.k slots (v2 :: v1 :: stk) sk := hfr.mono fun i h1 h2 => zCc (by omega) h2
 have q0 : (G3 C st sz (.mp ks vm) (IntKind.i64.wrap (cnt + 1)) rx rf G (zAF o a b bd el num))[G.length]? = _ := g3_0
 have q1 : (G3 C st sz (.mp ks vm) (IntKind.i64.wrap (cnt + 1)) rx rf G (zAF o a b bd el num))[G.length + 1]? = _ := g3_1
 have q2 : (G3 C st sz (.mp ks vm) (IntKind.i64.wrap (cnt + 1)) rx rf G (zAF o a b bd el num))[G.length + 2]? = _ := g3_2
 have qx : (G3 C st sz (.mp ks vm) (IntKind.i64.wrap (cnt + 1)) rx rf G (zAF o a b bd el num))[rx]? = _ := g3_x hrx
 have qf : (G3 C st sz (.mp ks vm) (IntKind.i64.wrap (cnt + 1)) rx rf G (zAF o a b bd el num))[rf]? = _ := hfr1.f
 have qs : (G3 C st sz (.mp ks vm) (IntKind.i64.wrap (cnt + 1)) rx rf G (zAF o a b bd el num))[rs]? = _ := hfr1.s
 obtain ⟨rt, vt, rows, N, rfl, hg, hN2, hlr, hbb, ht, h0, hne⟩ : ∃ (rt vt : Nat) (rows : List (List AV)) (N : Nat), sk = .os rt vt 0 N ∧ G[rt]? = some (.arr vt 1 rows) ∧ N = stk.length + 2 ∧ N ≤ rows.length ∧ rows.length ≤ 400000 ∧ rows.take (v2 :: v1 :: stk).length = (v2 :: v1 :: stk).reverse.map iR ∧ N0 ≤ rt ∧ ¬ rt = rs := by
  cases hfr.t with
  | os rt vt rows _ n hn hg ht hl hb h0 hne => exact ⟨rt, vt, rows, n, rfl, hg, by simpa using hn, hl, hb, by rw [← hn]; exact ht, h0, hne⟩
 have hft := zAl hg hff (by simp)
 have hrt := zF hg
 have qt : (G3 C st sz (.mp ks vm) (IntKind.i64.wrap (cnt + 1)) rx rf G (zAF o a b bd el num))[rt]? = some (.arr vt 1 rows) := (zCc (by omega) hrt).trans hg
 have hcm := hm.cmpT o
 have hge := (hm.get o).trans (show opFn C.w [] o = some (.fn (.func 57) [] [.vp [int C.w] 0, .vp [str (opS o)] 0]) by unfold opFn; rw [if_neg (by omega), if_neg (by omega), if_pos ⟨h5, h15, by simp⟩])
 have hdr : rows.take stk.length = stk.reverse.map iR := by
  have := take_rows (p := 2) ht (by simp)
  simpa using this
 have hlt1 : (rows.take stk.length).length = stk.length := by rw [List.length_take]; omega
 have hra : rows.getD stk.length [] = [int v1] := by
  have := rows_at (i := stk.length) ht (by simp; omega)
  rwa [show (v2 :: v1 :: stk).reverse.getD stk.length default = v1 by rw [List.reverse_cons, List.reverse_cons, List.append_assoc, List.getD_eq_getElem?_getD, List.getElem?_append_right (by simp)]; simp] at this
 have hrb : rows.getD (stk.length + 1) [] = [int v2] := by
  have := rows_at (i := stk.length + 1) ht (by simp)
  rwa [show (v2 :: v1 :: stk).reverse.getD (stk.length + 1) default = v2 by rw [List.reverse_cons, List.reverse_cons, List.append_assoc, List.getD_eq_getElem?_getD, List.getElem?_append_right (by simp)]; simp] at this
 have cO := binOp (G := G3 C st sz (.mp ks vm) (IntKind.i64.wrap (cnt + 1)) rx rf G (zAF o a b bd el num)) hw h5 h15 hv1 hv2 qt hN2 hlr (by omega) hra hrb
 have hex : exS C o a b num (St.tick ⟨slots, v2 :: v1 :: stk, cnt⟩) = binS C num (St.tick ⟨slots, v2 :: v1 :: stk, cnt⟩) (binO o C.w v1 v2) := by
  unfold exS
  repeat rw [if_neg (by omega)]
  rfl
 rw [hex]
 unfold binS
 generalize binO o C.w v1 v2 = q at *
 by_cases hq : q.2 = 0
 ·rw [if_pos hq]
  rw [hq] at cO
  refine zBo Tryz.func180 L180_ok (Nat.le_of_ble_eq_true rfl) ?_
  repeat' (simp -implicitDefEqProofs (disch := omega) only [L180, hrn, q0, q1, qx, qf, zB, zJ, zW, splice, List.drop_succ_cons, List.drop_zero, zA0, zAZ, zX, push_cast, simprocAttr, ↓reduceIte, Bool.and_self])
  generalize hZ : (G.set rx (RnM C st sz (.mp ks vm) (IntKind.i64.wrap (cnt + 1))) ++ [HO.box [.ptr rf 0 0], HO.box (zAF o a b bd el num), HO.box [.fn (.func 223) [] [.ptr G.length 0 0, .ptr (G.length + 1) 0 0]]]) = Z
  have hZ' : G3 C st sz (.mp ks vm) (IntKind.i64.wrap (cnt + 1)) rx rf G (zAF o a b bd el num) = Z := hZ
  rw [hZ'] at q0 q1 q2 qx qf qs qt cO
  repeat' (first | refine And.intro (by omega) ?_ | refine zAG (cO) ?_ | simp -implicitDefEqProofs (disch := omega) only [q0, qf, qt, hcm, hge, hdr, Nat.zero_add, zG, splice, List.drop_succ_cons, List.drop_zero, push_cast, simprocAttr, ↓reduceIte, Bool.and_self])
  subst hZ
  exact g3_go (s' := ⟨slots, q.1 :: stk, IntKind.i64.wrap (cnt + 1)⟩) rfl hN hx ((Kp0.seta h0 qt _).trans (Kp0.setf nf _)) (hfr1.appt (L := stk.reverse.map iR ++ [[int (q.1)]]) qt h0 hne (by simp only [List.length_cons]; omega) (by simp [iR]) rfl)
 ·rw [if_neg hq]
  refine zBo Tryz.func180 L180_ok (Nat.le_of_ble_eq_true rfl) ?_
  repeat' (simp -implicitDefEqProofs (disch := omega) only [L180, hrn, q0, q1, qx, qf, zB, zJ, zW, splice, List.drop_succ_cons, List.drop_zero, zA0, zAZ, zX, push_cast, simprocAttr, ↓reduceIte, Bool.and_self])
  generalize hZ : (G.set rx (RnM C st sz (.mp ks vm) (IntKind.i64.wrap (cnt + 1))) ++ [HO.box [.ptr rf 0 0], HO.box (zAF o a b bd el num), HO.box [.fn (.func 223) [] [.ptr G.length 0 0, .ptr (G.length + 1) 0 0]]]) = Z
  have hZ' : G3 C st sz (.mp ks vm) (IntKind.i64.wrap (cnt + 1)) rx rf G (zAF o a b bd el num) = Z := hZ
  rw [hZ'] at q0 q1 q2 qx qf qs qt cO
  repeat' (first | refine zAG (cO) ?_ | simp -implicitDefEqProofs (disch := omega) only [q2, hcm, hge, Nat.zero_add, List.drop_zero, zX, push_cast, simprocAttr, ↓reduceIte])
  subst hZ
  refine zH (failM C _ rf G.length (G.length + 1) C.k num q.2 [] _ _ q0 qf _ _ _ _ _ _ _ q1) (fun _ _ hh => hh.elim) ?_
  rintro _ G2 ⟨rfl, rfl⟩
  repeat' (simp -implicitDefEqProofs (disch := omega) only [push_cast])
  exact g3_flt rfl hN hx Kp0.refl
end
structure SpO (C : Cx) (st sz : AV) (N0 rx : Nat) (G : zC) : Prop where
 s : ∃ a v rows, st = .os a v 0 C.ps.length ∧ a < N0 ∧ ¬ a = rx ∧ G[a]? = some (.arr v 1 rows) ∧ rows.length = C.ps.length ∧ ∀ i, i < C.ps.length → rows.getD i [] = [.sl 8 (zBF (C.ps.getD i default).body 0)]
 z : ∃ a v rows, sz = .os a v 0 C.ps.length ∧ a < N0 ∧ ¬ a = rx ∧ G[a]? = some (.arr v 1 rows) ∧ rows.length = C.ps.length ∧ ∀ i, i < C.ps.length → rows.getD i [] = [int (zL (C.ps.getD i default).body)]
theorem SpO.kp {C : Cx} {st sz : AV} {N0 rx rf : Nat} {G G' : zC} (h : SpO C st sz N0 rx G) (hk : KpX N0 rx rf G G') : SpO C st sz N0 rx G' := by
 obtain ⟨⟨a, v, rows, h1, h2, h3, h4, h5⟩, ⟨a', v', rows', g1, g2, g3, g4, g5⟩⟩ := h
 exact ⟨⟨a, v, rows, h1, h2, h3, (hk.keep a h2 h3).trans h4, h5⟩, ⟨a', v', rows', g1, g2, g3, (hk.keep a' g2 g3).trans g4, g5⟩⟩
theorem SpO.up {C : Cx} {st sz : AV} {N0 N1 rx : Nat} {G : zC} (h : SpO C st sz N0 rx G) (hN : N0 ≤ N1) : SpO C st sz N1 rx G := by
 obtain ⟨⟨a, v, rows, h1, h2, h3, h4, h5⟩, ⟨a', v', rows', g1, g2, g3, g4, g5⟩⟩ := h
 exact ⟨⟨a, v, rows, h1, by omega, h3, h4, h5⟩, ⟨a', v', rows', g1, by omega, g3, g4, g5⟩⟩
def lsM (C : Cx) (st sz om : AV) (l : List Ins) : Prop := ∀ (num base h h' lev : Int) (out : Bool) (N0 rx rf rs vs : Nat) (s : St) (G : zC), zBp C.ps C.k l out h = some h' → 0 ≤ h → h ≤ 1024 → 0 ≤ base → (out = true → base = 0) → TyS C s (base + h) →
 base ≤ 1024 * lev → 1 ≤ lev → lev + zAK l ≤ 257 → 0 ≤ num → num + zL l ≤ 32768 → StM C st sz om N0 rx rf rs vs s G → SpO C st sz N0 rx G → N0 ≤ G.length →
 ACallX Tryz.prog 133 [.ptr rx 0 0, .ptr rf 0 0, .sl 8 (zBF l num)] G (fun y G' => StMR C st sz om N0 rx rf rs vs (exL C l num s) y G G') fun z G' => StMZ C st sz om N0 rx rf (exL C l num s) z G G'
theorem StMR.kp {C : Cx} {st sz om : AV} {N0 rx rf rs vs : Nat} {r : Flow × St} {y : AV} {G G1 G2 : zC} (hk : KpX N0 rx rf G G1) (h : StMR C st sz om N0 rx rf rs vs r y G1 G2) : StMR C st sz om N0 rx rf rs vs r y G G2 := ⟨hk.trans h.1, h.2⟩
theorem StMZ.kp {C : Cx} {st sz om : AV} {N0 rx rf : Nat} {r : Flow × St} {z : Value} {G G1 G2 : zC} (hk : KpX N0 rx rf G G1) (h : StMZ C st sz om N0 rx rf r z G1 G2) : StMZ C st sz om N0 rx rf r z G G2 := ⟨hk.trans h.1, h.2⟩
structure LmI (C : Cx) (st sz om : AV) (N0 rx rf rs vs : Nat) (num oth : Int) (bd el : List Ins) (cs : List AV) (s0 : St) (G : zC) (r : Nat) (s : St) (e' : Env) (G1 : zC) : Prop where
 e0 : e' 0 = .ptr rx 0 0
 e4 : e' 4 = .ptr G.length 0 0
 e5 : e' 5 = .ptr (G.length + 1) 0 0
 e7 : e' 7 = .ptr (G.length + 2) 0 0
 e10 : e' 10 = int r
 kp : KpX N0 rx rf G G1
 b0 : G1[G.length]? = some (.box [.ptr rf 0 0])
 b1 : G1[G.length + 1]? = some (.box cs)
 b2 : G1[G.length + 2]? = some (.box [.fn (.func 223) [] [.ptr G.length 0 0, .ptr (G.length + 1) 0 0]])
 sh : StM C st sz om N0 rx rf rs vs s G1
 ty : TyS C s 0
 hr : (r : Int) ≤ C.L
 eq : zBG (exL C el oth) (exL C bd (num + 1)) C.k num C.L.toNat s0 = zBG (exL C el oth) (exL C bd (num + 1)) C.k num (C.L.toNat - r) s
section
variable {C : Cx} {st sz om : AV} {N0 rx rf rs vs : Nat} {slots stk : List Int} {cnt : Int} {G : zC} {a b num : Int} {bd el : List Ins}
theorem step18M (v : Int) (base h e lev : Int) (out : Bool) (hn : 0 ≤ num) (h0 : 1 ≤ h) (h1 : h ≤ 1024) (hb0 : 0 ≤ base) (ho : out = true → base = 0) (hty : TyS C ⟨slots, v :: stk, cnt⟩ (base + h)) (hlev : base ≤ 1024 * lev) (hl1 : 1 ≤ lev) (he1 : zBp C.ps C.k bd (out && decide (h = 1)) 0 = some e) (he2 : zBp C.ps C.k el (out && decide (h = 1)) 0 = some e) (hlv : lev + 1 + max (zAK bd) (zAK el) ≤ 257) (hnum : num + 1 + zL bd + zL el ≤ 32768) (p1 : lsM C st sz om bd) (p2 : lsM C st sz om el) (hsp : SpO C st sz N0 rx G) (h : StM C st sz om N0 rx rf rs vs ⟨slots, v :: stk, cnt⟩ G) (hN : N0 ≤ G.length) (hl : stk.length ≤ 300000) :
  ACallX Tryz.prog 180 [.ptr rx 0 0, .ptr rf 0 0, .agg (zAF 18 a b bd el num)] G (fun y G' => StMR C st sz om N0 rx rf rs vs (if (St.tick ⟨slots, v :: stk, cnt⟩).top = 0 then exL C el (num + 1 + zL bd) (St.tick ⟨slots, v :: stk, cnt⟩).pop else exL C bd (num + 1) (St.tick ⟨slots, v :: stk, cnt⟩).pop) y G G') fun z G' => StMZ C st sz om N0 rx rf (if (St.tick ⟨slots, v :: stk, cnt⟩).top = 0 then exL C el (num + 1 + zL bd) (St.tick ⟨slots, v :: stk, cnt⟩).pop else exL C bd (num + 1) (St.tick ⟨slots, v :: stk, cnt⟩).pop) z G G' := by
 obtain ⟨hrn, ⟨sk, hfr⟩, hx⟩ := h
 simp only at hrn hfr
 have hff := hfr.f
 have hss := hfr.s
 have nf := hfr.nf
 have ns := hfr.ns
 have hrx := zF hrn
 have hrf := zF hff
 have hrs := zF hss
 have hfs := zAl hss hff (by simp)
 have hfr1 : FR (G3 C st sz om (IntKind.i64.wrap (cnt + 1)) rx rf G (zAF 18 a b bd el num)) N0 rf rs vs C.k slots (v :: stk) sk := hfr.mono fun i h1 h2 => zCc (by omega) h2
 have q0 : (G3 C st sz om (IntKind.i64.wrap (cnt + 1)) rx rf G (zAF 18 a b bd el num))[G.length]? = _ := g3_0
 have q1 : (G3 C st sz om (IntKind.i64.wrap (cnt + 1)) rx rf G (zAF 18 a b bd el num))[G.length + 1]? = _ := g3_1
 have q2 : (G3 C st sz om (IntKind.i64.wrap (cnt + 1)) rx rf G (zAF 18 a b bd el num))[G.length + 2]? = _ := g3_2
 have qx : (G3 C st sz om (IntKind.i64.wrap (cnt + 1)) rx rf G (zAF 18 a b bd el num))[rx]? = _ := g3_x hrx
 have qf : (G3 C st sz om (IntKind.i64.wrap (cnt + 1)) rx rf G (zAF 18 a b bd el num))[rf]? = _ := hfr1.f
 have qs : (G3 C st sz om (IntKind.i64.wrap (cnt + 1)) rx rf G (zAF 18 a b bd el num))[rs]? = _ := hfr1.s
 have hty2 : TyS C (St.pop (St.tick ⟨slots, v :: stk, cnt⟩)) (base + h - 1 + 0) := ⟨hty.sl, hty.sr, fun x hx => hty.st x (by simp only [St.pop, St.tick, List.tail_cons] at hx; exact List.mem_cons_of_mem _ hx), by have := hty.ln; simp only [List.length_cons] at this; simp only [St.pop, St.tick, List.tail_cons]; omega⟩
 have hout : (out && decide (h = 1)) = true → base + h - 1 = 0 := fun hh => by
  rw [Bool.and_eq_true, decide_eq_true_eq] at hh
  have := ho hh.1
  omega
 by_cases h1v : v = 0
 ·rw [show (if (St.tick ⟨slots, v :: stk, cnt⟩).top = 0 then exL C el (num + 1 + zL bd) (St.tick ⟨slots, v :: stk, cnt⟩).pop else exL C bd (num + 1) (St.tick ⟨slots, v :: stk, cnt⟩).pop) = exL C el (num + 1 + zL bd) (St.pop (St.tick ⟨slots, v :: stk, cnt⟩)) from if_pos h1v]
  refine zBo Tryz.func180 L180_ok (Nat.le_of_ble_eq_true rfl) ?_
  repeat' (simp -implicitDefEqProofs (disch := omega) only [L180, hrn, q0, q1, zB, zJ, zW, splice, List.drop_succ_cons, List.drop_zero, zA0, zAZ, push_cast, simprocAttr, ↓reduceIte, Bool.and_self])
  refine zV (popM hfr1) ?_
  rintro _ G' ⟨rfl, hk, sk', hfr'⟩
  have hff' := hfr'.f
  have hss' := hfr'.s
  have b0 := hk.box G.length _ (by omega) q0
  have b1 := hk.box (G.length + 1) _ (by omega) q1
  have b2 := hk.box (G.length + 2) _ (by omega) q2
  have bx : _ = some (RnM C st sz om (IntKind.i64.wrap (cnt + 1))) := (hk.keep rx hx).trans qx
  have hle := hk.le
  simp only [List.length_append, List.length_set, List.length_cons, List.length_nil] at hle
  have hKX := (g3_kp (C := C) (st := st) (sz := sz) (om := om) (rx := rx) (rf := rf) hN).trans (hk.x rx)
  have hSH : StM C st sz om N0 rx rf rs vs (St.pop (St.tick ⟨slots, v :: stk, cnt⟩)) G' := ⟨bx, ⟨sk', hfr'⟩, hx⟩
  have hP := p2 (num + 1 + zL bd) (base + h - 1) 0 e (lev + 1) _ N0 rx rf rs vs _ G' he2 (by omega) (by omega) (by omega) hout hty2 (by omega) (by omega) (by omega) (by omega) (by omega) hSH (hsp.kp hKX) (by omega)
  repeat' (simp -implicitDefEqProofs (disch := omega) only [b0, b1, List.drop_succ_cons, List.drop_zero, zAi, push_cast, simprocAttr, ↓reduceIte])
  refine zH hP ?_ ?_
  ·rintro y G2 hst
   repeat' (simp -implicitDefEqProofs (disch := omega) only [push_cast])
   exact hst.kp hKX
  ·rintro z G2 hst
   repeat' (simp -implicitDefEqProofs (disch := omega) only [push_cast])
   exact hst.kp hKX
 ·rw [show (if (St.tick ⟨slots, v :: stk, cnt⟩).top = 0 then exL C el (num + 1 + zL bd) (St.tick ⟨slots, v :: stk, cnt⟩).pop else exL C bd (num + 1) (St.tick ⟨slots, v :: stk, cnt⟩).pop) = exL C bd (num + 1) (St.pop (St.tick ⟨slots, v :: stk, cnt⟩)) from if_neg h1v]
  refine zBo Tryz.func180 L180_ok (Nat.le_of_ble_eq_true rfl) ?_
  repeat' (simp -implicitDefEqProofs (disch := omega) only [L180, hrn, q0, q1, zB, zJ, zW, splice, List.drop_succ_cons, List.drop_zero, zA0, zAZ, push_cast, simprocAttr, ↓reduceIte, Bool.and_self])
  refine zV (popM hfr1) ?_
  rintro _ G' ⟨rfl, hk, sk', hfr'⟩
  have hff' := hfr'.f
  have hss' := hfr'.s
  have b0 := hk.box G.length _ (by omega) q0
  have b1 := hk.box (G.length + 1) _ (by omega) q1
  have b2 := hk.box (G.length + 2) _ (by omega) q2
  have bx : _ = some (RnM C st sz om (IntKind.i64.wrap (cnt + 1))) := (hk.keep rx hx).trans qx
  have hle := hk.le
  simp only [List.length_append, List.length_set, List.length_cons, List.length_nil] at hle
  have hKX := (g3_kp (C := C) (st := st) (sz := sz) (om := om) (rx := rx) (rf := rf) hN).trans (hk.x rx)
  have hSH : StM C st sz om N0 rx rf rs vs (St.pop (St.tick ⟨slots, v :: stk, cnt⟩)) G' := ⟨bx, ⟨sk', hfr'⟩, hx⟩
  have hP := p1 (num + 1) (base + h - 1) 0 e (lev + 1) _ N0 rx rf rs vs _ G' he1 (by omega) (by omega) (by omega) hout hty2 (by omega) (by omega) (by omega) (by omega) (by omega) hSH (hsp.kp hKX) (by omega)
  repeat' (simp -implicitDefEqProofs (disch := omega) only [b0, b1, List.drop_succ_cons, List.drop_zero, zX, push_cast, simprocAttr, ↓reduceIte])
  refine zH hP ?_ ?_
  ·rintro y G2 hst
   repeat' (simp -implicitDefEqProofs (disch := omega) only [push_cast])
   exact hst.kp hKX
  ·rintro z G2 hst
   repeat' (simp -implicitDefEqProofs (disch := omega) only [push_cast])
   exact hst.kp hKX
theorem step19M (lev : Int) (hn : 0 ≤ num) (hwk : wOk C.w) (hp : zBX C.ps C.k) (hcl : ClOk C) (hL : 0 ≤ C.L ∧ C.L ≤ 8) (hlev0 : 1 ≤ lev) (hty : TyS C ⟨slots, stk, cnt⟩ 0) (he1 : zBp C.ps C.k bd true 0 = some 0) (he2 : zBp C.ps C.k el false 0 = some 1) (hlv : lev + 1 + max (zAK bd) (zAK el) ≤ 257) (hnum : num + 1 + zL bd + zL el ≤ 32768) (p1 : lsM C st sz om bd) (p2 : lsM C st sz om el) (hsp : SpO C st sz N0 rx G) (h : StM C st sz om N0 rx rf rs vs ⟨slots, stk, cnt⟩ G) (hN : N0 ≤ G.length) (hl : stk.length ≤ 300000) :
  ACallX Tryz.prog 180 [.ptr rx 0 0, .ptr rf 0 0, .agg (zAF 19 a b bd el num)] G (fun y G' => StMR C st sz om N0 rx rf rs vs (zBG (exL C el (num + 1 + zL bd)) (exL C bd (num + 1)) C.k num C.L.toNat (St.tick ⟨slots, stk, cnt⟩)) y G G') fun z G' => StMZ C st sz om N0 rx rf (zBG (exL C el (num + 1 + zL bd)) (exL C bd (num + 1)) C.k num C.L.toNat (St.tick ⟨slots, stk, cnt⟩)) z G G' := by
 obtain ⟨hrn, ⟨sk, hfr⟩, hx⟩ := h
 simp only at hrn hfr
 have hff := hfr.f
 have hss := hfr.s
 have nf := hfr.nf
 have ns := hfr.ns
 have hrx := zF hrn
 have hrf := zF hff
 have hrs := zF hss
 have hfs := zAl hss hff (by simp)
 have hfr1 : FR (G3 C st sz om (IntKind.i64.wrap (cnt + 1)) rx rf G (zAF 19 a b bd el num)) N0 rf rs vs C.k slots (stk) sk := hfr.mono fun i h1 h2 => zCc (by omega) h2
 have q0 : (G3 C st sz om (IntKind.i64.wrap (cnt + 1)) rx rf G (zAF 19 a b bd el num))[G.length]? = _ := g3_0
 have q1 : (G3 C st sz om (IntKind.i64.wrap (cnt + 1)) rx rf G (zAF 19 a b bd el num))[G.length + 1]? = _ := g3_1
 have q2 : (G3 C st sz om (IntKind.i64.wrap (cnt + 1)) rx rf G (zAF 19 a b bd el num))[G.length + 2]? = _ := g3_2
 have qx : (G3 C st sz om (IntKind.i64.wrap (cnt + 1)) rx rf G (zAF 19 a b bd el num))[rx]? = _ := g3_x hrx
 have qf : (G3 C st sz om (IntKind.i64.wrap (cnt + 1)) rx rf G (zAF 19 a b bd el num))[rf]? = _ := hfr1.f
 have qs : (G3 C st sz om (IntKind.i64.wrap (cnt + 1)) rx rf G (zAF 19 a b bd el num))[rs]? = _ := hfr1.s
 refine zBo Tryz.func180 L180_ok (Nat.le_of_ble_eq_true rfl) ?_
 repeat' (simp -implicitDefEqProofs (disch := omega) only [L180, hrn, q1, zB, zJ, zW, splice, List.drop_succ_cons, List.drop_zero, zA0, zAZ, push_cast, simprocAttr, ↓reduceIte, Bool.and_self])
 refine zAf (fun (t : Nat × St) e' G1 => LmI C st sz om N0 rx rf rs vs num (num + 1 + zL bd) bd el (zAF 19 a b bd el num) ⟨slots, stk, IntKind.i64.wrap (cnt + 1)⟩ G t.1 t.2 e' G1) (fun t => C.L.toNat - t.1) (0, ⟨slots, stk, IntKind.i64.wrap (cnt + 1)⟩) ?_ ?_
 ·exact ⟨rfl, rfl, rfl, rfl, rfl, g3_kp hN, q0, q1, q2, ⟨qx, ⟨sk, hfr1⟩, hx⟩, ⟨hty.sl, hty.sr, hty.st, hty.ln⟩, by dsimp only; omega, rfl⟩
 clear q0 q1 q2 qx qf qs hfr1
 rintro ⟨r, s⟩ e' G1 ⟨h0, h4, h5, h7, h10, hkp, b0, b1, b2, hsh, hts, hrL, heq⟩
 simp only at h10 hkp b0 b1 b2 hsh hts hrL heq
 have hlG := hkp.le
 have hlG2 := zF b2
 have hP2 := p2 (num + 1 + zL bd) 0 0 1 (lev + 1) false N0 rx rf rs vs s G1 he2 (by omega) (by omega) (by omega) (by intro hh; cases hh) (by simpa using hts) (by omega) (by omega) (by omega) (by omega) (by omega) hsh (hsp.kp hkp) (by omega)
 have hok := exL_ok hwk hp hcl el (num + 1 + zL bd) 0 0 1 false s he2 (by omega) (by omega) (by intro hh; cases hh) (by simpa using hts)
 have heq : zBG (exL C el (num + 1 + zL bd)) (exL C bd (num + 1)) C.k num C.L.toNat (St.tick ⟨slots, stk, cnt⟩) = zBG (exL C el (num + 1 + zL bd)) (exL C bd (num + 1)) C.k num (C.L.toNat - r) s := heq
 repeat' (simp -implicitDefEqProofs (disch := omega) only [h0, h4, h5, b0, b1, List.drop_succ_cons, List.drop_zero, push_cast, simprocAttr, ↓reduceIte])
 refine zH hP2 ?_ ?_
 rotate_left
 ·clear hP2
  cases hr1 : exL C el (num + 1 + zL bd) s with
  | mk f1 s1 =>
  cases f1 with
  | ret => rintro z G2 ⟨_, hh⟩; exact hh.elim
  | go => rintro z G2 ⟨_, hh⟩; exact hh.elim
  | flt f p at1 =>
   rintro z G2 ⟨hk2, rfl, hrn2⟩
   rw [heq, lp_flt hr1]
   repeat' (simp -implicitDefEqProofs (disch := omega) only [push_cast])
   exact ⟨hkp.trans hk2, rfl, hrn2⟩
 clear hP2
 cases hr1 : exL C el (num + 1 + zL bd) s with
 | mk f1 s1 =>
 rw [hr1] at hok
 cases f1 with
 | ret => exact absurd hok.1 (by decide)
 | flt f p at1 => rintro y G2 ⟨_, hh⟩; exact hh.elim
 | go =>
  rintro y G2 ⟨hk2, rfl, ⟨hrn2, ⟨sk2, hfr2⟩, _⟩⟩
  have hts2 : TyS C s1 (0 + 1) := hok
  obtain ⟨sl1, st1, c1⟩ := s1
  cases st1 with
  | nil => have := hts2.ln; simp at this
  | cons v st2 =>
  simp only at hrn2 hfr2
  have hff2 := hfr2.f
  have hts3 : TyS C ⟨sl1, st2, c1⟩ 0 := ⟨hts2.sl, hts2.sr, fun x hx => hts2.st x (List.mem_cons_of_mem _ hx), by have := hts2.ln; simp only [List.length_cons] at this; simp only; omega⟩
  have d0 := hk2.box _ _ (by omega) (by omega) b0
  have d1 := hk2.box _ _ (by omega) (by omega) b1
  have d2 := hk2.box _ _ (by omega) (by omega) b2
  by_cases hv : v = 0
  ·rw [heq, lp_stop hr1 hv]
   repeat' (simp -implicitDefEqProofs (disch := omega) only [h4, d0, List.drop_zero, push_cast, simprocAttr, ↓reduceIte])
   refine zV (popM hfr2) ?_
   rintro _ G3 ⟨rfl, hk3, sk3, hfr3⟩
   repeat' (simp -implicitDefEqProofs (disch := omega) only [hv, push_cast, ↓reduceIte])
   exact ⟨(hkp.trans hk2).trans (hk3.x rx), rfl, by rw [hk3.keep rx hx]; exact hrn2, ⟨sk3, hfr3⟩, hx⟩
  ·repeat' (simp -implicitDefEqProofs (disch := omega) only [h4, d0, List.drop_zero, push_cast, simprocAttr, ↓reduceIte])
   refine zV (popM hfr2) ?_
   rintro _ G3 ⟨rfl, hk3, sk3, hfr3⟩
   have hff3 := hfr3.f
   have hrn3 : G3[rx]? = some (RnM C st sz om c1) := by rw [hk3.keep rx hx]; exact hrn2
   have c0 := hk3.box _ _ (by omega) d0
   have c1' := hk3.box _ _ (by omega) d1
   have c2 := hk3.box _ _ (by omega) d2
   have hkk := (hkp.trans hk2).trans (hk3.x rx)
   by_cases hlim : (r : Int) = C.L
   ·rw [heq, show C.L.toNat - r = 0 by omega, lp_lim hr1 hv]
    repeat' (simp -implicitDefEqProofs (disch := omega) only [h0, h7, h10, c2, hrn3, List.drop_succ_cons, List.drop_zero, zAi, zX, push_cast, simprocAttr, ↓reduceIte])
    refine zH (failM C G3 rf G.length (G.length + 1) C.k num 5 [] _ _ c0 hff3 _ _ _ _ _ _ _ c1') (fun _ _ hh => hh.elim) ?_
    rintro _ G4 ⟨rfl, rfl⟩
    repeat' (first | refine And.intro (by omega) ?_ | simp -implicitDefEqProofs (disch := omega) only [push_cast])
    first | exact ⟨hkk, rfl, hrn3⟩ | exact hrn3
   ·have hL1 : C.L.toNat - r = (C.L.toNat - (r + 1)) + 1 := by omega
    have hsh3 : StM C st sz om N0 rx rf rs vs ⟨sl1, st2, c1⟩ G3 := ⟨hrn3, ⟨sk3, hfr3⟩, hx⟩
    have hP1 := p1 (num + 1) 0 0 0 (lev + 1) true N0 rx rf rs vs _ G3 he1 (by omega) (by omega) (by omega) (fun _ => rfl) (by simpa using hts3) (by omega) (by omega) (by omega) (by omega) (by omega) hsh3 (hsp.kp hkk) (by have := hkk.le; omega)
    have hok1 := exL_ok hwk hp hcl bd (num + 1) 0 0 0 true _ he1 (by omega) (by omega) (fun _ => rfl) (show TyS C ⟨sl1, st2, c1⟩ (0 + 0) by simpa using hts3)
    repeat' (simp -implicitDefEqProofs (disch := omega) only [h0, h4, h5, h10, c0, c1', hrn3, List.drop_succ_cons, List.drop_zero, zX, push_cast, simprocAttr, ↓reduceIte])
    refine zH hP1 ?_ ?_
    rotate_left
    ·clear hP1
     cases hr2 : exL C bd (num + 1) ⟨sl1, st2, c1⟩ with
     | mk f2 s2 =>
     cases f2 with
     | ret => rintro z G4 ⟨_, hh⟩; exact hh.elim
     | go => rintro z G4 ⟨_, hh⟩; exact hh.elim
     | flt f p at1 =>
      rintro z G4 ⟨hk4, rfl, hrn4⟩
      rw [heq, hL1, lp_bad hr1 hv hr2]
      repeat' (simp -implicitDefEqProofs (disch := omega) only [push_cast])
      exact ⟨hkk.trans hk4, rfl, hrn4⟩
    clear hP1
    cases hr2 : exL C bd (num + 1) ⟨sl1, st2, c1⟩ with
    | mk f2 s2 =>
    rw [hr2] at hok1
    cases f2 with
    | ret =>
     rintro y G4 ⟨hk4, rfl, hsh4⟩
     rw [heq, hL1, lp_ret hr1 hv hr2]
     repeat' (simp -implicitDefEqProofs (disch := omega) only [push_cast, ↓reduceIte])
     exact ⟨hkk.trans hk4, rfl, hsh4⟩
    | flt f p at1 => rintro y G4 ⟨_, hh⟩; exact hh.elim
    | go =>
     rintro y G4 ⟨hk4, rfl, hsh4⟩
     have e0 := hk4.box _ _ (by omega) (by omega) c0
     have e1 := hk4.box _ _ (by omega) (by omega) c1'
     have e2 := hk4.box _ _ (by omega) (by omega) c2
     have heq4 := heq.trans (by rw [hL1, lp_go hr1 hv hr2])
     repeat' (simp -implicitDefEqProofs (disch := omega) only [h10, push_cast, ↓reduceIte, Nat.reduceEqDiff])
     exact .mk (r + 1, s2) ⟨h0, h4, h5, h7, rfl, hkk.trans hk4, e0, e1, e2, hsh4, by have : TyS C s2 (0 + 0) := hok1; simpa using this, by dsimp only; omega, heq4⟩ (by dsimp only; omega)
end
def InM (G : zC) (x : AV) (l : List Int) : Prop := InO G x l ∨ (x = zAp ∧ l = [])
def RunMR (C : Cx) (st sz om : AV) (rx : Nat) (r : CR × Int) (y : AV) (G G' : zC) : Prop := Fr1 rx G G' ∧ match r with
 | (.ok out, c) => (∃ z, y = .sl z (out.map iR) ∧ (z = 1 ∨ out = [])) ∧ G'[rx]? = some (RnM C st sz om c)
 | (.flt f p a, c) => False
def RunMZ (C : Cx) (st sz om : AV) (rx : Nat) (r : CR × Int) (z : Value) (G G' : zC) : Prop := Fr1 rx G G' ∧ match r with
 | (.ok out, c) => False
 | (.flt f p a, c) => z = stopV f p a ∧ G'[rx]? = some (RnM C st sz om c)
def rnM (C : Cx) (st sz om : AV) : Prop := ∀ (j : Nat) (inp : List Int) (cnt : Int) (rx : Nat) (G : zC) (x : AV), j < C.k → (inp.length : Int) = (C.ps.getD j default).par → (∀ v ∈ inp, inI C.w v) → G[rx]? = some (RnM C st sz om cnt) → SpO C st sz G.length rx G → InM G x inp →
 ACallX Tryz.prog 74 [.ptr rx 0 0, int j, x] G (fun y G' => RunMR C st sz om rx (C.cl j inp cnt) y G G') fun z G' => RunMZ C st sz om rx (C.cl j inp cnt) z G G'
theorem cloneN (H : zC) : zAn 31 [zAp] H zAp := by
 refine enter Tryz.func31 L31_ok (Nat.le_of_ble_eq_true rfl) ?_
 repeat' (simp -implicitDefEqProofs (disch := omega) only [L31, push_cast, simprocAttr, ↓reduceIte])
 refine ⟨trivial, fun b hb => ?_⟩
 have hb : b = true := hb
 subst hb
 repeat' (simp -implicitDefEqProofs (disch := omega) only [push_cast, ↓reduceIte])
theorem cloneO {r v off n : Nat} {rows : List (List AV)} {H : zC} (hg : H[r]? = some (.arr v 1 rows)) (hl : off + n ≤ rows.length) (hb : rows.length ≤ 1048576) : ACall Tryz.prog 31 [.os r v off n] H fun y G => (y = zAp ∧ n = 0 ∧ G = H) ∨ (y = .os H.length 1 0 n ∧ G = H ++ [.arr 1 1 ((rows.drop off).take n)]) := by
 have hlt := zF hg
 have hln : ((rows.drop off).take n).length = n := by rw [List.length_take, List.length_drop]; omega
 refine enter Tryz.func31 L31_ok (Nat.le_of_ble_eq_true rfl) ?_
 repeat' (simp -implicitDefEqProofs (disch := omega) only [L31, push_cast, simprocAttr, ↓reduceIte])
 refine ⟨by simp [slcK, hg, isArr, isVer], fun b hb => ?_⟩
 cases b with
 | true =>
  have hb : n = 0 := hb rfl
  subst hb
  repeat' (simp -implicitDefEqProofs (disch := omega) only [push_cast, ↓reduceIte, reduceCtorEq])
 | false =>
  repeat' (first | refine And.intro (by omega) ?_ | simp -implicitDefEqProofs (disch := omega) only [hg, zB, zE, List.nil_append, Nat.zero_add, hl, hln, push_cast, simprocAttr, ↓reduceIte])
  all_goals first | omega | exact .inr ⟨rfl, rfl⟩
section
variable {C : Cx} {st sz om : AV} {N0 rx rf rs vs : Nat} {slots stk : List Int} {cnt : Int} {G : zC} {a b num : Int} {bd el : List Ins}
theorem step20M (p : Nat) (ha : 0 ≤ a ∧ a < C.k) (hkl : C.k < C.ps.length) (hps : C.ps.length ≤ 1048576) (hpp : (C.ps.getD a.toNat default).par = p) (hpl : p ≤ stk.length) (hin : ∀ v ∈ stk.take p, inI C.w v) (hcl : ∀ out c, C.cl a.toNat (stk.take p).reverse (IntKind.i64.wrap (cnt + 1)) = (.ok out, c) → out.length ≤ 90000) (hsp : SpO C st sz N0 rx G) (hR : rnM C st sz om) (h : StM C st sz om N0 rx rf rs vs ⟨slots, stk, cnt⟩ G) (hN : N0 ≤ G.length) (hl : stk.length ≤ 300000) :
  ACallX Tryz.prog 180 [.ptr rx 0 0, .ptr rf 0 0, .agg (zAF 20 a b bd el num)] G (fun y G' => StMR C st sz om N0 rx rf rs vs (exS C 20 a b num (St.tick ⟨slots, stk, cnt⟩)) y G G') fun z G' => StMZ C st sz om N0 rx rf (exS C 20 a b num (St.tick ⟨slots, stk, cnt⟩)) z G G' := by
 obtain ⟨hrn, ⟨sk, hfr⟩, hx⟩ := h
 simp only at hrn hfr
 have hff := hfr.f
 have hss := hfr.s
 have nf := hfr.nf
 have ns := hfr.ns
 have hrx := zF hrn
 have hrf := zF hff
 have hrs := zF hss
 have hfs := zAl hss hff (by simp)
 have hfr1 : FR (G3 C st sz om (IntKind.i64.wrap (cnt + 1)) rx rf G (zAF 20 a b bd el num)) N0 rf rs vs C.k slots (stk) sk := hfr.mono fun i h1 h2 => zCc (by omega) h2
 have q0 : (G3 C st sz om (IntKind.i64.wrap (cnt + 1)) rx rf G (zAF 20 a b bd el num))[G.length]? = _ := g3_0
 have q1 : (G3 C st sz om (IntKind.i64.wrap (cnt + 1)) rx rf G (zAF 20 a b bd el num))[G.length + 1]? = _ := g3_1
 have q2 : (G3 C st sz om (IntKind.i64.wrap (cnt + 1)) rx rf G (zAF 20 a b bd el num))[G.length + 2]? = _ := g3_2
 have qx : (G3 C st sz om (IntKind.i64.wrap (cnt + 1)) rx rf G (zAF 20 a b bd el num))[rx]? = _ := g3_x hrx
 have qf : (G3 C st sz om (IntKind.i64.wrap (cnt + 1)) rx rf G (zAF 20 a b bd el num))[rf]? = _ := hfr1.f
 have qs : (G3 C st sz om (IntKind.i64.wrap (cnt + 1)) rx rf G (zAF 20 a b bd el num))[rs]? = _ := hfr1.s
 have hex : exS C 20 a b num (St.tick ⟨slots, stk, cnt⟩) = callS (St.tick ⟨slots, stk, cnt⟩) p (C.cl a.toNat (stk.take p).reverse (IntKind.i64.wrap (cnt + 1))) := by
  show callS _ (C.ps.getD a.toNat default).par.toNat _ = _
  rw [hpp]; rfl
 rw [hex]
 have hgd : (C.ps.map prR).getD a.toNat [] = prR (C.ps.getD a.toNat default) := zAJ (by omega)
 have hinp : ((stk.take p).reverse.length : Int) = (C.ps.getD a.toNat default).par := by rw [hpp, List.length_reverse, List.length_take]; omega
 have hinI : ∀ v ∈ (stk.take p).reverse, inI C.w v := fun v hv => hin v (List.mem_reverse.1 hv)
 have hR' := fun G' x h1 h2 h3 => hR a.toNat (stk.take p).reverse (IntKind.i64.wrap (cnt + 1)) rx G' x (by omega) hinp hinI h1 h2 h3
 rw [show ((a.toNat : Nat) : Int) = a by omega] at hR'
 clear hex
 generalize hRR : C.cl a.toNat (stk.take p).reverse (IntKind.i64.wrap (cnt + 1)) = R at *
 have hgo : ∀ outl c, R = (.ok outl, c) → callS (St.tick ⟨slots, stk, cnt⟩) p R = (.go, ⟨slots, outl.reverse ++ stk.drop p, c⟩) := fun outl c h => by rw [h]; rfl
 have hflt : ∀ f q a1 c, R = (.flt f q a1, c) → callS (St.tick ⟨slots, stk, cnt⟩) p R = (.flt f q a1, ⟨slots, stk, c⟩) := fun f q a1 c h => by rw [h]; rfl
 generalize callS (St.tick ⟨slots, stk, cnt⟩) p R = S at *
 have hsp1 := hsp.kp (g3_kp (C := C) (st := st) (sz := sz) (om := om) (cnt := IntKind.i64.wrap (cnt + 1)) (rx := rx) (rf := rf) (cs := zAF 20 a b bd el num) hN)
 have hkp1 := g3_kp (C := C) (st := st) (sz := sz) (om := om) (cnt := IntKind.i64.wrap (cnt + 1)) (rx := rx) (rf := rf) (cs := zAF 20 a b bd el num) hN
 have hl1 : (G3 C st sz om (IntKind.i64.wrap (cnt + 1)) rx rf G (zAF 20 a b bd el num)).length = G.length + 3 := g3_len
 cases hfr.t with
 | nil =>
  have hp0 : p = 0 := by simpa using hpl
  subst hp0
  refine zBo Tryz.func180 L180_ok (Nat.le_of_ble_eq_true rfl) ?_
  repeat' (first | refine And.intro (by omega) ?_ | simp -implicitDefEqProofs (disch := omega) only [L180, hrn, q0, q1, qx, qf, zB, zJ, zW, splice, List.drop_succ_cons, List.drop_zero, zA0, zAZ, push_cast, simprocAttr, ↓reduceIte, Bool.and_self])
  generalize hZ : (G.set rx (RnM C st sz om (IntKind.i64.wrap (cnt + 1))) ++ [HO.box [.ptr rf 0 0], HO.box (zAF 20 a b bd el num), HO.box [.fn (.func 223) [] [.ptr G.length 0 0, .ptr (G.length + 1) 0 0]]]) = Z
  have hZ' : G3 C st sz om (IntKind.i64.wrap (cnt + 1)) rx rf G (zAF 20 a b bd el num) = Z := hZ
  rw [hZ'] at q0 q1 q2 qx qf qs hfr1 hsp1 hkp1 hl1
  clear hZ hZ'
  repeat' (first | refine zA (cloneN _) ?_ | simp -implicitDefEqProofs (disch := omega) only [q0, q1, qf, hgd, hpp, zO, zCr, Nat.zero_add, zG, splice, List.drop_succ_cons, List.drop_zero, push_cast, simprocAttr, ↓reduceIte, Bool.and_self])
  have k2 : Kp0 N0 rf Z (Z.set rf (.box [int C.k, .os rs vs 0 slots.length, zAp])) := Kp0.setf nf _
  have f2 : FR (Z.set rf (.box [int C.k, .os rs vs 0 slots.length, zAp])) N0 rf rs vs C.k slots (([] : List Int).drop 0) zAp := ⟨by rw [List.getElem?_set_self (zF qf)], by rw [List.getElem?_set_ne (fun e => hfs e.symm)]; exact qs, .nil, nf, ns⟩
  have m2 : InM (Z.set rf (.box [int C.k, .os rs vs 0 slots.length, zAp])) zAp ((([] : List Int).take 0).reverse) := .inr ⟨rfl, rfl⟩
  have hl0 : (([] : List Int).drop 0).length ≤ 300000 := by simp
  have bx2 := (k2.keep rx hx).trans qx
  have sp2 := hsp1.kp (k2.x rx)
  have hNZ : N0 ≤ Z.length := by omega
  have hle2 := k2.le
  have b0' := k2.box _ _ (by omega) q0
  obtain ⟨r, c⟩ := R
  cases r with
  | flt f q a1 =>
   refine zAW (hR' _ _ bx2 (sp2.up (Nat.le_trans hNZ k2.le)) m2) (fun y G2 hh => hh.2.elim) ?_
   rintro z G2 ⟨hF, rfl, hrn2⟩
   rw [hflt _ _ _ _ rfl]
   repeat' (simp -implicitDefEqProofs (disch := omega) only [push_cast])
   exact ⟨(hkp1.trans (k2.x rx)).trans (kpx_of hF (Nat.le_trans hNZ k2.le)), rfl, hrn2⟩
  | ok outl =>
   refine zAW (hR' _ _ bx2 (sp2.up (Nat.le_trans hNZ k2.le)) m2) ?_ (fun z G2 hh => hh.2.elim)
   rintro y G2 ⟨hF, ⟨z, rfl, hz⟩, hrn2⟩
   have f3 := f2.fr1 hx hF
   have f3f := f3.f
   have b0'' := (hF.2 G.length (zF b0') (by omega)).trans b0'
   rw [hgo _ _ rfl]
   repeat' (simp -implicitDefEqProofs (disch := omega) only [b0'', List.drop_zero, push_cast, simprocAttr, ↓reduceIte])
   refine zV (pushM outl z hz (hcl _ _ rfl) f3 hl0) ?_
   rintro _ G4 ⟨rfl, hk4, sk4, hf4⟩
   repeat' (simp -implicitDefEqProofs (disch := omega) only [push_cast])
   exact ⟨((hkp1.trans (k2.x rx)).trans (kpx_of hF (Nat.le_trans hNZ k2.le))).trans (hk4.x rx), rfl, by rw [hk4.keep rx hx]; exact hrn2, ⟨sk4, by simpa using hf4⟩, hx⟩
 | os rt vt rows _ n hnn hg ht hlr hbb0 h0 hne =>
  subst hnn
  have hft := zAl hg hff (by simp)
  have hrt := zF hg
  have qt : (G3 C st sz om (IntKind.i64.wrap (cnt + 1)) rx rf G (zAF 20 a b bd el num))[rt]? = some (.arr vt 1 rows) := (zCc (by omega) hrt).trans hg
  have hix : ((stk.length : Int) - p).toNat = stk.length - p := by omega
  have hix2 : stk.length - (stk.length - p) = p := by omega
  have hdr := drop_rows ht hpl
  have htr := take_rows ht hpl
  refine zBo Tryz.func180 L180_ok (Nat.le_of_ble_eq_true rfl) ?_
  repeat' (simp -implicitDefEqProofs (disch := omega) only [L180, hrn, q0, q1, qx, qf, zB, zJ, zG, zAq, zW, splice, List.drop_succ_cons, List.drop_zero, zA0, zAZ, push_cast, simprocAttr, ↓reduceIte, Bool.and_self])
  generalize hZ : (G.set rx (RnM C st sz om (IntKind.i64.wrap (cnt + 1))) ++ [HO.box [.ptr rf 0 0], HO.box (zAF 20 a b bd el num), HO.box [.fn (.func 223) [] [.ptr G.length 0 0, .ptr (G.length + 1) 0 0]]]) = Z
  have hZ' : G3 C st sz om (IntKind.i64.wrap (cnt + 1)) rx rf G (zAF 20 a b bd el num) = Z := hZ
  rw [hZ'] at q0 q1 q2 qx qf qs hfr1 hsp1 hkp1 hl1 qt
  clear hZ hZ'
  have hfrt : ∀ Z2 : zC, Z2[rf]? = some (.box [int C.k, .os rs vs 0 slots.length, .os rt vt 0 (stk.length - p)]) → Z2[rs]? = Z[rs]? → Z2[rt]? = Z[rt]? → FR Z2 N0 rf rs vs C.k slots (stk.drop p) (.os rt vt 0 (stk.length - p)) := fun Z2 e1 e2 e3 =>
   ⟨e1, e2.trans qs, .os rt vt rows _ _ (by simp) (e3.trans qt) htr (by omega) hbb0 h0 hne, nf, ns⟩
  have hl0 : (stk.drop p).length ≤ 300000 := by rw [List.length_drop]; omega
  repeat' (first | refine And.intro (by omega) ?_ | simp -implicitDefEqProofs (disch := omega) only [q0, qf, qt, hg, hix, hix2, hgd, hpp, zO, zCr, Nat.zero_add, List.drop_succ_cons, List.drop_zero, push_cast, simprocAttr, ↓reduceIte])
  refine zV (cloneO (off := stk.length - p) (n := p) qt (by omega) (by omega)) ?_
  rintro y Z1 (⟨rfl, hp0, hZ1⟩ | ⟨rfl, hZ1⟩)
  ·rw [hZ1]
   repeat' (first | refine And.intro (by omega) ?_ | simp -implicitDefEqProofs (disch := omega) only [q0, q1, qf, qt, hix, Nat.sub_zero, zG, splice, List.drop_succ_cons, List.drop_zero, push_cast, simprocAttr, ↓reduceIte, Bool.and_self])
   have k2 : Kp0 N0 rf Z (Z.set rf (.box [int C.k, .os rs vs 0 slots.length, .os rt vt 0 (stk.length - p)])) := Kp0.setf nf _
   have f2 := hfrt (Z.set rf (.box [int C.k, .os rs vs 0 slots.length, .os rt vt 0 (stk.length - p)])) (by rw [List.getElem?_set_self (zF qf)]) (by rw [List.getElem?_set_ne (fun e => hfs e.symm)]) (by rw [List.getElem?_set_ne (fun e => hft e.symm)])
   have m2 : InM (Z.set rf (.box [int C.k, .os rs vs 0 slots.length, .os rt vt 0 (stk.length - p)])) zAp (stk.take p).reverse := .inr ⟨rfl, by rw [hp0]; rfl⟩
   have bx2 := (k2.keep rx hx).trans qx
   have sp2 := hsp1.kp (k2.x rx)
   have hNZ : N0 ≤ Z.length := by omega
   have hle2 := k2.le
   have b0' := k2.box _ _ (by omega) q0
   obtain ⟨r, c⟩ := R
   cases r with
   | flt f q a1 =>
    refine zAW (hR' _ _ bx2 (sp2.up (Nat.le_trans hNZ k2.le)) m2) (fun y G2 hh => hh.2.elim) ?_
    rintro z G2 ⟨hF, rfl, hrn2⟩
    rw [hflt _ _ _ _ rfl]
    repeat' (simp -implicitDefEqProofs (disch := omega) only [push_cast])
    exact ⟨(hkp1.trans (k2.x rx)).trans (kpx_of hF (Nat.le_trans hNZ k2.le)), rfl, hrn2⟩
   | ok outl =>
    refine zAW (hR' _ _ bx2 (sp2.up (Nat.le_trans hNZ k2.le)) m2) ?_ (fun z G2 hh => hh.2.elim)
    rintro y G2 ⟨hF, ⟨z, rfl, hz⟩, hrn2⟩
    have f3 := f2.fr1 hx hF
    have f3f := f3.f
    have b0'' := (hF.2 G.length (zF b0') (by omega)).trans b0'
    rw [hgo _ _ rfl]
    repeat' (simp -implicitDefEqProofs (disch := omega) only [b0'', List.drop_zero, push_cast, simprocAttr, ↓reduceIte])
    refine zV (pushM outl z hz (hcl _ _ rfl) f3 hl0) ?_
    rintro _ G4 ⟨rfl, hk4, sk4, hf4⟩
    repeat' (simp -implicitDefEqProofs (disch := omega) only [push_cast])
    exact ⟨((hkp1.trans (k2.x rx)).trans (kpx_of hF (Nat.le_trans hNZ k2.le))).trans (hk4.x rx), rfl, by rw [hk4.keep rx hx]; exact hrn2, ⟨sk4, by simpa using hf4⟩, hx⟩
  ·rw [hZ1]
   repeat' (first | refine And.intro (by omega) ?_ | simp -implicitDefEqProofs (disch := omega) only [q0, q1, qf, qt, hix, Nat.sub_zero, zB, zJ, zG, zAq, splice, List.drop_succ_cons, List.drop_zero, push_cast, simprocAttr, ↓reduceIte, Bool.and_self])
   have k2 : Kp0 N0 rf Z (Z.set rf (.box [int C.k, .os rs vs 0 slots.length, .os rt vt 0 (stk.length - p)]) ++ [HO.arr 1 1 ((rows.drop (stk.length - p)).take p)]) := (Kp0.setf nf _).trans (Kp0.app (by simp; omega) _)
   have f2 := hfrt (Z.set rf (.box [int C.k, .os rs vs 0 slots.length, .os rt vt 0 (stk.length - p)]) ++ [HO.arr 1 1 ((rows.drop (stk.length - p)).take p)]) (by rw [List.getElem?_append_left (by simpa using zF qf), List.getElem?_set_self (zF qf)]) (by rw [List.getElem?_append_left (by simpa using zF qs), List.getElem?_set_ne (fun e => hfs e.symm)]) (by rw [List.getElem?_append_left (by simpa using zF qt), List.getElem?_set_ne (fun e => hft e.symm)])
   have m2 : InM (Z.set rf (.box [int C.k, .os rs vs 0 slots.length, .os rt vt 0 (stk.length - p)]) ++ [HO.arr 1 1 ((rows.drop (stk.length - p)).take p)]) (.os Z.length 1 0 p) (stk.take p).reverse := .inl (.inr ⟨Z.length, 1, by rw [List.length_reverse, List.length_take, Nat.min_eq_left hpl], by rw [zCl, hdr]⟩)
   have bx2 := (k2.keep rx hx).trans qx
   have sp2 := hsp1.kp (k2.x rx)
   have hNZ : N0 ≤ Z.length := by omega
   have hle2 := k2.le
   have b0' := k2.box _ _ (by omega) q0
   obtain ⟨r, c⟩ := R
   cases r with
   | flt f q a1 =>
    refine zAW (hR' _ _ bx2 (sp2.up (Nat.le_trans hNZ k2.le)) m2) (fun y G2 hh => hh.2.elim) ?_
    rintro z G2 ⟨hF, rfl, hrn2⟩
    rw [hflt _ _ _ _ rfl]
    repeat' (simp -implicitDefEqProofs (disch := omega) only [push_cast])
    exact ⟨(hkp1.trans (k2.x rx)).trans (kpx_of hF (Nat.le_trans hNZ k2.le)), rfl, hrn2⟩
   | ok outl =>
    refine zAW (hR' _ _ bx2 (sp2.up (Nat.le_trans hNZ k2.le)) m2) ?_ (fun z G2 hh => hh.2.elim)
    rintro y G2 ⟨hF, ⟨z, rfl, hz⟩, hrn2⟩
    have f3 := f2.fr1 hx hF
    have f3f := f3.f
    have b0'' := (hF.2 G.length (zF b0') (by omega)).trans b0'
    rw [hgo _ _ rfl]
    repeat' (simp -implicitDefEqProofs (disch := omega) only [b0'', List.drop_zero, push_cast, simprocAttr, ↓reduceIte])
    refine zV (pushM outl z hz (hcl _ _ rfl) f3 hl0) ?_
    rintro _ G4 ⟨rfl, hk4, sk4, hf4⟩
    repeat' (simp -implicitDefEqProofs (disch := omega) only [push_cast])
    exact ⟨((hkp1.trans (k2.x rx)).trans (kpx_of hF (Nat.le_trans hNZ k2.le))).trans (hk4.x rx), rfl, by rw [hk4.keep rx hx]; exact hrn2, ⟨sk4, by simpa using hf4⟩, hx⟩
end
theorem stepAllM {C : Cx} {st sz : AV} {ks : List Value} {vm : List AV} (ok : CxOk C) (hm : OpM C.w [] ks vm) (hR : rnM C st sz (.mp ks vm)) (x : Ins) (p1 : lsM C st sz (.mp ks vm) x.body) (p2 : lsM C st sz (.mp ks vm) x.els) {num base h h' lev : Int} {out : Bool} {N0 rx rf rs vs : Nat} {s : St} {G : zC} (H : InsH C x num base h h' lev out s) (hs : StM C st sz (.mp ks vm) N0 rx rf rs vs s G) (hsp : SpO C st sz N0 rx G) (hN : N0 ≤ G.length) :
  ACallX Tryz.prog 180 [.ptr rx 0 0, .ptr rf 0 0, .agg (stpR x num)] G (fun y G' => StMR C st sz (.mp ks vm) N0 rx rf rs vs (exI C x num s) y G G') fun z G' => StMZ C st sz (.mp ks vm) N0 rx rf (exI C x num s) z G G' := by
 obtain ⟨hw, hp, hcl, hL, hkl, hps, hsl⟩ := ok
 obtain ⟨he, h0, h1, b0, bo, hty, hlev, l1, lv, n0, nn⟩ := H
 obtain ⟨o, a, b, bd, el⟩ := x
 have hins : stpR (.mk o a b bd el) num = zAF o a b bd el num := by rw [stpR_eq]; rfl
 rw [hins]
 simp only [Ins.body, Ins.els] at p1 p2
 simp only [zBu] at nn
 simp only [zCI] at lv
 have hln := hty.ln
 have hlb : base ≤ 263168 := by omega
 have hn : 0 ≤ num ∧ num ≤ 1000000 := by omega
 have hc : zL bd ≤ 1000000 := by omega
 have hsll : (s.slots.length : Int) ≤ 1024 := by rw [hty.sl]; exact hsl
 have hslq := hty.sl
 by_cases h18 : o = 18
 ·subst h18
  obtain ⟨_, _, g1, e, g2, g3, g4, g5⟩ := zCK.1 he
  obtain ⟨slots, stk, cnt⟩ := s
  cases stk with
  | nil => simp at hln; omega
  | cons v stk =>
   rw [exI_mk, if_pos rfl]
   exact step18M v base h e lev out n0 g1 h1 b0 bo hty hlev l1 g2 g3 (by omega) (by omega) p1 p2 hsp hs hN (by simp only [List.length_cons] at hln; omega)
 by_cases h19 : o = 19
 ·subst h19
  obtain ⟨_, _, g1, g2, g3, g4, _⟩ := eff19.1 he
  obtain ⟨slots, stk, cnt⟩ := s
  have hb := bo g1
  subst hb; subst g2
  rw [exI_mk, if_neg (by decide), if_pos rfl]
  exact step19M lev n0 hw hp hcl hL l1 (by simpa using hty) g4 g3 (by omega) (by omega) p1 p2 hsp hs hN (by simp only at hln; omega)
 rw [exS_bad C o a b num s h18 h19]
 by_cases h20 : o = 20
 ·subst h20
  obtain ⟨_, _, g1, g2, g3, _⟩ := eff20.1 he
  obtain ⟨slots, stk, cnt⟩ := s
  have hpj := hp a.toNat (by omega)
  obtain ⟨p, hpp⟩ : ∃ p : Nat, (C.ps.getD a.toNat default).par = p := ⟨(C.ps.getD a.toNat default).par.toNat, by omega⟩
  have hpl : p ≤ stk.length := by simp only at hln; omega
  have hin : ∀ v ∈ stk.take p, inI C.w v := fun v hv => hty.st v (List.mem_of_mem_take hv)
  refine step20M p g1 hkl hps hpp hpl hin (fun outl c hcc => ?_) hsp hR hs hN (by simp only at hln; omega)
  have := hcl a.toNat (by omega) (stk.take p).reverse (IntKind.i64.wrap (cnt + 1)) (by rw [hpp, List.length_reverse, List.length_take]; omega) fun v hv => hin v (List.mem_reverse.1 hv)
  rw [hcc] at this
  have h2 := outsN_ok hpj.2.2.1 hpj.2.2.2
  have := this.1
  omega
 simp only [zBY] at he
 split at he
 case isFalse => cases he
 rename_i hf
 obtain ⟨f1, f2, f3, f4, f5, f6, f7, f8⟩ := hf
 have hsl2 : (s.slots.length : Int) = (C.ps.getD C.k default).slots := hty.sl
 obtain ⟨e01, e2, e3, e4, e5⟩ := @zBb C.ps C.k o a out h
 by_cases ho : o = 22
 ·subst ho
  rw [e2 (.inr rfl)] at he
  have := zBi he
  obtain ⟨slots, stk, cnt⟩ := s
  cases stk with
  | nil => simp at hln; omega
  | cons v stk => exact step22M v hs hN (by simp only [List.length_cons] at hln; omega)
 have u22 : o ≤ 21 := by omega
 clear ho
 by_cases ho : o = 21
 ·subst ho
  obtain ⟨slots, stk, cnt⟩ := s
  exact step21M hs hN (by simp only at hln; omega)
 have u21 : o ≤ 20 := by omega
 clear ho
 have u17 : o ≤ 17 := by omega
 clear h18 h19 h20 u22 u21
 by_cases ho : o = 17
 ·subst ho
  rw [e3 (.inr (.inr rfl))] at he
  have := zBi he
  obtain ⟨slots, stk, cnt⟩ := s
  cases stk with
  | nil => simp at hln; omega
  | cons v stk => exact step17M v hm hs hN (by simp only [List.length_cons] at hln; omega)
 have v17 : o ≤ 16 := by omega
 clear ho
 by_cases ho : o = 16
 ·subst ho
  rw [e3 (.inr (.inl rfl))] at he
  have := zBi he
  obtain ⟨slots, stk, cnt⟩ := s
  cases stk with
  | nil => simp at hln; omega
  | cons v stk => exact step16M v hm hw (hty.st v (by simp)) hs hN (by simp only [List.length_cons] at hln; omega)
 have v16 : o ≤ 15 := by omega
 clear ho
 by_cases ho : o = 0
 ·subst ho
  obtain ⟨slots, stk, cnt⟩ := s
  have := f4 rfl
  exact step0M (by omega) hs hN (by simp only at hln; omega)
 have w0 : 1 ≤ o := by omega
 clear ho
 by_cases ho : o = 1
 ·subst ho
  obtain ⟨slots, stk, cnt⟩ := s
  have := f5 (.inl rfl)
  exact step1M (by simp only at hsl2; omega) hs hN (by simp only at hln; omega)
 have w1 : 2 ≤ o := by omega
 clear ho
 by_cases ho : o = 2
 ·subst ho
  rw [e2 (.inl rfl)] at he
  have := zBi he
  obtain ⟨slots, stk, cnt⟩ := s
  cases stk with
  | nil => simp at hln; omega
  | cons v stk =>
   have := f5 (.inr rfl)
   exact step2M v (by simp only at hsl2; omega) hs hN (by simp only [List.length_cons] at hln; omega)
 have w2 : 3 ≤ o := by omega
 clear ho
 by_cases ho : o = 3
 ·subst ho
  rw [e3 (.inl rfl)] at he
  have := zBi he
  obtain ⟨slots, stk, cnt⟩ := s
  cases stk with
  | nil => simp at hln; omega
  | cons v stk =>
   have := f6 (.inl rfl)
   exact step3M v (by simp only at hsl2; omega) (by simp only at hsl2; omega) (by simp only at hsll; omega) (inI_small hw (hty.st v (by simp))) hs hN (by simp only [List.length_cons] at hln; omega)
 have w3 : 4 ≤ o := by omega
 clear ho
 by_cases ho : o = 4
 ·subst ho
  rw [e4 rfl] at he
  have := zBi he
  obtain ⟨slots, stk, cnt⟩ := s
  match stk, hln with
  | [], hln => simp at hln; omega
  | [v], hln => simp at hln; omega
  | v :: i :: stk, hln =>
   have := f6 (.inr rfl)
   exact step4M v i (by simp only at hsl2; omega) (by simp only at hsl2; omega) (by simp only at hsll; omega) (inI_small hw (hty.st i (by simp))) hs hN (by simp only [List.length_cons] at hln; omega)
 have w4 : 5 ≤ o := by omega
 clear ho
 rw [e5 (by omega)] at he
 have := zBi he
 obtain ⟨slots, stk, cnt⟩ := s
 match stk, hty, hs, hln with
 | [], _, _, hln => simp at hln; omega
 | [v], _, _, hln => simp at hln; omega
 | v :: i :: stk, hty, hs, hln =>
  have k1 : inI C.w i := hty.st i (List.mem_cons_of_mem _ (List.mem_cons_self ..))
  have k2 : inI C.w v := hty.st v (List.mem_cons_self ..)
  have k3 : 5 ≤ o := by omega
  have k4 : o ≤ 15 := by omega
  have k5 : stk.length ≤ 300000 := by simp only [List.length_cons] at hln; omega
  exact stepBM (o := o) (v2 := v) (v1 := i) hm hw k3 k4 k1 k2 hs hN k5
structure LmsI (C : Cx) (st sz om : AV) (l : List Ins) (num base lev : Int) (out : Bool) (N0 rx rf rs vs : Nat) (s0 : St) (h' : Int) (G : zC) (j : Nat) (s : St) (h : Int) (e' : Env) (G1 : zC) : Prop where
 e0 : e' 0 = .ptr rx 0 0
 e1 : e' 1 = .ptr rf 0 0
 e9 : e' 9 = .sl 8 (zBF l num)
 e10 : e' 10 = int l.length
 e11 : e' 11 = int j
 hj : j ≤ l.length
 kp : KpX N0 rx rf G G1
 sh : StM C st sz om N0 rx rf rs vs s G1
 ty : TyS C s (base + h)
 h0 : 0 ≤ h
 h1 : h ≤ 1024
 ef : zBp C.ps C.k (l.drop j) out h = some h'
 eq : exL C l num s0 = exL C (l.drop j) (num + zL (l.take j)) s
theorem lsAllM {C : Cx} {st sz : AV} {ks : List Value} {vm : List AV} (ok : CxOk C) (hm : OpM C.w [] ks vm) (hR : rnM C st sz (.mp ks vm)) (l : List Ins) : lsM C st sz (.mp ks vm) l := by
 induction l using Ins.indL with
 | h l ih =>
 intro num base h0 h' lev out N0 rx rf rs vs s0 G hef hh0 hh1 b0 bo hty hlev l1 lv n0 nn hsh hsp hN
 have hln := zP l
 refine zBo Tryz.func133 L133_ok (Nat.le_of_ble_eq_true rfl) ?_
 repeat' (simp -implicitDefEqProofs (disch := omega) only [L133, stpsR_len, push_cast, simprocAttr, ↓reduceIte])
 refine zAf (fun (t : Nat × St × Int) e' G1 => LmsI C st sz (.mp ks vm) l num base lev out N0 rx rf rs vs s0 h' G t.1 t.2.1 t.2.2 e' G1) (fun t => l.length - t.1) (0, s0, h0) ?_ ?_
 ·exact ⟨rfl, rfl, rfl, rfl, rfl, Nat.zero_le _, KpX.refl, hsh, hty, hh0, hh1, by simpa using hef, by simp [zL]⟩
 rintro ⟨j, s, h⟩ e' G1 ⟨e0, e1, e9, e10, e11, hj, kp, sh, ty, g0, g1, ef, eq⟩
 simp only at e11 hj kp sh ty g0 g1 ef eq
 by_cases hlt : j < l.length
 ·have hmem := zAr hlt
  obtain ⟨p1, p2⟩ := ih _ hmem
  rw [zAV _ _ hlt] at ef
  cases hxe : zBY C.ps C.k (l.getD j default) out h with
  | none => rw [hxe] at ef; cases ef
  | some g =>
  rw [hxe] at ef
  have ef : zBp C.ps C.k (l.drop (j + 1)) out g = some h' := ef
  have hgr := effI_range ok.hp _ out h g g0 g1 hxe
  have hit := zAj l (j + 1)
  rw [zAd hlt] at hit
  have hlm := ilev_mem hmem
  have hIH : InsH C (l.getD j default) (num + zL (l.take j)) base h g lev out s := ⟨hxe, g0, g1, b0, bo, ty, hlev, l1, by omega, by omega, by omega⟩
  have kp1 : ∀ x, KpX N0 rx rf G1 (G1 ++ [x]) := fun x => KpX.app (Nat.le_trans hN kp.le) [x]
  have sh1 : ∀ x, StM C st sz (.mp ks vm) N0 rx rf rs vs s (G1 ++ [x]) := fun x => by
   obtain ⟨a1, ⟨sk, a2⟩, a3⟩ := sh
   exact ⟨by rw [List.getElem?_append_left (zF a1)]; exact a1, ⟨sk, a2.mono fun i _ hi => List.getElem?_append_left hi⟩, a3⟩
  have hstep := fun x => stepAllM ok hm hR (l.getD j default) p1 p2 hIH (sh1 x) ((hsp.kp kp).kp (kp1 x)) (by have := kp.le; simp; omega)
  have hok := exI_ok ok.hw ok.hp ok.hcl (l.getD j default) (num + zL (l.take j)) base h g out s hxe g0 b0 bo ty
  rw [exL_drop C hlt] at eq
  have hrow : (zBF l num).getD j [] = stpR (l.getD j default) (num + zL (l.take j)) := stpsR_getD hlt num
  repeat' (first | refine And.intro (by omega) ?_ | simp -implicitDefEqProofs (disch := omega) only [e0, e1, e9, e10, e11, hrow, stp_len, stp_take, stp_c1s, stpsR_len, zW, zW, splice, List.drop_succ_cons, List.drop_zero, zM, push_cast, simprocAttr, ↓reduceIte, Bool.and_self])
  refine zH (hstep _) ?_ ?_
  rotate_left
  ·cases hx : exI C (l.getD j default) (num + zL (l.take j)) s with
   | mk f s1 =>
   rw [hx] at eq
   cases f with
   | ret => rintro z G2 ⟨_, hh⟩; exact hh.elim
   | go => rintro z G2 ⟨_, hh⟩; exact hh.elim
   | flt f p a =>
    rintro z G2 ⟨hk2, rfl, hrn2⟩
    rw [show exL C l num s0 = (.flt f p a, s1) from eq]
    repeat' (simp -implicitDefEqProofs (disch := omega) only [push_cast])
    exact ⟨(kp.trans (kp1 _)).trans hk2, rfl, hrn2⟩
  cases hx : exI C (l.getD j default) (num + zL (l.take j)) s with
  | mk f s1 =>
  rw [hx] at hok eq
  cases f with
  | ret =>
   rintro y G2 ⟨hk2, rfl, hsh2⟩
   rw [show exL C l num s0 = (.ret, s1) from eq]
   repeat' (simp -implicitDefEqProofs (disch := omega) only [push_cast, ↓reduceIte])
   exact ⟨(kp.trans (kp1 _)).trans hk2, rfl, hsh2⟩
  | flt f p a => rintro z G2 ⟨_, hh⟩; exact hh.elim
  | go =>
   rintro y G2 ⟨hk2, rfl, hsh2⟩
   have hsn := zAd hlt
   repeat' (simp -implicitDefEqProofs (disch := omega) only [e11, push_cast, ↓reduceIte, Nat.reduceEqDiff])
   refine .mk (j + 1, s1, g) ⟨e0, e1, e9, e10, rfl, hlt, (kp.trans (kp1 _)).trans hk2, hsh2, hok, hgr.1, hgr.2, ef, ?_⟩ (by dsimp only; omega)
   rw [show exL C l num s0 = exL C (l.drop (j + 1)) (num + zL (l.take j) + zBu (l.getD j default)) s1 from eq, hsn]
   congr 1
   omega
 ·have e : j = l.length := by omega
  subst e
  rw [List.drop_length] at eq
  rw [show exL C l num s0 = (.go, s) from eq]
  repeat' (first | refine And.intro (by omega) ?_ | simp -implicitDefEqProofs (disch := omega) only [e10, e11, zR, push_cast, ↓reduceIte])
  first | exact ⟨kp, rfl, sh⟩ | exact sh
theorem InM.mono {G G' : zC} {x : AV} {l : List Int} (h : InM G x l) (hk : ∀ i, i < G.length → G'[i]? = G[i]?) : InM G' x l := h.imp (fun h => h.mono hk) id
theorem rowsM {G : zC} {x : AV} {l : List Int} (h : InM G x l) : rowsOf G x = some (l.map iR) := by
 rcases h with (rfl | ⟨r, v, rfl, hg⟩) | ⟨rfl, rfl⟩
 ·rfl
 ·have e : (l.map iR).take l.length = l.map iR := List.take_of_length_le (by simp)
  simp [rowsOf, osRows, hg, e]
 ·rfl
theorem szM {G : zC} {x : AV} {l : List Int} (h : InM G x l) : szOk G 1 x := by
 rcases h with (rfl | ⟨r, v, rfl, hg⟩) | ⟨rfl, rfl⟩
 ·simp [szOk]
 ·simp [szOk, hg]
 ·simp [szOk]
theorem outsM {C : Cx} {st sz om : AV} {rx rq rf rs vs : Nat} {sl : List Int} {sk : AV} {c1 : Int} {G G2 : zC} {e : Env} {Z : Value → zC → Prop} (hF : Fr1 rx G G2) (hrx : rx < G.length) (hrn : G2[rx]? = some (RnM C st sz om c1)) (hq : G2[rq]? = some (.box (prR C.q))) (hf : G2[rf]? = some (.box [int C.k, .os rs vs 0 sl.length, sk])) (hs : G2[rs]? = some (.arr vs 1 (sl.map iR)))
  (h6 : C.q.outs.length ≤ 128) (h8 : ∀ s ∈ C.q.outs, 0 ≤ s ∧ s < sl.length) (hsl : sl.length ≤ 100000) (e7 : e 7 = .ptr rq 0 0) (e8 : e 8 = .ptr rf 0 0) (e10 : e 10 = .os G2.length 0 0 0) (e63 : e 63 = .sl 1 (C.q.outs.map iR)) (e64 : e 64 = int C.q.outs.length) (e65 : e 65 = int 0) :
  zAc Tryz.prog [.code (L74.body.sub [1, 1, 1, 1, 1, 1, 1, 0, 1, 0]), .blk 0, .code (L74.body.sub [1, 1, 1, 1, 1, 1, 1, 1])] (retQX [RV.tmp 6] (fun y G' => RunMR C st sz om rx (CR.ok (C.q.outs.map fun i => sl.getD i.toNat default), c1) y G G') Z) .normal e (G2 ++ [.arr 0 1 []]) := by
 refine zAf (fun (s : Nat × Nat) e' H' => e' 7 = .ptr rq 0 0 ∧ e' 8 = .ptr rf 0 0 ∧ e' 10 = .os G2.length s.2 0 s.1 ∧ e' 63 = .sl 1 (C.q.outs.map iR) ∧ e' 64 = int C.q.outs.length ∧ e' 65 = int s.1 ∧ H' = G2 ++ [.arr s.2 1 (((C.q.outs.take s.1).map fun i => sl.getD i.toNat default).map iR)] ∧ s.1 ≤ C.q.outs.length) (fun s => C.q.outs.length - s.1) (0, 0) ?_ ?_
 ·exact ⟨e7, e8, e10, e63, e64, e65, rfl, Nat.zero_le _⟩
 have hlq := zF hq
 have hlf := zF hf
 have hls := zF hs
 rintro ⟨i, v⟩ e' H' ⟨e7, e8, e10, e63, e64, e65, rfl, hi⟩
 simp only at e10 e65 hi
 by_cases hlt : i < C.q.outs.length
 ·have hm := h8 _ (zAr hlt)
  have hor : (C.q.outs.map iR).getD i [] = [int (C.q.outs.getD i default)] := zS hlt
  have hmt : (C.q.outs.getD i default).toNat < sl.length := by have h1 := hm.1; have h2 := hm.2; generalize C.q.outs.getD i default = z at *; omega
  have hsr : (sl.map iR).getD (C.q.outs.getD i default).toNat [] = [int (sl.getD (C.q.outs.getD i default).toNat default)] := zS hmt
  have htk : (((C.q.outs.take i).map fun i => sl.getD i.toNat default).map iR).take i = ((C.q.outs.take i).map fun i => sl.getD i.toNat default).map iR := List.take_of_length_le (by rw [List.length_map, List.length_map, List.length_take]; omega)
  have hln : (((C.q.outs.take i).map fun i => sl.getD i.toNat default).map iR).length = i := by rw [List.length_map, List.length_map, List.length_take]; omega
  have hsn := zCx hlt
  repeat' (first | refine And.intro (by omega) ?_ | simp -implicitDefEqProofs (disch := omega) only [e8, e10, e63, e64, e65, hf, hs, hor, hsr, htk, hln, zE, Nat.zero_add, List.length_map, zB, List.drop_succ_cons, List.drop_zero, zM, push_cast, simprocAttr, ↓reduceIte, Bool.and_self])
  refine .mk (i + 1, v + 1) ⟨e7, e8, rfl, e63, e64, rfl, ?_, hlt⟩ (by dsimp only; omega)
  simp only [hsn, List.map_append, List.map_cons, List.map_nil, iR]
 ·have e : i = C.q.outs.length := by omega
  subst e
  rw [List.take_length] at *
  have hln : ((C.q.outs.map fun i => sl.getD i.toNat default).map iR).length = C.q.outs.length := by simp
  repeat' (first | refine And.intro (by omega) ?_ | simp -implicitDefEqProofs (disch := omega) only [L74, LCode.sub, e10, e64, e65, hln, zE, Nat.zero_add, List.drop_zero, zR, push_cast, ↓reduceIte, Nat.reduceEqDiff])
  refine ⟨⟨by rw [List.length_append]; have := hF.1; omega, fun i hi hne => ?_⟩, ⟨1, ?_, .inl rfl⟩, ?_⟩
  ·rw [List.getElem?_append_left (Nat.lt_of_lt_of_le hi hF.1)]; exact hF.2 i hi hne
  ·rw [List.take_of_length_le (by simp)]
  ·rw [List.getElem?_append_left (zF hrn)]; exact hrn
set_option maxHeartbeats 1000000 in
theorem rnStepM {C : Cx} {st sz : AV} {ks : List Value} {vm : List AV} (ok : CxOk C) (hm : OpM C.w [] ks vm) (hR : rnM C st sz (.mp ks vm)) (hh : zCt C.q) (hb : zL C.q.body ≤ 32768) (hlv : zAK C.q.body ≤ 256) (hef : zBp C.ps C.k C.q.body true 0 = some 0) (inp : List Int) (cnt : Int) (rx : Nat) (G : zC) (x : AV) (hi : (inp.length : Int) = C.q.par) (hin : ∀ v ∈ inp, inI C.w v) (hrn : G[rx]? = some (RnM C st sz (.mp ks vm) cnt)) (hsp : SpO C st sz G.length rx G) (hx : InM G x inp) :
  ACallX Tryz.prog 74 [.ptr rx 0 0, int C.k, x] G (fun y G' => RunMR C st sz (.mp ks vm) rx (fin C.q C.k (exL C C.q.body 0 ⟨zCy C.q inp, [], cnt⟩)) y G G') fun z G' => RunMZ C st sz (.mp ks vm) rx (fin C.q C.k (exL C C.q.body 0 ⟨zCy C.q inp, [], cnt⟩)) z G G' := by
 obtain ⟨h1, h2, h3, h4, h5, h6, h7, h8⟩ := hh
 have hrx := zF hrn
 have hgd : (C.ps.map prR).getD C.k [] = prR C.q := zAJ ok.hkl
 have hkl := ok.hkl
 have hps := ok.hps
 obtain ⟨n, hn⟩ : ∃ n : Nat, C.q.slots = n := ⟨C.q.slots.toNat, by omega⟩
 have hS : zCy C.q inp = zCL n inp inp.length := by rw [slotsI_all]; unfold zCy; rw [hn]; rfl
 rw [hS]
 have hro : ∀ l, rowsOf (G ++ l) x = some (inp.map iR) := fun l => rowsM (hx.mono fun i hi => List.getElem?_append_left hi)
 have hso : ∀ l, szOk (G ++ l) 1 x = True := fun l => by simp only [eq_iff_iff, iff_true]; exact szM (hx.mono fun i hi => List.getElem?_append_left hi)
 have hsp0 := hsp
 obtain ⟨⟨a, va, rowsA, rfl, ha0, ha1, ha2, ha3, ha4⟩, ⟨a', v', rows', rfl, hb0, hb1, hb2, hb3, hb4⟩⟩ := hsp
 have hst := ha4 C.k hkl
 have hnl : inp.length ≤ n := by omega
 have hmin : min inp.length n = inp.length := by omega
 have hcp : inp.map iR ++ (List.replicate n [int 0]).drop inp.length = (zCL n inp inp.length).map iR := by
  rw [slotsI_all, List.drop_replicate, List.map_append, List.map_replicate]; rfl
 refine zBo Tryz.func74 L74_ok (Nat.le_of_ble_eq_true rfl) ?_
 repeat' (first | refine And.intro (by omega) ?_ | simp -implicitDefEqProofs (disch := omega) only [L74, hrn, hgd, zAe, zE, hn, zO, zBL, pr_c1s, zBH, rBuild, fillA, hro, hso, ha2, hst, ha3, hmin, hcp, Nat.zero_add, List.length_map, List.length_replicate, zB, zW, splice, List.drop_succ_cons, List.drop_zero, push_cast, simprocAttr, ↓reduceIte, Bool.and_self])
 generalize hZ : G ++ [HO.box (prR C.q), HO.arr 0 1 ((zCL n inp inp.length).map iR), HO.box [int C.k, .os (G.length + 1) 0 0 n, zAp]] = Z
 have kp : Kp0 G.length (G.length + 2) G Z := by rw [← hZ]; exact Kp0.app (Nat.le_refl _) _
 have bx : Z[G.length]? = some (.box (prR C.q)) := by rw [← hZ]; simp
 have hsl := slotsI_len (Nat.le_refl inp.length) hnl
 have fr : FR Z G.length (G.length + 2) (G.length + 1) 0 C.k (zCL n inp inp.length) [] zAp := by
  rw [← hZ]
  exact ⟨by rw [hsl]; simp [zAe], by simp [zAe], .nil, by omega, by omega⟩
 clear hZ hro hso
 have hrn1 : Z[rx]? = some (RnM C (.os a va 0 C.ps.length) (.os a' v' 0 C.ps.length) (.mp ks vm) cnt) := by rw [kp.keep rx hrx]; exact hrn
 have hS0 : ∀ v ∈ zCL n inp inp.length, inI C.w v := fun v hv => by
  rw [slotsI_all] at hv
  rcases List.mem_append.1 hv with hv | hv
  ·exact hin v hv
  ·rw [(List.mem_replicate.1 hv).2, zCS ok.hw]
   have := hf_pos ok.hw
   omega
 have hty : TyS C ⟨zCL n inp inp.length, [], cnt⟩ (0 + 0) := ⟨by simp only [hsl]; exact hn.symm, hS0, by simp, rfl⟩
 have hkX := kp.x rx
 have hls := lsAllM ok hm hR C.q.body 0 0 0 0 1 true G.length rx (G.length + 2) (G.length + 1) 0 ⟨zCL n inp inp.length, [], cnt⟩ Z hef (by omega) (by omega) (by omega) (fun _ => rfl) hty (by omega) (by omega) (by omega) (by omega) (by omega) ⟨hrn1, ⟨_, fr⟩, hrx⟩ (hsp0.kp hkX) kp.le
 have hok := exL_ok ok.hw ok.hp ok.hcl C.q.body 0 0 0 0 true _ hef (by omega) (by omega) (fun _ => rfl) hty
 have hfr1 : ∀ {G' : zC}, KpX G.length rx (G.length + 2) G G' → Fr1 rx G G' := fun h => ⟨h.1, fun i hi hne => h.2 i hi hne⟩
 refine zH hls ?_ ?_
 rotate_left
 ·cases hx : exL C C.q.body 0 ⟨zCL n inp inp.length, [], cnt⟩ with
  | mk f s1 =>
  cases f with
  | ret => rintro z G2 ⟨_, hh⟩; exact hh.elim
  | go => rintro z G2 ⟨_, hh⟩; exact hh.elim
  | flt f p a1 =>
   rintro z G2 ⟨hk2, rfl, hrn2⟩
   rw [show fin C.q C.k (Flow.flt f p a1, s1) = (.flt f p a1, s1.cnt) from rfl]
   repeat' (simp -implicitDefEqProofs (disch := omega) only [push_cast])
   exact ⟨hfr1 (hkX.trans hk2), rfl, hrn2⟩
 cases hx : exL C C.q.body 0 ⟨zCL n inp inp.length, [], cnt⟩ with
 | mk f s1 =>
 rw [hx] at hok
 obtain ⟨sl1, stk1, c1⟩ := s1
 cases f with
 | flt f p a1 => rintro y G2 ⟨_, hh⟩; exact hh.elim
 | ret =>
  rintro y G2 ⟨hk2, rfl, ⟨hrn2, ⟨sk2, fr2⟩, _⟩⟩
  have hbx2 := hk2.box _ _ (by omega) (by omega) bx
  have hff2 := fr2.f
  have hss2 := fr2.s
  by_cases hres : 0 ≤ C.q.res
  ·rw [show fin C.q C.k (Flow.ret, (⟨sl1, stk1, c1⟩ : St)) = (.ok stk1.reverse, c1) from if_pos hres]
   cases fr2.t with
   | nil =>
    repeat' (simp -implicitDefEqProofs (disch := omega) only [hbx2, hff2, zBm, zO, List.drop_succ_cons, List.drop_zero, zAa, push_cast, simprocAttr, ↓reduceIte])
    exact ⟨hfr1 (hkX.trans hk2), ⟨0, rfl, .inr rfl⟩, hrn2⟩
   | os rt vt rows _ m hm' hg ht hl hb h0' hne =>
    have hk3 : KpX G.length rx (G.length + 2) G2 (G2.set rt .dead) := (Kp0.seta h0' hg _).x rx
    have hm2 : m = stk1.length := hm'
    clear hm'
    subst hm2
    repeat' (first | refine And.intro (by omega) ?_ | simp -implicitDefEqProofs (disch := omega) only [hbx2, hff2, hg, zBm, zO, List.drop_succ_cons, List.drop_zero, zAa, push_cast, simprocAttr, ↓reduceIte])
    exact ⟨hfr1 ((hkX.trans hk2).trans hk3), ⟨1, by rw [ht], .inl rfl⟩, by rw [List.getElem?_set_ne (by omega)]; exact hrn2⟩
  ·rw [show fin C.q C.k (Flow.ret, (⟨sl1, stk1, c1⟩ : St)) = (.ok (C.q.outs.map fun i => sl1.getD i.toNat default), c1) from if_neg hres]
   have hs1 : (sl1.length : Int) = C.q.slots := hok.2.sl
   have hlb := zF hbx2
   have hO := fun Z e0 e1 e2 e3 e4 e5 e6 => outsM (C := C) (sl := sl1) (e := e0) (Z := Z) (hfr1 (hkX.trans hk2)) hrx hrn2 hbx2 hff2 hss2 h6 (by rw [hs1]; exact h8) (by omega) e1 e2 e3 e4 e5 e6
   repeat' (simp -implicitDefEqProofs (disch := omega) only [hbx2, zBm, zAX, zO, List.length_map, zB, zAo, push_cast, simprocAttr, ↓reduceIte])
   exact hO _ _ rfl rfl rfl rfl rfl rfl
 | go =>
  rintro y G2 ⟨hk2, rfl, ⟨hrn2, ⟨sk2, fr2⟩, _⟩⟩
  have hbx2 := hk2.box _ _ (by omega) (by omega) bx
  have hff2 := fr2.f
  have hss2 := fr2.s
  by_cases hres : 0 ≤ C.q.res
  ·rw [show fin C.q C.k (Flow.go, (⟨sl1, stk1, c1⟩ : St)) = (.flt 4 C.k (zL C.q.body), c1) from if_pos hres]
   have hsz := ((hkX.trans hk2).keep a' hb0 hb1).trans hb2
   have hst2 := hb4 C.k hkl
   repeat' (first | refine And.intro (by omega) ?_ | simp -implicitDefEqProofs (disch := omega) only [hbx2, hrn2, hsz, hst2, hb3, Nat.zero_add, zBm, zO, rBuild, fillA, splice, List.drop_succ_cons, List.drop_zero, zAa, push_cast, simprocAttr, ↓reduceIte, Bool.and_self])
   exact ⟨hfr1 (hkX.trans hk2), rfl, hrn2⟩
  ·rw [show fin C.q C.k (Flow.go, (⟨sl1, stk1, c1⟩ : St)) = (.ok (C.q.outs.map fun i => sl1.getD i.toNat default), c1) from if_neg hres]
   have hty2 : TyS C ⟨sl1, stk1, c1⟩ (0 + 0) := hok
   have hs1 : (sl1.length : Int) = C.q.slots := hty2.sl
   have hlb := zF hbx2
   have hO := fun Z e0 e1 e2 e3 e4 e5 e6 => outsM (C := C) (sl := sl1) (e := e0) (Z := Z) (hfr1 (hkX.trans hk2)) hrx hrn2 hbx2 hff2 hss2 h6 (by rw [hs1]; exact h8) (by omega) e1 e2 e3 e4 e5 e6
   repeat' (simp -implicitDefEqProofs (disch := omega) only [hbx2, zBm, zAX, zO, List.length_map, zB, zAo, push_cast, simprocAttr, ↓reduceIte])
   exact hO _ _ rfl rfl rfl rfl rfl rfl
theorem rnAllM {ps : List Pr} {w L : Int} {st sz : AV} {ks : List Value} {vm : List AV} (hw : wOk w) (hL : 0 ≤ L ∧ L ≤ 8) (hv : zBA ps) (hm : OpM w [] ks vm) : ∀ (m k n : Nat), k ≤ m → k ≤ n → k < ps.length → rnM ⟨ps, w, L, k, zCM ps w L n⟩ st sz (.mp ks vm) := by
 intro m
 induction m with
 | zero =>
  intro k n h1 _ _ j inp cnt rx G x hj
  simp only at hj; omega
 | succ m ih =>
  intro k n h1 h2 h3 j inp cnt rx G x hj hi hin hrn hsp hx
  simp only at hj
  obtain ⟨n, rfl⟩ : ∃ n', n = n' + 1 := ⟨n - 1, by omega⟩
  obtain ⟨_, p2, p3, p4, p5⟩ := hv.2 j (by omega)
  have hsn := zBy (show j < ps.length by omega)
  exact rnStepM (C := ⟨ps, w, L, j, zCM ps w L n⟩) (cxOk hw hL hv (by omega) (by omega)) hm (ih j n (by omega) (by omega) (by omega)) p2 (by simp only [Cx.q]; omega) p4 p5 inp cnt rx G x hi hin hrn ⟨hsp.s, hsp.z⟩ hx
theorem runTopM {ps : List Pr} {w L : Int} {st sz : AV} {ks : List Value} {vm : List AV} (hw : wOk w) (hL : 0 ≤ L ∧ L ≤ 8) (hv : zBA ps) (hm : OpM w [] ks vm) {k : Nat} (hk : k < ps.length) (inp : List Int) (cnt : Int) (rx : Nat) (G : zC) (x : AV) (hi : (inp.length : Int) = (ps.getD k default).par) (hin : ∀ v ∈ inp, inI w v)
  (hrn : G[rx]? = some (.box [zAz ps, int w, int L, st, sz, .mp ks vm, int cnt])) (hsp : SpO ⟨ps, w, L, k, zCM ps w L k⟩ st sz G.length rx G) (hx : InM G x inp) :
  ACallX Tryz.prog 74 [.ptr rx 0 0, int k, x] G (fun y G' => RunMR ⟨ps, w, L, k, zCM ps w L k⟩ st sz (.mp ks vm) rx (zCM ps w L (k + 1) k inp cnt) y G G') fun z G' => RunMZ ⟨ps, w, L, k, zCM ps w L k⟩ st sz (.mp ks vm) rx (zCM ps w L (k + 1) k inp cnt) z G G' := by
 obtain ⟨_, p2, p3, p4, p5⟩ := hv.2 k hk
 have hsn := zBy hk
 exact rnStepM (C := ⟨ps, w, L, k, zCM ps w L k⟩) (cxOk hw hL hv (Nat.le_refl _) hk) hm (rnAllM hw hL hv hm k k k (Nat.le_refl _) (Nat.le_refl _) hk) p2 (by simp only [Cx.q]; omega) p4 p5 inp cnt rx G x hi hin hrn hsp hx
theorem startI (w n : Int) (r : Nat) (L : AV) (H : zC) (hr : H[r]? = some (.box [int w, L])) : zAn 71 [int n, .ptr r 0 0] H (bool (!decide (inI w n))) := by
 refine enter Tryz.func71 L71_ok (Nat.le_of_ble_eq_true rfl) ?_
 repeat' (first | refine zA (isIntM w n _) ?_ | simp -implicitDefEqProofs (disch := omega) only [L71, hr, push_cast, simprocAttr, ↓reduceIte])
def zC7 (ps : List Pr) (p w L : Int) (inp : List Int) (H : zC) (x : AV) (H' : zC) : Prop :=
 (∃ rest, H' = H ++ rest) ∧ ((¬ RunOk ps p w L inp ∧ x = .tup [.v (.pointer none), int (errF ps p w L inp)]) ∨
  (RunOk ps p w L inp ∧ ∃ rx st sz ks vm, x = .tup [.ptr rx 0 0, int 0] ∧ OpM w [] ks vm ∧ H.length ≤ rx ∧ H'[rx]? = some (.box [zAz ps, int w, int L, st, sz, .mp ks vm, int 0]) ∧ ∀ k cl, SpO ⟨ps, w, L, k, cl⟩ st sz H'.length rx H'))
def StRow (ps : List Pr) (H G : zC) (j : Nat) (st sz : AV) : Prop :=
 (j = 0 ∧ st = zAp ∧ sz = zAp) ∨ (∃ a v rows a' v' rows', st = .os a v 0 j ∧ sz = .os a' v' 0 j ∧ H.length + 3 ≤ a ∧ H.length + 3 ≤ a' ∧ ¬ a = a' ∧ G[a]? = some (.arr v 1 rows) ∧ G[a']? = some (.arr v' 1 rows') ∧ rows.length = j ∧ rows'.length = j ∧
  (∀ i, i < j → rows.getD i [] = [.sl 8 (zBF (ps.getD i default).body 0)]) ∧ (∀ i, i < j → rows'.getD i [] = [int (zL (ps.getD i default).body)]))
structure StI (ps : List Pr) (w L : Int) (om : AV) (H : zC) (j : Nat) (e' : Env) (G : zC) : Prop where
 e12 : e' 12 = .ptr (H.length + 2) 0 0
 e77 : e' 77 = zAz ps
 e78 : e' 78 = int ps.length
 e79 : e' 79 = int j
 hj : j ≤ ps.length
 gl : H.length + 3 ≤ G.length
 fr : ∀ i, i < H.length → G[i]? = H[i]?
 bx : ∃ st sz, G[H.length + 2]? = some (.box [zAz ps, int w, int L, st, sz, om, int 0]) ∧ StRow ps H G j st sz
theorem getD_snoc {rows : List (List AV)} {j : Nat} {f : Nat → List AV} {x : List AV} (hl : rows.length = j) (h : ∀ i, i < j → rows.getD i [] = f i) (hx : x = f j) : ∀ i, i < j + 1 → (rows ++ [x]).getD i [] = f i := fun i hi => by
 by_cases hij : i = j
 ·subst hij
  rw [List.getD_eq_getElem?_getD, List.getElem?_append_right (by omega), hl, Nat.sub_self, ← hx]; rfl
 ·rw [← h i (by omega), List.getD_eq_getElem?_getD, List.getD_eq_getElem?_getD, List.getElem?_append_left (by omega)]
theorem hget_s3 {G : zC} {a b c : Nat} {X Y Z : HO} {l : zC} (hc : c < G.length) : (((G.set a X).set b Y).set c Z ++ l)[c]? = some Z := by
 rw [List.getElem?_append_left (by simpa using hc), List.getElem?_set_self (by simpa using hc)]
theorem hset_s3 {G : zC} {a b c : Nat} {X Y Z W : HO} {l : zC} (hc : c < G.length) : (((G.set a X).set b Y).set c Z ++ l).set c W = ((G.set a X).set b Y).set c W ++ l := by
 rw [List.set_append_left _ _ (by simpa using hc), List.set_set]
set_option maxHeartbeats 2000000 in
theorem startM (ps : List Pr) (hs : zCn ps) (p w L : Int) (hp : zCT p) (inp : List Int) (hl : inp.length ≤ 1048576) (hi : ∀ v ∈ inp, zCT v) (H : zC) : ACall Tryz.prog 41 [.agg [zAz ps], int p, .agg [int w, int L], .sl 1 (inp.map iR)] H fun x H' => zC7 ps p w L inp H x H' := by
 refine enter Tryz.func41 L41_ok (Nat.le_of_ble_eq_true rfl) ?_
 have cV := fun H => codeValidC ps hs H
 have cC := fun H => costCC ps hs p L H
 by_cases h1 : wOk w ∧ 0 ≤ L ∧ L ≤ 8
 rotate_left
 ·have hE : errF ps p w L inp = 1 := by unfold errF; rw [if_pos h1]
  have hS : ∀ x H', x = .tup [.v (.pointer none), int 1] → (∃ rest, H' = H ++ rest) → zC7 ps p w L inp H x H' := fun x H' hx hr => ⟨hr, .inl ⟨fun hh => h1 ⟨hh.hw, hh.hl⟩, by rw [hE]; exact hx⟩⟩
  generalize zC7 ps p w L inp H = S at *
  unfold wOk at h1
  by_cases a1 : w < 2
  ·repeat' (simp -implicitDefEqProofs (disch := omega) only [L41, zW, zM, push_cast, simprocAttr, ↓reduceIte, Bool.and_self])
   exact hS _ _ rfl ⟨_, rfl⟩
  by_cases a2 : 8 < w
  ·repeat' (simp -implicitDefEqProofs (disch := omega) only [L41, zW, zM, zR, push_cast, simprocAttr, ↓reduceIte, Bool.and_self])
   exact hS _ _ rfl ⟨_, rfl⟩
  by_cases a3 : L < 0
  ·repeat' (simp -implicitDefEqProofs (disch := omega) only [L41, zW, zM, zR, push_cast, simprocAttr, ↓reduceIte, Bool.and_self])
   exact hS _ _ rfl ⟨_, rfl⟩
  ·have a4 : 8 < L := by omega
   repeat' (simp -implicitDefEqProofs (disch := omega) only [L41, zW, zM, zR, push_cast, simprocAttr, ↓reduceIte, Bool.and_self])
   exact hS _ _ rfl ⟨_, rfl⟩
 have b1 := h1.1.1
 have b2 := h1.1.2
 have b3 := h1.2.1
 have b4 := h1.2.2
 by_cases h2 : zBA ps
 rotate_left
 ·have hE : errF ps p w L inp = 1 := by unfold errF; rw [if_neg (not_not_intro h1), if_pos h2]
  have hS : ∀ x H', x = .tup [.v (.pointer none), int 1] → (∃ rest, H' = H ++ rest) → zC7 ps p w L inp H x H' := fun x H' hx hr => ⟨hr, .inl ⟨fun hh => h2 hh.hv, by rw [hE]; exact hx⟩⟩
  rw [validB_f h2] at cV
  generalize zC7 ps p w L inp H = S at *
  repeat' (first | refine zA (cV _) ?_ | simp -implicitDefEqProofs (disch := omega) only [L41, zE, zW, zR, push_cast, simprocAttr, ↓reduceIte, Bool.and_self])
  exact hS _ _ rfl ⟨_, rfl⟩
 rw [zBO.2 h2] at cV
 have h8 := h2.1
 by_cases h3 : p < 0 ∨ ps.length ≤ p
 ·have hE : errF ps p w L inp = 7 := by unfold errF; rw [if_neg (not_not_intro h1), if_neg (not_not_intro h2), if_pos h3]
  have hS : ∀ x H', x = .tup [.v (.pointer none), int 7] → (∃ rest, H' = H ++ rest) → zC7 ps p w L inp H x H' := fun x H' hx hr => ⟨hr, .inl ⟨fun hh => by have := hh.hp; omega, by rw [hE]; exact hx⟩⟩
  have hcA : zBw ps p L = .tup [int 0, int 7] := by unfold zBw; rw [if_neg (by simp [zBO.2 h2]), if_pos h3]
  rw [hcA] at cC
  generalize zC7 ps p w L inp H = S at *
  repeat' (first | refine zA (cV _) ?_ | refine zA (cC _) ?_ | simp -implicitDefEqProofs (disch := omega) only [L41, zE, zW, zR, push_cast, simprocAttr, ↓reduceIte, Bool.and_self])
  exact hS _ _ rfl ⟨_, rfl⟩
 have hcA : zBw ps p L = .tup [int (zBW ps p.toNat L), int 0] := by unfold zBw; rw [if_neg (by simp [zBO.2 h2]), if_neg h3, if_neg (by omega)]
 rw [hcA] at cC
 by_cases h4 : 67108864 < zBW ps p.toNat L
 ·have hE : errF ps p w L inp = 8 := by unfold errF; rw [if_neg (not_not_intro h1), if_neg (not_not_intro h2), if_neg h3, if_pos h4]
  have hS : ∀ x H', x = .tup [.v (.pointer none), int 8] → (∃ rest, H' = H ++ rest) → zC7 ps p w L inp H x H' := fun x H' hx hr => ⟨hr, .inl ⟨fun hh => by have := hh.hc; omega, by rw [hE]; exact hx⟩⟩
  generalize zC7 ps p w L inp H = S at *
  repeat' (first | refine zA (cV _) ?_ | refine zA (cC _) ?_ | simp -implicitDefEqProofs (disch := omega) only [L41, zE, zW, zM, zR, push_cast, simprocAttr, ↓reduceIte, Bool.and_self])
  exact hS _ _ rfl ⟨_, rfl⟩
 have hgd : (ps.map prR).getD p.toNat [] = prR (ps.getD p.toNat default) := zAJ (by omega)
 by_cases h5 : (inp.length : Int) = (ps.getD p.toNat default).par
 rotate_left
 ·have hE : errF ps p w L inp = 2 := by unfold errF; rw [if_neg (not_not_intro h1), if_neg (not_not_intro h2), if_neg h3, if_neg h4, if_pos h5]
  have hS : ∀ x H', x = .tup [.v (.pointer none), int 2] → (∃ rest, H' = H ++ rest) → zC7 ps p w L inp H x H' := fun x H' hx hr => ⟨hr, .inl ⟨fun hh => h5 hh.hn, by rw [hE]; exact hx⟩⟩
  generalize zC7 ps p w L inp H = S at *
  repeat' (first | refine And.intro (by omega) ?_ | refine zA (cV _) ?_ | refine zA (cC _) ?_ | simp -implicitDefEqProofs (disch := omega) only [L41, zE, zW, hgd, zCr, zO, h5, List.length_map, zR, push_cast, simprocAttr, ↓reduceIte, Bool.and_self])
  exact hS _ _ rfl ⟨_, rfl⟩
 have cI : zAn 28 [.sl 1 (inp.map iR), .fn (.func 71) [] [.ptr (H.length + 1) 0 0]] (H ++ [.box [zAz ps], .box [int w, int L]]) (bool (inp.any fun n => !decide (inI w n))) := hasIntC inp (by omega) _ _ _ _ fun n => startI w n (H.length + 1) (int L) _ (by simp [zAe])
 cases hA : inp.any fun n => !decide (inI w n) with
 | true =>
  obtain ⟨n, hn, hnI⟩ := List.any_eq_true.1 hA
  have hnI : ¬ inI w n := by simpa using hnI
  have hE : errF ps p w L inp = 2 := by unfold errF; rw [if_neg (not_not_intro h1), if_neg (not_not_intro h2), if_neg h3, if_neg h4, if_neg (not_not_intro h5), if_pos fun h => hnI (h _ hn)]
  have hS : ∀ x H', x = .tup [.v (.pointer none), int 2] → (∃ rest, H' = H ++ rest) → zC7 ps p w L inp H x H' := fun x H' hx hr => ⟨hr, .inl ⟨fun hh => hnI (hh.hi _ hn), by rw [hE]; exact hx⟩⟩
  rw [hA] at cI
  generalize zC7 ps p w L inp H = S at *
  repeat' (first | refine And.intro (by omega) ?_ | refine zA (cV _) ?_ | refine zA (cC _) ?_ | refine zA (cI) ?_ | simp -implicitDefEqProofs (disch := omega) only [L41, zE, zW, hgd, zCr, zO, h5, List.length_map, zR, push_cast, simprocAttr, ↓reduceIte, Bool.and_self])
  exact hS _ _ rfl ⟨_, rfl⟩
 | false =>
  have hin : ∀ v ∈ inp, inI w v := fun v hv => by
   have := List.any_eq_false.1 hA v hv
   simpa using this
  have hok : RunOk ps p w L inp := ⟨h1.1, h1.2, h2, by omega, by omega, h5, hin⟩
  rw [hA] at cI
  repeat' (first | refine And.intro (by omega) ?_ | refine zA (cV _) ?_ | refine zA (cC _) ?_ | refine zA (cI) ?_ | simp -implicitDefEqProofs (disch := omega) only [L41, zE, zW, hgd, zCr, zO, h5, List.length_map, zR, push_cast, simprocAttr, ↓reduceIte, Bool.and_self])
  refine zV (zBr w _) ?_
  rintro _ _ ⟨⟨ks, vm, rfl, hm⟩, rfl⟩
  repeat' (simp -implicitDefEqProofs (disch := omega) only [zE, zAe, zW, rBuild, fillA, splice, List.length_map, push_cast, simprocAttr, ↓reduceIte, Bool.and_self])
  refine zAf (fun (j : Nat) e' G => StI ps w L (.mp ks vm) H j e' G) (fun j => ps.length - j) 0 ?_ ?_
  ·exact ⟨rfl, rfl, rfl, rfl, Nat.zero_le _, by simp, fun i hi => List.getElem?_append_left hi, ⟨zAp, zAp, by simp [zAe], .inl ⟨rfl, rfl, rfl⟩⟩⟩
  rintro j e' G ⟨e12, e77, e78, e79, hj, gl, fr, st, sz, bx, hrow⟩
  by_cases hlt : j < ps.length
  ·have hq : (ps.map prR).getD j [] = prR (ps.getD j default) := zAJ hlt
   have hpc := (h2.2 j hlt).2.2.1
   have hic : zL (ps.getD j default).body ≤ 32768 := by have := zBy hlt; omega
   have cN := fun H => numberC (ps.getD j default).body hic 0 (by omega) (by omega) H
   have hlb := zF bx
   rcases hrow with ⟨rfl, rfl, rfl⟩ | ⟨a, v, rows, a', v', rows', rfl, rfl, ha, ha', hne, hg, hg', hl, hl', hr, hr'⟩
   ·repeat' (first | refine And.intro (by omega) ?_ | refine zA (cN _) ?_ | simp -implicitDefEqProofs (disch := omega) only [e12, e77, e78, e79, hq, bx, zO, zBL, pr_c1s, zA8, zB, zJ, zK, zAq, zT, zW, splice, List.drop_succ_cons, List.drop_zero, List.length_map, zM, push_cast, simprocAttr, ↓reduceIte, Bool.and_self])
    refine .mk 1 ⟨e12, e77, e78, rfl, hlt, by simp; omega, fun i hi => by rw [List.getElem?_append_left (by simp; omega), List.getElem?_set_ne (by omega), List.getElem?_set_ne (by omega), fr i hi], ⟨_, _, by rw [List.getElem?_append_left (by simp; omega), List.getElem?_set_self (by simp; omega)], .inr ⟨_, _, _, _, _, _, rfl, rfl, by omega, by omega, by omega, by rw [List.getElem?_append_right (by simp)]; simp; rfl, by rw [List.getElem?_append_right (by simp)]; simp; rfl, rfl, rfl, fun i hi => ?_, fun i hi => ?_⟩⟩⟩ (by omega)
    ·obtain rfl : i = 0 := by omega
     rfl
    ·obtain rfl : i = 0 := by omega
     simp
   ·have htk : rows.take j = rows := List.take_of_length_le (by omega)
    have htk' : rows'.take j = rows' := List.take_of_length_le (by omega)
    have hla := zF hg
    have hla' := zF hg'
    repeat' (first | refine And.intro (by omega) ?_ | refine zA (cN _) ?_ | simp -implicitDefEqProofs (disch := omega) only [e12, e77, e78, e79, hq, bx, hg, hg', htk, htk', hl, hl', hget_s3, hset_s3, zO, zBL, pr_c1s, zA8, zB, zJ, zG, zAq, zT, zAB, zAA, zW, splice, List.drop_succ_cons, List.drop_zero, Nat.zero_add, List.length_map, zM, push_cast, simprocAttr, ↓reduceIte, Bool.and_self])
    refine .mk (j + 1) ⟨e12, e77, e78, rfl, hlt, by simp; omega, fun i hi => by rw [List.getElem?_append_left (by simp; omega), List.getElem?_set_ne (by omega), List.getElem?_set_ne (by omega), List.getElem?_set_ne (by omega), fr i hi], ⟨_, _, hget_s3 hlb, .inr ⟨a, v + 1, _, a', v' + 1, _, rfl, rfl, ha, ha', hne, by rw [List.getElem?_append_left (by simp; omega), List.getElem?_set_ne (by omega), List.getElem?_set_ne (by omega), List.getElem?_set_self hla], by rw [List.getElem?_append_left (by simp; omega), List.getElem?_set_ne (by omega), List.getElem?_set_self (by simp; omega)], by simp [hl], by simp [hl'], getD_snoc hl hr rfl, getD_snoc hl' hr' (by rw [Int.zero_add])⟩⟩⟩ (by omega)
  ·have e : j = ps.length := by omega
   subst e
   repeat' (simp -implicitDefEqProofs (disch := omega) only [e12, e78, e79, zR, push_cast, ↓reduceIte, Nat.reduceEqDiff])
   have hps : ¬ ps.length = 0 := by omega
   obtain ⟨a, v, rows, a', v', rows', rfl, rfl, ha, ha', hne, hg, hg', hl, hl', hr, hr'⟩ := hrow.resolve_left fun h => hps h.1
   refine ⟨zBv (by omega) fr, .inr ⟨hok, _, _, _, _, _, rfl, hm, by omega, bx, fun k cl => ⟨⟨a, v, rows, rfl, zF hg, by omega, hg, hl, hr⟩, ⟨a', v', rows', rfl, zF hg', by omega, hg', hl', hr'⟩⟩⟩⟩
theorem enter_od : Enter Tryz.prog 73 := ⟨_, Tryz.func73, by kernel_rfl, by kernel_rfl⟩
theorem outDefN (a b c : AV) (H : zC) : ADef Tryz.prog 73 [a, b, c] none H fun H' => H' = H := by
 refine enterDef Tryz.func73 L73_ok (Nat.le_of_ble_eq_true rfl) ?_
 repeat' (simp -implicitDefEqProofs (disch := omega) only [L73, recE, List.foldl_cons, List.foldl_nil, push_cast, simprocAttr, ↓reduceIte])
theorem hget_ssl {G : zC} (a b : Nat) (X Y z : HO) : ((G.set a X).set b Y ++ [z])[G.length]? = some z := by
 rw [List.getElem?_append_right (by simp)]; simp
theorem outDefS (n : Nat) (f p a : Int) (hf : 1 ≤ f) (x0 x1 x2 x3 : AV) (H : zC) (h0 : H[n]? = some (.box [x0, x1])) (h1 : H[n + 1]? = some (.box [x2])) (h2 : H[n + 2]? = some (.box [x3])) : ADef Tryz.prog 73 [.ptr n 0 0, .ptr (n + 1) 0 0, .ptr (n + 2) 0 0] (some (stopV f p a)) H fun H' => H' = (((H ++ [HO.box [int f, int p, int a]]).set n (.box [int f, zAp])).set (n + 1) (.box [int p])).set (n + 2) (.box [int a]) := by
 have hk : (kEq (.int .i64 f) (.int .i64 0) = true) = False := by simp [kEq]; omega
 have hl := zF h2
 have g0 : (H ++ [HO.box [int f, int p, int a]])[n]? = some (.box [x0, x1]) := by rw [List.getElem?_append_left (by omega)]; exact h0
 have g1 : (H ++ [HO.box [int f, int p, int a]])[n + 1]? = some (.box [x2]) := by rw [List.getElem?_append_left (by omega)]; exact h1
 have g2 : (H ++ [HO.box [int f, int p, int a]])[n + 2]? = some (.box [x3]) := by rw [List.getElem?_append_left (by omega)]; exact h2
 refine enterDef Tryz.func73 L73_ok (Nat.le_of_ble_eq_true rfl) ?_
 repeat' (simp -implicitDefEqProofs (disch := omega) only [L73, recE, List.foldl_cons, List.foldl_nil, g0, h1, h2, hk, false_and, hget_ssl, rBuild, fillA, zJ, zG, zAq, zT, zAB, zAA, zCl, zW, splice, List.drop_succ_cons, List.drop_zero, push_cast, simprocAttr, ↓reduceIte, Bool.and_self])
theorem od_res {e : Env} {H : zC} {n : Nat} {a s b c : AV} (h6 : e 6 = .ptr n 0 0) (h7 : e 7 = .ptr (n + 1) 0 0) (h8 : e 8 = .ptr (n + 2) 0 0) (g0 : H[n]? = some (.box [a, s])) (g1 : H[n + 1]? = some (.box [b])) (g2 : H[n + 2]? = some (.box [c])) :
  (zAU e H L42.res).ok ∧ (zAU e H L42.res).x = .tup [.agg [a, s], b, c] := by
 constructor <;> simp [L42, zAU, zDb, h6, h7, h8, rLoad, g0, g1, g2, rLoadO, isVer, Res.also, isBox, cellsV]
theorem od_ret {R : AV → zC → Prop} {e : Env} {G : zC} {n : Nat} {a s b c : AV} (h6 : e 6 = .ptr n 0 0) (h7 : e 7 = .ptr (n + 1) 0 0) (h8 : e 8 = .ptr (n + 2) 0 0) (g0 : G[n]? = some (.box [a, s])) (g1 : G[n + 1]? = some (.box [b])) (g2 : G[n + 2]? = some (.box [c])) (hR : R (.tup [.agg [a, s], b, c]) G) (x y z : AV) :
  postD Tryz.prog L42.res R 73 [x, y, z] .ret e G := by
 intro X ρ w vs hr hv
 refine (outDefN x y z G X ρ w vs hr hv).mono ?_
 rintro en u' w' ⟨v, H', ρ', h1, h2', h3, h4, h5⟩
 subst h3
 obtain ⟨o1, o2⟩ := od_res h6 h7 h8 g0 g1 g2
 exact ⟨v, H', ρ', h1, h2', ⟨o1, by rw [o2]; exact hR⟩, h4, h5⟩
theorem od_pan {R : AV → zC → Prop} {e : Env} {G : zC} {n : Nat} {x0 x1 x2 x3 : AV} {f p a : Int} (hf : 1 ≤ f) (h6 : e 6 = .ptr n 0 0) (h7 : e 7 = .ptr (n + 1) 0 0) (h8 : e 8 = .ptr (n + 2) 0 0) (g0 : G[n]? = some (.box [x0, x1])) (g1 : G[n + 1]? = some (.box [x2])) (g2 : G[n + 2]? = some (.box [x3])) (hR : R (.tup [.agg [int f, zAp], int p, int a]) ((((G ++ [HO.box [int f, int p, int a]]).set n (.box [int f, zAp])).set (n + 1) (.box [int p])).set (n + 2) (.box [int a]))) :
  postD Tryz.prog L42.res R 73 [.ptr n 0 0, .ptr (n + 1) 0 0, .ptr (n + 2) 0 0] (.pan (stopV f p a)) e G := by
 have hl := zF g2
 intro X ρ w vs hr hv
 refine (outDefS n f p a hf x0 x1 x2 x3 G g0 g1 g2 X ρ w vs hr hv).mono ?_
 rintro en u' w' ⟨v, H', ρ', h1, h2', h3, h4, h5⟩
 subst h3
 obtain ⟨o1, o2⟩ := od_res (H := (((G ++ [HO.box [int f, int p, int a]]).set n (.box [int f, zAp])).set (n + 1) (.box [int p])).set (n + 2) (.box [int a])) h6 h7 h8 (a := int f) (s := zAp) (b := int p) (c := int a)
  (by rw [List.getElem?_set_ne (by omega), List.getElem?_set_ne (by omega), List.getElem?_set_self (by simp; omega)]) (by rw [List.getElem?_set_ne (by omega), List.getElem?_set_self (by simp; omega)]) (by rw [List.getElem?_set_self (by simp; omega)])
 exact ⟨v, _, ρ', h1, h2', ⟨o1, by rw [o2]; exact hR⟩, h4, h5⟩
def OutR (r : CR × Int) (y : AV) : Prop := match r with
 | (.ok out, c) => ∃ z, (z = 1 ∨ out = []) ∧ y = .tup [.agg [int 0, .sl z (out.map iR)], int (-1), int (-1)]
 | (.flt f p a, c) => y = .tup [.agg [int f, zAp], int p, int a]
theorem outcomeM {C : Cx} {st sz om : AV} {rx : Nat} {k : Int} {x : AV} {r : CR × Int} {G : zC} (hrx : rx < G.length) (hf : ∀ f p a c, r = (.flt f p a, c) → 1 ≤ f)
  (hR : ∀ l, ACallX Tryz.prog 74 [.ptr rx 0 0, int k, x] (G ++ l) (fun y G' => RunMR C st sz om rx r y (G ++ l) G') fun z G' => RunMZ C st sz om rx r z (G ++ l) G') :
  ACall Tryz.prog 42 [.ptr rx 0 0, int k, x] G fun y G' => OutR r y ∧ Fr1 rx G G' ∧ G'[rx]? = some (RnM C st sz om r.2) := by
 refine enterD Tryz.func42 L42_ok (Nat.le_of_ble_eq_true rfl) ?_
 show wpD _ L42.res (fun y G' => OutR r y ∧ Fr1 rx G G' ∧ G'[rx]? = some (RnM C st sz om r.2)) _ _ _
 generalize hres : L42.res = res
 repeat' (simp -implicitDefEqProofs (disch := omega) only [L42, splice, List.drop_succ_cons, List.drop_zero, zAe, push_cast, simprocAttr, ↓reduceIte, Bool.and_self])
 refine ⟨_, _, _, rfl, enter_od, ?_⟩
 repeat' (simp -implicitDefEqProofs (disch := omega) only [push_cast, Int.reduceNeg])
 subst hres
 refine zH (hR _) ?_ ?_
 ·rintro y G2 ⟨hF, hm⟩
  have hle := hF.1
  simp only [List.length_append, List.length_cons, List.length_nil] at hle
  have b0 := (hF.2 G.length (by simp) (by omega)).trans (show _ = some (HO.box [int 0, zAp]) by simp [zAe])
  have b1 := (hF.2 (G.length + 1) (by simp) (by omega)).trans (show _ = some (HO.box [int (-1)]) by simp [zAe])
  have b2 := (hF.2 (G.length + 2) (by simp) (by omega)).trans (show _ = some (HO.box [int (-1)]) by simp [zAe])
  obtain ⟨r, c⟩ := r
  cases r with
  | flt f p a => exact hm.elim
  | ok out =>
   obtain ⟨⟨z, rfl, hz⟩, hrn⟩ := hm
   generalize hres : L42.res = res
   repeat' (simp -implicitDefEqProofs (disch := omega) only [b0, b1, b2, rBuild, fillA, zG, zW, splice, List.drop_succ_cons, List.drop_zero, push_cast, simprocAttr, ↓reduceIte, Bool.and_self])
   subst hres
   refine od_ret (n := G.length) rfl rfl rfl (by rw [List.getElem?_set_ne (by omega), List.getElem?_set_ne (by omega), List.getElem?_set_self (by omega)]) (by rw [List.getElem?_set_ne (by omega), List.getElem?_set_self (by simp; omega)]) (by rw [List.getElem?_set_self (by simp; omega)]) ⟨⟨z, hz, rfl⟩, ⟨by simp; omega, fun i hi hne => ?_⟩, ?_⟩ _ _ _
   ·rw [List.getElem?_set_ne (by omega), List.getElem?_set_ne (by omega), List.getElem?_set_ne (by omega), hF.2 i (by simp; omega) hne, List.getElem?_append_left hi]
   ·rw [List.getElem?_set_ne (by omega), List.getElem?_set_ne (by omega), List.getElem?_set_ne (by omega)]; exact hrn
 ·rintro v G2 ⟨hF, hm⟩
  obtain ⟨r, c⟩ := r
  cases r with
  | ok out => exact hm.elim
  | flt f p a =>
   obtain ⟨rfl, hrn⟩ := hm
   have hle := hF.1
   simp only [List.length_append, List.length_cons, List.length_nil] at hle
   have b0 := (hF.2 G.length (by simp) (by omega)).trans (show _ = some (HO.box [int 0, zAp]) by simp [zAe])
   have b1 := (hF.2 (G.length + 1) (by simp) (by omega)).trans (show _ = some (HO.box [int (-1)]) by simp [zAe])
   have b2 := (hF.2 (G.length + 2) (by simp) (by omega)).trans (show _ = some (HO.box [int (-1)]) by simp [zAe])
   generalize hres : L42.res = res
   repeat' (simp -implicitDefEqProofs (disch := omega) only [push_cast, Int.reduceNeg])
   subst hres
   refine od_pan (hf f p a c rfl) rfl rfl rfl b0 b1 b2 ⟨rfl, ⟨by simp; omega, fun i hi hne => ?_⟩, ?_⟩
   ·rw [List.getElem?_set_ne (by omega), List.getElem?_set_ne (by omega), List.getElem?_set_ne (by omega), List.getElem?_append_left (by omega), hF.2 i (by simp; omega) hne, List.getElem?_append_left hi]
   ·rw [List.getElem?_set_ne (by omega), List.getElem?_set_ne (by omega), List.getElem?_set_ne (by omega), List.getElem?_append_left (by omega)]; exact hrn
theorem SpO.app {C : Cx} {st sz : AV} {rx : Nat} {G : zC} (h : SpO C st sz G.length rx G) (l : zC) : SpO C st sz (G ++ l).length rx (G ++ l) :=
 (h.kp (rf := 0) (KpX.app (Nat.le_refl _) l)).up (by simp)
theorem fltPos {ps : List Pr} {p w L : Int} {inp : List Int} (h : RunOk ps p w L inp) : ∀ f q a c, zCM ps w L (p.toNat + 1) p.toNat inp 0 = (.flt f q a, c) → 1 ≤ f := fun f q a c hr => by
 have := runP_ok (L := L) h.hw h.hv (p.toNat + 1) p.toNat inp 0 (by omega) (by have := h.hp; omega) h.hn h.hi
 rw [hr] at this
 exact this.1
theorem goM {ps : List Pr} {p w L : Int} {inp : List Int} {rx : Nat} {st sz : AV} {ks : List Value} {vm : List AV} {G : zC} (h : RunOk ps p w L inp) (hm : OpM w [] ks vm) (hrn : G[rx]? = some (.box [zAz ps, int w, int L, st, sz, .mp ks vm, int 0])) (hsp : ∀ k cl, SpO ⟨ps, w, L, k, cl⟩ st sz G.length rx G) :
  ACall Tryz.prog 42 [.ptr rx 0 0, int p, .sl 1 (inp.map iR)] G fun y G' => OutR (zCM ps w L (p.toNat + 1) p.toNat inp 0) y ∧ Fr1 rx G G' ∧ G'[rx]? = some (.box [zAz ps, int w, int L, st, sz, .mp ks vm, int (zCM ps w L (p.toNat + 1) p.toNat inp 0).2]) := by
 have hp := h.hp
 have e : p = ((p.toNat : Nat) : Int) := by omega
 have hrx := zF hrn
 have hR := fun l => runTopM (k := p.toNat) h.hw h.hl h.hv hm (by omega) inp 0 rx (G ++ l) (.sl 1 (inp.map iR)) h.hn h.hi (by rw [List.getElem?_append_left hrx]; exact hrn) ((hsp _ _).app l) (.inl (.inl rfl))
 rw [← e] at hR
 exact outcomeM (C := ⟨ps, w, L, p.toNat, zCM ps w L p.toNat⟩) hrx (fltPos h) hR
theorem runMC (ps : List Pr) (hs : zCn ps) (p w L : Int) (hp : zCT p) (inp : List Int) (hl : inp.length ≤ 1048576) (hi : ∀ v ∈ inp, zCT v) (H : zC) : zAn 17 [.agg [zAz ps], int p, .agg [int w, int L], .sl 1 (inp.map iR)] H (outA (runV ps p w L inp) (.sl 1 ((runV ps p w L inp).2.1.map iR))) := by
 refine raw_to ?_
 refine ACall.drop (R := RawR (runV ps p w L inp)) ?_
 refine enter Tryz.func17 L17_ok (Nat.le_of_ble_eq_true rfl) ?_
 repeat' (simp -implicitDefEqProofs (disch := omega) only [L17, zAe, zE, zW, push_cast, simprocAttr, ↓reduceIte, Bool.and_self])
 refine zV (startM ps hs p w L hp inp hl hi _) ?_
 rintro x G1 ⟨⟨rest, hG⟩, hS⟩
 have hl1 : H.length + 3 ≤ G1.length := by rw [hG]; simp
 have b1 : G1[H.length + 2]? = some (HO.box [int 0, zAp]) := by rw [hG, List.getElem?_append_left (by simp)]; simp [zAe]
 have fr1 : ∀ i, i < H.length → G1[i]? = H[i]? := fun i hi => by rw [hG, List.getElem?_append_left (by simp; omega), List.getElem?_append_left hi]
 clear hG
 rcases hS with ⟨hn, rfl⟩ | ⟨hok, rx, st, sz, ks, vm, rfl, hm, hrx, hrn, hsp⟩
 ·have hV : runV ps p w L inp = (0, [], -1, -1, errF ps p w L inp) := if_neg hn
  have he := errF_ne hn
  have hF : ∀ x, x = outA (0, [], -1, -1, errF ps p w L inp) zAp → RawR (runV ps p w L inp) x := fun x hx => by rw [hV]; exact ⟨_, hx, Le_nil1⟩
  generalize RawR (runV ps p w L inp) = S at *
  generalize errF ps p w L inp = er at *
  repeat' (simp -implicitDefEqProofs (disch := omega) only [zK, zW, splice, List.drop_succ_cons, List.drop_zero, b1, rBuild, fillA, zX, push_cast, simprocAttr, ↓reduceIte, Bool.and_self])
  exact ⟨hF _ rfl, zBv (by simp; omega) fun i hi => by rw [List.getElem?_set_ne (by omega)]; exact fr1 i hi⟩
 ·repeat' (simp -implicitDefEqProofs (disch := omega) only [push_cast, simprocAttr, ↓reduceIte])
  refine zV (goM hok hm hrn hsp) ?_
  rintro y G2 ⟨hO, hF, hrn2⟩
  simp only [List.length_append, List.length_cons, List.length_nil] at hrx
  have hle := hF.1
  have b2 : G2[H.length + 2]? = some (HO.box [int 0, zAp]) := (hF.2 (H.length + 2) (by omega) (by omega)).trans b1
  have fr : ∀ i, i < H.length → G2[i]? = H[i]? := fun i hi => by
   rw [hF.2 i (by omega) (by omega)]; exact fr1 i hi
  cases hr : zCM ps w L (p.toNat + 1) p.toNat inp 0 with
  | mk r c =>
  rw [hr] at hO
  cases r with
  | ok out =>
   obtain ⟨z, hz, rfl⟩ := hO
   have hV : runV ps p w L inp = (0, out, -1, -1, 0) := by unfold runV; rw [if_pos hok, hr]
   have hF : ∀ x, x = outA (0, out, -1, -1, 0) (.sl z (out.map iR)) → RawR (runV ps p w L inp) x := fun x hx => by rw [hV]; exact ⟨_, hx, Le_slz z out hz⟩
   generalize RawR (runV ps p w L inp) = S at *
   repeat' (simp -implicitDefEqProofs (disch := omega) only [b2, zB, zJ, zK, zAq, zW, splice, List.drop_succ_cons, List.drop_zero, push_cast, simprocAttr, ↓reduceIte, Bool.and_self])
   exact ⟨hF _ rfl, zBv (by simp; omega) fun i hi => by rw [List.getElem?_append_left (by simp; omega), List.getElem?_set_ne (by omega)]; exact fr i hi⟩
  | flt f q a =>
   have hO : y = _ := hO
   subst hO
   have hV : runV ps p w L inp = (f, [], q, a, 0) := by unfold runV; rw [if_pos hok, hr]
   have hF : ∀ x, x = outA (f, [], q, a, 0) zAp → RawR (runV ps p w L inp) x := fun x hx => by rw [hV]; exact ⟨_, hx, Le_nil1⟩
   generalize RawR (runV ps p w L inp) = S at *
   repeat' (simp -implicitDefEqProofs (disch := omega) only [b2, zB, zJ, zK, zAq, zW, splice, List.drop_succ_cons, List.drop_zero, push_cast, simprocAttr, ↓reduceIte, Bool.and_self])
   exact ⟨hF _ rfl, zBv (by simp; omega) fun i hi => by rw [List.getElem?_append_left (by simp; omega), List.getElem?_set_ne (by omega)]; exact fr i hi⟩
theorem cntMC (ps : List Pr) (hs : zCn ps) (p w L : Int) (hp : zCT p) (inp : List Int) (hl : inp.length ≤ 1048576) (hi : ∀ v ∈ inp, zCT v) (H : zC) : zAn 20 [.agg [zAz ps], int p, .agg [int w, int L], .sl 1 (inp.map iR)] H (.tup [int (cntV ps p w L inp).1, int (cntV ps p w L inp).2]) := by
 refine ACall.drop (R := fun x => x = .tup [int (cntV ps p w L inp).1, int (cntV ps p w L inp).2]) ?_
 refine enter Tryz.func20 L20_ok (Nat.le_of_ble_eq_true rfl) ?_
 repeat' (simp -implicitDefEqProofs (disch := omega) only [L20, zAe, zE, zW, push_cast, simprocAttr, ↓reduceIte, Bool.and_self])
 refine zV (startM ps hs p w L hp inp hl hi _) ?_
 rintro x G1 ⟨⟨rest, hG⟩, hS⟩
 have hl1 : H.length + 2 ≤ G1.length := by rw [hG]; simp
 have fr1 : ∀ i, i < H.length → G1[i]? = H[i]? := fun i hi => by rw [hG, List.getElem?_append_left (by simp; omega), List.getElem?_append_left hi]
 clear hG
 rcases hS with ⟨hn, rfl⟩ | ⟨hok, rx, st, sz, ks, vm, rfl, hm, hrx, hrn, hsp⟩
 ·have hV : cntV ps p w L inp = (0, errF ps p w L inp) := if_neg hn
  have he := errF_ne hn
  rw [hV]
  generalize errF ps p w L inp = er at *
  repeat' (simp -implicitDefEqProofs (disch := omega) only [zX, push_cast, simprocAttr, ↓reduceIte, Bool.and_self])
  exact zBv (by omega) fr1
 ·have hV : cntV ps p w L inp = ((zCM ps w L (p.toNat + 1) p.toNat inp 0).2, 0) := if_pos hok
  rw [hV]
  repeat' (simp -implicitDefEqProofs (disch := omega) only [push_cast, simprocAttr, ↓reduceIte])
  refine zV (goM hok hm hrn hsp) ?_
  rintro y G2 ⟨hO, hF, hrn2⟩
  simp only [List.length_append, List.length_cons, List.length_nil] at hrx
  have hle := hF.1
  have fr : ∀ i, i < H.length → G2[i]? = H[i]? := fun i hi => by
   rw [hF.2 i (by omega) (by omega)]; exact fr1 i hi
  repeat' (simp -implicitDefEqProofs (disch := omega) only [hrn2, List.drop_succ_cons, List.drop_zero, push_cast, simprocAttr, ↓reduceIte, Bool.and_self])
  exact zBv (by omega) fr
theorem zDh {H : zC} : ∃ rest, H = H ++ rest := ⟨[], (List.append_nil H).symm⟩
end Go.Proofs.YtaipgalanpcgoaaGreat
namespace Go.Ax
open Go
set_option linter.unusedSimpArgs false
set_option linter.unusedVariables false
inductive Tr (α : Type) where
 | leaf
 | node (v : α) (l r : Tr α)
def Tr.getN {α : Type} (v : α) (gl gr : Nat → α) (i : Nat) : α := Nat.casesOn (motive := fun _ => α) i v fun n => cond (Nat.beq (Nat.mod n 2) 0) (gl (Nat.div n 2)) (gr (Nat.div n 2))
noncomputable def Tr.get {α : Type} (d : α) (t : Tr α) : Nat → α := Tr.rec (motive := fun _ => Nat → α) (fun _ => d) (fun v _ _ gl gr => Tr.getN v gl gr) t
def Tr.set {α : Type} (d x : α) : Nat → Nat → Tr α → Tr α
 | 0, _, t => t
 | f + 1, i, .leaf => Nat.casesOn i (.node x .leaf .leaf) fun n => cond (Nat.beq (Nat.mod n 2) 0) (.node d (set d x f (Nat.div n 2) .leaf) .leaf) (.node d .leaf (set d x f (Nat.div n 2) .leaf))
 | f + 1, i, .node v l r => Nat.casesOn i (.node x l r) fun n => cond (Nat.beq (Nat.mod n 2) 0) (.node v (set d x f (Nat.div n 2) l) r) (.node v l (set d x f (Nat.div n 2) r))
def Tr.setL {α β : Type} (d x : α) (ih : Nat → Tr α → (Tr α → β) → β) (i : Nat) (k : Tr α → β) : β :=
 Nat.casesOn (motive := fun _ => β) i (k (.node x .leaf .leaf)) fun n => cond (Nat.beq (Nat.mod n 2) 0) (ih (Nat.div n 2) .leaf fun l => k (.node d l .leaf)) (ih (Nat.div n 2) .leaf fun r => k (.node d .leaf r))
def Tr.setN {α β : Type} (x : α) (ih : Nat → Tr α → (Tr α → β) → β) (i : Nat) (k : Tr α → β) (v : α) (l r : Tr α) : β :=
 Nat.casesOn (motive := fun _ => β) i (k (.node x l r)) fun n => cond (Nat.beq (Nat.mod n 2) 0) (ih (Nat.div n 2) l fun l => k (.node v l r)) (ih (Nat.div n 2) r fun r => k (.node v l r))
def Tr.setS {α β : Type} (d x : α) (ih : Nat → Tr α → (Tr α → β) → β) (i : Nat) (t : Tr α) (k : Tr α → β) : β :=
 Tr.casesOn (motive := fun _ => β) t (Tr.setL d x ih i k) fun v l r => Tr.setN x ih i k v l r
noncomputable def Tr.setK {α β : Type} (d x : α) (f : Nat) : Nat → Tr α → (Tr α → β) → β :=
 Nat.rec (motive := fun _ => Nat → Tr α → (Tr α → β) → β) (fun _ t k => k t) (fun _ ih => Tr.setS d x ih) f
theorem Tr.setK_eq {α β : Type} (d x : α) : ∀ (f i : Nat) (t : Tr α) (k : Tr α → β), Tr.setK d x f i t k = k (t.set d x f i)
 | 0, i, t, k => by cases t <;> rfl
 | f + 1, 0, .leaf, k => rfl
 | f + 1, 0, .node v l r, k => rfl
 | f + 1, n + 1, .leaf, k => by
  show cond (Nat.beq (Nat.mod n 2) 0) (Tr.setK d x f (Nat.div n 2) .leaf fun l => k (.node d l .leaf)) (Tr.setK d x f (Nat.div n 2) .leaf fun r => k (.node d .leaf r)) = _
  simp only [set]
  cases Nat.beq (Nat.mod n 2) 0 <;> simp [setK_eq d x f]
 | f + 1, n + 1, .node v l r, k => by
  show cond (Nat.beq (Nat.mod n 2) 0) (Tr.setK d x f (Nat.div n 2) l fun l => k (.node v l r)) (Tr.setK d x f (Nat.div n 2) r fun r => k (.node v l r)) = _
  simp only [set]
  cases Nat.beq (Nat.mod n 2) 0 <;> simp [setK_eq d x f]
theorem Tr.get_leaf {α : Type} (d : α) (i : Nat) : (Tr.leaf : Tr α).get d i = d := rfl
theorem Tr.get_z {α : Type} (d v : α) (l r : Tr α) : (Tr.node v l r).get d 0 = v := rfl
theorem Tr.get_s {α : Type} (d v : α) (l r : Tr α) (n : Nat) : (Tr.node v l r).get d (n + 1) = if n % 2 = 0 then l.get d (n / 2) else r.get d (n / 2) := by
 show cond (Nat.beq (n % 2) 0) _ _ = _
 by_cases h : n % 2 = 0
 ·rw [if_pos h, h]; rfl
 ·rw [if_neg h, show n % 2 = 1 by omega]; rfl
theorem Tr.set_s {α : Type} (d x v : α) (f n : Nat) (l r : Tr α) : (Tr.node v l r).set d x (f + 1) (n + 1) = if n % 2 = 0 then .node v (l.set d x f (n / 2)) r else .node v l (r.set d x f (n / 2)) := by
 show cond (Nat.beq (n % 2) 0) _ _ = _
 by_cases h : n % 2 = 0
 ·rw [if_pos h, h]; rfl
 ·rw [if_neg h, show n % 2 = 1 by omega]; rfl
theorem Tr.set_l {α : Type} (d x : α) (f n : Nat) : (Tr.leaf : Tr α).set d x (f + 1) (n + 1) = if n % 2 = 0 then .node d ((Tr.leaf : Tr α).set d x f (n / 2)) .leaf else .node d .leaf ((Tr.leaf : Tr α).set d x f (n / 2)) := by
 show cond (Nat.beq (n % 2) 0) _ _ = _
 by_cases h : n % 2 = 0
 ·rw [if_pos h, h]; rfl
 ·rw [if_neg h, show n % 2 = 1 by omega]; rfl
theorem Tr.get_set {α : Type} (d x : α) : ∀ (f i : Nat) (t : Tr α) (j : Nat), i < 2 ^ f - 1 → (t.set d x f i).get d j = if j = i then x else t.get d j
 | 0, i, t, j, h => by simp at h
 | f + 1, 0, .leaf, j, h => by
  show (Tr.node x .leaf .leaf).get d j = _
  cases j with
  | zero => rfl
  | succ j => rw [get_s, get_leaf]; simp [get_leaf]
 | f + 1, 0, .node v l r, j, h => by
  show (Tr.node x l r).get d j = _
  cases j with
  | zero => rfl
  | succ j => rw [get_s, get_s]; simp
 | f + 1, n + 1, .leaf, j, h => by
  have hp : 2 ^ (f + 1) = 2 * 2 ^ f := by rw [Nat.pow_succ]; omega
  have hn : n / 2 < 2 ^ f - 1 := by omega
  rw [set_l]
  cases j with
  | zero => split <;> simp [get_z, get_leaf]
  | succ j =>
   have e : (j = n) ↔ (j % 2 = n % 2 ∧ j / 2 = n / 2) := by omega
   by_cases hn2 : n % 2 = 0
   ·rw [if_pos hn2, get_s]
    by_cases hj2 : j % 2 = 0
    ·rw [if_pos hj2, get_set d x f _ _ _ hn]; simp [get_leaf, e, hj2, hn2]
    ·rw [if_neg hj2]; simp [get_leaf, e, hj2, hn2]
   ·rw [if_neg hn2, get_s]
    by_cases hj2 : j % 2 = 0
    ·rw [if_pos hj2]; have : ¬ 0 = n % 2 := fun h => hn2 h.symm
     simp [get_leaf, e, hj2, this]
    ·rw [if_neg hj2, get_set d x f _ _ _ hn]
     have e2 : j % 2 = n % 2 := by omega
     simp [get_leaf, e, e2]
 | f + 1, n + 1, .node v l r, j, h => by
  have hp : 2 ^ (f + 1) = 2 * 2 ^ f := by rw [Nat.pow_succ]; omega
  have hn : n / 2 < 2 ^ f - 1 := by omega
  rw [set_s]
  cases j with
  | zero => split <;> simp [get_z]
  | succ j =>
   have e : (j = n) ↔ (j % 2 = n % 2 ∧ j / 2 = n / 2) := by omega
   rw [get_s]
   by_cases hn2 : n % 2 = 0
   ·rw [if_pos hn2, get_s]
    by_cases hj2 : j % 2 = 0
    ·rw [if_pos hj2, if_pos hj2, get_set d x f _ _ _ hn]; simp [e, hj2, hn2]
    ·rw [if_neg hj2, if_neg hj2]; simp [e, hj2, hn2]
   ·rw [if_neg hn2, get_s]
    by_cases hj2 : j % 2 = 0
    ·rw [if_pos hj2, if_pos hj2]; have : ¬ 0 = n % 2 := fun h => hn2 h.symm
     simp [e, hj2, this]
    ·rw [if_neg hj2, if_neg hj2, get_set d x f _ _ _ hn]
     have e2 : j % 2 = n % 2 := by omega
     simp [e, e2]
end Go.Ax
