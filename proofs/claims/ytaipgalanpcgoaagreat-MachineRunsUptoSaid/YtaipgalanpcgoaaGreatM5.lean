/- Parts, merged by a program (wip/tools/merge2.py): Mc10g Mc11 Mc12 Mc13 Vb5 Vb6 Vb7 Vb3 Vb8 Vb9 Fz Mc14 Mc26 Mc15 Mc16 Mc17 Mc18 Mc19 Mc20 Mc21 Mc22 Mc23 Mc24 Mc25 Mc27 Mc28 Mc29. -/
import Derived.Test.YtaipgalanpcgoaaGreatM4
import Derived.Test.YtaipgalanpcgoaaGreatChecked
namespace Go.Proofs.YtaipgalanpcgoaaGreat
open Go Go.Ax
set_option maxRecDepth 100000
set_option linter.unusedSimpArgs false
set_option linter.unusedVariables false
set_option maxHeartbeats 4000000
set_option maxHeartbeats 8000000 in
theorem zS4 (ps : List Pr) (k : Nat) (hk : k < ps.length) (hps : ps.length ≤ 1048576) (hp : zBZ ps k) (hh : zCk (ps.getD k default)) (l : List Ins) (out : Bool) (level c : Int) (r : Nat) (G : zC) : zJy ps k l out level c r G 19 := by
 intro j h e' G' a b bd el hlt hx hs hbd hel hrl hc0 hl0 hl1 ⟨e0, e2, e3, e9, e10, e11, e12, e42, e43, e44, gr, g9, g10, fr, gl, hj, hhh, cc, lv, ef⟩
 have hrow : (l.map zAp).getD j [] = [int 19, int a, int b, .sl 5 (bd.map zAp), .sl 5 (el.map zAp)] := by
  rw [zQ hlt, hx]; simp [zAp, zAI]
 have hrl' := zXN hrl fr.1
 have hb := zAl l (j + 1)
 have hb2 := zAS l (j + 1)
 have hsn := zAf hlt
 have hsl := zAN hlt
 rw [hx] at hsn hsl
 simp only [zBs, zCz] at hsn hsl
 have hbl := zR bd
 have hell := zR el
 have hbv := zAk bd
 have helv := zAk el
 obtain ⟨q1, q2, q3, q4, q5, q6, q7, q8⟩ := hh
 have ef0 := ef
 rw [zAR ps k hlt, hx] at ef
 have fA : ∀ B b, Fr1 r G (G'.set r B ++ [b]) := fun B b => (fr.trans (Fr1.set B)).trans (Fr1.app _)
 have fB : ∀ B b X, Fr1 r G ((G'.set r B).set (G.length + 1) X ++ [b]) := fun B b X => ((fr.trans (Fr1.set B)).set' (i := G.length + 1) (by omega) X).trans (Fr1.app _)
 have hng : ((∀ h', ¬ zB1 ps k (.mk 19 a b bd el) out h = some h') ∨ 32768 < c + zM (l.take j) + zBs (.mk 19 a b bd el) ∨ 257 < level + zCz (.mk 19 a b bd el)) → ¬ zDy ps k l out level c := zBq hlt hx ef0
 have hSr : ∀ B b, (G'.set r B ++ [b])[r]? = some B := fun B b => by rw [zB (by simpa using hrl'), zI hrl']
 have hS9 : ∀ B b, (G'.set r B ++ [b])[G.length]? = some (.box (prR (ps.getD k default))) := fun B b => by rw [zB (by rw [zXG]; omega), zH (by omega)]; exact g9
 have hS10 : ∀ B b, (G'.set r B ++ [b])[G.length + 1]? = some (.box [int h]) := fun B b => by rw [zB (by rw [zXG]; omega), zH (by omega)]; exact g10
 have hSx : ∀ B b, (G'.set r B ++ [b])[G'.length]? = some b := fun B b => by rw [zXz (by simp)]; simp
 have hTx : ∀ B b X, ((G'.set r B).set (G.length + 1) X ++ [b])[G'.length]? = some b := fun B b X => by rw [zXz (by simp)]; simp
 have hln := zR l
 have hXr : ∀ B X, (G'.set r B ++ X)[r]? = some B := fun B X => by rw [zB (by simpa using hrl'), zI hrl']
 have hX9 : ∀ B X, (G'.set r B ++ X)[G.length]? = some (.box (prR (ps.getD k default))) := fun B X => by rw [zB (by rw [zXG]; omega), zH (by omega)]; exact g9
 have hX10 : ∀ B X, (G'.set r B ++ X)[G.length + 1]? = some (.box [int h]) := fun B X => by rw [zB (by rw [zXG]; omega), zH (by omega)]; exact g10
 have hXx : ∀ B b X, (G'.set r B ++ b :: X)[G'.length]? = some b := fun B b X => by rw [zXz (by simp)]; simp
 have hXy : ∀ B b d X, (G'.set r B ++ b :: d :: X)[G'.length + 1]? = some d := fun B b d X => by rw [zXz (by simp)]; simp
 have hYr : ∀ B Y X, ((G'.set r B).set (G.length + 1) Y ++ X)[r]? = some B := fun B Y X => by rw [zB (by simpa using hrl'), zH (by omega), zI hrl']
 have hY9 : ∀ B Y X, ((G'.set r B).set (G.length + 1) Y ++ X)[G.length]? = some (.box (prR (ps.getD k default))) := fun B Y X => by rw [zB (by simp; omega), zH (by omega), zH (by omega)]; exact g9
 have hY10 : ∀ B Y X, ((G'.set r B).set (G.length + 1) Y ++ X)[G.length + 1]? = some Y := fun B Y X => by rw [zB (by simp; omega), zI (by simp; omega)]
 have hYx : ∀ B Y b X, ((G'.set r B).set (G.length + 1) Y ++ b :: X)[G'.length]? = some b := fun B Y b X => by rw [zXz (by simp)]; simp
 have hXs : ∀ B b z Y, (G'.set r B ++ [b, z]).set (G'.length + 1) Y = G'.set r B ++ [b, Y] := fun B b z Y => by rw [zYw _ _ (by simp)]; simp
 have fX : ∀ B X, Fr1 r G (G'.set r B ++ X) := fun B X => (fr.trans (Fr1.set B)).trans (Fr1.app _)
 have fY : ∀ B Y X, Fr1 r G ((G'.set r B).set (G.length + 1) Y ++ X) := fun B Y X => ((fr.trans (Fr1.set B)).set' (i := G.length + 1) (by omega) Y).trans (Fr1.app _)
 by_cases hcn : c + zM (l.take j) + 1 ≤ 32768
 ·by_cases hh0 : h = 0
  ·subst hh0
   cases out with
   | false =>
    have ng := hng (.inl fun h' hh => by have := (zGk.1 hh).2.2.1; cases this)
    repeat' (first | refine zXx (by omega) ?_ | refine zE (zAQ _) ?_ | refine zS (zA9 _) ?_ | simp -implicitDefEqProofs (disch := omega) only [e0, e2, e10, e42, e43, e44, gr, hrow, zB, zG, splice, zXr, zY, hXr, hX10, hXx, L131, LCode.sub, zO, zAd, push_cast, simprocAttr, ↓reduceIte, zXq])
    all_goals first | exact fX _ _ | exact ⟨ng, fX _ _⟩
   | true =>
    repeat' (first | refine zXx (by omega) ?_ | refine zE (zAQ _) ?_ | simp -implicitDefEqProofs (disch := omega) only [e0, e2, e3, e10, e42, e43, e44, gr, hrow, zB, zG, splice, zXr, zY, hXr, hX10, hXx, L131, LCode.sub, zO, zAd, push_cast, simprocAttr, ↓reduceIte, zXq])
    refine zAU (hbd true (level + 1) (c + zM (l.take j) + 1) _ r (hXr _ _) (by omega) (by omega) (by omega) (by omega)) ?_ ?_
    ·rintro y0 G2 ⟨y1, rfl, he1, hc1, hv1, hf1, hr2⟩
     have fr2 : Fr1 r G G2 := (fX _ _).trans hf1
     have l2 : G'.length + 1 ≤ G2.length := by have := hf1.1; simpa using this
     have k9 : G2[G.length]? = some (.box (prR (ps.getD k default))) := (hf1.2 _ (by simp; omega) (by omega)).trans (hX9 _ _)
     have k10 : G2[G.length + 1]? = some (.box [int 0]) := (hf1.2 _ (by simp; omega) (by omega)).trans (hX10 _ _)
     have kx : G2[G'.length]? = some (.box [int 19, int a, int b, .sl 5 (bd.map zAp), .sl 5 (el.map zAp)]) := (hf1.2 _ (by simp) (by omega)).trans (hXx _ _ _)
     clear hf1
     by_cases hy1 : y1 = 0
     ·subst hy1
      repeat' (simp -implicitDefEqProofs (disch := omega) only [e0, e3, kx, push_cast, simprocAttr, ↓reduceIte])
      refine zAU (hel false (level + 1) (c + zM (l.take j) + 1 + zM bd) G2 r hr2 (by omega) (by omega) (by omega) (by omega)) ?_ ?_
      ·rintro y0 G3 ⟨y2, rfl, he2, hc2, hv2, hf2, hr3⟩
       have fr3 : Fr1 r G G3 := fr2.trans hf2
       have l3 : G'.length + 1 ≤ G3.length := zX3 l2 hf2.1
       have m9 : G3[G.length]? = some (.box (prR (ps.getD k default))) := (hf2.2 _ (by omega) (by omega)).trans k9
       have m10 : G3[G.length + 1]? = some (.box [int 0]) := (hf2.2 _ (by omega) (by omega)).trans k10
       have mx : G3[G'.length]? = some (.box [int 19, int a, int b, .sl 5 (bd.map zAp), .sl 5 (el.map zAp)]) := (hf2.2 _ (by omega) (by omega)).trans kx
       clear hf2 k9 k10 kx
       by_cases hy2 : y2 = 1
       ·subst hy2
        by_cases hab : a = 0 ∧ b = 0
        ·have hI := (zGk (ps := ps) (k := k) (a := a) (b := b) (bd := bd) (el := el) (out := true) (h := 0) (h' := 0)).2 ⟨hab.1, hab.2, rfl, rfl, he2, he1, rfl⟩
         rw [hI] at ef
         repeat' (first | refine zE (zAQ _) ?_ | simp -implicitDefEqProofs (disch := omega) only [e44, mx, zAi, push_cast, simprocAttr, ↓reduceIte])
         have hcnt : c + (zM (l.take j) : Int) + 1 + zM bd + zM el = c + (zM (l.take (j + 1)) : Nat) := by rw [hsn]; push_cast; omega
         exact .mk (j + 1, 0) ⟨e0, e2, e3, e9, e10, e11, e12, e42, e43, rfl, by rw [hr3, hcnt], m9, m10, fr3, by omega, hlt, by dsimp only; omega, by dsimp only; rw [hsn]; omega, by dsimp only; rw [hsl]; omega, ef⟩ (by dsimp only; omega)
        ·have ng := hng (.inl fun h' hh => hab (by obtain ⟨g1, g2, _⟩ := zGk.1 hh; exact ⟨g1, g2⟩))
         repeat' (first | refine zXx (by omega) ?_ | refine zE (zAQ _) ?_ | refine zS (zA9 _) ?_ | simp -implicitDefEqProofs (disch := omega) only [mx, zAi, zX, push_cast, simprocAttr, ↓reduceIte] | split)
         all_goals first | exact fr3 | exact ⟨ng, fr3⟩ | (exfalso; omega)
       ·have ng := hng (.inl fun h' hh => by
         have := (zGk.1 hh).2.2.2.2.1
         rw [he2] at this
         simp only [zXt] at this
         omega)
        repeat' (first | refine zXx (by omega) ?_ | refine zS (zA9 _) ?_ | simp -implicitDefEqProofs (disch := omega) only [zX, push_cast, ↓reduceIte, Nat.reduceEqDiff])
        all_goals first | exact fr3 | exact ⟨ng, fr3⟩ | (exfalso; omega)
      ·rintro z0 G3 ⟨rfl, hb2, hf2⟩
       have ng := hng (by
        by_cases hg : ∃ e, zBl ps k el false 0 = some e
        ·refine .inr (zXY fun hno => hb2 ⟨hg, ?_, ?_⟩) <;> simp only [zBs, zCz] at hno <;> omega
        ·exact .inl fun h' hh => hg ⟨_, (zGk.1 hh).2.2.2.2.1⟩)
       repeat' (first | refine zXx (by omega) ?_ | simp -implicitDefEqProofs (disch := omega) only [push_cast])
       first | exact fr2.trans hf2 | exact ⟨ng, fr2.trans hf2⟩
     ·have ng := hng (.inl fun h' hh => by
       have := (zGk.1 hh).2.2.2.2.2.1
       rw [he1] at this
       simp only [zXt] at this
       omega)
      repeat' (first | refine zXx (by omega) ?_ | refine zS (zA9 _) ?_ | simp -implicitDefEqProofs (disch := omega) only [zX, push_cast, ↓reduceIte, Nat.reduceEqDiff])
      all_goals first | exact fr2 | exact ⟨ng, fr2⟩ | (exfalso; omega)
    ·rintro z0 G2 ⟨rfl, hb2, hf2⟩
     have ng := hng (by
      by_cases hg : ∃ e, zBl ps k bd true 0 = some e
      ·refine .inr (zXY fun hno => hb2 ⟨hg, ?_, ?_⟩) <;> simp only [zBs, zCz] at hno <;> omega
      ·exact .inl fun h' hh => hg ⟨_, (zGk.1 hh).2.2.2.2.2.1⟩)
     repeat' (first | refine zXx (by omega) ?_ | simp -implicitDefEqProofs (disch := omega) only [push_cast])
     first | exact (fX _ _).trans hf2 | exact ⟨ng, (fX _ _).trans hf2⟩
  ·have ng := hng (.inl fun h' hh => hh0 (zGk.1 hh).2.2.2.1)
   repeat' (first | refine zXx (by omega) ?_ | refine zE (zAQ _) ?_ | refine zS (zA9 _) ?_ | simp -implicitDefEqProofs (disch := omega) only [e0, e10, e42, e43, e44, gr, hrow, zB, zG, splice, zXr, zY, hXr, hX10, hXx, L131, LCode.sub, zO, zAd, zX, push_cast, simprocAttr, ↓reduceIte, zXq])
   all_goals first | exact fX _ _ | exact ⟨ng, fX _ _⟩
 ·repeat' (first | refine zXx (by omega) ?_ | refine zS (zA9 _) ?_ | simp -implicitDefEqProofs (disch := omega) only [e0, e42, e43, e44, gr, hrow, zB, zG, splice, zXr, zY, hXr, L131, LCode.sub, zO, zAn, push_cast, simprocAttr, ↓reduceIte, zXq])
  exact ⟨hng (.inr (.inl (by simp only [zBs]; omega))), fX _ _⟩
theorem zQB (ps : List Pr) (k : Nat) (hk : k < ps.length) (hps : ps.length ≤ 1048576) (hp : zBZ ps k) (hh : zCk (ps.getD k default)) (l : List Ins) (out : Bool) (level c : Int) (r : Nat) (G : zC) (o : Int) : zJy ps k l out level c r G o := by
 have hcase : (o < 0 ∨ 22 < o) ∨ (o = 0) ∨ (o = 1) ∨ (o = 2) ∨ (o = 22) ∨ (o = 3) ∨ (o = 16) ∨ (o = 17) ∨ (o = 4) ∨ (5 ≤ o ∧ o ≤ 15) ∨ o = 18 ∨ o = 19 ∨ o = 20 ∨ o = 21 := by omega
 rcases hcase with hc | rfl | rfl | rfl | rfl | rfl | rfl | rfl | rfl | hc | rfl | rfl | rfl | rfl
 ·exact zQA ps k hk hps hp hh l out level c r G o hc
 ·exact zWe ps k hk hps hp hh l out level c r G
 ·exact zWd ps k hk hps hp hh l out level c r G
 ·exact zWc ps k hk hps hp hh l out level c r G
 ·exact zS1 ps k hk hps hp hh l out level c r G
 ·exact zWb ps k hk hps hp hh l out level c r G
 ·exact zS7 ps k hk hps hp hh l out level c r G
 ·exact zS6 ps k hk hps hp hh l out level c r G
 ·exact zWa ps k hk hps hp hh l out level c r G
 ·exact zQz ps k hk hps hp hh l out level c r G o hc
 ·exact zS5 ps k hk hps hp hh l out level c r G
 ·exact zS4 ps k hk hps hp hh l out level c r G
 ·exact zS3 ps k hk hps hp hh l out level c r G
 ·exact zS2 ps k hk hps hp hh l out level c r G
theorem effC (ps : List Pr) (k : Nat) (hk : k < ps.length) (hps : ps.length ≤ 1048576) (hp : zBZ ps k) (hh : zCk (ps.getD k default)) (l : List Ins) : zM l ≤ 1048576 → zW5 ps k l := by
 induction l using Ins.indL with
 | h l ih =>
 intro hs out level c G r hr hc0 hc1 hl0 hl1
 have hrl := (zXA.1 hr).1
 refine zBr Tryz.func131 L131_ok (zXs rfl) ?_
 have hln := zR l
 by_cases hlev : level ≤ 256
 ·repeat' (first | refine zXx (by omega) ?_ | refine zE (zAQ _) ?_ | simp -implicitDefEqProofs (disch := omega) only [L131, hr, zB, zAD, zP, zBK, zDf, splice, zXr, zAd, push_cast, simprocAttr, ↓reduceIte, zXq])
  refine zAh (fun (st : Nat × Int) e' H' => EfI ps k l out level c r G st.1 st.2 e' H') (fun st => l.length - st.1) (0, 0) ?_ ?_
  ·exact ⟨rfl, rfl, rfl, rfl, rfl, rfl, rfl, rfl, rfl, rfl, by rw [zB hrl, hr]; simp [zM], by simp, by simp, Fr1.app _, by simp, zXJ _, by simp, by simp [zM]; omega, by simp [zAy]; omega, by simp⟩
  rintro ⟨j, h⟩ e' G' hI
  by_cases hlt : j < l.length
  ·have hk0 := zAq hlt
   have hx := ih _ hk0
   have hb := zAl l (j + 1)
   rw [zAf hlt, zCj] at hb
   have hx1 := hx.1 (by omega)
   have hx2 := hx.2 (by omega)
   exact zQB ps k hk hps hp hh l out level c r G (l.getD j default).op j h e' G' (l.getD j default).a (l.getD j default).b (l.getD j default).body (l.getD j default).els hlt (by cases l.getD j default; rfl) hs hx1 hx2 hrl hc0 hl0 hlev hI
  ·obtain ⟨e0, e2, e3, e9, e10, e11, e12, e42, e43, e44, gr, g9, g10, fr, gl, hj, hhh, cc, lv, ef⟩ := hI
   simp only at *
   have e : j = l.length := by omega
   subst e
   rw [zZi] at ef
   rw [zZb] at gr cc lv
   repeat' (simp -implicitDefEqProofs (disch := omega) only [e43, e44, e10, g10, zT, push_cast, simprocAttr, ↓reduceIte])
   exact ⟨h, rfl, ef, cc, lv, fr, gr⟩
 ·by_cases hl : l.length = 0
  ·have hl2 := zXK.1 hl
   subst hl2
   have hL : (Ax.LX.c (.v (.int .i64 0))) = (Ax.LX.c (.v (.int .i64 0))) := rfl
   repeat' (first | refine zXx (by omega) ?_ | refine zE (zAQ _) ?_ | simp -implicitDefEqProofs (disch := omega) only [L131, hr, zB, zAD, zP, zBK, zDf, splice, zXr, zZk, zX6, zAn, push_cast, simprocAttr, ↓reduceIte, zXq])
   refine zAh (fun (_ : Unit) e' H' => e' 10 = .ptr (G.length + 1) 0 0 ∧ e' 43 = int 0 ∧ e' 44 = int 0 ∧ H' = G ++ [.box (prR (ps.getD k default)), .box [int 0]]) (fun _ => 0) () ⟨rfl, rfl, rfl, rfl⟩ ?_
   rintro _ e' H' ⟨h10, h43, h44, rfl⟩
   repeat' (simp -implicitDefEqProofs (disch := omega) only [h10, h43, h44, push_cast, simprocAttr, ↓reduceIte])
   exact ⟨0, rfl, by simp [zBl], by simp [zM]; omega, by simp [zAy]; omega, Fr1.app _, by rw [zB hrl, hr]; simp [zM]⟩
  ·repeat' (first | refine zS (zA9 _) ?_ | simp -implicitDefEqProofs (disch := omega) only [L131, zXr, zAn, zX, push_cast, simprocAttr, ↓reduceIte])
   have h1 : 1 ≤ zAy l := by
    cases l with
    | nil => exact absurd rfl hl
    | cons x l => simp only [zAy]; rw [zMx]; omega
   first | exact ⟨fun hg => by have := hg.2.2; omega, Fr1.refl⟩ | exact Fr1.refl
theorem zWU (m q : Pr) (r : Nat) (H : zC) (hr : H[r]? = some (.box (prR q))) : zAe 130 [.agg (prR m), .ptr r 0 0] H (bool (decide (m.name = q.name))) := by
 refine ACall.drop (R := fun x => x = bool (decide (m.name = q.name))) ?_
 refine enter Tryz.func130 L130_ok (zXs rfl) ?_
 have hlt : r < H.length := (zXA.1 hr).1
 have hg : ∀ l, (H ++ l)[r]? = some (HO.box (prR q)) := fun l => by rw [zXu hlt]; exact hr
 repeat' (simp -implicitDefEqProofs (disch := omega) only [L130, zY, zDf, zP, zBU, hg, push_cast, simprocAttr, ↓reduceIte])
 exact ⟨_, rfl⟩
theorem zUa (l : List Pr) (q : Pr) (hl : l.length ≤ 1048576) (r : Nat) (H : zC) (hr : H[r]? = some (.box (prR q))) : zAe 176 [.sl 6 (l.map prR), .fn (.func 130) [] [.ptr r 0 0]] H (int (zIH (l.findIdx? fun m => decide (m.name = q.name)))) := by
 refine enter Tryz.func176 L176_ok (zXs rfl) ?_
 repeat' (simp -implicitDefEqProofs (disch := omega) only [L176, push_cast, simprocAttr, ↓reduceIte])
 refine zAh (fun (j : Nat) e' H' => e' 0 = .sl 6 (l.map prR) ∧ e' 1 = .fn (.func 130) [] [.ptr r 0 0] ∧ e' 7 = int l.length ∧ e' 8 = int j ∧ H = H' ∧ j ≤ l.length ∧ ∀ i, i < j → ¬ (l.getD i default).name = q.name) (fun j => l.length - j) 0 ?_ ?_
 ·exact ⟨rfl, rfl, rfl, rfl, rfl, zXJ _, by simp⟩
 rintro j e' H' ⟨h0, h1, h7, h8, rfl, hj, hb⟩
 by_cases hlt : j < l.length
 ·have hc := fun m => zWU m q r H hr
  cases hin : decide ((l.getD j default).name = q.name)
  ·have hc1 := hc (l.getD j default)
   rw [hin] at hc1
   repeat' (first | refine zXx (by omega) ?_ | refine zA (hc1) ?_ | simp -implicitDefEqProofs (disch := omega) only [h0, h1, h7, h8, zAD, zP, zBK, zO, push_cast, simprocAttr, ↓reduceIte])
   exact .mk (j + 1) ⟨h0, h1, h7, rfl, rfl, hlt, zBu hb (of_decide_eq_false hin)⟩ (by omega)
  ·have hc1 := hc (l.getD j default)
   rw [hin] at hc1
   repeat' (first | refine zXx (by omega) ?_ | refine zA (hc1) ?_ | simp -implicitDefEqProofs (disch := omega) only [h0, h1, h7, h8, zAD, zP, zBK, zO, push_cast, simprocAttr, ↓reduceIte])
   rw [zIj hlt hin fun i hi => zX9 (hb i hi)]
   rfl
 ·rw [zIk (l := l) (p := fun m => decide (m.name = q.name)) fun i hi => zX9 (hb i (by omega))]
  repeat' (simp -implicitDefEqProofs (disch := omega) only [h7, h8, zT, push_cast, ↓reduceIte, Int.reduceNeg])
  rfl
theorem zUb (l : List Pr) (q : Pr) (hl : l.length ≤ 1048576) (r : Nat) (H : zC) (hr : H[r]? = some (.box (prR q))) : zAe 129 [.sl 6 (l.map prR), .fn (.func 130) [] [.ptr r 0 0]] H (bool (l.any fun m => decide (m.name = q.name))) := by
 refine enter Tryz.func129 L129_ok (zXs rfl) ?_
 have hi : (l.any fun m => decide (m.name = q.name)) = decide (0 ≤ zIH (l.findIdx? fun m => decide (m.name = q.name))) := by
  cases h : l.findIdx? fun m => decide (m.name = q.name) with
  | none =>
   rw [zZu] at h
   refine (?_ : _ = false).trans (show false = decide (0 ≤ zIH none) from rfl)
   rw [zZn]
   intro x hx
   rw [h x hx]; decide
  | some i =>
   refine (?_ : _ = true).trans (zXU (show 0 ≤ zIH (some i) by simp only [zIH]; omega)).symm
   rw [zZD]
   obtain ⟨h1, h2, _⟩ := zYV.1 h
   exact ⟨_, zZP h1, h2⟩
 rw [hi]
 have hb : -1 ≤ zIH (l.findIdx? fun m => decide (m.name = q.name)) := by
  cases l.findIdx? fun m => decide (m.name = q.name) <;> simp only [zIH] <;> omega
 repeat' (first | refine zA (zUa l q hl r H hr) ?_ | simp -implicitDefEqProofs (disch := omega) only [L129, push_cast, simprocAttr, ↓reduceIte])
@[push_cast] theorem zVl (m : Option Value) (d : Nat) (e : Env) : zTl m [d] e = up e d (.v (Go.Ax.recV m)) := rfl
@[push_cast] theorem zTk : Go.Ax.recV none = .nilIface := rfl
@[push_cast] theorem zTj (z : Value) : Go.Ax.recV (some z) = z := rfl
theorem zLk (r : Nat) (H : zC) : zPH Tryz.prog 126 [.ptr r 0 0] none H fun H' => H' = H := by
 refine zFq Tryz.func126 L126_ok (zXs rfl) ?_
 repeat' (simp -implicitDefEqProofs (disch := omega) only [L126, push_cast, simprocAttr, ↓reduceIte])
theorem zLj (r : Nat) (H : zC) (b : Bool) (hr : H[r]? = some (.box [bool b])) : zPH Tryz.prog 126 [.ptr r 0 0] (some zEk) H fun H' => H' = (H ++ [HO.box []]).set r (.box [bool false]) := by
 have hl := (zXA.1 hr).1
 refine zFq Tryz.func126 L126_ok (zXs rfl) ?_
 repeat' (simp -implicitDefEqProofs (disch := omega) only [L126, zB, zG, hr, splice, push_cast, simprocAttr, ↓reduceIte, zXq])
structure VdI (ps : List Pr) (H : zC) (j : Nat) (own : Int) (e' : Env) (G : zC) : Prop where
 e1 : e' 1 = .ptr H.length 0 0
 e2 : e' 2 = .ptr (H.length + 1) 0 0
 e3 : e' 3 = .ptr (H.length + 2) 0 0
 e18 : e' 18 = zAM ps
 e19 : e' 19 = int ps.length
 e20 : e' 20 = int j
 fr : ∀ i, i < H.length → G[i]? = H[i]?
 gl : H.length + 3 ≤ G.length
 g0 : G[H.length]? = some (.box [zAM ps])
 g1 : G[H.length + 1]? = some (.box [bool false])
 g2 : G[H.length + 2]? = some (.box [zAM ps, int own, int (zA3 (ps.take j) : Nat)])
 hj : j ≤ ps.length
 all : ∀ i, i < j → prP ps i
abbrev VdR (ps : List Pr) (H : zC) (x : AV) (H' : zC) : Prop := x = bool (zCO ps) ∧ x.cl = true ∧ ∃ rest, H' = H ++ rest
theorem zCm (ps : List Pr) (H G : zC) (e : Env) (h2 : e 2 = .ptr (H.length + 1) 0 0) (fr : ∀ i, i < H.length → G[i]? = H[i]?) (gl : H.length + 2 ≤ G.length) (g1 : G[H.length + 1]? = some (.box [bool false])) (hn : ¬ zBt ps) :
  zHf Tryz.prog L69.res (VdR ps H) 126 [.ptr (H.length + 1) 0 0] (.pan zEk) e G := by
 intro X ρ w vs hr hv
 refine (zLj (H.length + 1) G false g1 X ρ w vs hr hv).mono ?_
 rintro en u' w' ⟨v, H', ρ', h1, h2', h3, h4, h5⟩
 refine ⟨v, H', ρ', h1, h2', ?_, h4, h5⟩
 subst h3
 have hg : ((G ++ [HO.box []]).set (H.length + 1) (.box [bool false]))[H.length + 1]? = some (.box [bool false]) := by
  rw [zXD (by simp; omega)]
 obtain ⟨rest, hrest⟩ := zBp (H := H) (G := (G ++ [HO.box []]).set (H.length + 1) (.box [bool false])) (by simp; omega) fun i hi => by
  rw [zXy (by omega), zXu (by omega), fr i hi]
 have hvb := zEl hn
 refine ⟨?_, ?_, ?_, rest, hrest⟩
 ·simp [L69, zAO, zC3, h2, rLoad, hg, rLoadO, isVer, Res.also, isBox]
 ·simp [L69, zAO, zC3, h2, rLoad, hg, rLoadO, isVer, Res.also, isBox, cellsV, hvb]
 ·simp [L69, zAO, zC3, h2, rLoad, hg, rLoadO, isVer, Res.also, isBox, cellsV, AV.cl]
theorem zSA (ps : List Pr) (H G : zC) (e : Env) (h2 : e 2 = .ptr (H.length + 1) 0 0) (fr : ∀ i, i < H.length → G[i]? = H[i]?) (gl : H.length + 2 ≤ G.length) (g1 : G[H.length + 1]? = some (.box [bool true])) (hn : zBt ps) :
  zHf Tryz.prog L69.res (VdR ps H) 126 [.ptr (H.length + 1) 0 0] .ret e G := by
 intro X ρ w vs hr hv
 refine (zLk (H.length + 1) G X ρ w vs hr hv).mono ?_
 rintro en u' w' ⟨v, H', ρ', h1, h2', h3, h4, h5⟩
 refine ⟨v, H', ρ', h1, h2', ?_, h4, h5⟩
 subst h3
 obtain ⟨rest, hrest⟩ := zBp (H := H) (G := H') (by omega) fr
 have hvb := zB9.2 hn
 refine ⟨?_, ?_, ?_, rest, hrest⟩
 ·simp [L69, zAO, zC3, h2, rLoad, g1, rLoadO, isVer, Res.also, isBox]
 ·simp [L69, zAO, zC3, h2, rLoad, g1, rLoadO, isVer, Res.also, isBox, cellsV, hvb]
 ·simp [L69, zAO, zC3, h2, rLoad, g1, rLoadO, isVer, Res.also, isBox, cellsV, AV.cl]
theorem zKf : zHz Tryz.prog 126 := ⟨_, Tryz.func126, by kernel_rfl, by kernel_rfl⟩
set_option maxHeartbeats 8000000 in
theorem zGP (ps : List Pr) (hs : zB0 ps) (H : zC) : zAe 69 [.agg [zAM ps]] H (bool (zCO ps)) := by
 obtain ⟨hs1, hs2, hs3⟩ := hs
 refine ACall.drop (R := fun x => x = bool (zCO ps)) ?_
 refine zPx Tryz.func69 L69_ok (zXs rfl) ?_
 show wpD _ L69.res (VdR ps H) _ _ _
 generalize hres : L69.res = res
 by_cases h8 : ps.length ≤ 8
 ·repeat' (simp -implicitDefEqProofs (disch := omega) only [L69, zY, zXr, zAd, push_cast, simprocAttr, ↓reduceIte, zXq])
  refine ⟨_, _, _, rfl, zKf, ?_⟩
  repeat' (first | refine zE (zAQ _) ?_ | simp -implicitDefEqProofs (disch := omega) only [zF, zY, rBuild, fillA, zXr, push_cast, simprocAttr, ↓reduceIte, zXq])
  refine zAh (fun (st : Nat × Int) e' G => VdI ps H st.1 st.2 e' G) (fun st => ps.length - st.1) (0, 0) ?_ ?_
  ·refine ⟨rfl, rfl, rfl, rfl, rfl, rfl, fun i hi => zXu hi, by simp, by simp [zAc], by simp [zAc], by simp [zAc, zA3], by omega, fun i hi => by omega⟩
  rintro ⟨j, own⟩ e' G ⟨h1, h2, h3, h18, h19, h20, fr, gl, g0, g1, g2, hj, hall⟩
  simp only at h20 g2 hj hall
  by_cases hlt : j < ps.length
  ·obtain ⟨m1, m2, m3⟩ := hs3 _ (zAq hlt)
   have hfail : ¬ prP ps j → ¬ zBt ps := fun hn hv => hn (hv.2 j hlt)
   repeat' (first | refine zXx (by omega) ?_ | simp -implicitDefEqProofs (disch := omega) only [h3, h18, h19, h20, g2, zB, zG, zAD, zP, zBU, splice, zXr, zO, push_cast, simprocAttr, ↓reduceIte, zXq])
   have z0 : (G.set (H.length + 2) (HO.box [zAM ps, int j, int (zA3 (ps.take j) : Nat)]) ++ [HO.box (prR (ps.getD j default))])[H.length]? = some (.box [zAM ps]) := by
    rw [zXu (by simp; omega), zXy (by omega), g0]
   have z1 : (G.set (H.length + 2) (HO.box [zAM ps, int j, int (zA3 (ps.take j) : Nat)]) ++ [HO.box (prR (ps.getD j default))])[H.length + 1]? = some (.box [bool false]) := by
    rw [zXu (by simp; omega), zXy (by omega), g1]
   have z2 : (G.set (H.length + 2) (HO.box [zAM ps, int j, int (zA3 (ps.take j) : Nat)]) ++ [HO.box (prR (ps.getD j default))])[H.length + 2]? = some (.box [zAM ps, int j, int (zA3 (ps.take j) : Nat)]) := by
    rw [zXu (by simp; omega), zXD (by omega)]
   have z5 : (G.set (H.length + 2) (HO.box [zAM ps, int j, int (zA3 (ps.take j) : Nat)]) ++ [HO.box (prR (ps.getD j default))])[G.length]? = some (.box (prR (ps.getD j default))) := by
    rw [zXz (by simp)]; simp
   have zf : ∀ i, i < H.length → (G.set (H.length + 2) (HO.box [zAM ps, int j, int (zA3 (ps.take j) : Nat)]) ++ [HO.box (prR (ps.getD j default))])[i]? = H[i]? := fun i hi => by
    rw [zXu (by simp; omega), zXy (by omega), fr i hi]
   have zl : H.length + 4 ≤ (G.set (H.length + 2) (HO.box [zAM ps, int j, int (zA3 (ps.take j) : Nat)]) ++ [HO.box (prR (ps.getD j default))]).length := by simp; omega
   have zl2 : G.length < (G.set (H.length + 2) (HO.box [zAM ps, int j, int (zA3 (ps.take j) : Nat)]) ++ [HO.box (prR (ps.getD j default))]).length := by simp
   have zr : H.length + 3 ≤ G.length := gl
   simp only [prR] at z0 z1 z2 z5 zf zl zl2
   generalize (G.set (H.length + 2) (HO.box [zAM ps, int j, int (zA3 (ps.take j) : Nat)]) ++ [HO.box [str (ps.getD j default).name, int (ps.getD j default).par, int (ps.getD j default).slots, int (ps.getD j default).res, .sl 1 ((ps.getD j default).outs.map iR), .sl 5 ((ps.getD j default).body.map zAp)]]) = Z at *
   generalize hrr : G.length = r at *
   clear fr gl g0 g1 g2 hrr
   have z5' : Z[r]? = some (.box (prR (ps.getD j default))) := z5
   cases hN : zEt (ps.getD j default).name with
   | false =>
    repeat' (first | refine zA (zDs (ps.getD j default).name _ (by omega)) ?_ | refine zS (zA9 _) ?_ | simp -implicitDefEqProofs (disch := omega) only [z5, hN, push_cast, simprocAttr, ↓reduceIte])
    subst hres
    exact zCm ps H _ _ h2 zf (by omega) z1 (hfail fun hp => by rw [hp.1.1] at hN; cases hN)
   | true =>
    have cN : zAe 129 [.sl 6 ((ps.map prR).take (j - 0)), .fn (.func 130) [] [.ptr r 0 0]] Z (bool ((ps.take j).any fun m => decide (m.name = (ps.getD j default).name))) := by
     have := zUb (ps.take j) (ps.getD j default) (by simp; omega) r Z z5'
     rw [zY3] at this
     exact this
    cases hC : (ps.take j).any fun m => decide (m.name = (ps.getD j default).name) with
    | true =>
     rw [hC] at cN
     repeat' (first | refine zXx (by omega) ?_ | refine zA (zDs (ps.getD j default).name _ (by omega)) ?_ | refine zA (cN) ?_ | refine zS (zA9 _) ?_ | simp -implicitDefEqProofs (disch := omega) only [h1, z0, z5, hN, zXr, push_cast, simprocAttr, ↓reduceIte])
     subst hres
     refine zCm ps H _ _ h2 zf (by omega) z1 (hfail fun hp => ?_)
     obtain ⟨m, hm, hmn⟩ := zZD.1 hC
     obtain ⟨i, hi, rfl⟩ := zYB.1 hm
     simp only [zX1] at hi
     have e : (ps.take j)[i] = ps.getD i default := by rw [List.getElem_take, zXC, zXP (by omega)]; rfl
     rw [e, zXB] at hmn
     exact hp.1.2 i (by omega) hmn
    | false =>
     rw [hC] at cN
     have hne : ∀ i, i < j → ¬ (ps.getD i default).name = (ps.getD j default).name := fun i hi hh => by
      rw [zZn] at hC
      refine hC (ps.getD i default) ?_ (zXU hh)
      rw [zYB]
      refine ⟨i, by simp; omega, ?_⟩
      rw [List.getElem_take, zXC, zXP (by omega)]; rfl
     by_cases hP1 : 0 ≤ (ps.getD j default).par ∧ (ps.getD j default).par ≤ (ps.getD j default).slots ∧ (ps.getD j default).slots ≤ 1024 ∧ -1 ≤ (ps.getD j default).res ∧ (ps.getD j default).res ≤ 128
     ·obtain ⟨q1, q2, q3, q4, q5⟩ := hP1
      by_cases hP2 : (ps.getD j default).outs.length ≤ 128 ∧ ((ps.getD j default).res = -1 ∨ (ps.getD j default).outs.length = 0)
      ·obtain ⟨q6, q7⟩ := hP2
       by_cases hrs : (ps.getD j default).res = -1
       ·repeat' (first | refine zXx (by omega) ?_ | refine zA (zDs (ps.getD j default).name _ (by omega)) ?_ | refine zA (cN) ?_ | refine zE (zAQ _) ?_ | simp -implicitDefEqProofs (disch := omega) only [h1, z0, z5, hN, zXr, zAd, zAi, push_cast, simprocAttr, ↓reduceIte])
        refine zAh (fun (m : Nat) e' G' => e' 1 = .ptr H.length 0 0 ∧ e' 2 = .ptr (H.length + 1) 0 0 ∧ e' 3 = .ptr (H.length + 2) 0 0 ∧ e' 5 = .ptr r 0 0 ∧ e' 18 = zAM ps ∧ e' 19 = int ps.length ∧ e' 20 = int j ∧ e' 85 = .sl 1 ((ps.getD j default).outs.map iR) ∧ e' 86 = int (ps.getD j default).outs.length ∧ e' 87 = int m ∧ Z = G' ∧ m ≤ (ps.getD j default).outs.length ∧ ∀ m', m' < m → 0 ≤ (ps.getD j default).outs.getD m' default ∧ (ps.getD j default).outs.getD m' default < (ps.getD j default).slots) (fun m => (ps.getD j default).outs.length - m) 0 ?_ ?_
        ·exact ⟨h1, h2, h3, rfl, h18, h19, h20, rfl, rfl, rfl, rfl, zXJ _, fun m hm => by omega⟩
        clear h1 h2 h3 h18 h19 h20
        rintro m e' G' ⟨h1, h2, h3, h5, h18, h19, h20, h85, h86, h87, hGZ, hm, hout⟩
        subst hGZ
        by_cases hlt3 : m < (ps.getD j default).outs.length
        ·have hor : ((ps.getD j default).outs.map iR).getD m [] = [int ((ps.getD j default).outs.getD m default)] := zQ hlt3
         by_cases hO : 0 ≤ (ps.getD j default).outs.getD m default ∧ (ps.getD j default).outs.getD m default < (ps.getD j default).slots
         ·repeat' (first | refine zXx (by omega) ?_ | refine zE (zAQ _) ?_ | simp -implicitDefEqProofs (disch := omega) only [h5, h85, h86, h87, z5, hor, zXr, zO, zAd, push_cast, simprocAttr, ↓reduceIte])
          exact .mk (m + 1) ⟨h1, h2, h3, h5, h18, h19, h20, h85, h86, rfl, rfl, hlt3, zBu hout hO⟩ (by omega)
         ·have hv : ¬ zBt ps := hfail fun hp => hO (hp.2.1.2.2.2.2.2.2.2 _ (zAq hlt3))
          have hO' : ¬ 0 ≤ (ps.getD j default).outs.getD m default ∨ (0 ≤ (ps.getD j default).outs.getD m default ∧ ¬ (ps.getD j default).outs.getD m default < (ps.getD j default).slots) := by omega
          subst hres
          rcases hO' with hc | ⟨hc1, hc2⟩
          ·repeat' (first | refine zXx (by omega) ?_ | refine zS (zA9 _) ?_ | simp -implicitDefEqProofs (disch := omega) only [h85, h86, h87, hor, zXr, zO, zAn, push_cast, simprocAttr, ↓reduceIte])
           exact zCm ps H _ _ h2 zf (by omega) z1 hv
          ·repeat' (first | refine zXx (by omega) ?_ | refine zS (zA9 _) ?_ | simp -implicitDefEqProofs (disch := omega) only [h5, h85, h86, h87, z5, hor, zXr, zO, zT, zAd, push_cast, simprocAttr, ↓reduceIte])
           exact zCm ps H _ _ h2 zf (by omega) z1 hv
        ·have e : m = (ps.getD j default).outs.length := by omega
         subst e
         have hout' : ∀ s ∈ (ps.getD j default).outs, 0 ≤ s ∧ s < (ps.getD j default).slots := by
          intro s hs
          obtain ⟨m, hm, rfl⟩ := zYB.1 hs
          have := hout m hm
          have e : (ps.getD j default).outs.getD m default = (ps.getD j default).outs[m] := by rw [zXC, zXP hm]; rfl
          rw [e] at this
          exact this
         have hH : zCk (ps.getD j default) := ⟨q1, q2, q3, q4, q5, q6, q7.imp id zXK.1, hout'⟩
         have hsn := zBf hlt
         have hcnt : zA3 (ps.take j) ≤ 32768 := by
          cases j with
          | zero => simp [zA3]
          | succ j => exact (hall j (by omega)).2.2.1
         have cE := effC ps j hlt hs1 (zDM hall) hH (ps.getD j default).body m3 true 1 (zA3 (ps.take j) : Nat) Z (H.length + 2) z2 (by omega) (by omega) (by omega) (by omega)
         repeat' (simp -implicitDefEqProofs (disch := omega) only [h3, h5, h86, h87, z5, zT, push_cast, simprocAttr, ↓reduceIte])
         refine zJ cE ?_ ?_
         ·rintro x G' ⟨e, rfl, hE, hc1, hc2, hfr, hg2⟩
          have y0 := (hfr.2 H.length (by omega) (by omega)).trans z0
          have y1 := (hfr.2 (H.length + 1) (by omega) (by omega)).trans z1
          have yf : ∀ i, i < H.length → G'[i]? = H[i]? := fun i hi => (hfr.2 i (by omega) (by omega)).trans (zf i hi)
          have yl := hfr.1
          by_cases he : e = 0
          ·subst he
           repeat' (first | refine zE (zAQ _) ?_ | simp -implicitDefEqProofs (disch := omega) only [h20, push_cast, ↓reduceIte, Nat.reduceEqDiff])
           exact .mk (j + 1, (j : Int)) ⟨h1, h2, h3, h18, h19, rfl, yf, by omega, y0, y1, by rw [hg2, hsn]; simp, hlt, zBu hall ⟨⟨hN, hne⟩, hH, by omega, by omega, hE⟩⟩ (by dsimp only; omega)
          ·have hv : ¬ zBt ps := hfail fun hp => by have := hp.2.2.2.2; rw [hE] at this; exact he (by simpa using this)
           repeat' (first | refine zS (zA9 _) ?_ | simp -implicitDefEqProofs (disch := omega) only [zX, push_cast])
           subst hres
           exact zCm ps H _ _ h2 yf (by omega) y1 hv
         ·rintro z G' ⟨rfl, hng, hfr⟩
          have y1 := (hfr.2 (H.length + 1) (by omega) (by omega)).trans z1
          have yf : ∀ i, i < H.length → G'[i]? = H[i]? := fun i hi => (hfr.2 i (by omega) (by omega)).trans (zf i hi)
          have yl := hfr.1
          repeat' (simp -implicitDefEqProofs (disch := omega) only [push_cast])
          subst hres
          exact zCm ps H _ _ h2 yf (by omega) y1 (hfail fun hp => hng ⟨⟨0, hp.2.2.2.2⟩, by have := hp.2.2.1; omega, by have := hp.2.2.2.1; omega⟩)
       ·repeat' (first | refine zXx (by omega) ?_ | refine zA (zDs (ps.getD j default).name _ (by omega)) ?_ | refine zA (cN) ?_ | refine zE (zAQ _) ?_ | simp -implicitDefEqProofs (disch := omega) only [h1, z0, z5, hN, zXr, zAd, zAi, zX, push_cast, simprocAttr, ↓reduceIte])
        refine zAh (fun (m : Nat) e' G' => e' 1 = .ptr H.length 0 0 ∧ e' 2 = .ptr (H.length + 1) 0 0 ∧ e' 3 = .ptr (H.length + 2) 0 0 ∧ e' 5 = .ptr r 0 0 ∧ e' 18 = zAM ps ∧ e' 19 = int ps.length ∧ e' 20 = int j ∧ e' 85 = .sl 1 ((ps.getD j default).outs.map iR) ∧ e' 86 = int (ps.getD j default).outs.length ∧ e' 87 = int m ∧ Z = G' ∧ m ≤ (ps.getD j default).outs.length ∧ ∀ m', m' < m → 0 ≤ (ps.getD j default).outs.getD m' default ∧ (ps.getD j default).outs.getD m' default < (ps.getD j default).slots) (fun m => (ps.getD j default).outs.length - m) 0 ?_ ?_
        ·exact ⟨h1, h2, h3, rfl, h18, h19, h20, rfl, rfl, rfl, rfl, zXJ _, fun m hm => by omega⟩
        clear h1 h2 h3 h18 h19 h20
        rintro m e' G' ⟨h1, h2, h3, h5, h18, h19, h20, h85, h86, h87, hGZ, hm, hout⟩
        subst hGZ
        by_cases hlt3 : m < (ps.getD j default).outs.length
        ·exfalso; omega
        ·have e : m = (ps.getD j default).outs.length := by omega
         subst e
         have hout' : ∀ s ∈ (ps.getD j default).outs, 0 ≤ s ∧ s < (ps.getD j default).slots := by
          intro s hs
          obtain ⟨m, hm, rfl⟩ := zYB.1 hs
          have := hout m hm
          have e : (ps.getD j default).outs.getD m default = (ps.getD j default).outs[m] := by rw [zXC, zXP hm]; rfl
          rw [e] at this
          exact this
         have hH : zCk (ps.getD j default) := ⟨q1, q2, q3, q4, q5, q6, q7.imp id zXK.1, hout'⟩
         have hsn := zBf hlt
         have hcnt : zA3 (ps.take j) ≤ 32768 := by
          cases j with
          | zero => simp [zA3]
          | succ j => exact (hall j (by omega)).2.2.1
         have cE := effC ps j hlt hs1 (zDM hall) hH (ps.getD j default).body m3 true 1 (zA3 (ps.take j) : Nat) Z (H.length + 2) z2 (by omega) (by omega) (by omega) (by omega)
         repeat' (simp -implicitDefEqProofs (disch := omega) only [h3, h5, h86, h87, z5, zT, push_cast, simprocAttr, ↓reduceIte])
         refine zJ cE ?_ ?_
         ·rintro x G' ⟨e, rfl, hE, hc1, hc2, hfr, hg2⟩
          have y0 := (hfr.2 H.length (by omega) (by omega)).trans z0
          have y1 := (hfr.2 (H.length + 1) (by omega) (by omega)).trans z1
          have yf : ∀ i, i < H.length → G'[i]? = H[i]? := fun i hi => (hfr.2 i (by omega) (by omega)).trans (zf i hi)
          have yl := hfr.1
          by_cases he : e = 0
          ·subst he
           repeat' (first | refine zE (zAQ _) ?_ | simp -implicitDefEqProofs (disch := omega) only [h20, push_cast, ↓reduceIte, Nat.reduceEqDiff])
           exact .mk (j + 1, (j : Int)) ⟨h1, h2, h3, h18, h19, rfl, yf, by omega, y0, y1, by rw [hg2, hsn]; simp, hlt, zBu hall ⟨⟨hN, hne⟩, hH, by omega, by omega, hE⟩⟩ (by dsimp only; omega)
          ·have hv : ¬ zBt ps := hfail fun hp => by have := hp.2.2.2.2; rw [hE] at this; exact he (by simpa using this)
           repeat' (first | refine zS (zA9 _) ?_ | simp -implicitDefEqProofs (disch := omega) only [zX, push_cast])
           subst hres
           exact zCm ps H _ _ h2 yf (by omega) y1 hv
         ·rintro z G' ⟨rfl, hng, hfr⟩
          have y1 := (hfr.2 (H.length + 1) (by omega) (by omega)).trans z1
          have yf : ∀ i, i < H.length → G'[i]? = H[i]? := fun i hi => (hfr.2 i (by omega) (by omega)).trans (zf i hi)
          have yl := hfr.1
          repeat' (simp -implicitDefEqProofs (disch := omega) only [push_cast])
          subst hres
          exact zCm ps H _ _ h2 yf (by omega) y1 (hfail fun hp => hng ⟨⟨0, hp.2.2.2.2⟩, by have := hp.2.2.1; omega, by have := hp.2.2.2.1; omega⟩)
      ·have hc : ¬ (ps.getD j default).outs.length ≤ 128 ∨ ((ps.getD j default).outs.length ≤ 128 ∧ ¬ (ps.getD j default).res = -1 ∧ ¬ (ps.getD j default).outs.length = 0) := by omega
       have hv : ¬ zBt ps := hfail fun hp => hP2 ⟨hp.2.1.2.2.2.2.2.1, hp.2.1.2.2.2.2.2.2.1.imp id fun h => by rw [h]; rfl⟩
       rcases hc with hc | ⟨hc1, hc2, hc3⟩
       ·repeat' (first | refine zXx (by omega) ?_ | refine zA (zDs (ps.getD j default).name _ (by omega)) ?_ | refine zA (cN) ?_ | refine zE (zAQ _) ?_ | refine zS (zA9 _) ?_ | simp -implicitDefEqProofs (disch := omega) only [h1, z0, z5, hN, zXr, zAd, zAn, push_cast, simprocAttr, ↓reduceIte])
        subst hres
        exact zCm ps H _ _ h2 zf (by omega) z1 hv
       ·repeat' (first | refine zXx (by omega) ?_ | refine zA (zDs (ps.getD j default).name _ (by omega)) ?_ | refine zA (cN) ?_ | refine zE (zAQ _) ?_ | refine zS (zA9 _) ?_ | simp -implicitDefEqProofs (disch := omega) only [h1, z0, z5, hN, zXr, zAd, zX, push_cast, simprocAttr, ↓reduceIte])
        subst hres
        exact zCm ps H _ _ h2 zf (by omega) z1 hv
     ·have hc : ¬ 0 ≤ (ps.getD j default).par ∨ (0 ≤ (ps.getD j default).par ∧ ¬ (ps.getD j default).par ≤ (ps.getD j default).slots) ∨ (0 ≤ (ps.getD j default).par ∧ (ps.getD j default).par ≤ (ps.getD j default).slots ∧ ¬ (ps.getD j default).slots ≤ 1024) ∨ (0 ≤ (ps.getD j default).par ∧ (ps.getD j default).par ≤ (ps.getD j default).slots ∧ (ps.getD j default).slots ≤ 1024 ∧ ¬ -1 ≤ (ps.getD j default).res) ∨ (0 ≤ (ps.getD j default).par ∧ (ps.getD j default).par ≤ (ps.getD j default).slots ∧ (ps.getD j default).slots ≤ 1024 ∧ -1 ≤ (ps.getD j default).res ∧ ¬ (ps.getD j default).res ≤ 128) := by omega
      have hv : ¬ zBt ps := hfail fun hp => hP1 ⟨hp.2.1.1, hp.2.1.2.1, hp.2.1.2.2.1, hp.2.1.2.2.2.1, hp.2.1.2.2.2.2.1⟩
      subst hres
      rcases hc with hc | ⟨hc1, hc2⟩ | ⟨hc1, hc2, hc3⟩ | ⟨hc1, hc2, hc3, hc4⟩ | ⟨hc1, hc2, hc3, hc4, hc5⟩
      ·repeat' (first | refine zXx (by omega) ?_ | refine zA (zDs (ps.getD j default).name _ (by omega)) ?_ | refine zA (cN) ?_ | refine zE (zAQ _) ?_ | refine zS (zA9 _) ?_ | simp -implicitDefEqProofs (disch := omega) only [h1, z0, z5, hN, zXr, zAn, push_cast, simprocAttr, ↓reduceIte])
       exact zCm ps H _ _ h2 zf (by omega) z1 hv
      ·repeat' (first | refine zXx (by omega) ?_ | refine zA (zDs (ps.getD j default).name _ (by omega)) ?_ | refine zA (cN) ?_ | refine zE (zAQ _) ?_ | refine zS (zA9 _) ?_ | simp -implicitDefEqProofs (disch := omega) only [h1, z0, z5, hN, zXr, zAd, zAn, push_cast, simprocAttr, ↓reduceIte])
       exact zCm ps H _ _ h2 zf (by omega) z1 hv
      ·repeat' (first | refine zXx (by omega) ?_ | refine zA (zDs (ps.getD j default).name _ (by omega)) ?_ | refine zA (cN) ?_ | refine zE (zAQ _) ?_ | refine zS (zA9 _) ?_ | simp -implicitDefEqProofs (disch := omega) only [h1, z0, z5, hN, zXr, zAd, zAn, push_cast, simprocAttr, ↓reduceIte])
       exact zCm ps H _ _ h2 zf (by omega) z1 hv
      ·repeat' (first | refine zXx (by omega) ?_ | refine zA (zDs (ps.getD j default).name _ (by omega)) ?_ | refine zA (cN) ?_ | refine zE (zAQ _) ?_ | refine zS (zA9 _) ?_ | simp -implicitDefEqProofs (disch := omega) only [h1, z0, z5, hN, zXr, zAd, zAn, push_cast, simprocAttr, ↓reduceIte])
       exact zCm ps H _ _ h2 zf (by omega) z1 hv
      ·repeat' (first | refine zXx (by omega) ?_ | refine zA (zDs (ps.getD j default).name _ (by omega)) ?_ | refine zA (cN) ?_ | refine zE (zAQ _) ?_ | refine zS (zA9 _) ?_ | simp -implicitDefEqProofs (disch := omega) only [h1, z0, z5, hN, zXr, zAd, zAn, push_cast, simprocAttr, ↓reduceIte])
       exact zCm ps H _ _ h2 zf (by omega) z1 hv
  ·have e : j = ps.length := by omega
   subst e
   repeat' (simp -implicitDefEqProofs (disch := omega) only [h2, h19, h20, g1, splice, zT, push_cast, simprocAttr, ↓reduceIte, zXq])
   subst hres
   refine zSA ps H _ _ h2 (fun i hi => ?_) (by simpa using (by omega : H.length + 2 ≤ G.length)) (by rw [zXD (by omega)]) ⟨h8, hall⟩
   rw [zXy (by omega), fr i hi]
 ·repeat' (simp -implicitDefEqProofs (disch := omega) only [L69, zY, zXr, zAn, push_cast, simprocAttr, ↓reduceIte, zXq])
  refine ⟨_, _, _, rfl, zKf, ?_⟩
  repeat' (first | refine zS (zA9 _) ?_ | simp -implicitDefEqProofs (disch := omega) only [push_cast, Int.reduceNeg])
  subst hres
  exact zCm ps H _ _ rfl (fun i hi => by rw [zXu hi]) (by simp) (by simp [zAc]) fun hv => h8 hv.1
theorem zUJ (ps : List Pr) (hs : zB0 ps) (p L : Int) (H : zC) : zAe 70 [.agg [zAM ps], int p, int L] H (zBC ps p L) := by
 obtain ⟨hs1, hs2, hs3⟩ := hs
 have cV := fun H => zGP ps ⟨hs1, hs2, hs3⟩ H
 have hcl : ∀ x, x = zBC ps p L → x.cl = true := fun x hx => by subst hx; unfold zBC; split <;> (try split) <;> (try split) <;> simp [AV.cl, clL]
 refine ACall.drop (R := fun x => x = zBC ps p L) ?_
 refine enter Tryz.func70 L70_ok (zXs rfl) ?_
 cases hv : zCO ps with
 | false =>
  rw [hv] at cV
  have hA : zBC ps p L = .tup [int 0, int 1] := by unfold zBC; rw [if_pos hv]
  rw [hA]
  repeat' (first | refine zA (cV _) ?_ | simp -implicitDefEqProofs (disch := omega) only [L70, zY, push_cast, simprocAttr, ↓reduceIte, zXq])
  first | exact ⟨_, rfl⟩ | exact ⟨rfl, by simp [AV.cl, clL], _, rfl⟩
 | true =>
  rw [hv] at cV
  have hv2 := zB9.1 hv
  by_cases hp : p < 0 ∨ ps.length ≤ p
  ·have hA : zBC ps p L = .tup [int 0, int 7] := by unfold zBC; rw [if_neg (by simp [hv]), if_pos hp]
   rw [hA]
   rcases hp with hp | hp
   ·repeat' (first | refine zA (cV _) ?_ | simp -implicitDefEqProofs (disch := omega) only [L70, zY, zO, push_cast, simprocAttr, ↓reduceIte, zXq])
    first | exact ⟨_, rfl⟩ | exact ⟨rfl, by simp [AV.cl, clL], _, rfl⟩
   ·by_cases hp0 : p < 0
    ·omega
    ·repeat' (first | refine zA (cV _) ?_ | simp -implicitDefEqProofs (disch := omega) only [L70, zY, zXr, zT, zAd, push_cast, simprocAttr, ↓reduceIte, zXq])
     first | exact ⟨_, rfl⟩ | exact ⟨rfl, by simp [AV.cl, clL], _, rfl⟩
  ·by_cases hL : L < 0 ∨ 8 < L
   ·have hA : zBC ps p L = .tup [int 0, int 2] := by unfold zBC; rw [if_neg (by simp [hv]), if_neg hp, if_pos hL]
    rw [hA]
    rcases hL with hL | hL
    ·repeat' (first | refine zA (cV _) ?_ | simp -implicitDefEqProofs (disch := omega) only [L70, zY, zXr, zO, zT, zAn, push_cast, simprocAttr, ↓reduceIte, zXq])
     first | exact ⟨_, rfl⟩ | exact ⟨rfl, by simp [AV.cl, clL], _, rfl⟩
    ·by_cases hL0 : L < 0
     ·omega
     ·repeat' (first | refine zA (cV _) ?_ | simp -implicitDefEqProofs (disch := omega) only [L70, zY, zXr, zO, zT, zAn, push_cast, simprocAttr, ↓reduceIte, zXq])
      first | exact ⟨_, rfl⟩ | exact ⟨rfl, by simp [AV.cl, clL], _, rfl⟩
   ·have hA : zBC ps p L = .tup [int (zET ps p.toNat L), int 0] := by unfold zBC; rw [if_neg (by simp [hv]), if_neg hp, if_neg hL]
    rw [hA]
    have hlen8 := hv2.1
    have hL1 : 0 ≤ L ∧ L ≤ 8 := by omega
    have hp1 : 0 ≤ p ∧ p < ps.length := by omega
    repeat' (first | refine zXx (by omega) ?_ | refine zA (cV _) ?_ | simp -implicitDefEqProofs (disch := omega) only [L70, zY, zXr, zT, zAn, push_cast, simprocAttr, ↓reduceIte, zXq])
    have hbl : (1 : Int) * 1 = 1 := rfl
    refine zAh (fun (st : Nat × Nat × zC) e' G => e' 1 = int p ∧ e' 2 = int L ∧ e' 3 = .ptr H.length 0 0 ∧ e' 8 = .os (H.length + 1) st.2.1 0 st.1 ∧ e' 36 = .sl 6 ((ps.map prR).take (p.toNat + 1)) ∧ e' 37 = int (p.toNat + 1 : Nat) ∧ e' 38 = int st.1 ∧ G = st.2.2 ∧ H.length + 2 ≤ G.length ∧ (∀ i, i < H.length → G[i]? = H[i]?) ∧ G[H.length + 1]? = some (.arr st.2.1 1 ((zBi ps L st.1).map iR)) ∧ st.1 ≤ p.toNat + 1) (fun st => p.toNat + 1 - st.1) (0, 0, H ++ [.box [zAM ps], .arr 0 1 []]) ?_ ?_
    ·refine ⟨rfl, rfl, rfl, rfl, ?_, ?_, rfl, rfl, by simp, fun i hi => zXu hi, by simp [zAc, zBi], by dsimp only; omega⟩
     ·show AV.sl 6 (List.take ((p + 1).toNat - 0) (List.map prR ps)) = _
      rw [show (p + 1).toNat - 0 = p.toNat + 1 by omega]
     ·show int ((List.take ((p + 1).toNat - 0) (List.map prR ps)).length : Nat) = _
      rw [show (p + 1).toNat - 0 = p.toNat + 1 by omega, zX1, zXr, zYQ (by omega)]
    rintro ⟨j, v, _⟩ e' G ⟨h1, h2, h3, h8, h36, h37, h38, rfl, gl, fr, g1, hj⟩
    simp only at h8 h38 gl fr g1 hj
    have hcl := zDX ps L j
    have htk : ((zBi ps L j).map iR).take j = (zBi ps L j).map iR := zKn _ (by simp [hcl])
    by_cases hlt : j < p.toNat + 1
    ·obtain ⟨m1, m2, m3⟩ := hs3 _ (zAq (show j < ps.length by omega))
     have hrow : ((ps.map prR).take (p.toNat + 1)).getD j [] = prR (ps.getD j default) := by
      rw [← zAD (show j < ps.length by omega)]
      simp only [zXC, zX4, hlt, if_true]
     have hll : ((ps.map prR).take (p.toNat + 1)).length = p.toNat + 1 := by simp; omega
     have cc := fun G' hG => zUI (zBi ps L j) L (zF6 ps hL1.1 hL1.2 j) hL1.1 hL1.2 (by omega) (ps.getD j default).body m3 (by rw [hcl]; exact zCD _ _ _ _ (hv2.2 j (by omega)).2.2.2.2) G' (H.length + 1) v hG
     rw [hcl] at cc
     have hgx : ∀ x : zC, (G ++ x)[H.length + 1]? = some (.arr v 1 ((zBi ps L j).map iR)) := fun x => by rw [zXu (by omega)]; exact g1
     repeat' (first | refine zXx (by omega) ?_ | refine zA (cc _ (hgx _)) ?_ | simp -implicitDefEqProofs (disch := omega) only [h2, h8, h36, h37, h38, hrow, hll, hgx, zG, zP, zBK, zDf, zA6, splice, zXr, hcl, htk, zO, push_cast, simprocAttr, ↓reduceIte, zXq])
     refine .mk (j + 1, v + 1, _) ⟨h1, h2, h3, rfl, h36, h37, rfl, rfl, by simp; omega, fun i hi => ?_, ?_, by dsimp only; omega⟩ (by dsimp only; omega)
     ·rw [zXu (by simp; omega), zXy (by omega), fr i hi]
     ·rw [zXu (by simp; omega), zXD (by omega)]
      simp only [zBi, zYg, zYx, zZk, iR]
    ·have e : j = p.toNat + 1 := by omega
     subst e
     have hg : ((zBi ps L (p.toNat + 1)).map iR).getD p.toNat [] = [int (zET ps p.toNat L)] := by
      rw [zQ (by omega), zGM ps L (by omega)]; rfl
     repeat' (first | refine zXx (by omega) ?_ | simp -implicitDefEqProofs (disch := omega) only [h1, h8, h37, h38, g1, zXr, hcl, hg, zXF, zT, push_cast, simprocAttr, ↓reduceIte, zXq])
     obtain ⟨rest, hrest⟩ := zBp (H := H) (G := G) (by omega) fr
     first | exact ⟨rest, hrest⟩ | exact ⟨rfl, by simp [AV.cl, clL], rest, hrest⟩
theorem zA1 (w : Int) (H : zC) : zAe 32 [int w] H (bool (decide (wOk w))) := by
 refine enter Tryz.func32 L32_ok (zXs rfl) ?_
 by_cases h1 : 2 ≤ w
 ·by_cases h2 : w ≤ 8
  ·repeat' (simp -implicitDefEqProofs (disch := omega) only [L32, zAd, push_cast, simprocAttr, ↓reduceIte])
   simp [wOk, h1, h2]
  ·repeat' (simp -implicitDefEqProofs (disch := omega) only [L32, zAd, zAn, push_cast, simprocAttr, ↓reduceIte])
   simp [wOk, h1, h2]
 ·repeat' (simp -implicitDefEqProofs (disch := omega) only [L32, zAn, push_cast, simprocAttr, ↓reduceIte])
  simp [wOk, h1]
theorem zLS (n : Nat) (hn : n ≤ 8) (H : zC) : zAe 40 [int n] H (int (2 ^ n)) := by
 refine enter Tryz.func40 L40_ok (zXs rfl) ?_
 repeat' (simp -implicitDefEqProofs (disch := omega) only [L40, push_cast, Nat.reduceAdd])
 refine zAh (fun (j : Nat) e' H' => e' 0 = int n ∧ e' 3 = int (2 ^ j) ∧ e' 4 = int j ∧ H = H' ∧ j ≤ n) (fun j => n - j) 0 ?_ ?_
 ·exact ⟨rfl, rfl, rfl, rfl, zXJ _⟩
 rintro j e' H' ⟨h0, h3, h4, rfl, hj⟩
 by_cases hlt : j < n
 ·have hp : (2 : Int) ^ j ≤ 256 ∧ 0 < (2 : Int) ^ j := by
   have : j = 0 ∨ j = 1 ∨ j = 2 ∨ j = 3 ∨ j = 4 ∨ j = 5 ∨ j = 6 ∨ j = 7 := by omega
   rcases this with rfl | rfl | rfl | rfl | rfl | rfl | rfl | rfl <;> decide
  have hs : (2 : Int) ^ (j + 1) = 2 * 2 ^ j := by rw [Int.pow_succ]; omega
  repeat' (simp -implicitDefEqProofs (disch := omega) only [h0, h3, h4, zO, push_cast, simprocAttr, ↓reduceIte])
  exact .mk (j + 1) ⟨h0, by rw [hs]; rfl, rfl, rfl, hlt⟩ (by omega)
 ·have e : j = n := by omega
  subst e
  repeat' (simp -implicitDefEqProofs (disch := omega) only [h0, h3, h4, zT, push_cast, simprocAttr, ↓reduceIte])
theorem zRs {n : Nat} : hf ((n : Int) + 1) = 2 ^ n := by
 unfold hf
 rw [show ((n : Int) + 1).toNat - 1 = n by omega]
theorem zGA (w : Int) (H : zC) : zAe 15 [int w] H (int (leF w)) := by
 refine enter Tryz.func15 L15_ok (zXs rfl) ?_
 by_cases h : wOk w
 ·have hd : decide (wOk w) = true := by simp [h]
  have e : leF w = -hf w := by unfold leF; rw [if_pos h]
  have hp := zCA h
  rw [e]
  clear e
  unfold wOk at h
  obtain ⟨n, rfl⟩ : ∃ n : Nat, w = (n : Int) + 1 := ⟨(w - 1).toNat, by omega⟩
  have e1 : (n : Int) + 1 - 1 = n := by omega
  have p := fun H => zLS n (by omega) H
  rw [← zRs] at p
  repeat' (first | refine zA (zA1 _ _) ?_ | refine zA (p _) ?_ | simp -implicitDefEqProofs (disch := omega) only [L15, hd, e1, push_cast, simprocAttr, ↓reduceIte])
  rw [Int.zero_sub]
 ·have hd : decide (wOk w) = false := by simp [h]
  have e : leF w = 0 := by unfold leF; rw [if_neg h]
  repeat' (first | refine zA (zA1 _ _) ?_ | simp -implicitDefEqProofs (disch := omega) only [L15, hd, e, push_cast, simprocAttr, ↓reduceIte])
theorem zEv (w : Int) (H : zC) : zAe 16 [int w] H (int (grF w)) := by
 refine enter Tryz.func16 L16_ok (zXs rfl) ?_
 by_cases h : wOk w
 ·have hd : decide (wOk w) = true := by simp [h]
  have e : grF w = hf w - 1 := by unfold grF; rw [if_pos h]
  have hp := zCA h
  rw [e]
  clear e
  unfold wOk at h
  obtain ⟨n, rfl⟩ : ∃ n : Nat, w = (n : Int) + 1 := ⟨(w - 1).toNat, by omega⟩
  have e1 : (n : Int) + 1 - 1 = n := by omega
  have p := fun H => zLS n (by omega) H
  rw [← zRs] at p
  repeat' (first | refine zA (zA1 _ _) ?_ | refine zA (p _) ?_ | simp -implicitDefEqProofs (disch := omega) only [L16, hd, e1, push_cast, simprocAttr, ↓reduceIte])
 ·have hd : decide (wOk w) = false := by simp [h]
  have e : grF w = 0 := by unfold grF; rw [if_neg h]
  repeat' (first | refine zA (zA1 _ _) ?_ | simp -implicitDefEqProofs (disch := omega) only [L16, hd, e, push_cast, simprocAttr, ↓reduceIte])
theorem zLi {w : Int} (hw : wOk w) {n t k : Int} (h : inI w t) (e : t = n + k * (2 * hf w)) : wrF w n = t := by
 rw [← zLg hw h, e]
 exact (zLh hw (k := k) rfl).symm
theorem zIM (w n : Int) (hn : zBP n) (H : zC) : zAe 33 [int w, int n] H (int (wrF w n)) := by
 refine enter Tryz.func33 L33_ok (zXs rfl) ?_
 by_cases h : wOk w
 ·have hd : decide (wOk w) = true := by simp [h]
  have hp := zCA h
  have el : leF w = -hf w := by unfold leF; rw [if_pos h]
  have eg : grF w = hf w - 1 := by unfold grF; rw [if_pos h]
  have p : ∀ H, zAe 40 [int w] H (int (2 * hf w)) := by
   intro H
   have hw := h
   unfold wOk at hw
   obtain ⟨k, rfl⟩ : ∃ k : Nat, w = (k : Int) + 1 := ⟨(w - 1).toNat, by omega⟩
   have q := zLS (k + 1) (by omega) H
   rw [zRs, show (2 : Int) * 2 ^ k = 2 ^ (k + 1) by rw [Int.pow_succ]; omega]
   exact q
  have h3 := Int.tdiv_mul_add_tmod n (2 * hf w)
  have h4 : (n.tmod (2 * hf w)).natAbs < (2 * hf w).natAbs := by rw [zZS]; exact Nat.mod_lt _ (by omega)
  have hk : ∀ c : Int, n.tmod (2 * hf w) + c * (2 * hf w) = n + (c - n.tdiv (2 * hf w)) * (2 * hf w) := by
   intro c
   rw [Int.sub_mul]
   omega
  generalize n.tdiv (2 * hf w) = d at *
  generalize hte : n.tmod (2 * hf w) = t at *
  by_cases c1 : t < -hf w
  ·have e := zLi h (n := n) (t := t + 1 * (2 * hf w)) ((zBM h _).2 (by omega)) (hk 1)
   rw [e, Int.one_mul]
   repeat' (first | refine zXx (by omega) ?_ | refine zA (zA1 _ _) ?_ | refine zA (p _) ?_ | refine zA (zGA _ _) ?_ | simp -implicitDefEqProofs (disch := omega) only [L33, hd, hte, el, zO, push_cast, simprocAttr, ↓reduceIte])
  ·by_cases c2 : hf w - 1 < t
   ·have e := zLi h (n := n) (t := t + (-1) * (2 * hf w)) ((zBM h _).2 (by omega)) (hk (-1))
    rw [e, show t + -1 * (2 * hf w) = t - 2 * hf w by omega]
    repeat' (first | refine zXx (by omega) ?_ | refine zA (zA1 _ _) ?_ | refine zA (p _) ?_ | refine zA (zGA _ _) ?_ | refine zA (zEv _ _) ?_ | simp -implicitDefEqProofs (disch := omega) only [L33, hd, hte, el, eg, zO, zT, push_cast, simprocAttr, ↓reduceIte])
   ·have e := zLi h (n := n) (t := t) ((zBM h _).2 (by omega)) (by have := hk 0; rw [Int.zero_mul, Int.add_zero] at this; exact this)
    rw [e]
    repeat' (first | refine zXx (by omega) ?_ | refine zA (zA1 _ _) ?_ | refine zA (p _) ?_ | refine zA (zGA _ _) ?_ | refine zA (zEv _ _) ?_ | simp -implicitDefEqProofs (disch := omega) only [L33, hd, hte, el, eg, zT, push_cast, simprocAttr, ↓reduceIte])
 ·have hd : decide (wOk w) = false := by simp [h]
  have e : wrF w n = 0 := by unfold wrF; rw [if_neg h]
  repeat' (first | refine zA (zA1 _ _) ?_ | simp -implicitDefEqProofs (disch := omega) only [L33, hd, e, push_cast, simprocAttr, ↓reduceIte])
theorem zLc (b : Bool) (H : zC) : zAe 121 [bool b] H (int (if b = true then 1 else 0)) := by
 refine enter Tryz.func121 L121_ok (zXs rfl) ?_
 cases b
 ·repeat' (simp -implicitDefEqProofs (disch := omega) only [L121, push_cast, simprocAttr, ↓reduceIte])
 ·repeat' (simp -implicitDefEqProofs (disch := omega) only [L121, push_cast, simprocAttr, ↓reduceIte])
theorem zBV (w n : Int) (H : zC) : zAe 120 [int w, int n] H (bool (decide (inI w n))) := by
 refine enter Tryz.func120 L120_ok (zXs rfl) ?_
 by_cases h1 : leF w ≤ n
 ·by_cases h2 : n ≤ grF w
  ·repeat' (first | refine zA (zGA _ _) ?_ | refine zA (zEv _ _) ?_ | simp -implicitDefEqProofs (disch := omega) only [L120, zAd, push_cast, simprocAttr, ↓reduceIte])
   simp [inI, h1, h2]
  ·repeat' (first | refine zA (zGA _ _) ?_ | refine zA (zEv _ _) ?_ | simp -implicitDefEqProofs (disch := omega) only [L120, zAd, zAn, push_cast, simprocAttr, ↓reduceIte])
   simp [inI, h1, h2]
 ·repeat' (first | refine zA (zGA _ _) ?_ | simp -implicitDefEqProofs (disch := omega) only [L120, zAn, push_cast, simprocAttr, ↓reduceIte])
  simp [inI, h1]
section
variable {w a : Int} {o : List UInt8}
end
theorem zC1 {a b : UInt8} : (a = b) = (a.toNat = b.toNat) := by rw [zZT]
section
variable {w a b : Int} {o : List UInt8}
theorem zC6 (H : zC) : zHD 118 [.sl 1 (zPX opL), str o] H (bool (decide (o ∈ opL))) := zUo opL o H (by decide)
theorem zOK (hw : wOk w) (ha : inI w a) (hb : inI w b) (H : zC) : zAe 62 [int w, str [43], int a, int b] H (zGe (wrF w (a + b)) 0 0) := by
 refine enter Tryz.func62 L62_ok (zXs rfl) ?_
 have hd : decide (wOk w) = true := by simp [hw]
 have ho : decide ([43] ∈ opL) = true := by decide
 have e3 : decide (inI w a) = true := by simp [ha]
 have e4 : decide (inI w b) = true := by simp [hb]
 have h1 := zCy hw ha
 have h2 := zCy hw hb
 have hr : zBP (a + b) := by unfold zBP; omega
 have ew : IntKind.i64.wrap (a + b) = a + b := zBQ _ (by omega) (by omega)
 repeat' (first | refine zA (zA1 _ _) ?_ | refine zA (zC6 _) ?_ | refine zA (zBV _ _ _) ?_ | refine zA (zIM w (a + b) hr _) ?_ | simp -implicitDefEqProofs (disch := omega) only [L62, hd, ho, e3, e4, ew, zX0, zC1, UInt8.reduceToNat, zYC, push_cast, simprocAttr, ↓reduceIte, zXq])
 rfl
theorem zOG (hw : wOk w) (ha : inI w a) (hb : inI w b) (H : zC) : zAe 62 [int w, str [45], int a, int b] H (zGe (wrF w (a - b)) 0 0) := by
 refine enter Tryz.func62 L62_ok (zXs rfl) ?_
 have hd : decide (wOk w) = true := by simp [hw]
 have ho : decide ([45] ∈ opL) = true := by decide
 have e3 : decide (inI w a) = true := by simp [ha]
 have e4 : decide (inI w b) = true := by simp [hb]
 have h1 := zCy hw ha
 have h2 := zCy hw hb
 have hr : zBP (a - b) := by unfold zBP; omega
 have ew : IntKind.i64.wrap (a - b) = a - b := zBQ _ (by omega) (by omega)
 repeat' (first | refine zA (zA1 _ _) ?_ | refine zA (zC6 _) ?_ | refine zA (zBV _ _ _) ?_ | refine zA (zIM w (a - b) hr _) ?_ | simp -implicitDefEqProofs (disch := omega) only [L62, hd, ho, e3, e4, ew, zX0, zC1, UInt8.reduceToNat, zYC, push_cast, simprocAttr, ↓reduceIte, zXq])
 rfl
theorem zOJ (hw : wOk w) (ha : inI w a) (hb : inI w b) (H : zC) : zAe 62 [int w, str [42], int a, int b] H (zGe (wrF w (a * b)) 0 0) := by
 refine enter Tryz.func62 L62_ok (zXs rfl) ?_
 have hd : decide (wOk w) = true := by simp [hw]
 have ho : decide ([42] ∈ opL) = true := by decide
 have e3 : decide (inI w a) = true := by simp [ha]
 have e4 : decide (inI w b) = true := by simp [hb]
 have h1 := zCy hw ha
 have h2 := zCy hw hb
 have h3 := zH4 (a := a) (b := b) (by omega) (by omega) (by omega) (by omega)
 have hr : zBP (a * b) := by unfold zBP; omega
 have ew : IntKind.i64.wrap (a * b) = a * b := zBQ _ (by omega) (by omega)
 repeat' (first | refine zA (zA1 _ _) ?_ | refine zA (zC6 _) ?_ | refine zA (zBV _ _ _) ?_ | refine zA (zIM w (a * b) hr _) ?_ | simp -implicitDefEqProofs (disch := omega) only [L62, hd, ho, e3, e4, ew, zX0, zC1, UInt8.reduceToNat, zYC, push_cast, simprocAttr, ↓reduceIte, zXq])
 rfl
theorem zR0 (hw : wOk w) (ha : inI w a) (hb : inI w b) (H : zC) : zAe 62 [int w, str [61, 61], int a, int b] H (zGe (if a = b then 1 else 0) 0 0) := by
 refine enter Tryz.func62 L62_ok (zXs rfl) ?_
 have hd : decide (wOk w) = true := by simp [hw]
 have ho : decide ([61, 61] ∈ opL) = true := by decide
 have e3 : decide (inI w a) = true := by simp [ha]
 have e4 : decide (inI w b) = true := by simp [hb]
 by_cases hc : a = b
 ·rw [if_pos hc]
  repeat' (first | refine zA (zA1 _ _) ?_ | refine zA (zC6 _) ?_ | refine zA (zBV _ _ _) ?_ | refine zA (zLc _ _) ?_ | simp -implicitDefEqProofs (disch := omega) only [L62, hd, ho, e3, e4, zX0, zC1, UInt8.reduceToNat, zYC, zAi, push_cast, simprocAttr, ↓reduceIte, zXq])
  rfl
 ·rw [if_neg hc]
  repeat' (first | refine zA (zA1 _ _) ?_ | refine zA (zC6 _) ?_ | refine zA (zBV _ _ _) ?_ | refine zA (zLc _ _) ?_ | simp -implicitDefEqProofs (disch := omega) only [L62, hd, ho, e3, e4, zX0, zC1, UInt8.reduceToNat, zYC, zX, push_cast, simprocAttr, ↓reduceIte, zXq])
  rfl
theorem zRV (hw : wOk w) (ha : inI w a) (hb : inI w b) (H : zC) : zAe 62 [int w, str [33, 61], int a, int b] H (zGe (if a = b then 0 else 1) 0 0) := by
 refine enter Tryz.func62 L62_ok (zXs rfl) ?_
 have hd : decide (wOk w) = true := by simp [hw]
 have ho : decide ([33, 61] ∈ opL) = true := by decide
 have e3 : decide (inI w a) = true := by simp [ha]
 have e4 : decide (inI w b) = true := by simp [hb]
 by_cases hc : a = b
 ·rw [if_pos hc]
  repeat' (first | refine zA (zA1 _ _) ?_ | refine zA (zC6 _) ?_ | refine zA (zBV _ _ _) ?_ | refine zA (zLc _ _) ?_ | simp -implicitDefEqProofs (disch := omega) only [L62, hd, ho, e3, e4, zX0, zC1, UInt8.reduceToNat, zYC, zAi, push_cast, simprocAttr, ↓reduceIte, zXq])
  rfl
 ·rw [if_neg hc]
  repeat' (first | refine zA (zA1 _ _) ?_ | refine zA (zC6 _) ?_ | refine zA (zBV _ _ _) ?_ | refine zA (zLc _ _) ?_ | simp -implicitDefEqProofs (disch := omega) only [L62, hd, ho, e3, e4, zX0, zC1, UInt8.reduceToNat, zYC, zX, push_cast, simprocAttr, ↓reduceIte, zXq])
  rfl
theorem zRW (hw : wOk w) (ha : inI w a) (hb : inI w b) (H : zC) : zAe 62 [int w, str [60], int a, int b] H (zGe (if a < b then 1 else 0) 0 0) := by
 refine enter Tryz.func62 L62_ok (zXs rfl) ?_
 have hd : decide (wOk w) = true := by simp [hw]
 have ho : decide ([60] ∈ opL) = true := by decide
 have e3 : decide (inI w a) = true := by simp [ha]
 have e4 : decide (inI w b) = true := by simp [hb]
 by_cases hc : a < b
 ·rw [if_pos hc]
  repeat' (first | refine zA (zA1 _ _) ?_ | refine zA (zC6 _) ?_ | refine zA (zBV _ _ _) ?_ | refine zA (zLc _ _) ?_ | simp -implicitDefEqProofs (disch := omega) only [L62, hd, ho, e3, e4, zX0, zC1, UInt8.reduceToNat, zYC, zO, push_cast, simprocAttr, ↓reduceIte, zXq])
  rfl
 ·rw [if_neg hc]
  repeat' (first | refine zA (zA1 _ _) ?_ | refine zA (zC6 _) ?_ | refine zA (zBV _ _ _) ?_ | refine zA (zLc _ _) ?_ | simp -implicitDefEqProofs (disch := omega) only [L62, hd, ho, e3, e4, zX0, zC1, UInt8.reduceToNat, zYC, zT, push_cast, simprocAttr, ↓reduceIte, zXq])
  rfl
theorem zRX (hw : wOk w) (ha : inI w a) (hb : inI w b) (H : zC) : zAe 62 [int w, str [60, 61], int a, int b] H (zGe (if a ≤ b then 1 else 0) 0 0) := by
 refine enter Tryz.func62 L62_ok (zXs rfl) ?_
 have hd : decide (wOk w) = true := by simp [hw]
 have ho : decide ([60, 61] ∈ opL) = true := by decide
 have e3 : decide (inI w a) = true := by simp [ha]
 have e4 : decide (inI w b) = true := by simp [hb]
 by_cases hc : a ≤ b
 ·rw [if_pos hc]
  repeat' (first | refine zA (zA1 _ _) ?_ | refine zA (zC6 _) ?_ | refine zA (zBV _ _ _) ?_ | refine zA (zLc _ _) ?_ | simp -implicitDefEqProofs (disch := omega) only [L62, hd, ho, e3, e4, zX0, zC1, UInt8.reduceToNat, zYC, zAd, push_cast, simprocAttr, ↓reduceIte, zXq])
  rfl
 ·rw [if_neg hc]
  repeat' (first | refine zA (zA1 _ _) ?_ | refine zA (zC6 _) ?_ | refine zA (zBV _ _ _) ?_ | refine zA (zLc _ _) ?_ | simp -implicitDefEqProofs (disch := omega) only [L62, hd, ho, e3, e4, zX0, zC1, UInt8.reduceToNat, zYC, zAn, push_cast, simprocAttr, ↓reduceIte, zXq])
  rfl
theorem zRY (hw : wOk w) (ha : inI w a) (hb : inI w b) (H : zC) : zAe 62 [int w, str [62], int a, int b] H (zGe (if b < a then 1 else 0) 0 0) := by
 refine enter Tryz.func62 L62_ok (zXs rfl) ?_
 have hd : decide (wOk w) = true := by simp [hw]
 have ho : decide ([62] ∈ opL) = true := by decide
 have e3 : decide (inI w a) = true := by simp [ha]
 have e4 : decide (inI w b) = true := by simp [hb]
 by_cases hc : b < a
 ·rw [if_pos hc]
  repeat' (first | refine zA (zA1 _ _) ?_ | refine zA (zC6 _) ?_ | refine zA (zBV _ _ _) ?_ | refine zA (zLc _ _) ?_ | simp -implicitDefEqProofs (disch := omega) only [L62, hd, ho, e3, e4, zX0, zC1, UInt8.reduceToNat, zYC, zO, push_cast, simprocAttr, ↓reduceIte, zXq])
  rfl
 ·rw [if_neg hc]
  repeat' (first | refine zA (zA1 _ _) ?_ | refine zA (zC6 _) ?_ | refine zA (zBV _ _ _) ?_ | refine zA (zLc _ _) ?_ | simp -implicitDefEqProofs (disch := omega) only [L62, hd, ho, e3, e4, zX0, zC1, UInt8.reduceToNat, zYC, zT, push_cast, simprocAttr, ↓reduceIte, zXq])
  rfl
theorem zRZ (hw : wOk w) (ha : inI w a) (hb : inI w b) (H : zC) : zAe 62 [int w, str [62, 61], int a, int b] H (zGe (if b ≤ a then 1 else 0) 0 0) := by
 refine enter Tryz.func62 L62_ok (zXs rfl) ?_
 have hd : decide (wOk w) = true := by simp [hw]
 have ho : decide ([62, 61] ∈ opL) = true := by decide
 have e3 : decide (inI w a) = true := by simp [ha]
 have e4 : decide (inI w b) = true := by simp [hb]
 by_cases hc : b ≤ a
 ·rw [if_pos hc]
  repeat' (first | refine zA (zA1 _ _) ?_ | refine zA (zC6 _) ?_ | refine zA (zBV _ _ _) ?_ | refine zA (zLc _ _) ?_ | simp -implicitDefEqProofs (disch := omega) only [L62, hd, ho, e3, e4, zX0, zC1, UInt8.reduceToNat, zYC, zAd, push_cast, simprocAttr, ↓reduceIte, zXq])
  rfl
 ·rw [if_neg hc]
  repeat' (first | refine zA (zA1 _ _) ?_ | refine zA (zC6 _) ?_ | refine zA (zBV _ _ _) ?_ | refine zA (zLc _ _) ?_ | simp -implicitDefEqProofs (disch := omega) only [L62, hd, ho, e3, e4, zX0, zC1, UInt8.reduceToNat, zYC, zAn, push_cast, simprocAttr, ↓reduceIte, zXq])
  rfl
theorem zOI (hw : wOk w) (ha : inI w a) (hb : inI w b) (hz : b ≠ 0) (H : zC) : zAe 62 [int w, str [47], int a, int b] H (zGe (wrF w (a.tdiv b)) 0 0) := by
 refine enter Tryz.func62 L62_ok (zXs rfl) ?_
 have hd : decide (wOk w) = true := by simp [hw]
 have ho : decide ([47] ∈ opL) = true := by decide
 have e3 : decide (inI w a) = true := by simp [ha]
 have e4 : decide (inI w b) = true := by simp [hb]
 have h1 := zCy hw ha
 have h2 : (a.tdiv b).natAbs ≤ a.natAbs := by rw [Int.natAbs_tdiv]; exact Nat.div_le_self _ _
 have hr : zBP (a.tdiv b) := by unfold zBP; omega
 have ew : IntKind.i64.wrap (a.tdiv b) = a.tdiv b := zBQ _ (by omega) (by omega)
 repeat' (first | refine zXx (by omega) ?_ | refine zA (zA1 _ _) ?_ | refine zA (zC6 _) ?_ | refine zA (zBV _ _ _) ?_ | refine zA (zIM w (a.tdiv b) hr _) ?_ | simp -implicitDefEqProofs (disch := omega) only [L62, hd, ho, e3, e4, ew, zX0, zC1, UInt8.reduceToNat, zYC, zX, push_cast, simprocAttr, ↓reduceIte, zXq])
 rfl
theorem zOH (hw : wOk w) (ha : inI w a) (hb : inI w b) (hz : b ≠ 0) (H : zC) : zAe 62 [int w, str [37], int a, int b] H (zGe (a.tmod b) 0 0) := by
 refine enter Tryz.func62 L62_ok (zXs rfl) ?_
 have hd : decide (wOk w) = true := by simp [hw]
 have ho : decide ([37] ∈ opL) = true := by decide
 have e3 : decide (inI w a) = true := by simp [ha]
 have e4 : decide (inI w b) = true := by simp [hb]
 repeat' (first | refine zXx (by omega) ?_ | refine zA (zA1 _ _) ?_ | refine zA (zC6 _) ?_ | refine zA (zBV _ _ _) ?_ | simp -implicitDefEqProofs (disch := omega) only [L62, hd, ho, e3, e4, zX0, zC1, UInt8.reduceToNat, zYC, zX, push_cast, simprocAttr, ↓reduceIte, zXq])
 rfl
theorem zIB (hw : wOk w) (ho : o = [47] ∨ o = [37]) (ha : inI w a) (hb : inI w 0) (H : zC) : zAe 62 [int w, str o, int a, int 0] H (zGe 0 1 0) := by
 refine enter Tryz.func62 L62_ok (zXs rfl) ?_
 have hd : decide (wOk w) = true := by simp [hw]
 have ho1 : decide ([47] ∈ opL) = true := by decide
 have ho2 : decide ([37] ∈ opL) = true := by decide
 have e3 : decide (inI w a) = true := by simp [ha]
 have e4 : decide (inI w 0) = true := by simp [hb]
 rcases ho with rfl | rfl
 ·repeat' (first | refine zA (zA1 _ _) ?_ | refine zA (zC6 _) ?_ | refine zA (zBV _ _ _) ?_ | simp -implicitDefEqProofs (disch := omega) only [L62, hd, ho1, e3, e4, zX0, zC1, UInt8.reduceToNat, zYC, push_cast, simprocAttr, ↓reduceIte, zXq])
  rfl
 ·repeat' (first | refine zA (zA1 _ _) ?_ | refine zA (zC6 _) ?_ | refine zA (zBV _ _ _) ?_ | simp -implicitDefEqProofs (disch := omega) only [L62, hd, ho2, e3, e4, zX0, zC1, UInt8.reduceToNat, zYC, push_cast, simprocAttr, ↓reduceIte, zXq])
  rfl
end
section
variable {w a b : Int} {o : List UInt8}
end
def L26z : LFn := ⟨20,[(.tmp 2)],(sO [oX 1 (.box true (.t 0)),oX 2 (.mv (.c (.v (.map none))))] (sO [⟨(some 6),none,.mkmap⟩,oX 7 (.mkfn (.func 54) [] [(.t 1)]),oN (.ins .int (.t 6) (kI 16) (.t 7)),oN (.ins .int (.t 6) (kI 17) (.c (.fn (.func 55) [] []))),oM 8 6,oM 3 8] (.seq (sO [oX 9 (y0 56),oX 10 (.rangem (.t 9))] (.block 0 (.loop (sO [oX 11 (.nextm (.t 10)),oE 12 11 0] (.seq (cD 12 .skip (.exit 0)) (.block 1 (sO [oX 13 (.entrym (.t 10)),oE 14 13 0,oE 15 13 1,oX 5 (.alloc [s0]),oM 4 14,oS 1 5 15] (.ops [oX 5 (.frz (.t 5)),oM 16 3,oM 17 4,oX 18 (.mkfn (.func 57) [] [(.t 1),(.t 5)]),oN (.ins .int (.t 16) (.t 17) (.t 18))])))))))) (sO [oM 19 3,oM 2 19,oX 2 (.frz (.t 2))] .ret))))⟩
theorem L26z_ok : zAa Tryz.prog Tryz.f26 [⟨5,0,(.pre 5 (.frz (.t 5)))⟩,⟨0,0,.imm⟩,⟨6,2,(.pre 2 (.frz (.t 2)))⟩] = some L26z := by kernel_rfl
def opS (o : Int) : List UInt8 :=
 if o = 5 then [43] else if o = 6 then [45] else if o = 7 then [42] else if o = 8 then [47] else if o = 9 then [37] else if o = 10 then [61, 61] else if o = 11 then [33, 61]
 else if o = 12 then [60] else if o = 13 then [60, 61] else if o = 14 then [62] else [62, 61]
theorem zWR {o : Int} (h5 : 5 ≤ o) (h15 : o ≤ 15) : o = 5 ∨ o = 6 ∨ o = 7 ∨ o = 8 ∨ o = 9 ∨ o = 10 ∨ o = 11 ∨ o = 12 ∨ o = 13 ∨ o = 14 ∨ o = 15 := by omega
section
variable {w a b o : Int}
theorem binC (hw : wOk w) (h5 : 5 ≤ o) (h15 : o ≤ 15) (ha : inI w a) (hb : inI w b) (H : zC) : zAe 18 [int w, str (opS o), int a, int b] H (zGe (zDH o w a b).1 (zDH o w a b).2 0) := by
 rcases zWR h5 h15 with rfl | rfl | rfl | rfl | rfl | rfl | rfl | rfl | rfl | rfl | rfl
 ·exact zRT hw ha hb H
 ·exact zRP hw ha hb H
 ·exact zRS hw ha hb H
 ·by_cases hz : b = 0
  ·subst hz; exact zKl hw (.inl rfl) ha hb H
  ·have e : zDH 8 w a b = (wrF w (a.tdiv b), 0) := by simp [zDH, hz]
   rw [e]; exact zRR hw ha hb hz H
 ·by_cases hz : b = 0
  ·subst hz; exact zKl hw (.inr rfl) ha hb H
  ·have e : zDH 9 w a b = (a.tmod b, 0) := by simp [zDH, hz]
   have h := zRQ hw ha hb hz H
   rw [zLg hw (zLr hw ha)] at h
   rw [e]; exact h
 ·exact zDG hw zTG (by decide) (by decide) ha hb (.inr (by decide)) _ (zWC a b) rfl (by unfold zBP; split <;> omega) H
 ·exact zDG hw zTB (by decide) (by decide) ha hb (.inr (by decide)) _ (zWx a b) rfl (by unfold zBP; split <;> omega) H
 ·exact zDG hw zTC (by decide) (by decide) ha hb (.inr (by decide)) _ (zWy a b) rfl (by unfold zBP; split <;> omega) H
 ·exact zDG hw zTD (by decide) (by decide) ha hb (.inr (by decide)) _ (zWz a b) rfl (by unfold zBP; split <;> omega) H
 ·exact zDG hw zTE (by decide) (by decide) ha hb (.inr (by decide)) _ (zWA a b) rfl (by unfold zBP; split <;> omega) H
 ·exact zDG hw zTF (by decide) (by decide) ha hb (.inr (by decide)) _ (zWB a b) rfl (by unfold zBP; split <;> omega) H
theorem zXk (hw : wOk w) (h5 : 5 ≤ o) (h15 : o ≤ 15) (ha : inI w a) (hb : inI w b) (H : zC) : zAe 62 [int w, str (opS o), int a, int b] H (zGe (zDH o w a b).1 (zDH o w a b).2 0) := by
 rcases zWR h5 h15 with rfl | rfl | rfl | rfl | rfl | rfl | rfl | rfl | rfl | rfl | rfl
 ·exact zOK hw ha hb H
 ·exact zOG hw ha hb H
 ·exact zOJ hw ha hb H
 ·by_cases hz : b = 0
  ·subst hz; exact zIB hw (.inl rfl) ha hb H
  ·have e : zDH 8 w a b = (wrF w (a.tdiv b), 0) := by simp [zDH, hz]
   rw [e]; exact zOI hw ha hb hz H
 ·by_cases hz : b = 0
  ·subst hz; exact zIB hw (.inr rfl) ha hb H
  ·have e : zDH 9 w a b = (a.tmod b, 0) := by simp [zDH, hz]
   rw [e]; exact zOH hw ha hb hz H
 ·exact zR0 hw ha hb H
 ·exact zRV hw ha hb H
 ·exact zRW hw ha hb H
 ·exact zRX hw ha hb H
 ·exact zRY hw ha hb H
 ·exact zRZ hw ha hb H
end
def opnK : List Value := [.int .i64 5, .int .i64 6, .int .i64 7, .int .i64 8, .int .i64 9, .int .i64 10, .int .i64 11, .int .i64 12, .int .i64 13, .int .i64 14, .int .i64 15]
def opnX : List AV := [str [43], str [45], str [42], str [47], str [37], str [61, 61], str [33, 61], str [60], str [60, 61], str [62], str [62, 61]]
theorem zWw (H : zC) : zAe 56 [] H (.mp opnK opnX) := by
 refine ACall.drop (R := fun x => x = .mp opnK opnX) ?_
 refine enter Tryz.func56 L56_ok (zXs rfl) ?_
 repeat' (simp -implicitDefEqProofs (disch := omega) only [L56, kEq, zYH, zZw, zX5, zYU, forall_eq_or_imp, false_implies, implies_true, Int.reduceBEq, zZW, and_true, true_and, push_cast])
 exact ⟨rfl, _, rfl⟩
theorem zH6 (k k' : Value) (x : AV) : ∀ (ks : List Value) (vs : List AV), ks.length = vs.length → zDQ k (ks ++ [k']) (vs ++ [x]) = match zDQ k ks vs with | some y => some y | none => if kEq k k' = true then some x else none
 | [], [], _ => by simp only [zZw, zDQ]
 | a :: ks, b :: vs, h => by
  simp only [zYH, zDQ]
  by_cases hk : kEq k a = true
  ·rw [if_pos hk, if_pos hk]
  ·rw [if_neg hk, if_neg hk]
   exact zH6 k k' x ks vs (by simpa using h)
 | [], b :: vs, h => by simp at h
 | a :: ks, [], h => by simp at h
def zHC (w : Int) (left : List Nat) (o : Int) : Option AV :=
 if o = 16 then some (.fn (.func 54) [] [.vp [int w] 0]) else if o = 17 then some (.fn (.func 55) [] [])
 else if 5 ≤ o ∧ o ≤ 15 ∧ ¬ (o - 5).toNat ∈ left then some (.fn (.func 57) [] [.vp [int w] 0, .vp [str (opS o)] 0]) else none
structure OpM (w : Int) (left : List Nat) (ks : List Value) (vs : List AV) : Prop where
 len : ks.length = vs.length
 key : ∀ k ∈ ks, ∃ i : Int, k = .int .i64 i ∧ (i = 16 ∨ i = 17 ∨ (5 ≤ i ∧ i ≤ 15 ∧ ¬ (i - 5).toNat ∈ left))
 get : ∀ o, zDQ (.int .i64 o) ks vs = zHC w left o
 cl : clL vs = true
theorem zTL {i : Nat} (h : i < 11) : opnK.getD i default = .int .i64 (i + 5 : Nat) ∧ opnX.getD i .any = str (opS (i + 5 : Nat)) := by
 rcases (by omega : i = 0 ∨ i = 1 ∨ i = 2 ∨ i = 3 ∨ i = 4 ∨ i = 5 ∨ i = 6 ∨ i = 7 ∨ i = 8 ∨ i = 9 ∨ i = 10) with rfl | rfl | rfl | rfl | rfl | rfl | rfl | rfl | rfl | rfl | rfl <;> exact ⟨rfl, rfl⟩
theorem kEq_int (a b : Int) : kEq (.int .i64 a) (.int .i64 b) = decide (a = b) := by
 simp only [kEq, beq_self_eq_true, zZF]
 rw [zY0]; simp
theorem zKi : ∀ (l : List AV) (x : AV), clL l = true → x.cl = true → clL (l ++ [x]) = true
 | [], x, _, h => by simp [clL, h]
 | y :: l, x, h, hx => by
  simp only [clL, zXE] at h
  simp only [zYH, clL, zXE]
  exact ⟨h.1, zKi l x h.2 hx⟩
theorem OpM.step0 {w : Int} {left : List Nat} {ks : List Value} {vs : List AV} (h : OpM w left ks vs) {i : Nat} (hi : i < 11) (hl : i ∈ left) :
  OpM w (left.filter fun j => !decide (j = i)) (ks ++ [.int .i64 (i + 5 : Nat)]) (vs ++ [.fn (.func 57) [] [.vp [int w] 0, .vp [str (opS (i + 5 : Nat))] 0]]) where
 len := by simp [h.len]
 key := by
  intro k hk
  rcases zXV.1 hk with hk | hk
  ·obtain ⟨j, rfl, hj⟩ := h.key k hk
   refine ⟨j, rfl, ?_⟩
   rcases hj with hj | hj | ⟨h1, h2, h3⟩
   ·exact .inl hj
   ·exact .inr (.inl hj)
   ·exact .inr (.inr ⟨h1, h2, fun hh => h3 (zYR.1 hh).1⟩)
  ·rw [zYL] at hk
   subst hk
   refine ⟨_, rfl, .inr (.inr ⟨by omega, by omega, fun hh => ?_⟩)⟩
   have := (zYR.1 hh).2
   simp only [zYA, zXQ] at this
   omega
 get := by
  intro o
  rw [zH6 _ _ _ _ _ h.len, h.get o, kEq_int]
  unfold zHC
  by_cases h16 : o = 16
  ·rw [if_pos h16, if_pos h16]
  rw [if_neg h16, if_neg h16]
  by_cases h17 : o = 17
  ·rw [if_pos h17, if_pos h17]
  rw [if_neg h17, if_neg h17]
  by_cases hin : 5 ≤ o ∧ o ≤ 15 ∧ ¬ (o - 5).toNat ∈ left
  ·rw [if_pos hin, if_pos (show 5 ≤ o ∧ o ≤ 15 ∧ ¬ (o - 5).toNat ∈ left.filter fun j => !decide (j = i) from ⟨hin.1, hin.2.1, fun hh => hin.2.2 (zYR.1 hh).1⟩)]
  ·rw [if_neg hin]
   by_cases ho : o = (i + 5 : Nat)
   ·subst ho
    have hno : ¬ (((i + 5 : Nat) : Int) - 5).toNat ∈ left.filter fun j => !decide (j = i) := fun hh => by
     have := (zYR.1 hh).2
     simp only [zYA, zXQ] at this
     omega
    have hyes : (5 : Int) ≤ (i + 5 : Nat) ∧ ((i + 5 : Nat) : Int) ≤ 15 ∧ ¬ (((i + 5 : Nat) : Int) - 5).toNat ∈ left.filter fun j => !decide (j = i) := ⟨by omega, by omega, hno⟩
    rw [zXU rfl, if_pos hyes]
    rfl
   ·have hno : ¬ (5 ≤ o ∧ o ≤ 15 ∧ ¬ (o - 5).toNat ∈ left.filter fun j => !decide (j = i)) := fun hh => hin ⟨hh.1, hh.2.1, fun hm => hh.2.2 (zYR.2 ⟨hm, by
     simp only [zYA, zXQ]
     omega⟩)⟩
    rw [zX9 ho, if_neg hno]
    simp
 cl := zKi _ _ h.cl (by simp [AV.cl, clL])
theorem OpM.step {w : Int} {left : List Nat} {ks : List Value} {vs : List AV} (h : OpM w left ks vs) {i : Nat} (hi : i < 11) (hl : i ∈ left) {o : Int} (ho : o = (i + 5 : Nat)) :
  OpM w (left.filter fun j => !decide (j = i)) (ks ++ [.int .i64 o]) (vs ++ [.fn (.func 57) [] [.vp [int w] 0, .vp [str (opS o)] 0]]) := by
 subst ho; exact h.step0 hi hl
theorem OpM.start (w : Int) : OpM w (List.range 11) [.int .i64 16, .int .i64 17] [.fn (.func 54) [] [.vp [int w] 0], .fn (.func 55) [] []] where
 len := rfl
 key := by
  intro k hk
  simp only [zX5, zYU, or_false] at hk
  rcases hk with rfl | rfl
  ·exact ⟨16, rfl, .inl rfl⟩
  ·exact ⟨17, rfl, .inr (.inl rfl)⟩
 get := by
  intro o
  simp only [zDQ, kEq_int, zXB, zHC]
  by_cases h16 : o = 16
  ·rw [if_pos h16, if_pos h16]
  rw [if_neg h16, if_neg h16]
  by_cases h17 : o = 17
  ·rw [if_pos h17, if_pos h17]
  rw [if_neg h17, if_neg h17, if_neg]
  rintro ⟨h1, h2, h3⟩
  exact h3 (zYk.2 (by omega))
 cl := by simp [AV.cl, clL]
theorem OpM.cmp {w : Int} {left : List Nat} {ks : List Value} {vs : List AV} (h : OpM w left ks vs) (o : Int) : ∀ k' ∈ ks, kCmp (.int .i64 o) k' = true := by
 intro k hk
 obtain ⟨i, rfl, _⟩ := h.key k hk
 rfl
theorem OpM.new {w : Int} {left : List Nat} {ks : List Value} {vs : List AV} (h : OpM w left ks vs) {i : Nat} (hi : i < 11) (hl : i ∈ left) {o : Int} (ho : o = (i + 5 : Nat)) : ∀ k' ∈ ks, kCmp (.int .i64 o) k' = true ∧ kEq (.int .i64 o) k' = false := by
 subst ho
 intro k hk
 obtain ⟨j, rfl, hj⟩ := h.key k hk
 refine ⟨rfl, ?_⟩
 rw [kEq_int, zX9]
 rintro rfl
 rcases hj with hj | hj | ⟨_, _, h3⟩
 ·omega
 ·omega
 ·exact h3 (by rwa [show ((i + 5 : Nat) - 5 : Int).toNat = i by omega])
theorem zAs {G : zC} (a : Nat) (x y : HO) : (G.set a x ++ [y])[G.length]? = some y := by
 rw [zXz (by simp)]; simp
theorem zCN {G : zC} (a : Nat) (x y z : HO) : (G.set a x ++ [y]).set G.length z = G.set a x ++ [z] := by
 have := zYw (s := G.set a x) (t := [y]) G.length z (by simp)
 rw [this]; simp
theorem zBv (w : Int) (H : zC) : ACall Tryz.prog 26 [int w] H fun x H' => (∃ ks vs, x = .mp ks vs ∧ OpM w [] ks vs) ∧ H' = H := by
 refine ACall.drop (R := fun x => ∃ ks vs, x = .mp ks vs ∧ OpM w [] ks vs) ?_
 refine enter Tryz.func26 L26z_ok (zXs rfl) ?_
 repeat' (first | refine zA (zWw _) ?_ | simp -implicitDefEqProofs (disch := omega) only [L26z, zF, kEq, zX5, zYU, false_implies, implies_true, Int.reduceBEq, zZW, and_true, true_and, push_cast, simprocAttr, ↓reduceIte, zXq])
 refine zAh (fun (st : List Nat × List Value × List AV × zC) e' G => e' 1 = .vp [int w] 0 ∧ e' 3 = .om H.length 0 ∧ e' 10 = .ptr (H.length + 1) 0 0 ∧ G = st.2.2.2 ∧ H.length + 2 ≤ G.length ∧ (∀ i, i < H.length → G[i]? = H[i]?) ∧ G[H.length]? = some (.map 0 st.2.1 st.2.2.1) ∧ (∃ cur, G[H.length + 1]? = some (.mit opnK opnX st.1 cur)) ∧ OpM w st.1 st.2.1 st.2.2.1 ∧ ∀ i ∈ st.1, i < 11)
  (fun st => st.1.length) (List.range 11, [.int .i64 16, .int .i64 17], [.fn (.func 54) [] [.vp [int w] 0], .fn (.func 55) [] []], H ++ [.map 0 [.int .i64 16, .int .i64 17] [.fn (.func 54) [] [.vp [int w] 0], .fn (.func 55) [] []], .mit opnK opnX (List.range opnK.length) none]) ?_ ?_
 ·exact ⟨rfl, rfl, rfl, rfl, by simp, fun i hi => zXu hi, by simp, ⟨none, by simp [zAc]; rfl⟩, OpM.start w, fun i hi => zYk.1 hi⟩
 rintro ⟨left, ks, vs, _⟩ e' G ⟨h1, h3, h10, rfl, gl, fr, g0, ⟨cur, g1⟩, hm, hin⟩
 simp only at gl fr g0 g1 hm hin
 repeat' (simp -implicitDefEqProofs (disch := omega) only [h10, push_cast])
 refine zOb g1 (fun hl => ?_) fun i hi => ?_
 ·subst hl
  repeat' (simp -implicitDefEqProofs (disch := omega) only [h3, g0, push_cast, simprocAttr, ↓reduceIte])
  obtain ⟨rest, hrest⟩ := zBp (H := H) (G := G.set H.length .dead) (by simp; omega) fun i hi => by rw [zXy (by omega), fr i hi]
  have hcl := hm.cl
  exact ⟨⟨ks, vs, rfl, hm⟩, rest, hrest⟩
 ·have hi11 := hin i hi
  obtain ⟨o, ho, k1, x1⟩ : ∃ o : Int, o = (i + 5 : Nat) ∧ opnK.getD i default = .int .i64 o ∧ opnX.getD i .any = str (opS o) := ⟨_, rfl, zTL hi11⟩
  rw [k1, x1]
  have h11 : opnK.length = 11 := rfl
  have hn := hm.new hi11 hi ho
  repeat' (first | refine zXx (by omega) ?_ | simp -implicitDefEqProofs (disch := omega) only [h1, h3, h10, zH, zI, zZ, zU, zAs, zCN, h11, k1, x1, g0, splice, push_cast, simprocAttr, ↓reduceIte, zXq])
  refine .mk (left.filter fun j => !decide (j = i), ks ++ [.int .i64 o], _, _) ⟨h1, h3, h10, rfl, by simp; omega, fun i hi => ?_, ?_, ⟨some i, ?_⟩, hm.step hi11 hi ho, fun j hj => hin j (zYR.1 hj).1⟩ ?_
  ·rw [zXu (by simp; omega), zXy (by omega), zXy (by omega), fr i hi]
  ·rw [zXu (by simp; omega), zXD (by simp; omega)]
  ·rw [zXu (by simp; omega), zXy (by omega), zXD (by omega)]
  ·show (left.filter _).length < left.length
   exact List.length_filter_lt_length_iff_exists.2 ⟨i, hi, by simp⟩
mutual
def zLb : Ins → Int → List AV
 | .mk o a b l m, n => [int o, int a, int b, .sl 5 (l.map zAp), .sl 5 (m.map zAp), int n, .sl 8 (zBE l (n + 1)), .sl 8 (zBE m (n + 1 + zM l))]
def zBE : List Ins → Int → List (List AV)
 | [], _ => []
 | x :: l, n => zLb x n :: zBE l (n + zBs x)
end
theorem zFD (x : Ins) (n : Int) : zLb x n = [int x.op, int x.a, int x.b, .sl 5 (x.body.map zAp), .sl 5 (x.els.map zAp), int n, .sl 8 (zBE x.body (n + 1)), .sl 8 (zBE x.els (n + 1 + zM x.body))] := by
 cases x; simp only [zLb]; rfl
theorem zEm : ∀ (l : List Ins) (n : Int), (zBE l n).length = l.length
 | [], _ => rfl
 | x :: l, n => by simp only [zBE, zXI, zEm l]
theorem zE1 : ∀ (a b : List Ins) (n : Int), zBE (a ++ b) n = zBE a n ++ zBE b (n + zM a)
 | [], b, n => by simp [zBE, zM]
 | x :: a, b, n => by
  simp only [zYH, zBE, zE1 a b, zM]
  congr 3
  omega
theorem zKx {l : List Ins} {j : Nat} (h : j < l.length) (n : Int) : zBE (l.take (j + 1)) n = zBE (l.take j) n ++ [zLb (l.getD j default) (n + zM (l.take j))] := by
 rw [zBT h, zE1]; simp [zBE]
theorem zGp : ∀ {l : List Ins} {j : Nat} (h : j < l.length) (n : Int), (zBE l n).getD j [] = zLb (l.getD j default) (n + zM (l.take j))
 | x :: l, 0, h, n => by simp [zBE, zM]
 | x :: l, j + 1, h, n => by
  simp only [zBE, List.getD_cons_succ, zYM, zM]
  rw [zGp (by simpa using h)]
  congr 1
  omega
theorem zPZ (x : Ins) (n : Int) : (zLb x n).length = 8 := by rw [zFD]; rfl
theorem zND (x : Ins) (n : Int) : (zLb x n).take 8 = zLb x n := by rw [zFD]; rfl
theorem zP0 (x : Ins) (n : Int) : c1s (zLb x n) = true := by rw [zFD]; rfl
theorem zQ7 (l : List Ins) : zM l ≤ 32768 → ∀ (n : Int), 0 ≤ n → n + zM l ≤ 32768 → ∀ H, zAe 72 [.sl 5 (l.map zAp), int n] H (.tup [.sl 8 (zBE l n), int (n + zM l)]) := by
 induction l using Ins.indL with
 | h l ih =>
 intro hs n hn0 hn1 H
 have hln := zR l
 refine ACall.drop (R := fun x => x = .tup [.sl 8 (zBE l n), int (n + zM l)]) ?_
 refine enter Tryz.func72 L72_ok (zXs rfl) ?_
 repeat' (simp -implicitDefEqProofs (disch := omega) only [L72, zXr, push_cast, simprocAttr, ↓reduceIte])
 refine zAh (fun (st : Nat × Nat × zC) e' G => e' 1 = int (n + zM (l.take st.1)) ∧ e' 6 = .os H.length st.2.1 0 st.1 ∧ e' 10 = .sl 5 (l.map zAp) ∧ e' 11 = int l.length ∧ e' 12 = int st.1 ∧ G = st.2.2 ∧ H.length + 1 ≤ G.length ∧ (∀ i, i < H.length → G[i]? = H[i]?) ∧ G[H.length]? = some (.arr st.2.1 8 (zBE (l.take st.1) n)) ∧ st.1 ≤ l.length) (fun st => l.length - st.1) (0, 0, H ++ [.arr 0 8 []]) ?_ ?_
 ·exact ⟨zDS rfl (by simp [zM]), rfl, rfl, rfl, rfl, rfl, by simp, fun i hi => zXu hi, by simp [zBE], zXJ _⟩
 rintro ⟨j, v, _⟩ e' G ⟨h1, h6, h10, h11, h12, rfl, gl, fr, g0, hj⟩
 simp only at h1 h6 h12 gl fr g0 hj
 have hsl : (zBE (l.take j) n).length = j := by rw [zEm, zX1]; omega
 have htk : (zBE (l.take j) n).take j = zBE (l.take j) n := zXR (by omega)
 by_cases hlt : j < l.length
 ·have hmem := zAq hlt
  obtain ⟨c1, c2⟩ := ih _ hmem
  have hb := zAl l (j + 1)
  have hsn := zAf hlt
  rw [hsn, zCj] at hb
  have hrow : (l.map zAp).getD j [] = zAp (l.getD j default) := zQ hlt
  have hsnoc := zKx hlt n
  rw [zFD] at hsnoc
  have d1 := fun H => c1 (by omega) (n + zM (l.take j) + 1) (by omega) (by omega) H
  have d2 := fun H => c2 (by omega) (n + zM (l.take j) + 1 + zM (l.getD j default).body) (by omega) (by omega) H
  rw [zCj] at hsn
  generalize hx : l.getD j default = x at *
  obtain ⟨o, a, b, bd, el⟩ := x
  simp only [Ins.body, Ins.els, Ins.op, Ins.a, Ins.b] at *
  have hi5 : zAp (.mk o a b bd el) = [int o, int a, int b, .sl 5 (bd.map zAp), .sl 5 (el.map zAp)] := by rw [zDv]; rfl
  repeat' (first | refine zXx (by omega) ?_ | refine zA (d1 _) ?_ | refine zA (d2 _) ?_ | simp -implicitDefEqProofs (disch := omega) only [h1, h6, h10, h11, h12, g0, hrow, hi5, hsl, htk, zB, zG, rBuild, fillA, zY, splice, zAc, zF, zXv, zXw, zXr, zO, push_cast, simprocAttr, ↓reduceIte, zXq])
  refine .mk (j + 1, v + 1, _) ⟨zDS rfl (by dsimp only <;> omega), rfl, h10, h11, rfl, rfl, by simp; omega, fun i hi => ?_, ?_, hlt⟩ (by dsimp only; omega)
  ·rw [zXu (by simp; omega), zXy (by omega), fr i hi]
  ·rw [zXu (by simp; omega), zXD (by omega), hsnoc]
 ·have e : j = l.length := by omega
  subst e
  rw [zZb] at *
  repeat' (first | refine zXx (by omega) ?_ | simp -implicitDefEqProofs (disch := omega) only [h1, h6, h11, h12, g0, hsl, htk, zT, push_cast, ↓reduceIte, Nat.reduceEqDiff, zXq])
  obtain ⟨rest, hrest⟩ := zBp (H := H) (G := G.set H.length .dead) (by simp; omega) fun i hi => by rw [zXy (by omega), fr i hi]
  exact ⟨rest, hrest⟩
section
variable {w a b o x : Int} {G : zC} {r ver n N : Nat} {rows : List (List AV)}
theorem zUc (hw : wOk w) (hx : inI w x) (hg : G[r]? = some (.arr ver 1 rows)) (hN : N = n + 1) (hn : N ≤ rows.length) (hnn : rows.length ≤ 9223372036854775807) (hr : rows.getD n [] = [int x]) :
  zAe 54 [.os r ver 0 N, .vp [int w] 0] G (.tup [.os r ver 0 n, int (wrF w (-x)), int 0]) := by
 have hb := (zBM hw x).1 hx
 have hp := zCA hw
 have hi : zBP (-x) := by unfold zBP; omega
 have h1 : ((N : Int) - 1).toNat = n := by omega
 have h2 : 0 - x = -x := by omega
 refine enter Tryz.func54 L54_ok (zXs rfl) ?_
 repeat' (first | refine zXx (by omega) ?_ | refine zN (zNp w (-x) hi _) rfl ?_ | simp -implicitDefEqProofs (disch := omega) only [L54, h1, h2, zXF, zYD, hg, hr, push_cast, simprocAttr, ↓reduceIte])
theorem zT9 (hg : G[r]? = some (.arr ver 1 rows)) (hN : N = n + 1) (hn : N ≤ rows.length) (hnn : rows.length ≤ 9223372036854775807) (hr : rows.getD n [] = [int x]) :
  zAe 55 [.os r ver 0 N] G (.tup [.os r ver 0 n, int (if x = 0 then 1 else 0), int 0]) := by
 have h1 : ((N : Int) - 1).toNat = n := by omega
 refine enter Tryz.func55 L55_ok (zXs rfl) ?_
 by_cases hx : x = 0
 ·rw [if_pos hx]
  repeat' (first | refine zXx (by omega) ?_ | simp -implicitDefEqProofs (disch := omega) only [L55, h1, zXF, zYD, hg, hr, zAi, push_cast, simprocAttr, ↓reduceIte])
  all_goals omega
 ·rw [if_neg hx]
  repeat' (first | refine zXx (by omega) ?_ | simp -implicitDefEqProofs (disch := omega) only [L55, h1, zXF, zYD, hg, hr, zX, push_cast, simprocAttr, ↓reduceIte])
  all_goals omega
theorem binOp (hw : wOk w) (h5 : 5 ≤ o) (h15 : o ≤ 15) (ha : inI w a) (hb : inI w b) (hg : G[r]? = some (.arr ver 1 rows)) (hN : N = n + 2) (hn : N ≤ rows.length) (hnn : rows.length ≤ 9223372036854775807) (hra : rows.getD n [] = [int a]) (hrb : rows.getD (n + 1) [] = [int b]) :
  zAe 57 [.os r ver 0 N, .vp [int w] 0, .vp [str (opS o)] 0] G (.tup [.os r ver 0 n, int (zDH o w a b).1, int (zDH o w a b).2]) := by
 have h1 : ((N : Int) - 2).toNat = n := by omega
 have h2 : ((N : Int) - 2 + 1).toNat = n + 1 := by omega
 refine enter Tryz.func57 L57_ok (zXs rfl) ?_
 have hB := fun H => binC hw h5 h15 ha hb H
 simp only [zGe] at hB
 repeat' (first | refine zXx (by omega) ?_ | refine zN (hB _) rfl ?_ | simp -implicitDefEqProofs (disch := omega) only [L57, h1, h2, zXF, zYD, hg, hra, hrb, push_cast, simprocAttr, ↓reduceIte])
 all_goals omega
theorem zPv (w n : Int) (H : zC) : zAe 30 [int w, int n] H (bool (decide (inI w n))) := by
 refine enter Tryz.func30 L30_ok (zXs rfl) ?_
 by_cases h1 : leF w ≤ n
 ·by_cases h2 : n ≤ grF w
  ·rw [show decide (inI w n) = true from zXU ⟨h1, h2⟩]
   repeat' (first | refine zA (zGB _ _) ?_ | refine zA (zEw _ _) ?_ | simp -implicitDefEqProofs (disch := omega) only [L30, zAd, push_cast, simprocAttr, ↓reduceIte])
  ·rw [show decide (inI w n) = false from zX9 fun h => h2 h.2]
   repeat' (first | refine zA (zGB _ _) ?_ | refine zA (zEw _ _) ?_ | simp -implicitDefEqProofs (disch := omega) only [L30, zAd, zAn, push_cast, simprocAttr, ↓reduceIte])
 ·rw [show decide (inI w n) = false from zX9 fun h => h1 h.1]
  repeat' (first | refine zA (zGB _ _) ?_ | simp -implicitDefEqProofs (disch := omega) only [L30, zAn, push_cast, simprocAttr, ↓reduceIte])
theorem zR4 (w n : Int) (r : Nat) (H : zC) (hg : H[r]? = some (.box [int w])) : zAe 29 [int n, .ptr r 0 0] H (bool (!decide (inI w n))) := by
 refine enter Tryz.func29 L29_ok (zXs rfl) ?_
 repeat' (first | refine zA (zPv _ _ _) ?_ | simp -implicitDefEqProofs (disch := omega) only [L29, hg, push_cast, simprocAttr, ↓reduceIte])
theorem zTp (o : Int) (H : zC) : zAe 27 [int o] H (int (if o = 16 ∨ o = 17 then 1 else 2)) := by
 refine enter Tryz.func27 L27_ok (zXs rfl) ?_
 by_cases h1 : o = 16
 ·rw [if_pos (.inl h1)]
  repeat' (simp -implicitDefEqProofs (disch := omega) only [L27, zAi, push_cast, simprocAttr, ↓reduceIte])
 ·by_cases h2 : o = 17
  ·rw [if_pos (.inr h2)]
   repeat' (simp -implicitDefEqProofs (disch := omega) only [L27, zAi, zX, push_cast, simprocAttr, ↓reduceIte])
  ·rw [if_neg (by omega)]
   repeat' (simp -implicitDefEqProofs (disch := omega) only [L27, zX, push_cast, simprocAttr, ↓reduceIte])
end
theorem zRp (l : List Int) (hl : l.length ≤ 9223372036854775807) (f : FuncId) (caps : List AV) (p : Int → Bool) (H : zC) (hp : ∀ n, zAe f (int n :: caps) H (bool (p n))) : zAe 58 [.sl 1 (l.map iR), .fn (.func f) [] caps] H (int (zIH (l.findIdx? p))) := by
 refine enter Tryz.func58 L58_ok (zXs rfl) ?_
 repeat' (simp -implicitDefEqProofs (disch := omega) only [L58, push_cast, simprocAttr, ↓reduceIte])
 refine zAh (fun (j : Nat) e' H' => e' 0 = .sl 1 (l.map iR) ∧ e' 1 = .fn (.func f) [] caps ∧ e' 7 = int l.length ∧ e' 8 = int j ∧ H = H' ∧ j ≤ l.length ∧ ∀ i, i < j → p (l.getD i default) = false) (fun j => l.length - j) 0 ?_ ?_
 ·exact ⟨rfl, rfl, rfl, rfl, rfl, zXJ _, by simp⟩
 rintro j e' H' ⟨h0, h1, h7, h8, rfl, hj, hb⟩
 by_cases hlt : j < l.length
 ·have hc1 := hp (l.getD j default)
  have hor : (l.map iR).getD j [] = [int (l.getD j default)] := zQ hlt
  cases hin : p (l.getD j default)
  ·rw [hin] at hc1
   repeat' (first | refine zXx (by omega) ?_ | refine zA (hc1) ?_ | simp -implicitDefEqProofs (disch := omega) only [h0, h1, h7, h8, hor, zO, push_cast, simprocAttr, ↓reduceIte])
   exact .mk (j + 1) ⟨h0, h1, h7, rfl, rfl, hlt, zBu hb hin⟩ (by omega)
  ·rw [hin] at hc1
   repeat' (first | refine zXx (by omega) ?_ | refine zA (hc1) ?_ | simp -implicitDefEqProofs (disch := omega) only [h0, h1, h7, h8, hor, zO, push_cast, simprocAttr, ↓reduceIte])
   rw [zIj hlt hin hb]
   rfl
 ·rw [zIk fun i hi => hb i (by omega)]
  repeat' (simp -implicitDefEqProofs (disch := omega) only [h7, h8, zT, push_cast, ↓reduceIte, Int.reduceNeg])
  rfl
theorem zMA (l : List Int) (hl : l.length ≤ 9223372036854775806) (f : FuncId) (caps : List AV) (p : Int → Bool) (H : zC) (hp : ∀ n, zAe f (int n :: caps) H (bool (p n))) : zAe 28 [.sl 1 (l.map iR), .fn (.func f) [] caps] H (bool (l.any p)) := by
 refine enter Tryz.func28 L28_ok (zXs rfl) ?_
 have hi : l.any p = decide (0 ≤ zIH (l.findIdx? p)) := by
  cases h : l.findIdx? p with
  | none =>
   rw [zZu] at h
   refine (?_ : _ = false).trans (show false = decide (0 ≤ zIH none) from rfl)
   rw [zZn]
   intro x hx
   rw [h x hx]; decide
  | some i =>
   refine (?_ : _ = true).trans (zXU (show 0 ≤ zIH (some i) by simp only [zIH]; omega)).symm
   rw [zZD]
   obtain ⟨h1, h2, _⟩ := zYV.1 h
   exact ⟨_, zZP h1, h2⟩
 rw [hi]
 have hb : -1 ≤ zIH (l.findIdx? p) ∧ zIH (l.findIdx? p) ≤ 9223372036854775807 := by
  cases h : l.findIdx? p with
  | none => simp only [zIH]; omega
  | some i =>
   have := (zYV.1 h).1
   simp only [zIH]; omega
 repeat' (first | refine zA (zRp l (by omega) f caps p H hp) ?_ | simp -implicitDefEqProofs (disch := omega) only [L28, push_cast, simprocAttr, ↓reduceIte])
theorem zKh (rows : List (List AV)) (h0 : 0 < rows.length) (hl : rows.length ≤ 1048576) (H : zC) : ACall Tryz.prog 31 [.sl 1 rows] H fun y H' => y = .os H.length 1 0 rows.length ∧ H' = H ++ [.arr 1 1 rows] := by
 refine enter Tryz.func31 L31_ok (zXs rfl) ?_
 repeat' (simp -implicitDefEqProofs (disch := omega) only [L31, push_cast, simprocAttr, ↓reduceIte])
 refine ⟨trivial, fun b hb => ?_⟩
 cases b with
 | true =>
  have h1 : rows = [] := hb rfl
  rw [h1] at h0
  simp at h0
 | false =>
  repeat' (first | refine zXx (by omega) ?_ | simp -implicitDefEqProofs (disch := omega) only [zF, zZw, zXF, push_cast, simprocAttr, ↓reduceIte])
  all_goals omega
def opF (w o : Int) (l : List Int) : List Int × Int :=
 if o = 16 then (l.take (l.length - 1) ++ [wrF w (-l.getD (l.length - 1) default)], 0)
 else if o = 17 then (l.take (l.length - 1) ++ [if l.getD (l.length - 1) default = 0 then 1 else 0], 0)
 else if (zDH o w (l.getD (l.length - 2) default) (l.getD (l.length - 1) default)).2 = 0 then (l.take (l.length - 2) ++ [(zDH o w (l.getD (l.length - 2) default) (l.getD (l.length - 1) default)).1], 0)
 else (l.take (l.length - 2), (zDH o w (l.getD (l.length - 2) default) (l.getD (l.length - 1) default)).2)
def zBw (o : Int) : Nat := if o = 16 ∨ o = 17 then 1 else 2
def zDI (w o : Int) (l : List Int) : AV :=
 if ¬ wOk w then .tup [zAg, int 0, int 2] else if o < 5 ∨ 17 < o then .tup [zAg, int 0, int 1] else if l.length < zBw o then .tup [zAg, int 0, int 9]
 else if (l.drop (l.length - zBw o)).any (fun x => !decide (inI w x)) = true then .tup [zAg, int 0, int 2] else .tup [.sl 1 ((opF w o l).1.map iR), int (opF w o l).2, int 0]
theorem zOP {w o : Int} {l : List Int} (h : ¬ wOk w) : zDI w o l = .tup [zAg, int 0, int 2] := if_pos h
theorem zOO {w o : Int} {l : List Int} (h : wOk w) (h2 : o < 5 ∨ 17 < o) : zDI w o l = .tup [zAg, int 0, int 1] := by unfold zDI; rw [if_neg (zX2 h), if_pos h2]
theorem zON {w o : Int} {l : List Int} (h : wOk w) (h2 : ¬ (o < 5 ∨ 17 < o)) (h3 : l.length < zBw o) : zDI w o l = .tup [zAg, int 0, int 9] := by unfold zDI; rw [if_neg (zX2 h), if_neg h2, if_pos h3]
theorem zOM {w o : Int} {l : List Int} (h : wOk w) (h2 : ¬ (o < 5 ∨ 17 < o)) (h3 : ¬ l.length < zBw o) (h4 : (l.drop (l.length - zBw o)).any (fun x => !decide (inI w x)) = true) : zDI w o l = .tup [zAg, int 0, int 2] := by unfold zDI; rw [if_neg (zX2 h), if_neg h2, if_neg h3, if_pos h4]
theorem zKm {w o : Int} {l : List Int} (h : wOk w) (h2 : ¬ (o < 5 ∨ 17 < o)) (h3 : ¬ l.length < zBw o) (h4 : ¬ (l.drop (l.length - zBw o)).any (fun x => !decide (inI w x)) = true) : zDI w o l = .tup [.sl 1 ((opF w o l).1.map iR), int (opF w o l).2, int 0] := by unfold zDI; rw [if_neg (zX2 h), if_neg h2, if_neg h3, if_neg h4]
theorem zUY (w o : Int) (l : List Int) (hl : l.length ≤ 1048576) (H : zC) : zAe 9 [int w, int o, .sl 1 (l.map iR)] H (zDI w o l) := by
 refine ACall.drop (R := fun x => x = zDI w o l) ?_
 refine enter Tryz.func9 L9_ok (zXs rfl) ?_
 by_cases hw : wOk w
 ·have hw' := hw
  unfold wOk at hw'
  have hf : ∀ ks vs, OpM w [] ks vs → (∀ k' ∈ ks, kCmp (.int .i64 o) k' = true) = True := fun ks vs hm => by simp only [eq_iff_iff, iff_true]; exact hm.cmp o
  by_cases ho : o < 5 ∨ 17 < o
  ·rw [zOO hw ho]
   repeat' (simp -implicitDefEqProofs (disch := omega) only [L9, zT, push_cast, simprocAttr, ↓reduceIte, zXq])
   refine zL (zBv w _) ?_
   rintro _ H' ⟨⟨ks, vs, rfl, hm⟩, rfl⟩
   have hcm := hf ks vs hm
   have hge := hm.get o
   unfold zHC at hge
   rw [if_neg (by omega), if_neg (by omega), if_neg (by omega)] at hge
   repeat' (simp -implicitDefEqProofs (disch := omega) only [hcm, hge, push_cast, simprocAttr, ↓reduceIte, zXq])
   exact ⟨_, rfl⟩
  by_cases h3 : l.length < zBw o
  ·rw [zON hw ho h3]
   have hne : (zBw o : Int) = if o = 16 ∨ o = 17 then 1 else 2 := by unfold zBw; split <;> rfl
   have hn2 : zBw o ≤ 2 := by unfold zBw; split <;> omega
   have cP := fun H => zTp o H
   rw [← hne] at cP
   obtain ⟨f, hfn⟩ : ∃ f, zHC w [] o = some f := by
    unfold zHC
    by_cases h16 : o = 16
    ·rw [if_pos h16]; exact ⟨_, rfl⟩
    ·rw [if_neg h16]
     by_cases h17 : o = 17
     ·rw [if_pos h17]; exact ⟨_, rfl⟩
     ·rw [if_neg h17, if_pos ⟨by omega, by omega, by simp⟩]; exact ⟨_, rfl⟩
   repeat' (simp -implicitDefEqProofs (disch := omega) only [L9, zT, push_cast, simprocAttr, ↓reduceIte, zXq])
   refine zL (zBv w _) ?_
   rintro _ H' ⟨⟨ks, vs, rfl, hm⟩, rfl⟩
   have hcm := hf ks vs hm
   have hge := (hm.get o).trans hfn
   repeat' (first | refine zA (cP _) ?_ | simp -implicitDefEqProofs (disch := omega) only [hcm, hge, zO, push_cast, simprocAttr, ↓reduceIte, zXq])
   exact ⟨_, rfl⟩
  have hne : (zBw o : Int) = if o = 16 ∨ o = 17 then 1 else 2 := by unfold zBw; split <;> rfl
  have hn2 : 1 ≤ zBw o ∧ zBw o ≤ 2 := by unfold zBw; split <;> omega
  have cP := fun H => zTp o H
  rw [← hne] at cP
  have hlc : (((l.map iR).drop (l.length - zBw o)).take (l.length - (l.length - zBw o))) = (l.drop (l.length - zBw o)).map iR := by rw [← List.map_drop, zXR (by simp)]
  have hix : ((l.length : Int) - zBw o).toNat = l.length - zBw o := by omega
  have cH : ∀ (r : Nat) (G : zC), G[r]? = some (.box [int w]) → zAe 28 [.sl 1 ((l.drop (l.length - zBw o)).map iR), .fn (.func 29) [] [.ptr r 0 0]] G (bool ((l.drop (l.length - zBw o)).any fun x => !decide (inI w x))) := fun r G hr => by
   exact zMA _ (by simp; omega) _ _ _ G fun n => zR4 w n r G hr
  by_cases h4 : (l.drop (l.length - zBw o)).any (fun x => !decide (inI w x)) = true
  ·rw [zOM hw ho h3 h4]
   rw [h4] at cH
   obtain ⟨f, hfn⟩ : ∃ f, zHC w [] o = some f := by
    unfold zHC
    by_cases h16 : o = 16
    ·rw [if_pos h16]; exact ⟨_, rfl⟩
    ·rw [if_neg h16]
     by_cases h17 : o = 17
     ·rw [if_pos h17]; exact ⟨_, rfl⟩
     ·rw [if_neg h17, if_pos ⟨by omega, by omega, by simp⟩]; exact ⟨_, rfl⟩
   repeat' (simp -implicitDefEqProofs (disch := omega) only [L9, zT, push_cast, simprocAttr, ↓reduceIte, zXq])
   refine zL (zBv w _) ?_
   rintro _ H' ⟨⟨ks, vs, rfl, hm⟩, rfl⟩
   have hcm := hf ks vs hm
   have hge := (hm.get o).trans hfn
   repeat' (first | refine zXx (by omega) ?_ | refine zA (cP _) ?_ | refine zA (cH _ _ (by simp)) ?_ | simp -implicitDefEqProofs (disch := omega) only [hcm, hge, hix, hlc, zXr, zT, push_cast, simprocAttr, ↓reduceIte, zXq])
   exact ⟨_, rfl⟩
  ·rw [zKm hw ho h3 h4]
   rw [zYi] at h4
   rw [h4] at cH
   rw [zZn] at h4
   have hin : ∀ x ∈ l.drop (l.length - zBw o), inI w x := fun x hx => by
    have := h4 x hx
    simpa using this
   have hmem : ∀ i, l.length - zBw o ≤ i → i < l.length → inI w (l.getD i default) := fun i h1 h2 => hin _ (by
    have e : l.getD i default = (l.drop (l.length - zBw o)).getD (i - (l.length - zBw o)) default := by
     simp only [zXC, zYa]
     congr 2
     omega
    rw [e]
    exact zAq (by simp; omega))
   have ht1 : ∀ k, k ≤ l.length → ((l.map iR).take k).length = k := fun k hk => by simp; omega
   have ht2 : ∀ k, k ≤ l.length → ∀ y : List AV, ((l.map iR).take k ++ [y]).take (k + 1) = (l.map iR).take k ++ [y] := fun k hk y => zXR (by simp; omega)
   by_cases h16 : o = 16
   ·have hnd : zBw o = 1 := by unfold zBw; rw [if_pos (.inl h16)]
    have hfn : zHC w [] o = some (.fn (.func 54) [] [.vp [int w] 0]) := by unfold zHC; rw [if_pos h16]
    have hX : opF w o l = (l.take (l.length - 1) ++ [wrF w (-l.getD (l.length - 1) default)], 0) := by unfold opF; rw [if_pos h16]
    rw [hX]
    have hx := hmem (l.length - 1) (by omega) (by omega)
    have hr : (l.map iR).getD (l.length - 1) [] = [int (l.getD (l.length - 1) default)] := zQ (by omega)
    have hT1 := ht1 (l.length - 1) (by omega)
    have hT2 := ht2 (l.length - 1) (by omega)
    have cO := zUc (G := H ++ [HO.box [int w], HO.arr 1 1 (l.map iR)]) (r := H.length + 1) (ver := 1) hw hx (by simp [zAc]) (N := l.length) (n := l.length - 1) (by omega) (by simp) (by simp; omega) hr
    repeat' (simp -implicitDefEqProofs (disch := omega) only [L9, zT, push_cast, simprocAttr, ↓reduceIte, zXq])
    refine zL (zBv w _) ?_
    rintro _ H' ⟨⟨ks, vs, rfl, hm⟩, rfl⟩
    have hcm := hf ks vs hm
    have hge := (hm.get o).trans hfn
    repeat' (first | refine zXx (by omega) ?_ | refine zA (cP _) ?_ | refine zA (cH _ _ (by simp)) ?_ | simp -implicitDefEqProofs (disch := omega) only [hcm, hge, hix, hlc, zXr, zT, push_cast, simprocAttr, ↓reduceIte])
    refine zL (zKh (l.map iR) (by simp; omega) (by simpa using hl) _) ?_
    rintro _ G ⟨rfl, rfl⟩
    repeat' (first | refine zXx (by omega) ?_ | refine zA (cO) ?_ | simp -implicitDefEqProofs (disch := omega) only [zXr, hT1, hT2, zXw, zXF, push_cast, simprocAttr, ↓reduceIte, zXq])
    first | exact ⟨by simp [zYg, zY3, iR], _, rfl⟩ | trace_state
   by_cases h17 : o = 17
   ·have hnd : zBw o = 1 := by unfold zBw; rw [if_pos (.inr h17)]
    have hfn : zHC w [] o = some (.fn (.func 55) [] []) := by unfold zHC; rw [if_neg h16, if_pos h17]
    have hX : opF w o l = (l.take (l.length - 1) ++ [if l.getD (l.length - 1) default = 0 then 1 else 0], 0) := by unfold opF; rw [if_neg h16, if_pos h17]
    rw [hX]
    have hr : (l.map iR).getD (l.length - 1) [] = [int (l.getD (l.length - 1) default)] := zQ (by omega)
    have hT1 := ht1 (l.length - 1) (by omega)
    have hT2 := ht2 (l.length - 1) (by omega)
    have cO := zT9 (G := H ++ [HO.box [int w], HO.arr 1 1 (l.map iR)]) (r := H.length + 1) (ver := 1) (x := l.getD (l.length - 1) default) (by simp [zAc]) (N := l.length) (n := l.length - 1) (by omega) (by simp) (by simp; omega) hr
    generalize (if l.getD (l.length - 1) default = 0 then (1 : Int) else 0) = v at *
    repeat' (simp -implicitDefEqProofs (disch := omega) only [L9, zT, push_cast, simprocAttr, ↓reduceIte, zXq])
    refine zL (zBv w _) ?_
    rintro _ H' ⟨⟨ks, vs, rfl, hm⟩, rfl⟩
    have hcm := hf ks vs hm
    have hge := (hm.get o).trans hfn
    repeat' (first | refine zXx (by omega) ?_ | refine zA (cP _) ?_ | refine zA (cH _ _ (by simp)) ?_ | simp -implicitDefEqProofs (disch := omega) only [hcm, hge, hix, hlc, zXr, zT, push_cast, simprocAttr, ↓reduceIte])
    refine zL (zKh (l.map iR) (by simp; omega) (by simpa using hl) _) ?_
    rintro _ G ⟨rfl, rfl⟩
    repeat' (first | refine zXx (by omega) ?_ | refine zA (cO) ?_ | simp -implicitDefEqProofs (disch := omega) only [zXr, hT1, hT2, zXw, zXF, push_cast, simprocAttr, ↓reduceIte, zXq])
    first | exact ⟨by simp [zYg, zY3, iR], _, rfl⟩ | trace_state
   have hnd : zBw o = 2 := by unfold zBw; rw [if_neg (by omega)]
   have hfn : zHC w [] o = some (.fn (.func 57) [] [.vp [int w] 0, .vp [str (opS o)] 0]) := by unfold zHC; rw [if_neg h16, if_neg h17, if_pos ⟨by omega, by omega, by simp⟩]
   have ha := hmem (l.length - 2) (by omega) (by omega)
   have hb := hmem (l.length - 1) (by omega) (by omega)
   have hra : (l.map iR).getD (l.length - 2) [] = [int (l.getD (l.length - 2) default)] := zQ (by omega)
   have hrb : (l.map iR).getD (l.length - 2 + 1) [] = [int (l.getD (l.length - 1) default)] := by rw [show l.length - 2 + 1 = l.length - 1 by omega]; exact zQ (by omega)
   have hT1 := ht1 (l.length - 2) (by omega)
   have hT2 := ht2 (l.length - 2) (by omega)
   have cO := binOp (G := H ++ [HO.box [int w], HO.arr 1 1 (l.map iR)]) (r := H.length + 1) (ver := 1) (o := o) hw (by omega) (by omega) ha hb (by simp [zAc]) (N := l.length) (n := l.length - 2) (by omega) (by simp) (by simp; omega) hra hrb
   have hX : opF w o l = if (zDH o w (l.getD (l.length - 2) default) (l.getD (l.length - 1) default)).2 = 0 then (l.take (l.length - 2) ++ [(zDH o w (l.getD (l.length - 2) default) (l.getD (l.length - 1) default)).1], 0) else (l.take (l.length - 2), (zDH o w (l.getD (l.length - 2) default) (l.getD (l.length - 1) default)).2) := by
    unfold opF; rw [if_neg h16, if_neg h17]
   generalize zDH o w (l.getD (l.length - 2) default) (l.getD (l.length - 1) default) = q at *
   by_cases hq : q.2 = 0
   ·rw [hX, if_pos hq]
    rw [hq] at cO
    repeat' (simp -implicitDefEqProofs (disch := omega) only [L9, zT, push_cast, simprocAttr, ↓reduceIte, zXq])
    refine zL (zBv w _) ?_
    rintro _ H' ⟨⟨ks, vs, rfl, hm⟩, rfl⟩
    have hcm := hf ks vs hm
    have hge := (hm.get o).trans hfn
    repeat' (first | refine zXx (by omega) ?_ | refine zA (cP _) ?_ | refine zA (cH _ _ (by simp)) ?_ | simp -implicitDefEqProofs (disch := omega) only [hcm, hge, hix, hlc, zXr, zT, push_cast, simprocAttr, ↓reduceIte])
    refine zL (zKh (l.map iR) (by simp; omega) (by simpa using hl) _) ?_
    rintro _ G ⟨rfl, rfl⟩
    repeat' (first | refine zXx (by omega) ?_ | refine zA (cO) ?_ | simp -implicitDefEqProofs (disch := omega) only [zXr, hT1, hT2, zXw, zXF, push_cast, simprocAttr, ↓reduceIte, zXq])
    first | exact ⟨by simp [zYg, zY3, iR], _, rfl⟩ | trace_state
   ·rw [hX, if_neg hq]
    repeat' (simp -implicitDefEqProofs (disch := omega) only [L9, zT, push_cast, simprocAttr, ↓reduceIte, zXq])
    refine zL (zBv w _) ?_
    rintro _ H' ⟨⟨ks, vs, rfl, hm⟩, rfl⟩
    have hcm := hf ks vs hm
    have hge := (hm.get o).trans hfn
    repeat' (first | refine zXx (by omega) ?_ | refine zA (cP _) ?_ | refine zA (cH _ _ (by simp)) ?_ | simp -implicitDefEqProofs (disch := omega) only [hcm, hge, hix, hlc, zXr, zT, push_cast, simprocAttr, ↓reduceIte])
    refine zL (zKh (l.map iR) (by simp; omega) (by simpa using hl) _) ?_
    rintro _ G ⟨rfl, rfl⟩
    repeat' (first | refine zXx (by omega) ?_ | refine zA (cO) ?_ | simp -implicitDefEqProofs (disch := omega) only [zXr, zXw, zXF, zX, push_cast, simprocAttr, ↓reduceIte, zXq])
    first | exact ⟨by simp [zYg, zY3, iR], _, rfl⟩ | trace_state
 ·rw [zOP hw]
  unfold wOk at hw
  have hc : w < 2 ∨ (2 ≤ w ∧ 8 < w) := by omega
  rcases hc with hc | ⟨hc1, hc2⟩
  ·repeat' (simp -implicitDefEqProofs (disch := omega) only [L9, zO, push_cast, simprocAttr, ↓reduceIte, zXq])
   exact ⟨_, rfl⟩
  ·repeat' (simp -implicitDefEqProofs (disch := omega) only [L9, zO, zT, push_cast, simprocAttr, ↓reduceIte, zXq])
   exact ⟨_, rfl⟩
theorem bitM (b : Bool) (H : zC) : zAe 61 [bool b] H (int (if b = true then 1 else 0)) := by
 refine enter Tryz.func61 L61_ok (zXs rfl) ?_
 cases b with
 | true =>
  repeat' (simp -implicitDefEqProofs (disch := omega) only [L61, push_cast, simprocAttr, ↓reduceIte])
 | false =>
  repeat' (simp -implicitDefEqProofs (disch := omega) only [L61, push_cast, simprocAttr, ↓reduceIte])
theorem zH2 {o : Int} (h5 : 5 ≤ o) (h15 : o ≤ 15) (H : zC) : zAe 63 [int o] H (str (opS o)) := by
 refine ACall.drop (R := fun x => x = str (opS o)) ?_
 refine enter Tryz.func63 L63_ok (zXs rfl) ?_
 rcases zWR h5 h15 with rfl | rfl | rfl | rfl | rfl | rfl | rfl | rfl | rfl | rfl | rfl
 all_goals (
  repeat' (simp -implicitDefEqProofs (disch := omega) only [L63, zF, push_cast, simprocAttr, ↓reduceIte, zXq])
  exact ⟨rfl, _, rfl⟩)
theorem zG5 (l : List (List AV)) (n : Nat) : (l.take n).take n = l.take n := by rw [zZq, Nat.min_self]
section
variable {w o : Int} {l : List Int}
abbrev ApR (w o : Int) (l : List Int) (G : zC) (y : AV) (G' : zC) : Prop := ∃ v, y = .tup [.os G.length v 0 (opF w o l).1.length, int (opF w o l).2] ∧ G' = G ++ [.arr v 1 ((opF w o l).1.map iR)]
theorem zJw (hw : wOk w) (h0 : 1 ≤ l.length) (hl : l.length ≤ 1048576) (hx : inI w (l.getD (l.length - 1) default)) (G : zC) {r ver : Nat} {rows : List (List AV)} (hg : G[r]? = some (.arr ver 1 rows)) (hrl : l.length ≤ rows.length) (hrn : rows.length ≤ 1048576) (hrt : rows.take l.length = l.map iR) :
  ACall Tryz.prog 34 [int w, int 16, .os r ver 0 l.length] G (ApR w 16 l G) := by
 have hrg : r < G.length := (zXA.1 hg).1
 have htk : ∀ k, k ≤ l.length → rows.take k = (l.map iR).take k := fun k hk => by rw [← hrt, zZq, zYQ hk]
 have hrow : ∀ k, k < l.length → rows.getD k [] = [int (l.getD k default)] := fun k hk => by
  refine Eq.trans ?_ (zQ (enc := iR) hk)
  rw [← hrt]
  simp only [zXC, zX4, hk, if_true]
 have hX : opF w 16 l = (l.take (l.length - 1) ++ [wrF w (-l.getD (l.length - 1) default)], 0) := by unfold opF; rw [if_pos rfl]
 unfold ApR
 rw [hX]
 have hr := hrow (l.length - 1) (by omega)
 have hix : ((l.length : Int) - 1).toNat = l.length - 1 := by omega
 have hb := (zBM hw _).1 hx
 have hp := zCA hw
 have hi : zBP (-(l.getD (l.length - 1) default)) := by unfold zBP; omega
 have h2 : 0 - (l.getD (l.length - 1) default) = -(l.getD (l.length - 1) default) := by omega
 have htK := htk (l.length - 1) (by omega)
 have hle1 : l.length - 1 ≤ rows.length := by omega
 have hle2 : l.length - 2 ≤ rows.length := by omega
 have ht1 : ((l.map iR).take (l.length - 1)).length = l.length - 1 := by simp
 have ht2 : ∀ y : List AV, ((l.map iR).take (l.length - 1) ++ [y]).take (l.length - 1 + 1) = (l.map iR).take (l.length - 1) ++ [y] := fun y => zXR (by simp)
 refine enter Tryz.func34 L34_ok (zXs rfl) ?_
 repeat' (first | refine zXx (by omega) ?_ | refine zN (zIM w (-(l.getD (l.length - 1) default)) hi _) rfl ?_ | simp -implicitDefEqProofs (disch := omega) only [L34, zB, zF, h2, hix, hr, hg, htK, hle1, ht1, zG5, zXw, zXF, zYD, push_cast, simprocAttr, ↓reduceIte, zXq])
 exact ⟨2, by simp, by simp [zYg, zY3, iR]⟩
theorem zJv (h0 : 1 ≤ l.length) (hl : l.length ≤ 1048576) (G : zC) {r ver : Nat} {rows : List (List AV)} (hg : G[r]? = some (.arr ver 1 rows)) (hrl : l.length ≤ rows.length) (hrn : rows.length ≤ 1048576) (hrt : rows.take l.length = l.map iR) :
  ACall Tryz.prog 34 [int w, int 17, .os r ver 0 l.length] G (ApR w 17 l G) := by
 have hrg : r < G.length := (zXA.1 hg).1
 have htk : ∀ k, k ≤ l.length → rows.take k = (l.map iR).take k := fun k hk => by rw [← hrt, zZq, zYQ hk]
 have hrow : ∀ k, k < l.length → rows.getD k [] = [int (l.getD k default)] := fun k hk => by
  refine Eq.trans ?_ (zQ (enc := iR) hk)
  rw [← hrt]
  simp only [zXC, zX4, hk, if_true]
 have hX : opF w 17 l = (l.take (l.length - 1) ++ [if l.getD (l.length - 1) default = 0 then 1 else 0], 0) := by unfold opF; rw [if_neg (by decide), if_pos rfl]
 unfold ApR
 rw [hX]
 have hr := hrow (l.length - 1) (by omega)
 have hix : ((l.length : Int) - 1).toNat = l.length - 1 := by omega
 have hB := fun H => bitM (decide (l.getD (l.length - 1) default = 0)) H
 simp only [zXB] at hB
 generalize (if l.getD (l.length - 1) default = 0 then (1 : Int) else 0) = v at *
 have htK := htk (l.length - 1) (by omega)
 have hle1 : l.length - 1 ≤ rows.length := by omega
 have hle2 : l.length - 2 ≤ rows.length := by omega
 have ht1 : ((l.map iR).take (l.length - 1)).length = l.length - 1 := by simp
 have ht2 : ∀ y : List AV, ((l.map iR).take (l.length - 1) ++ [y]).take (l.length - 1 + 1) = (l.map iR).take (l.length - 1) ++ [y] := fun y => zXR (by simp)
 refine enter Tryz.func34 L34_ok (zXs rfl) ?_
 repeat' (first | refine zXx (by omega) ?_ | refine zN (hB _) rfl ?_ | simp -implicitDefEqProofs (disch := omega) only [L34, zB, zF, hix, hr, hg, htK, hle1, ht1, zG5, zXw, zXF, zYD, push_cast, simprocAttr, ↓reduceIte, zXq])
 exact ⟨2, by simp, by simp [zYg, zY3, iR]⟩
theorem zJx (hw : wOk w) (h5 : 5 ≤ o) (h15 : o ≤ 15) (h0 : 2 ≤ l.length) (hl : l.length ≤ 1048576) (ha : inI w (l.getD (l.length - 2) default)) (hb : inI w (l.getD (l.length - 1) default)) (G : zC) {r ver : Nat} {rows : List (List AV)} (hg : G[r]? = some (.arr ver 1 rows)) (hrl : l.length ≤ rows.length) (hrn : rows.length ≤ 1048576) (hrt : rows.take l.length = l.map iR) :
  ACall Tryz.prog 34 [int w, int o, .os r ver 0 l.length] G (ApR w o l G) := by
 have hrg : r < G.length := (zXA.1 hg).1
 have htk : ∀ k, k ≤ l.length → rows.take k = (l.map iR).take k := fun k hk => by rw [← hrt, zZq, zYQ hk]
 have hrow : ∀ k, k < l.length → rows.getD k [] = [int (l.getD k default)] := fun k hk => by
  refine Eq.trans ?_ (zQ (enc := iR) hk)
  rw [← hrt]
  simp only [zXC, zX4, hk, if_true]
 have hX : opF w o l = if (zDH o w (l.getD (l.length - 2) default) (l.getD (l.length - 1) default)).2 = 0 then (l.take (l.length - 2) ++ [(zDH o w (l.getD (l.length - 2) default) (l.getD (l.length - 1) default)).1], 0) else (l.take (l.length - 2), (zDH o w (l.getD (l.length - 2) default) (l.getD (l.length - 1) default)).2) := by
  unfold opF; rw [if_neg (by omega), if_neg (by omega)]
 unfold ApR
 have hr := hrow (l.length - 1) (by omega)
 have hr2 := hrow (l.length - 2) (by omega)
 have hix : ((l.length : Int) - 1).toNat = l.length - 1 := by omega
 have hix2 : ((l.length : Int) - 2).toNat = l.length - 2 := by omega
 have hB := fun H => zXk hw h5 h15 ha hb H
 simp only [zGe] at hB
 generalize zDH o w (l.getD (l.length - 2) default) (l.getD (l.length - 1) default) = q at *
 have htK := htk (l.length - 2) (by omega)
 have hle1 : l.length - 1 ≤ rows.length := by omega
 have hle2 : l.length - 2 ≤ rows.length := by omega
 have ht1 : ((l.map iR).take (l.length - 2)).length = l.length - 2 := by simp
 have ht2 : ∀ y : List AV, ((l.map iR).take (l.length - 2) ++ [y]).take (l.length - 2 + 1) = (l.map iR).take (l.length - 2) ++ [y] := fun y => zXR (by simp)
 refine enter Tryz.func34 L34_ok (zXs rfl) ?_
 by_cases hq : q.2 = 0
 ·rw [hX, if_pos hq]
  rw [hq] at hB
  repeat' (first | refine zXx (by omega) ?_ | refine zN (zH2 h5 h15 _) rfl ?_ | refine zN (hB _) rfl ?_ | simp -implicitDefEqProofs (disch := omega) only [L34, zB, zF, hr2, hix2, hix, hr, hg, htK, hle2, ht1, zG5, zXw, zXF, zYD, zX, push_cast, simprocAttr, ↓reduceIte, zXq])
  exact ⟨2, by simp, by simp [zYg, zY3, iR]⟩
 ·rw [hX, if_neg hq]
  repeat' (first | refine zXx (by omega) ?_ | refine zN (zH2 h5 h15 _) rfl ?_ | refine zN (hB _) rfl ?_ | simp -implicitDefEqProofs (disch := omega) only [L34, zB, zF, hr2, hix2, hix, hr, hg, htK, hle2, ht1, zXw, zXF, zYD, zX, push_cast, simprocAttr, ↓reduceIte])
  exact ⟨1, by simp, by simp [zYg, zY3, iR]⟩
end
inductive SkO (G : zC) (N0 rs : Nat) : AV → List Int → Prop
 | nil : SkO G N0 rs zAg []
 | os (rt vt : Nat) (rows : List (List AV)) (stk : List Int) (n : Nat) (hn : n = stk.length) (hg : G[rt]? = some (.arr vt 1 rows)) (ht : rows.take n = stk.reverse.map iR) (hl : n ≤ rows.length) (hb : rows.length ≤ 400000) (h0 : N0 ≤ rt) (hne : ¬ rt = rs) : SkO G N0 rs (.os rt vt 0 n) stk
structure FR (G : zC) (N0 rf rs vs : Nat) (k : Int) (slots stk : List Int) (sk : AV) : Prop where
 f : G[rf]? = some (.box [int k, .os rs vs 0 slots.length, sk])
 s : G[rs]? = some (.arr vs 1 (slots.map iR))
 t : SkO G N0 rs sk stk
 nf : N0 ≤ rf
 ns : N0 ≤ rs
theorem zD {G : zC} {r : Nat} {x : HO} (h : G[r]? = some x) : r < G.length := (zXA.1 h).1
theorem zV {G : zC} {r q : Nat} {x y : HO} (h : G[r]? = some x) (h' : G[q]? = some y) (hxy : ¬ x = y) : ¬ r = q := fun e => by
 subst e; rw [h] at h'; exact hxy (by simpa using h')
structure Kp0 (N0 rf : Nat) (G G' : zC) : Prop where
 le : G.length ≤ G'.length
 keep : ∀ i, i < N0 → G'[i]? = G[i]?
 box : ∀ i c, ¬ i = rf → G[i]? = some (.box c) → G'[i]? = some (.box c)
structure KpX (N0 rx rf : Nat) (G G' : zC) : Prop where
 le : G.length ≤ G'.length
 keep : ∀ i, i < N0 → ¬ i = rx → G'[i]? = G[i]?
 box : ∀ i c, ¬ i = rx → ¬ i = rf → G[i]? = some (.box c) → G'[i]? = some (.box c)
section
variable {N0 rf rx r : Nat} {G G' G'' : zC}
theorem Kp0.refl : Kp0 N0 rf G G := ⟨zXL _, fun _ _ => rfl, fun _ _ _ h => h⟩
theorem Kp0.trans (h : Kp0 N0 rf G G') (h' : Kp0 N0 rf G' G'') : Kp0 N0 rf G G'' := ⟨zX3 h.1 h'.1, fun i hi => (h'.2 i hi).trans (h.2 i hi), fun i c hi hc => h'.3 i c hi (h.3 i c hi hc)⟩
theorem Kp0.x (h : Kp0 N0 rf G G') (rx : Nat) : KpX N0 rx rf G G' := ⟨h.1, fun i hi _ => h.2 i hi, fun i c _ hi hc => h.3 i c hi hc⟩
theorem KpX.refl : KpX N0 rx rf G G := ⟨zXL _, fun _ _ _ => rfl, fun _ _ _ _ h => h⟩
theorem KpX.trans (h : KpX N0 rx rf G G') (h' : KpX N0 rx rf G' G'') : KpX N0 rx rf G G'' := ⟨zX3 h.1 h'.1, fun i hi hx => (h'.2 i hi hx).trans (h.2 i hi hx), fun i c h1 h2 hc => h'.3 i c h1 h2 (h.3 i c h1 h2 hc)⟩
theorem KpX.set (h : KpX N0 rx rf G G') (x : HO) : KpX N0 rx rf G (G'.set rx x) := ⟨by simpa using h.1, fun i hi hx => by rw [zXy (fun e => hx e.symm)]; exact h.2 i hi hx, fun i c h1 h2 hc => by rw [zXy (fun e => h1 e.symm)]; exact h.3 i c h1 h2 hc⟩
theorem KpX.setx (x : HO) : KpX N0 rx rf G (G.set rx x) := KpX.refl.set x
theorem Kp0.setf (hr : N0 ≤ rf) (x : HO) : Kp0 N0 rf G (G.set rf x) := ⟨by simp, fun i hi => zXy (by omega), fun i c hi hc => by rw [zXy (fun e => hi e.symm)]; exact hc⟩
theorem Kp0.seta {v z : Nat} {l : List (List AV)} (hr : N0 ≤ r) (hg : G[r]? = some (.arr v z l)) (x : HO) : Kp0 N0 rf G (G.set r x) := ⟨by simp, fun i hi => zXy (by omega), fun i c hi hc => by rw [zXy (zV hg hc (by simp))]; exact hc⟩
theorem Kp0.app (hr : N0 ≤ G.length) (x : zC) : Kp0 N0 rf G (G ++ x) := ⟨by simp, fun i hi => zXu (by omega), fun i c hi hc => by rw [zXu (zD hc)]; exact hc⟩
theorem KpX.app (hr : N0 ≤ G.length) (x : zC) : KpX N0 rx rf G (G ++ x) := (Kp0.app hr x).x rx
end
theorem SkO.cons {G : zC} {N0 rs : Nat} {sk : AV} {v : Int} {stk : List Int} (h : SkO G N0 rs sk (v :: stk)) : ∃ (rt vt : Nat) (rows : List (List AV)), sk = .os rt vt 0 (stk.length + 1) ∧ G[rt]? = some (.arr vt 1 rows) ∧ rows.take (stk.length + 1) = stk.reverse.map iR ++ [[int v]] ∧ stk.length + 1 ≤ rows.length ∧ rows.length ≤ 400000 ∧ N0 ≤ rt ∧ ¬ rt = rs ∧
  rows.getD stk.length [] = [int v] ∧ rows.take stk.length = stk.reverse.map iR := by
 cases h with
 | os rt vt rows _ n hn hg ht hl hb h0 hne =>
  subst hn
  simp only [zXI, zYc, zYg, zYx, zZk] at ht hl
  refine ⟨rt, vt, rows, rfl, hg, ht, hl, hb, h0, hne, ?_, ?_⟩
  ·have e : rows.getD stk.length [] = (rows.take (stk.length + 1)).getD stk.length [] := by
    simp only [zXC, zX4, zZM, if_true]
   rw [e, ht, zXC, zXz (by simp)]
   simp [iR]
  ·have e : rows.take stk.length = (rows.take (stk.length + 1)).take stk.length := by rw [zZq, zYQ (by omega)]
   rw [e, ht, zZj (by simp), zXR (by simp)]
section
variable {G : zC} {N0 rf rs vs : Nat} {k v : Int} {slots stk : List Int} {sk : AV}
theorem zN3 (h : FR G N0 rf rs vs k slots (v :: stk) sk) : ACall Tryz.prog 230 [.ptr rf 0 0] G fun y G' => y = int v ∧ Kp0 N0 rf G G' ∧ ∃ sk', FR G' N0 rf rs vs k slots stk sk' := by
 obtain ⟨hf, hs, ht, nf, ns⟩ := h
 obtain ⟨rt, vt, rows, rfl, g1, g2, g3, g4, g5, g6, g7, g8⟩ := ht.cons
 have hft := zV g1 hf (by simp)
 have hfs := zV hs hf (by simp)
 have hrf := zD hf
 generalize hN : stk.length + 1 = N at *
 have hix : ((N : Int) - 1).toNat = stk.length := by omega
 refine enter Tryz.func230 L230_ok (zXs rfl) ?_
 repeat' (first | refine zXx (by omega) ?_ | simp -implicitDefEqProofs (disch := omega) only [L230, hf, g1, hix, g7, splice, zXF, zYD, zXv, zXw, push_cast, simprocAttr, ↓reduceIte, zXq])
 refine ⟨Kp0.setf nf _, .os rt vt 0 stk.length, ?_, ?_, ?_, nf, ns⟩
 ·rw [zXD hrf]
 ·rw [zXy (fun e => hfs e.symm)]; exact hs
 ·exact .os rt vt rows stk _ rfl (by rw [zXy (fun e => hft e.symm)]; exact g1) g8 (by omega) g4 g5 g6
theorem zQS (h : FR G N0 rf rs vs k slots stk sk) (hl : stk.length ≤ 300000) : ACall Tryz.prog 229 [.ptr rf 0 0, int v] G fun y G' => y = .tup [] ∧ Kp0 N0 rf G G' ∧ ∃ sk', FR G' N0 rf rs vs k slots (v :: stk) sk' := by
 obtain ⟨hf, hs, ht, nf, ns⟩ := h
 have hrf := zD hf
 have hrs := zD hs
 have hfs := zV hs hf (by simp)
 refine enter Tryz.func229 L229_ok (zXs rfl) ?_
 cases ht with
 | nil =>
  repeat' (simp -implicitDefEqProofs (disch := omega) only [L229, hf, zB, zG, splice, zXv, zXw, push_cast, simprocAttr, ↓reduceIte, zXq])
  refine ⟨by simp [zAO], by simp [zAO], (Kp0.setf nf _).trans (Kp0.app (by simp; omega) _), .os G.length 0 0 1, ?_, ?_, ?_, nf, ns⟩
  ·rw [zXu (by simpa using hrf), zXD hrf]
  ·rw [zXu (by simpa using hrs), zXy (fun e => hfs e.symm)]; exact hs
  ·exact .os G.length 0 [[int v]] [v] 1 rfl (zAs _ _ _) rfl (by simp) (by simp) (by omega) (by omega)
 | os rt vt rows _ n hn hg ht hlr hb h0 hne =>
  have hrt := zD hg
  have hft := zV hg hf (by simp)
  repeat' (first | refine zXx (by omega) ?_ | simp -implicitDefEqProofs (disch := omega) only [L229, hf, zH, hg, splice, zXv, zXw, push_cast, simprocAttr, ↓reduceIte, zXq])
  refine ⟨by simp [zAO], by simp [zAO], (Kp0.seta h0 hg _).trans (Kp0.setf nf _), .os rt (vt + 1) 0 (n + 1), ?_, ?_, ?_, nf, ns⟩
  ·rw [zXD (by simpa using hrf)]
  ·rw [zXy (fun e => hfs e.symm), zXy hne]; exact hs
  ·refine .os rt (vt + 1) (rows.take n ++ [[int v]]) (v :: stk) (n + 1) (by simp [hn]) ?_ ?_ ?_ ?_ h0 hne
   ·rw [zXy (fun e => hft e.symm), zXD hrt]
   ·rw [ht, zXR (by simp [hn])]; simp [iR]
   ·simp; omega
   ·simp; omega
end
theorem FR.mono {G G' : zC} {N0 rf rs vs : Nat} {k : Int} {slots stk : List Int} {sk : AV} (h : FR G N0 rf rs vs k slots stk sk) (hk : ∀ i, N0 ≤ i → i < G.length → G'[i]? = G[i]?) : FR G' N0 rf rs vs k slots stk sk := by
 obtain ⟨hf, hs, ht, nf, ns⟩ := h
 refine ⟨by rw [hk _ nf (zD hf)]; exact hf, by rw [hk _ ns (zD hs)]; exact hs, ?_, nf, ns⟩
 cases ht with
 | nil => exact .nil
 | os rt vt rows stk n hn hg ht hl hb h0 hne => exact .os rt vt rows stk n hn (by rw [hk _ h0 (zD hg)]; exact hg) ht hl hb h0 hne
abbrev RnB (C : Cx) (f p a cnt : Int) : HO := .box [zAM C.ps, int C.w, int C.L, int f, int p, int a, int cnt]
theorem zIl (C : Cx) (f0 p0 a0 f p a cnt : Int) (rx : Nat) (G : zC) (h : G[rx]? = some (RnB C f0 p0 a0 cnt)) : ACall Tryz.prog 136 [.ptr rx 0 0, int f, int p, int a] G fun y G' => y = .tup [] ∧ G' = G.set rx (RnB C f p a cnt) := by
 have hrx := zD h
 refine enter Tryz.func136 L136_ok (zXs rfl) ?_
 repeat' (simp -implicitDefEqProofs (disch := omega) only [L136, h, zI, zAB, splice, zXv, zXw, push_cast, simprocAttr, ↓reduceIte, zXq])
 simp [zAO, List.set_set]
structure StH (C : Cx) (N0 rx rf rs vs : Nat) (s : St) (G : zC) : Prop where
 rn : G[rx]? = some (RnB C 0 (-1) (-1) s.cnt)
 fr : ∃ sk, FR G N0 rf rs vs C.k s.slots s.stk sk
 hx : rx < N0
def StP (C : Cx) (N0 rx rf rs vs : Nat) (r : Flow × St) (y : AV) (G G' : zC) : Prop :=
 KpX N0 rx rf G G' ∧ match r with
  | (.go, s) => y = bool false ∧ StH C N0 rx rf rs vs s G'
  | (.ret, s) => y = bool true ∧ StH C N0 rx rf rs vs s G'
  | (.flt f p a, s) => y = bool false ∧ G'[rx]? = some (RnB C f p a s.cnt)
theorem zEn {C : Cx} {N0 rx rf rs vs : Nat} {G G' : zC} {r : Flow × St} {s' : St} {x : HO} {sk' : AV} (hr : r = (.go, s')) (hx : rx < N0) (hrx : rx < G.length) (hN : N0 ≤ G.length) (hk : Kp0 N0 rf (G.set rx (RnB C 0 (-1) (-1) s'.cnt) ++ [x]) G') (hf : FR G' N0 rf rs vs C.k s'.slots s'.stk sk') : StP C N0 rx rf rs vs r (bool false) G G' := by
 subst hr
 refine ⟨(((KpX.setx (rf := rf) (RnB C 0 (-1) (-1) s'.cnt)).trans (KpX.app (by simpa using hN) [x])).trans (hk.x rx)), rfl, ?_, ⟨_, hf⟩, hx⟩
 ·rw [hk.keep rx hx, zXu (by simpa using hrx), zXD hrx]
theorem zPY {C : Cx} {N0 rx rf rs vs : Nat} {G G' : zC} {r : Flow × St} {s' : St} {x : HO} {sk' : AV} (hr : r = (.ret, s')) (hx : rx < N0) (hrx : rx < G.length) (hN : N0 ≤ G.length) (hk : Kp0 N0 rf (G.set rx (RnB C 0 (-1) (-1) s'.cnt) ++ [x]) G') (hf : FR G' N0 rf rs vs C.k s'.slots s'.stk sk') : StP C N0 rx rf rs vs r (bool true) G G' := by
 subst hr
 refine ⟨(((KpX.setx (rf := rf) (RnB C 0 (-1) (-1) s'.cnt)).trans (KpX.app (by simpa using hN) [x])).trans (hk.x rx)), rfl, ?_, ⟨_, hf⟩, hx⟩
 ·rw [hk.keep rx hx, zXu (by simpa using hrx), zXD hrx]
theorem zEI {C : Cx} {N0 rx rf rs vs : Nat} {G G' : zC} {r : Flow × St} {f p a : Int} {s' : St} {x : HO} (hr : r = (.flt f p a, s')) (hx : rx < N0) (hrx : rx < G.length) (hN : N0 ≤ G.length) (hk : Kp0 N0 rf (G.set rx (RnB C 0 (-1) (-1) s'.cnt) ++ [x]) G') : StP C N0 rx rf rs vs r (bool false) G (G'.set rx (RnB C f p a s'.cnt)) := by
 subst hr
 refine ⟨((((KpX.setx (rf := rf) (RnB C 0 (-1) (-1) s'.cnt)).trans (KpX.app (by simpa using hN) [x])).trans (hk.x rx))).set _, rfl, ?_⟩
 ·rw [zXD]
  have := hk.le
  simp only [zXT, zXG, zXI, zX6] at this
  omega
theorem FR.put {G : zC} {N0 rf rs vs : Nat} {k : Int} {slots stk : List Int} {sk : AV} (h : FR G N0 rf rs vs k slots stk sk) (i : Nat) (v : Int) : FR (G.set rs (.arr vs 1 ((slots.map iR).set i [int v]))) N0 rf rs vs k (slots.set i v) stk sk := by
 obtain ⟨hf, hs, ht, nf, ns⟩ := h
 have hfs := zV hs hf (by simp)
 refine ⟨by rw [zXy hfs, zXG]; exact hf, by rw [zXD (zD hs), List.map_set]; rfl, ?_, nf, ns⟩
 cases ht with
 | nil => exact .nil
 | os rt vt rows stk n hn hg ht hl hb h0 hne => exact .os rt vt rows stk n hn (by rw [zXy (fun e => hne e.symm)]; exact hg) ht hl hb h0 hne
section
variable {C : Cx} {N0 rx rf rs vs : Nat} {slots stk : List Int} {cnt : Int} {G : zC} {a b num : Int} {bd el : List Ins}
abbrev zJ2 (o a b : Int) (bd el : List Ins) : AV := .agg [int o, int a, int b, .sl 5 (bd.map zAp), .sl 5 (el.map zAp)]
theorem zSV (ha : 0 ≤ a ∧ a ≤ 999999999) (h : StH C N0 rx rf rs vs ⟨slots, stk, cnt⟩ G) (hn : 0 ≤ num ∧ num ≤ 1000000) (hc : zM bd ≤ 1000000) (hN : N0 ≤ G.length) (hl : stk.length ≤ 300000) :
  ACall Tryz.prog 185 [.ptr rx 0 0, .ptr rf 0 0, zJ2 0 a b bd el, int num] G fun y G' => StP C N0 rx rf rs vs (exS C 0 a b num (St.tick ⟨slots, stk, cnt⟩)) y G G' := by
 obtain ⟨hrn, ⟨sk, hfr⟩, hx⟩ := h
 simp only at hrn hfr
 have hff := hfr.f
 have hss := hfr.s
 have nf := hfr.nf
 have ns := hfr.ns
 have hrx := zD hrn
 have hrf := zD hff
 have hrs := zD hss
 have hfs := zV hss hff (by simp)
 have hfr1 := fun x y => hfr.mono (G' := G.set rx x ++ [y]) fun i h1 h2 => by rw [zXu (by simpa using h2), zXy (by omega)]
 have hi : zBP a := by unfold zBP; omega
 refine enter Tryz.func185 L185_ok (zXs rfl) ?_
 repeat' (first | refine zA (zFr bd (by omega) _) ?_ | refine zA (zIM C.w a hi _) ?_ | simp -implicitDefEqProofs (disch := omega) only [L185, hrn, zB, zG, zI, zZ, zAs, zY, splice, zXv, zXw, push_cast, simprocAttr, ↓reduceIte, zXq])
 refine zL (zQS (hfr1 _ _) hl) ?_
 rintro _ G' ⟨rfl, hk, sk', hfr'⟩
 repeat' (simp -implicitDefEqProofs (disch := omega) only [push_cast])
 exact zEn (s' := ⟨slots, wrF C.w a :: stk, _⟩) rfl hx hrx hN hk hfr'
theorem zST (ha : 0 ≤ a ∧ a < slots.length) (h : StH C N0 rx rf rs vs ⟨slots, stk, cnt⟩ G) (hn : 0 ≤ num ∧ num ≤ 1000000) (hc : zM bd ≤ 1000000) (hN : N0 ≤ G.length) (hl : stk.length ≤ 300000) :
  ACall Tryz.prog 185 [.ptr rx 0 0, .ptr rf 0 0, zJ2 1 a b bd el, int num] G fun y G' => StP C N0 rx rf rs vs (exS C 1 a b num (St.tick ⟨slots, stk, cnt⟩)) y G G' := by
 obtain ⟨hrn, ⟨sk, hfr⟩, hx⟩ := h
 simp only at hrn hfr
 have hff := hfr.f
 have hss := hfr.s
 have nf := hfr.nf
 have ns := hfr.ns
 have hrx := zD hrn
 have hrf := zD hff
 have hrs := zD hss
 have hfs := zV hss hff (by simp)
 have hfr1 := fun x y => hfr.mono (G' := G.set rx x ++ [y]) fun i h1 h2 => by rw [zXu (by simpa using h2), zXy (by omega)]
 have hrow : (slots.map iR).getD a.toNat [] = [int (slots.getD a.toNat default)] := zQ (by omega)
 have hrow1 : List.drop 1 ((slots.map iR).getD a.toNat []) = [] := by rw [hrow]; rfl
 refine enter Tryz.func185 L185_ok (zXs rfl) ?_
 repeat' (first | refine zXx (by omega) ?_ | refine zA (zFr bd (by omega) _) ?_ | simp -implicitDefEqProofs (disch := omega) only [L185, hrn, hff, hss, hrow, zXF, zB, zG, zH, zZ, zAs, zY, splice, zXv, zXw, push_cast, simprocAttr, ↓reduceIte, zXq])
 refine zL (zQS (hfr1 _ _) hl) ?_
 rintro _ G' ⟨rfl, hk, sk', hfr'⟩
 repeat' (simp -implicitDefEqProofs (disch := omega) only [push_cast])
 exact zEn (s' := ⟨slots, slots.getD a.toNat default :: stk, _⟩) rfl hx hrx hN hk hfr'
theorem zSR (v : Int) (ha : 0 ≤ a ∧ a < slots.length) (h : StH C N0 rx rf rs vs ⟨slots, v :: stk, cnt⟩ G) (hn : 0 ≤ num ∧ num ≤ 1000000) (hc : zM bd ≤ 1000000) (hN : N0 ≤ G.length) (hl : stk.length ≤ 300000) :
  ACall Tryz.prog 185 [.ptr rx 0 0, .ptr rf 0 0, zJ2 2 a b bd el, int num] G fun y G' => StP C N0 rx rf rs vs (exS C 2 a b num (St.tick ⟨slots, v :: stk, cnt⟩)) y G G' := by
 obtain ⟨hrn, ⟨sk, hfr⟩, hx⟩ := h
 simp only at hrn hfr
 have hff := hfr.f
 have hss := hfr.s
 have nf := hfr.nf
 have ns := hfr.ns
 have hrx := zD hrn
 have hrf := zD hff
 have hrs := zD hss
 have hfs := zV hss hff (by simp)
 have hfr1 := fun x y => hfr.mono (G' := G.set rx x ++ [y]) fun i h1 h2 => by rw [zXu (by simpa using h2), zXy (by omega)]
 have hrow : (slots.map iR).getD a.toNat [] = [int (slots.getD a.toNat default)] := zQ (by omega)
 have hrow1 : List.drop 1 ((slots.map iR).getD a.toNat []) = [] := by rw [hrow]; rfl
 refine enter Tryz.func185 L185_ok (zXs rfl) ?_
 repeat' (first | refine zXx (by omega) ?_ | refine zA (zFr bd (by omega) _) ?_ | simp -implicitDefEqProofs (disch := omega) only [L185, hrn, hff, hss, zXF, zB, zG, zH, zZ, zAs, zY, splice, zXv, zXw, push_cast, simprocAttr, ↓reduceIte, zXq])
 refine zL (zN3 (hfr1 _ _)) ?_
 rintro _ G' ⟨rfl, hk, sk', hfr'⟩
 have hff' := hfr'.f
 have hss' := hfr'.s
 have hbb := hk.box G.length _ (by omega) (zAs _ _ _)
 repeat' (first | refine zXx (by omega) ?_ | simp -implicitDefEqProofs (disch := omega) only [hff', hss', hbb, hrow1, zXF, splice, zXv, zXw, push_cast, simprocAttr, ↓reduceIte, zXq])
 exact zEn (s' := ⟨slots.set a.toNat v, stk, _⟩) rfl hx hrx hN (hk.trans (Kp0.seta ns hss' _)) (hfr'.put a.toNat v)
theorem zSP (i : Int) (ha : 0 ≤ a ∧ a < slots.length) (hb : 1 ≤ b ∧ b ≤ slots.length - a) (hs : slots.length ≤ 1024) (hii : -1000 ≤ i ∧ i ≤ 1000) (h : StH C N0 rx rf rs vs ⟨slots, i :: stk, cnt⟩ G) (hn : 0 ≤ num ∧ num ≤ 1000000) (hc : zM bd ≤ 1000000) (hN : N0 ≤ G.length) (hl : stk.length ≤ 300000) :
  ACall Tryz.prog 185 [.ptr rx 0 0, .ptr rf 0 0, zJ2 3 a b bd el, int num] G fun y G' => StP C N0 rx rf rs vs (exS C 3 a b num (St.tick ⟨slots, i :: stk, cnt⟩)) y G G' := by
 obtain ⟨hrn, ⟨sk, hfr⟩, hx⟩ := h
 simp only at hrn hfr
 have hff := hfr.f
 have hss := hfr.s
 have nf := hfr.nf
 have ns := hfr.ns
 have hrx := zD hrn
 have hrf := zD hff
 have hrs := zD hss
 have hfs := zV hss hff (by simp)
 have hfr1 := fun x y => hfr.mono (G' := G.set rx x ++ [y]) fun i h1 h2 => by rw [zXu (by simpa using h2), zXy (by omega)]
 refine enter Tryz.func185 L185_ok (zXs rfl) ?_
 repeat' (first | refine zA (zFr bd (by omega) _) ?_ | simp -implicitDefEqProofs (disch := omega) only [L185, hrn, zXF, zB, zG, zAs, zY, splice, zXv, zXw, push_cast, simprocAttr, ↓reduceIte, zXq])
 refine zL (zN3 (hfr1 _ _)) ?_
 rintro _ G' ⟨rfl, hk, sk', hfr'⟩
 have hff' := hfr'.f
 have hss' := hfr'.s
 have hbb := hk.box G.length _ (by omega) (zAs _ _ _)
 have hrn' : G'[rx]? = some (RnB C 0 (-1) (-1) (IntKind.i64.wrap (cnt + 1))) := by rw [hk.keep rx hx, zXu (by simpa using hrx), zXD hrx]
 by_cases h1 : i < 0
 ·repeat' (simp -implicitDefEqProofs (disch := omega) only [hff', zXw, zO, push_cast, simprocAttr, ↓reduceIte])
  refine zL (zIl C _ _ _ _ _ _ _ _ _ hrn') ?_
  rintro _ G2 ⟨rfl, rfl⟩
  repeat' (simp -implicitDefEqProofs (disch := omega) only [push_cast])
  exact zEI (s' := ⟨slots, i :: stk, _⟩) (by simp only [exS, St.tick, St.top, zYt, h1, true_or, if_true]; rfl) hx hrx hN hk
 ·by_cases h2 : b ≤ i
  ·repeat' (simp -implicitDefEqProofs (disch := omega) only [hff', hbb, zXv, zXw, zT, zAd, push_cast, simprocAttr, ↓reduceIte])
   refine zL (zIl C _ _ _ _ _ _ _ _ _ hrn') ?_
   rintro _ G2 ⟨rfl, rfl⟩
   repeat' (simp -implicitDefEqProofs (disch := omega) only [push_cast])
   exact zEI (s' := ⟨slots, i :: stk, _⟩) (by simp only [exS, St.tick, St.top, zYt, h2, or_true, if_true]; rfl) hx hrx hN hk
  ·have hrow : (slots.map iR).getD (a + i).toNat [] = [int (slots.getD (a + i).toNat default)] := zQ (by omega)
   repeat' (first | refine zXx (by omega) ?_ | simp -implicitDefEqProofs (disch := omega) only [hff', hss', hbb, hrow, zXF, zXv, zXw, zT, zAn, push_cast, simprocAttr, ↓reduceIte])
   refine zL (zQS hfr' hl) ?_
   rintro _ G2 ⟨rfl, hk2, sk2, hfr2⟩
   repeat' (simp -implicitDefEqProofs (disch := omega) only [push_cast])
   exact zEn (s' := ⟨slots, slots.getD (a + i).toNat default :: stk, _⟩) (by simp only [exS, St.tick, St.top, St.pop, St.push, zYt, zYG, h1, h2, or_self, if_false]; rfl) hx hrx hN (hk.trans hk2) hfr2
theorem zSN (v i : Int) (ha : 0 ≤ a ∧ a < slots.length) (hb : 1 ≤ b ∧ b ≤ slots.length - a) (hs : slots.length ≤ 1024) (hii : -1000 ≤ i ∧ i ≤ 1000) (h : StH C N0 rx rf rs vs ⟨slots, v :: i :: stk, cnt⟩ G) (hn : 0 ≤ num ∧ num ≤ 1000000) (hc : zM bd ≤ 1000000) (hN : N0 ≤ G.length) (hl : stk.length ≤ 300000) :
  ACall Tryz.prog 185 [.ptr rx 0 0, .ptr rf 0 0, zJ2 4 a b bd el, int num] G fun y G' => StP C N0 rx rf rs vs (exS C 4 a b num (St.tick ⟨slots, v :: i :: stk, cnt⟩)) y G G' := by
 obtain ⟨hrn, ⟨sk, hfr⟩, hx⟩ := h
 simp only at hrn hfr
 have hff := hfr.f
 have hss := hfr.s
 have nf := hfr.nf
 have ns := hfr.ns
 have hrx := zD hrn
 have hrf := zD hff
 have hrs := zD hss
 have hfs := zV hss hff (by simp)
 have hfr1 := fun x y => hfr.mono (G' := G.set rx x ++ [y]) fun i h1 h2 => by rw [zXu (by simpa using h2), zXy (by omega)]
 refine enter Tryz.func185 L185_ok (zXs rfl) ?_
 repeat' (first | refine zA (zFr bd (by omega) _) ?_ | simp -implicitDefEqProofs (disch := omega) only [L185, hrn, zXF, zB, zG, zAs, zY, splice, zXv, zXw, push_cast, simprocAttr, ↓reduceIte, zXq])
 refine zL (zN3 (hfr1 _ _)) ?_
 rintro _ G0 ⟨rfl, hk0, sk0, hfr0⟩
 repeat' (simp -implicitDefEqProofs (disch := omega) only [push_cast, simprocAttr, ↓reduceIte])
 refine zL (zN3 hfr0) ?_
 rintro _ G' ⟨rfl, hk1, sk', hfr'⟩
 have hk := hk0.trans hk1
 have hff' := hfr'.f
 have hss' := hfr'.s
 have hbb := hk.box G.length _ (by omega) (zAs _ _ _)
 have hrn' : G'[rx]? = some (RnB C 0 (-1) (-1) (IntKind.i64.wrap (cnt + 1))) := by rw [hk.keep rx hx, zXu (by simpa using hrx), zXD hrx]
 by_cases h1 : i < 0
 ·repeat' (simp -implicitDefEqProofs (disch := omega) only [hff', zXw, zO, push_cast, simprocAttr, ↓reduceIte])
  refine zL (zIl C _ _ _ _ _ _ _ _ _ hrn') ?_
  rintro _ G2 ⟨rfl, rfl⟩
  repeat' (simp -implicitDefEqProofs (disch := omega) only [push_cast])
  exact zEI (s' := ⟨slots, v :: i :: stk, _⟩) (by simp only [exS, St.tick, St.pop, St.top, zYG, zYt, h1, true_or, if_true]; rfl) hx hrx hN hk
 ·by_cases h2 : b ≤ i
  ·repeat' (simp -implicitDefEqProofs (disch := omega) only [hff', hbb, zXv, zXw, zT, zAd, push_cast, simprocAttr, ↓reduceIte])
   refine zL (zIl C _ _ _ _ _ _ _ _ _ hrn') ?_
   rintro _ G2 ⟨rfl, rfl⟩
   repeat' (simp -implicitDefEqProofs (disch := omega) only [push_cast])
   exact zEI (s' := ⟨slots, v :: i :: stk, _⟩) (by simp only [exS, St.tick, St.pop, St.top, zYG, zYt, h2, or_true, if_true]; rfl) hx hrx hN hk
  ·have hrow : (slots.map iR).getD (a + i).toNat [] = [int (slots.getD (a + i).toNat default)] := zQ (by omega)
   have hrow1 : List.drop 1 ((slots.map iR).getD (a + i).toNat []) = [] := by rw [hrow]; rfl
   repeat' (first | refine zXx (by omega) ?_ | simp -implicitDefEqProofs (disch := omega) only [hff', hss', hbb, hrow1, zXF, splice, zXv, zXw, zT, zAn, push_cast, simprocAttr, ↓reduceIte, zXq])
   exact zEn (s' := ⟨slots.set (a + i).toNat v, stk, _⟩) (by simp only [exS, St.tick, St.top, St.pop, St.put, zYt, zYG, h1, h2, or_self, if_false]; rfl) hx hrx hN (hk.trans (Kp0.seta ns hss' _)) (hfr'.put (a + i).toNat v)
theorem zP4 (h : StH C N0 rx rf rs vs ⟨slots, stk, cnt⟩ G) (hn : 0 ≤ num ∧ num ≤ 1000000) (hc : zM bd ≤ 1000000) (hN : N0 ≤ G.length) (hl : stk.length ≤ 300000) :
  ACall Tryz.prog 185 [.ptr rx 0 0, .ptr rf 0 0, zJ2 21 a b bd el, int num] G fun y G' => StP C N0 rx rf rs vs (exS C 21 a b num (St.tick ⟨slots, stk, cnt⟩)) y G G' := by
 obtain ⟨hrn, ⟨sk, hfr⟩, hx⟩ := h
 simp only at hrn hfr
 have hff := hfr.f
 have hss := hfr.s
 have nf := hfr.nf
 have ns := hfr.ns
 have hrx := zD hrn
 have hrf := zD hff
 have hrs := zD hss
 have hfs := zV hss hff (by simp)
 have hfr1 := fun x y => hfr.mono (G' := G.set rx x ++ [y]) fun i h1 h2 => by rw [zXu (by simpa using h2), zXy (by omega)]
 refine enter Tryz.func185 L185_ok (zXs rfl) ?_
 repeat' (first | refine zA (zFr bd (by omega) _) ?_ | simp -implicitDefEqProofs (disch := omega) only [L185, hrn, zB, zG, zAs, zY, splice, zXv, zXw, push_cast, simprocAttr, ↓reduceIte, zXq])
 exact zPY (s' := ⟨slots, stk, _⟩) rfl hx hrx hN Kp0.refl (hfr1 _ _)
theorem zP2 (v : Int) (h : StH C N0 rx rf rs vs ⟨slots, v :: stk, cnt⟩ G) (hn : 0 ≤ num ∧ num ≤ 1000000) (hc : zM bd ≤ 1000000) (hN : N0 ≤ G.length) (hl : stk.length ≤ 300000) :
  ACall Tryz.prog 185 [.ptr rx 0 0, .ptr rf 0 0, zJ2 22 a b bd el, int num] G fun y G' => StP C N0 rx rf rs vs (exS C 22 a b num (St.tick ⟨slots, v :: stk, cnt⟩)) y G G' := by
 obtain ⟨hrn, ⟨sk, hfr⟩, hx⟩ := h
 simp only at hrn hfr
 have hff := hfr.f
 have hss := hfr.s
 have nf := hfr.nf
 have ns := hfr.ns
 have hrx := zD hrn
 have hrf := zD hff
 have hrs := zD hss
 have hfs := zV hss hff (by simp)
 have hfr1 := fun x y => hfr.mono (G' := G.set rx x ++ [y]) fun i h1 h2 => by rw [zXu (by simpa using h2), zXy (by omega)]
 refine enter Tryz.func185 L185_ok (zXs rfl) ?_
 repeat' (first | refine zA (zFr bd (by omega) _) ?_ | simp -implicitDefEqProofs (disch := omega) only [L185, hrn, zB, zG, zAs, zY, splice, zXv, zXw, push_cast, simprocAttr, ↓reduceIte, zXq])
 refine zL (zN3 (hfr1 _ _)) ?_
 rintro _ G' ⟨rfl, hk, sk', hfr'⟩
 have hff' := hfr'.f
 have hrn' : G'[rx]? = some (RnB C 0 (-1) (-1) (IntKind.i64.wrap (cnt + 1))) := by rw [hk.keep rx hx, zXu (by simpa using hrx), zXD hrx]
 by_cases h1 : v = 0
 ·repeat' (simp -implicitDefEqProofs (disch := omega) only [hff', zXw, zAi, push_cast, simprocAttr, ↓reduceIte])
  refine zL (zIl C _ _ _ _ _ _ _ _ _ hrn') ?_
  rintro _ G2 ⟨rfl, rfl⟩
  repeat' (simp -implicitDefEqProofs (disch := omega) only [push_cast])
  exact zEI (s' := ⟨slots, v :: stk, _⟩) (by simp only [exS, St.tick, St.top, zYt, h1, if_true]; rfl) hx hrx hN hk
 ·repeat' (simp -implicitDefEqProofs (disch := omega) only [zX, push_cast, ↓reduceIte])
  exact zEn (s' := ⟨slots, stk, _⟩) (by simp only [exS, St.tick, St.top, St.pop, zYt, zYG, h1, if_false]; rfl) hx hrx hN hk hfr'
end
theorem zDz (x : Int) (st : List Int) : (x :: st).reverse.getD ((x :: st).reverse.length - 1) default = x := by
 rw [zXS, zXI, zYc, zXC, zXz (by simp)]
 simp
theorem zIf (y x : Int) (st : List Int) : (y :: x :: st).reverse.getD ((y :: x :: st).reverse.length - 2) default = x := by
 rw [zXS, zXI, zXI, zYc, zYc, zYm, zXC, zXz (by simp)]
 simp
theorem zHR (x : Int) (st : List Int) : (x :: st).reverse.take ((x :: st).reverse.length - 1) = st.reverse := by
 rw [zXS, zXI, zYc, zZj (by simp), zXR (by simp)]
theorem zLu (y x : Int) (st : List Int) : (y :: x :: st).reverse.take ((y :: x :: st).reverse.length - 2) = st.reverse := by
 rw [zXS, zXI, zXI, zYc, zYc, zYm, zZj (by simp), zXR (by simp)]
theorem zQ4 (w x : Int) (st : List Int) : opF w 16 (x :: st).reverse = ((wrF w (-x) :: st).reverse, 0) := by
 unfold opF; rw [if_pos rfl, zDz, zHR, zYc]
theorem zQ3 (w x : Int) (st : List Int) : opF w 17 (x :: st).reverse = (((if x = 0 then 1 else 0) :: st).reverse, 0) := by
 unfold opF; rw [if_neg (by decide), if_pos rfl, zDz, zHR, zYc]
theorem zQ5 (w o y x : Int) (st : List Int) (h : o ≤ 15) : opF w o (y :: x :: st).reverse = if (zDH o w x y).2 = 0 then (((zDH o w x y).1 :: st).reverse, 0) else (st.reverse, (zDH o w x y).2) := by
 unfold opF; rw [if_neg (by omega), if_neg (by omega), zDz, zIf, zLu, zYc]
theorem FR.newt {G : zC} {N0 rf rs vs v : Nat} {k : Int} {slots stk stk' : List Int} {sk : AV} (h : FR G N0 rf rs vs k slots stk sk) (hN : N0 ≤ G.length) (hl : stk'.length ≤ 400000) :
  FR ((G ++ [HO.arr v 1 (stk'.reverse.map iR)]).set rf (.box [int k, .os rs vs 0 slots.length, .os G.length v 0 stk'.length])) N0 rf rs vs k slots stk' (.os G.length v 0 stk'.length) := by
 obtain ⟨hf, hs, ht, nf, ns⟩ := h
 have hrf := zD hf
 have hrs := zD hs
 have hfs := zV hs hf (by simp)
 refine ⟨?_, ?_, ?_, nf, ns⟩
 ·rw [zXD (by simp; omega)]
 ·rw [zXy (fun e => hfs e.symm), zXu hrs]; exact hs
 ·refine .os G.length v (stk'.reverse.map iR) stk' _ rfl ?_ ?_ (by simp) (by simpa using hl) hN (by omega)
  ·rw [zXy (by omega), zXz (zXL _), zZl]; rfl
  ·rw [zXR (by simp)]
theorem zL9 {G : zC} {rx rf : Nat} (hrf : rf < G.length) (x y z w : HO) : (G.set rx x ++ [y] ++ [z]).set rf w = (G.set rx x).set rf w ++ [y, z] := by
 rw [zYm, zY6 _ _ (by simpa using hrf)]; rfl
theorem FR.newt2 {G : zC} {N0 rx rf rs vs v m : Nat} {k : Int} {slots stk stk' : List Int} {sk : AV} {x y : HO} (h : FR (G.set rx x ++ [y]) N0 rf rs vs k slots stk sk) (hrf : rf < G.length) (hN : N0 ≤ G.length) (hl : stk'.length ≤ 400000) (hm : m = stk'.length) :
  FR ((G.set rx x).set rf (.box [int k, .os rs vs 0 slots.length, .os (G.length + 1) v 0 m]) ++ [y, .arr v 1 (stk'.reverse.map iR)]) N0 rf rs vs k slots stk' (.os (G.length + 1) v 0 m) := by
 subst hm
 have := h.newt (v := v) (stk' := stk') (by simp; omega) hl
 rw [zL9 hrf] at this
 simpa using this
theorem zHg {G : zC} {N0 rx rf : Nat} (hrf : rf < G.length) (nf : N0 ≤ rf) (x y z w : HO) : Kp0 N0 rf (G.set rx x ++ [y]) ((G.set rx x).set rf w ++ [y, z]) := by
 rw [← zL9 hrf]
 exact (Kp0.app (by simp; omega) _).trans (Kp0.setf nf _)
section
variable {C : Cx} {N0 rx rf rs vs : Nat} {slots stk : List Int} {cnt : Int} {G : zC} {a b num : Int} {bd el : List Ins}
theorem zQe (v : Int) (hw : wOk C.w) (hv : inI C.w v) (h : StH C N0 rx rf rs vs ⟨slots, v :: stk, cnt⟩ G) (hn : 0 ≤ num ∧ num ≤ 1000000) (hc : zM bd ≤ 1000000) (hN : N0 ≤ G.length) (hl : stk.length ≤ 300000) :
  ACall Tryz.prog 185 [.ptr rx 0 0, .ptr rf 0 0, zJ2 16 a b bd el, int num] G fun y G' => StP C N0 rx rf rs vs (exS C 16 a b num (St.tick ⟨slots, v :: stk, cnt⟩)) y G G' := by
 obtain ⟨hrn, ⟨sk, hfr⟩, hx⟩ := h
 simp only at hrn hfr
 have hff := hfr.f
 have hss := hfr.s
 have nf := hfr.nf
 have ns := hfr.ns
 have hrx := zD hrn
 have hrf := zD hff
 have hrs := zD hss
 have hfs := zV hss hff (by simp)
 have hfr1 := fun x y => hfr.mono (G' := G.set rx x ++ [y]) fun i h1 h2 => by rw [zXu (by simpa using h2), zXy (by omega)]
 have hlen : (v :: stk).reverse.length = (v :: stk).length := zXS
 obtain ⟨rt, vt, rows, n, rfl, hg, hnn, hlr, hbb, ht, h0⟩ : ∃ (rt vt : Nat) (rows : List (List AV)) (n : Nat), sk = .os rt vt 0 n ∧ (∀ x y, (G.set rx x ++ [y])[rt]? = some (.arr vt 1 rows)) ∧ n = (v :: stk).reverse.length ∧ n ≤ rows.length ∧ rows.length ≤ 400000 ∧ rows.take n = (v :: stk).reverse.map iR ∧ rt < G.length := by
  cases hfr.t with
  | os rt vt rows _ n hn hg ht hl hb h0 hne => exact ⟨rt, vt, rows, n, rfl, fun x y => by rw [zXu (by simpa using zD hg), zXy (by omega)]; exact hg, by rw [hlen]; exact hn, hl, hb, ht, zD hg⟩
 subst hnn
 have hcon : ∀ x y, ACall Tryz.prog 34 [int C.w, int 16, .os rt vt 0 (v :: stk).reverse.length] (G.set rx x ++ [y]) (ApR C.w 16 (v :: stk).reverse (G.set rx x ++ [y])) := fun x y => zJw hw (by simp) (by simp; omega) (by rw [zDz]; exact hv) _ (hg x y) hlr (by omega) ht
 unfold ApR at hcon
 simp only [zQ4, zXS, zXI, zXT, zXG, zX6, zXF] at hcon
 refine enter Tryz.func185 L185_ok (zXs rfl) ?_
 repeat' (first | refine zA (zFr bd (by omega) _) ?_ | simp -implicitDefEqProofs (disch := omega) only [L185, hrn, hff, zB, zG, zH, zI, zZ, zAs, zY, splice, zXv, zXw, zXS, push_cast, simprocAttr, ↓reduceIte, zXq])
 refine zL (hcon _ _) ?_
 rintro _ G' ⟨ver, rfl, rfl⟩
 repeat' (simp -implicitDefEqProofs (disch := omega) only [hff, zH, zZ, zU, splice, zXv, zXw, zXS, push_cast, simprocAttr, ↓reduceIte, zXq])
 exact zEn (s' := ⟨slots, wrF C.w (-v) :: stk, _⟩) rfl hx hrx hN (zHg hrf nf _ _ _ _) ((hfr1 _ _).newt2 hrf hN (by simp; omega) rfl)
theorem zQc (v : Int) (h : StH C N0 rx rf rs vs ⟨slots, v :: stk, cnt⟩ G) (hn : 0 ≤ num ∧ num ≤ 1000000) (hc : zM bd ≤ 1000000) (hN : N0 ≤ G.length) (hl : stk.length ≤ 300000) :
  ACall Tryz.prog 185 [.ptr rx 0 0, .ptr rf 0 0, zJ2 17 a b bd el, int num] G fun y G' => StP C N0 rx rf rs vs (exS C 17 a b num (St.tick ⟨slots, v :: stk, cnt⟩)) y G G' := by
 obtain ⟨hrn, ⟨sk, hfr⟩, hx⟩ := h
 simp only at hrn hfr
 have hff := hfr.f
 have hss := hfr.s
 have nf := hfr.nf
 have ns := hfr.ns
 have hrx := zD hrn
 have hrf := zD hff
 have hrs := zD hss
 have hfs := zV hss hff (by simp)
 have hfr1 := fun x y => hfr.mono (G' := G.set rx x ++ [y]) fun i h1 h2 => by rw [zXu (by simpa using h2), zXy (by omega)]
 have hlen : (v :: stk).reverse.length = (v :: stk).length := zXS
 obtain ⟨rt, vt, rows, n, rfl, hg, hnn, hlr, hbb, ht, h0⟩ : ∃ (rt vt : Nat) (rows : List (List AV)) (n : Nat), sk = .os rt vt 0 n ∧ (∀ x y, (G.set rx x ++ [y])[rt]? = some (.arr vt 1 rows)) ∧ n = (v :: stk).reverse.length ∧ n ≤ rows.length ∧ rows.length ≤ 400000 ∧ rows.take n = (v :: stk).reverse.map iR ∧ rt < G.length := by
  cases hfr.t with
  | os rt vt rows _ n hn hg ht hl hb h0 hne => exact ⟨rt, vt, rows, n, rfl, fun x y => by rw [zXu (by simpa using zD hg), zXy (by omega)]; exact hg, by rw [hlen]; exact hn, hl, hb, ht, zD hg⟩
 subst hnn
 have hcon : ∀ x y, ACall Tryz.prog 34 [int C.w, int 17, .os rt vt 0 (v :: stk).reverse.length] (G.set rx x ++ [y]) (ApR C.w 17 (v :: stk).reverse (G.set rx x ++ [y])) := fun x y => zJv (by simp) (by simp; omega) _ (hg x y) hlr (by omega) ht
 unfold ApR at hcon
 simp only [zQ3, zXS, zXI, zXT, zXG, zX6, zXF] at hcon
 have hex : exS C 17 a b num (St.tick ⟨slots, v :: stk, cnt⟩) = (.go, ⟨slots, (if v = 0 then 1 else 0) :: stk, IntKind.i64.wrap (cnt + 1)⟩) := rfl
 rw [hex]
 generalize (if v = 0 then (1 : Int) else 0) = u at *
 refine enter Tryz.func185 L185_ok (zXs rfl) ?_
 repeat' (first | refine zA (zFr bd (by omega) _) ?_ | simp -implicitDefEqProofs (disch := omega) only [L185, hrn, hff, zB, zG, zH, zI, zZ, zAs, zY, splice, zXv, zXw, zXS, push_cast, simprocAttr, ↓reduceIte, zXq])
 refine zL (hcon _ _) ?_
 rintro _ G' ⟨ver, rfl, rfl⟩
 repeat' (simp -implicitDefEqProofs (disch := omega) only [hff, zH, zZ, zU, splice, zXv, zXw, zXS, push_cast, simprocAttr, ↓reduceIte, zXq])
 exact zEn (s' := ⟨slots, u :: stk, _⟩) rfl hx hrx hN (zHg hrf nf _ _ _ _) ((hfr1 _ _).newt2 hrf hN (by simp; omega) rfl)
theorem zSL {o : Int} (v2 v1 : Int) (hw : wOk C.w) (h5 : 5 ≤ o) (h15 : o ≤ 15) (hv1 : inI C.w v1) (hv2 : inI C.w v2) (h : StH C N0 rx rf rs vs ⟨slots, v2 :: v1 :: stk, cnt⟩ G) (hn : 0 ≤ num ∧ num ≤ 1000000) (hc : zM bd ≤ 1000000) (hN : N0 ≤ G.length) (hl : stk.length ≤ 300000) :
  ACall Tryz.prog 185 [.ptr rx 0 0, .ptr rf 0 0, zJ2 o a b bd el, int num] G fun y G' => StP C N0 rx rf rs vs (exS C o a b num (St.tick ⟨slots, v2 :: v1 :: stk, cnt⟩)) y G G' := by
 obtain ⟨hrn, ⟨sk, hfr⟩, hx⟩ := h
 simp only at hrn hfr
 have hff := hfr.f
 have hss := hfr.s
 have nf := hfr.nf
 have ns := hfr.ns
 have hrx := zD hrn
 have hrf := zD hff
 have hrs := zD hss
 have hfs := zV hss hff (by simp)
 have hfr1 := fun x y => hfr.mono (G' := G.set rx x ++ [y]) fun i h1 h2 => by rw [zXu (by simpa using h2), zXy (by omega)]
 have hlen : (v2 :: v1 :: stk).reverse.length = (v2 :: v1 :: stk).length := zXS
 obtain ⟨rt, vt, rows, n, rfl, hg, hnn, hlr, hbb, ht, h0⟩ : ∃ (rt vt : Nat) (rows : List (List AV)) (n : Nat), sk = .os rt vt 0 n ∧ (∀ x y, (G.set rx x ++ [y])[rt]? = some (.arr vt 1 rows)) ∧ n = (v2 :: v1 :: stk).reverse.length ∧ n ≤ rows.length ∧ rows.length ≤ 400000 ∧ rows.take n = (v2 :: v1 :: stk).reverse.map iR ∧ rt < G.length := by
  cases hfr.t with
  | os rt vt rows _ n hn hg ht hl hb h0 hne => exact ⟨rt, vt, rows, n, rfl, fun x y => by rw [zXu (by simpa using zD hg), zXy (by omega)]; exact hg, by rw [hlen]; exact hn, hl, hb, ht, zD hg⟩
 subst hnn
 have hcon : ∀ x y, ACall Tryz.prog 34 [int C.w, int o, .os rt vt 0 (v2 :: v1 :: stk).reverse.length] (G.set rx x ++ [y]) (ApR C.w o (v2 :: v1 :: stk).reverse (G.set rx x ++ [y])) := fun x y => zJx hw h5 h15 (by simp) (by simp; omega) (by rw [zIf]; exact hv1) (by rw [zDz]; exact hv2) _ (hg x y) hlr (by omega) ht
 unfold ApR at hcon
 rw [show opF C.w o (v2 :: v1 :: stk).reverse = _ from zQ5 C.w o v2 v1 stk h15] at hcon
 have hex : exS C o a b num (St.tick ⟨slots, v2 :: v1 :: stk, cnt⟩) = zRU C num (St.tick ⟨slots, v2 :: v1 :: stk, cnt⟩) (zDH o C.w v1 v2) := by
  unfold exS
  repeat rw [if_neg (by omega)]
  rfl
 rw [hex]
 unfold zRU
 generalize zDH o C.w v1 v2 = q at *
 by_cases hq : q.2 = 0
 ·rw [if_pos hq] at hcon ⊢
  simp only [zXS, zXI, zXT, zXG, zX6, zXF] at hcon
  refine enter Tryz.func185 L185_ok (zXs rfl) ?_
  repeat' (first | refine zA (zFr bd (by omega) _) ?_ | simp -implicitDefEqProofs (disch := omega) only [L185, hrn, hff, zB, zG, zH, zI, zZ, zAs, zY, splice, zXv, zXw, zXS, zAd, zX, push_cast, simprocAttr, ↓reduceIte, zXq])
  refine zL (hcon _ _) ?_
  rintro _ G' ⟨ver, rfl, rfl⟩
  repeat' (simp -implicitDefEqProofs (disch := omega) only [hff, zH, zZ, zU, splice, zXv, zXw, zXS, push_cast, simprocAttr, ↓reduceIte, zXq])
  exact zEn (s' := ⟨slots, q.1 :: stk, _⟩) rfl hx hrx hN (zHg hrf nf _ _ _ _) ((hfr1 _ _).newt2 hrf hN (by simp; omega) rfl)
 ·rw [if_neg hq] at hcon ⊢
  simp only [zXS, zXI, zXT, zXG, zX6, zXF] at hcon
  refine enter Tryz.func185 L185_ok (zXs rfl) ?_
  repeat' (first | refine zA (zFr bd (by omega) _) ?_ | simp -implicitDefEqProofs (disch := omega) only [L185, hrn, hff, zB, zG, zH, zI, zZ, zAs, zY, splice, zXv, zXw, zXS, zAd, zX, push_cast, simprocAttr, ↓reduceIte, zXq])
  refine zL (hcon _ _) ?_
  rintro _ G' ⟨ver, rfl, rfl⟩
  repeat' (simp -implicitDefEqProofs (disch := omega) only [hff, zH, zZ, zU, zAB, zAv, splice, zXv, zXw, zXS, zX, push_cast, simprocAttr, ↓reduceIte, zXq])
  refine zL (zIl C 0 (-1) (-1) _ _ _ _ _ _ (by rw [zXu (by simpa using hrx), zXy (by omega), zXD hrx])) ?_
  rintro _ G2 ⟨rfl, rfl⟩
  repeat' (simp -implicitDefEqProofs (disch := omega) only [push_cast, Int.reduceNeg])
  exact zEI rfl hx hrx hN (zHg hrf nf _ _ _ _)
end
def lsP (C : Cx) (l : List Ins) : Prop := ∀ (num base h h' lev : Int) (out : Bool) (N0 rx rf rs vs : Nat) (s : St) (G : zC), zBl C.ps C.k l out h = some h' → 0 ≤ h → h ≤ 1024 → 0 ≤ base → (out = true → base = 0) → TyS C s (base + h) →
 base ≤ 1024 * lev → 1 ≤ lev → lev + zAy l ≤ 257 → 0 ≤ num → num + zM l ≤ 32768 → StH C N0 rx rf rs vs s G → N0 ≤ G.length →
 ACall Tryz.prog 135 [.ptr rx 0 0, .ptr rf 0 0, .sl 5 (l.map zAp), int num] G fun y G' => StP C N0 rx rf rs vs (exL C l num s) y G G'
theorem StP.kp {C : Cx} {N0 rx rf rs vs : Nat} {r : Flow × St} {y : AV} {G G1 G2 : zC} (hk : KpX N0 rx rf G G1) (h : StP C N0 rx rf rs vs r y G1 G2) : StP C N0 rx rf rs vs r y G G2 := ⟨hk.trans h.1, h.2⟩
theorem zLR {N0 rx rf : Nat} {G : zC} (hN : N0 ≤ G.length) (x y : HO) : KpX N0 rx rf G (G.set rx x ++ [y]) := (KpX.setx x).trans (KpX.app (by simpa using hN) [y])
section
variable {c b : St → Flow × St} {k num : Int} {n : Nat} {s s1 s3 : St}
theorem zPm {x y z : Int} (hc : c s = (.flt x y z, s1)) : zBL c b k num n s = (.flt x y z, s1) := by
 cases n <;> (unfold zBL; simp only [hc])
theorem zMg (hc : c s = (.go, s1)) (h : s1.top = 0) : zBL c b k num n s = (.go, s1.pop) := by
 cases n <;> (unfold zBL; simp only [hc, h, if_true])
theorem zPl (hc : c s = (.go, s1)) (h : ¬ s1.top = 0) : zBL c b k num 0 s = (.flt 5 k num, s1.pop) := by
 unfold zBL; simp only [hc, h, if_false]
theorem zUg (hc : c s = (.go, s1)) (h : ¬ s1.top = 0) (hb : b s1.pop = (.go, s3)) : zBL c b k num (n + 1) s = zBL c b k num n s3 := by
 rw [zBL]; simp only [hc, h, if_false, hb]
theorem zPk (hc : c s = (.go, s1)) (h : ¬ s1.top = 0) (hb : b s1.pop = (.ret, s3)) : zBL c b k num (n + 1) s = (.ret, s3) := by
 rw [zBL]; simp only [hc, h, if_false, hb]
theorem zPn {x y z : Int} (hc : c s = (.go, s1)) (h : ¬ s1.top = 0) (hb : b s1.pop = (.flt x y z, s3)) : zBL c b k num (n + 1) s = (.flt x y z, s3) := by
 rw [zBL]; simp only [hc, h, if_false, hb]
end
structure LpI (C : Cx) (N0 rx rf rs vs : Nat) (num oth : Int) (bd el : List Ins) (x : HO) (s0 : St) (G : zC) (r : Nat) (s : St) (e' : Env) (G1 : zC) : Prop where
 e0 : e' 0 = .ptr rx 0 0
 e1 : e' 1 = .ptr rf 0 0
 e3 : e' 3 = int num
 e6 : e' 6 = .ptr G.length 0 0
 e9 : e' 9 = int oth
 e15 : e' 15 = int r
 kp : KpX N0 rx rf G G1
 bx : G1[G.length]? = some x
 sh : StH C N0 rx rf rs vs s G1
 ty : TyS C s 0
 hr : (r : Int) ≤ C.L
 eq : zBL (exL C el oth) (exL C bd (num + 1)) C.k num C.L.toNat s0 = zBL (exL C el oth) (exL C bd (num + 1)) C.k num (C.L.toNat - r) s
section
variable {C : Cx} {N0 rx rf rs vs : Nat} {slots stk : List Int} {cnt : Int} {G : zC} {a b num : Int} {bd el : List Ins}
theorem zQa (v : Int) (base h e lev : Int) (out : Bool) (h0 : 1 ≤ h) (h1 : h ≤ 1024) (hb0 : 0 ≤ base) (ho : out = true → base = 0) (hty : TyS C ⟨slots, v :: stk, cnt⟩ (base + h)) (hlev : base ≤ 1024 * lev) (hl1 : 1 ≤ lev) (he1 : zBl C.ps C.k bd (out && decide (h = 1)) 0 = some e) (he2 : zBl C.ps C.k el (out && decide (h = 1)) 0 = some e) (hlv : lev + 1 + max (zAy bd) (zAy el) ≤ 257) (hnum : num + 1 + zM bd + zM el ≤ 32768) (p1 : lsP C bd) (p2 : lsP C el) (h : StH C N0 rx rf rs vs ⟨slots, v :: stk, cnt⟩ G) (hn : 0 ≤ num ∧ num ≤ 1000000) (hc : zM bd ≤ 1000000) (hN : N0 ≤ G.length) (hl : stk.length ≤ 300000) :
  ACall Tryz.prog 185 [.ptr rx 0 0, .ptr rf 0 0, zJ2 18 a b bd el, int num] G fun y G' => StP C N0 rx rf rs vs (if (St.tick ⟨slots, v :: stk, cnt⟩).top = 0 then exL C el (num + 1 + zM bd) (St.tick ⟨slots, v :: stk, cnt⟩).pop else exL C bd (num + 1) (St.tick ⟨slots, v :: stk, cnt⟩).pop) y G G' := by
 obtain ⟨hrn, ⟨sk, hfr⟩, hx⟩ := h
 simp only at hrn hfr
 have hff := hfr.f
 have hss := hfr.s
 have nf := hfr.nf
 have ns := hfr.ns
 have hrx := zD hrn
 have hrf := zD hff
 have hrs := zD hss
 have hfs := zV hss hff (by simp)
 have hfr1 := fun x y => hfr.mono (G' := G.set rx x ++ [y]) fun i h1 h2 => by rw [zXu (by simpa using h2), zXy (by omega)]
 have hty2 : TyS C (St.pop (St.tick ⟨slots, v :: stk, cnt⟩)) (base + h - 1 + 0) := ⟨hty.sl, hty.sr, fun x hx => hty.st x (by simp only [St.pop, St.tick, zYG] at hx; exact zYE _ hx), by have := hty.ln; simp only [zXI] at this; simp only [St.pop, St.tick, zYG]; omega⟩
 have hout : (out && decide (h = 1)) = true → base + h - 1 = 0 := fun hh => by
  rw [zXE, zXB] at hh
  have := ho hh.1
  omega
 by_cases h1v : v = 0
 ·rw [show (if (St.tick ⟨slots, v :: stk, cnt⟩).top = 0 then exL C el (num + 1 + zM bd) (St.tick ⟨slots, v :: stk, cnt⟩).pop else exL C bd (num + 1) (St.tick ⟨slots, v :: stk, cnt⟩).pop) = exL C el (num + 1 + zM bd) (St.pop (St.tick ⟨slots, v :: stk, cnt⟩)) from if_pos h1v]
  refine enter Tryz.func185 L185_ok (zXs rfl) ?_
  repeat' (first | refine zA (zFr bd (by omega) _) ?_ | simp -implicitDefEqProofs (disch := omega) only [L185, hrn, zB, zG, zAs, zY, splice, zXv, zXw, push_cast, simprocAttr, ↓reduceIte, zXq])
  refine zL (zN3 (hfr1 _ _)) ?_
  rintro _ G' ⟨rfl, hk, sk', hfr'⟩
  have hff' := hfr'.f
  have hbb := hk.box G.length _ (by omega) (zAs _ _ _)
  have hrn' : G'[rx]? = some (RnB C 0 (-1) (-1) (IntKind.i64.wrap (cnt + 1))) := by rw [hk.keep rx hx, zXu (by simpa using hrx), zXD hrx]
  have hle := hk.le
  simp only [zXT, zXG, zXI, zX6] at hle
  have hKX := (zLR (rx := rx) (rf := rf) hN _ _).trans (hk.x rx)
  have hSH : StH C N0 rx rf rs vs (St.pop (St.tick ⟨slots, v :: stk, cnt⟩)) G' := ⟨hrn', ⟨sk', hfr'⟩, hx⟩
  have hP := p2 (num + 1 + zM bd) (base + h - 1) 0 e (lev + 1) _ N0 rx rf rs vs _ G' he2 (by omega) (by omega) (by omega) hout hty2 (by omega) (by omega) (by omega) (by omega) (by omega) hSH (by omega)
  repeat' (simp -implicitDefEqProofs (disch := omega) only [hbb, zXv, zXw, zAi, push_cast, simprocAttr, ↓reduceIte])
  refine zL hP ?_
  rintro y G2 hst
  repeat' (simp -implicitDefEqProofs (disch := omega) only [push_cast])
  exact hst.kp hKX
 ·rw [show (if (St.tick ⟨slots, v :: stk, cnt⟩).top = 0 then exL C el (num + 1 + zM bd) (St.tick ⟨slots, v :: stk, cnt⟩).pop else exL C bd (num + 1) (St.tick ⟨slots, v :: stk, cnt⟩).pop) = exL C bd (num + 1) (St.pop (St.tick ⟨slots, v :: stk, cnt⟩)) from if_neg h1v]
  refine enter Tryz.func185 L185_ok (zXs rfl) ?_
  repeat' (first | refine zA (zFr bd (by omega) _) ?_ | simp -implicitDefEqProofs (disch := omega) only [L185, hrn, zB, zG, zAs, zY, splice, zXv, zXw, push_cast, simprocAttr, ↓reduceIte, zXq])
  refine zL (zN3 (hfr1 _ _)) ?_
  rintro _ G' ⟨rfl, hk, sk', hfr'⟩
  have hff' := hfr'.f
  have hbb := hk.box G.length _ (by omega) (zAs _ _ _)
  have hrn' : G'[rx]? = some (RnB C 0 (-1) (-1) (IntKind.i64.wrap (cnt + 1))) := by rw [hk.keep rx hx, zXu (by simpa using hrx), zXD hrx]
  have hle := hk.le
  simp only [zXT, zXG, zXI, zX6] at hle
  have hKX := (zLR (rx := rx) (rf := rf) hN _ _).trans (hk.x rx)
  have hSH : StH C N0 rx rf rs vs (St.pop (St.tick ⟨slots, v :: stk, cnt⟩)) G' := ⟨hrn', ⟨sk', hfr'⟩, hx⟩
  have hP := p1 (num + 1) (base + h - 1) 0 e (lev + 1) _ N0 rx rf rs vs _ G' he1 (by omega) (by omega) (by omega) hout hty2 (by omega) (by omega) (by omega) (by omega) (by omega) hSH (by omega)
  repeat' (simp -implicitDefEqProofs (disch := omega) only [hbb, zXv, zXw, zX, push_cast, simprocAttr, ↓reduceIte])
  refine zL hP ?_
  rintro y G2 hst
  repeat' (simp -implicitDefEqProofs (disch := omega) only [push_cast])
  exact hst.kp hKX
theorem zP8 (lev : Int) (hwk : wOk C.w) (hp : zBZ C.ps C.k) (hcl : zSb C) (hL : 0 ≤ C.L ∧ C.L ≤ 8) (hlev0 : 1 ≤ lev) (hty : TyS C ⟨slots, stk, cnt⟩ 0) (he1 : zBl C.ps C.k bd true 0 = some 0) (he2 : zBl C.ps C.k el false 0 = some 1) (hlv : lev + 1 + max (zAy bd) (zAy el) ≤ 257) (hnum : num + 1 + zM bd + zM el ≤ 32768) (p1 : lsP C bd) (p2 : lsP C el) (h : StH C N0 rx rf rs vs ⟨slots, stk, cnt⟩ G) (hn : 0 ≤ num ∧ num ≤ 1000000) (hc : zM bd ≤ 1000000) (hN : N0 ≤ G.length) (hl : stk.length ≤ 300000) :
  ACall Tryz.prog 185 [.ptr rx 0 0, .ptr rf 0 0, zJ2 19 a b bd el, int num] G fun y G' => StP C N0 rx rf rs vs (zBL (exL C el (num + 1 + zM bd)) (exL C bd (num + 1)) C.k num C.L.toNat (St.tick ⟨slots, stk, cnt⟩)) y G G' := by
 obtain ⟨hrn, ⟨sk, hfr⟩, hx⟩ := h
 simp only at hrn hfr
 have hff := hfr.f
 have hss := hfr.s
 have nf := hfr.nf
 have ns := hfr.ns
 have hrx := zD hrn
 have hrf := zD hff
 have hrs := zD hss
 have hfs := zV hss hff (by simp)
 have hfr1 := fun x y => hfr.mono (G' := G.set rx x ++ [y]) fun i h1 h2 => by rw [zXu (by simpa using h2), zXy (by omega)]
 refine enter Tryz.func185 L185_ok (zXs rfl) ?_
 repeat' (first | refine zA (zFr bd (by omega) _) ?_ | simp -implicitDefEqProofs (disch := omega) only [L185, hrn, zB, zG, zAs, zY, splice, zXv, zXw, push_cast, simprocAttr, ↓reduceIte, zXq])
 refine zAh (fun (st : Nat × St) e' G1 => LpI C N0 rx rf rs vs num (num + 1 + zM bd) bd el (.box [int 19, int a, int b, .sl 5 (bd.map zAp), .sl 5 (el.map zAp)]) ⟨slots, stk, IntKind.i64.wrap (cnt + 1)⟩ G st.1 st.2 e' G1) (fun st => C.L.toNat - st.1) (0, ⟨slots, stk, IntKind.i64.wrap (cnt + 1)⟩) ?_ ?_
 ·exact ⟨rfl, rfl, rfl, rfl, rfl, rfl, zLR hN _ _, zAs _ _ _, ⟨by rw [zXu (by simpa using hrx), zXD hrx], ⟨sk, hfr1 _ _⟩, hx⟩, ⟨hty.sl, hty.sr, hty.st, hty.ln⟩, by dsimp only; omega, rfl⟩
 rintro ⟨r, s⟩ e' G1 ⟨h0, h1, h3, h6, h9, h15, hkp, hbx, hsh, hts, hrL, heq⟩
 simp only at h15 hkp hbx hsh hts hrL heq
 have hP2 := p2 (num + 1 + zM bd) 0 0 1 (lev + 1) false N0 rx rf rs vs s G1 he2 (by omega) (by omega) (by omega) (by intro hh; cases hh) (by simpa using hts) (by omega) (by omega) (by omega) (by omega) (by omega) hsh (by have := hkp.le; omega)
 have hok := zDg hwk hp hcl el (num + 1 + zM bd) 0 0 1 false s he2 (by omega) (by omega) (by intro hh; cases hh) (by simpa using hts)
 have heq : zBL (exL C el (num + 1 + zM bd)) (exL C bd (num + 1)) C.k num C.L.toNat (St.tick ⟨slots, stk, cnt⟩) = zBL (exL C el (num + 1 + zM bd)) (exL C bd (num + 1)) C.k num (C.L.toNat - r) s := heq
 have hleq : N0 ≤ G1.length := zX3 hN hkp.le
 repeat' (simp -implicitDefEqProofs (disch := omega) only [h0, h1, h6, h9, hbx, zXv, zXw, push_cast, simprocAttr, ↓reduceIte])
 refine zL hP2 ?_
 clear hP2
 cases hr1 : exL C el (num + 1 + zM bd) s with
 | mk f1 s1 =>
 rw [hr1] at hok
 cases f1 with
 | ret => exact absurd hok.1 (by decide)
 | flt f p at1 =>
  rintro y G2 ⟨hk2, rfl, hrn2⟩
  have hf0 : ¬ f = 0 := by have : 1 ≤ f ∧ f ≤ 5 := hok; omega
  rw [heq, zPm hr1]
  repeat' (simp -implicitDefEqProofs (disch := omega) only [h0, hrn2, zXv, zXw, zX, push_cast, simprocAttr, ↓reduceIte])
  exact ⟨hkp.trans hk2, rfl, hrn2⟩
 | go =>
  rintro y G2 ⟨hk2, rfl, ⟨hrn2, ⟨sk2, hfr2⟩, _⟩⟩
  have hts2 : TyS C s1 (0 + 1) := hok
  obtain ⟨sl1, st1, c1⟩ := s1
  cases st1 with
  | nil => have := hts2.ln; simp at this
  | cons v st2 =>
  simp only at hrn2 hfr2
  have hff2 := hfr2.f
  have hts3 : TyS C ⟨sl1, st2, c1⟩ 0 := ⟨hts2.sl, hts2.sr, fun x hx => hts2.st x (zYE _ hx), by have := hts2.ln; simp only [zXI] at this; simp only; omega⟩
  have hbx2 := hk2.box G.length _ (by omega) (by omega) hbx
  by_cases hv : v = 0
  ·rw [heq, zMg hr1 hv]
   repeat' (simp -implicitDefEqProofs (disch := omega) only [h0, h1, hrn2, zXv, zXw, push_cast, simprocAttr, ↓reduceIte])
   refine zL (zN3 hfr2) ?_
   rintro _ G3 ⟨rfl, hk3, sk3, hfr3⟩
   repeat' (simp -implicitDefEqProofs (disch := omega) only [hv, push_cast, ↓reduceIte, Nat.reduceEqDiff])
   exact ⟨(hkp.trans hk2).trans (hk3.x rx), rfl, by rw [hk3.keep rx hx]; exact hrn2, ⟨sk3, hfr3⟩, hx⟩
  ·repeat' (simp -implicitDefEqProofs (disch := omega) only [h0, h1, hrn2, zXv, zXw, push_cast, simprocAttr, ↓reduceIte])
   refine zL (zN3 hfr2) ?_
   rintro _ G3 ⟨rfl, hk3, sk3, hfr3⟩
   have hff3 := hfr3.f
   have hrn3 : G3[rx]? = some (RnB C 0 (-1) (-1) c1) := by rw [hk3.keep rx hx]; exact hrn2
   have hbx3 := hk3.box G.length _ (by omega) hbx2
   have hkk := (hkp.trans hk2).trans (hk3.x rx)
   by_cases hlim : (r : Int) = C.L
   ·rw [heq, show C.L.toNat - r = 0 by omega, zPl hr1 hv]
    repeat' (simp -implicitDefEqProofs (disch := omega) only [h0, h1, h3, h15, hrn3, hff3, zXv, zXw, zAi, zX, push_cast, simprocAttr, ↓reduceIte])
    refine zL (zIl C _ _ _ _ _ _ _ _ _ hrn3) ?_
    rintro _ G4 ⟨rfl, rfl⟩
    repeat' (simp -implicitDefEqProofs (disch := omega) only [push_cast])
    exact ⟨hkk.set _, rfl, by rw [zXD (zD hrn3)]; rfl⟩
   ·have hL1 : C.L.toNat - r = (C.L.toNat - (r + 1)) + 1 := by omega
    have hsh3 : StH C N0 rx rf rs vs ⟨sl1, st2, c1⟩ G3 := ⟨hrn3, ⟨sk3, hfr3⟩, hx⟩
    have hP1 := p1 (num + 1) 0 0 0 (lev + 1) true N0 rx rf rs vs _ G3 he1 (by omega) (by omega) (by omega) (fun _ => rfl) (by simpa using hts3) (by omega) (by omega) (by omega) (by omega) (by omega) hsh3 (by have := hkk.le; omega)
    have hok1 := zDg hwk hp hcl bd (num + 1) 0 0 0 true _ he1 (by omega) (by omega) (fun _ => rfl) (show TyS C ⟨sl1, st2, c1⟩ (0 + 0) by simpa using hts3)
    repeat' (simp -implicitDefEqProofs (disch := omega) only [h0, h1, h3, h6, h15, hrn3, hbx3, zXv, zXw, zX, push_cast, simprocAttr, ↓reduceIte])
    refine zL hP1 ?_
    clear hP1
    cases hr2 : exL C bd (num + 1) ⟨sl1, st2, c1⟩ with
    | mk f2 s2 =>
    rw [hr2] at hok1
    cases f2 with
    | ret =>
     rintro y G4 ⟨hk4, rfl, hsh4⟩
     rw [heq, hL1, zPk hr1 hv hr2]
     repeat' (simp -implicitDefEqProofs (disch := omega) only [push_cast, ↓reduceIte])
     exact ⟨hkk.trans hk4, rfl, hsh4⟩
    | flt f p at1 =>
     rintro y G4 ⟨hk4, rfl, hrn4⟩
     have hf0 : ¬ f = 0 := by have : 1 ≤ f ∧ f ≤ 5 := hok1; omega
     rw [heq, hL1, zPn hr1 hv hr2]
     repeat' (simp -implicitDefEqProofs (disch := omega) only [h0, hrn4, zXv, zXw, zX, push_cast, simprocAttr, ↓reduceIte])
     exact ⟨hkk.trans hk4, rfl, hrn4⟩
    | go =>
     rintro y G4 ⟨hk4, rfl, hsh4⟩
     have hrn4 := hsh4.rn
     have hbx4 := hk4.box G.length _ (by omega) (by omega) hbx3
     have heq4 := heq.trans (by rw [hL1, zUg hr1 hv hr2])
     repeat' (simp -implicitDefEqProofs (disch := omega) only [h0, h15, hrn4, zXv, zXw, push_cast, simprocAttr, ↓reduceIte])
     exact .mk (r + 1, s2) ⟨h0, h1, h3, h6, h9, rfl, hkk.trans hk4, hbx4, hsh4, by have : TyS C s2 (0 + 0) := hok1; simpa using this, by dsimp only; omega, heq4⟩ (by dsimp only; omega)
end
theorem zFm {G : zC} (a : Nat) (x y z : HO) : (G.set a x ++ [y, z])[G.length + 1]? = some z := by
 rw [zXz (by simp)]; simp
theorem zJ5 {G : zC} (a : Nat) (x y z w : HO) : (G.set a x ++ [y, z]).set (G.length + 1) w = G.set a x ++ [y, w] := by
 have := zYw (s := G.set a x) (t := [y, z]) (G.length + 1) w (by simp)
 rw [this]; simp
theorem zFn {G : zC} (a : Nat) (x y z : HO) : (G.set a x ++ [y, z])[G.length]? = some y := by
 rw [zXz (by simp)]; simp
def InO (G : zC) (x : AV) (l : List Int) : Prop := x = .sl 1 (l.map iR) ∨ ∃ r v, x = .os r v 0 l.length ∧ G[r]? = some (.arr v 1 (l.map iR))
def zVN (C : Cx) (rx : Nat) (r : CR × Int) (y : AV) (G G' : zC) : Prop := Fr1 rx G G' ∧ match r with
 | (.ok out, c) => (∃ z, y = .sl z (out.map iR) ∧ (z = 1 ∨ out = [])) ∧ G'[rx]? = some (RnB C 0 (-1) (-1) c)
 | (.flt f p a, c) => y = zAg ∧ G'[rx]? = some (RnB C f p a c)
def rnP (C : Cx) : Prop := ∀ (j : Nat) (inp : List Int) (cnt : Int) (rx : Nat) (G : zC) (x : AV), j < C.k → (inp.length : Int) = (C.ps.getD j default).par → (∀ v ∈ inp, inI C.w v) → G[rx]? = some (RnB C 0 (-1) (-1) cnt) → InO G x inp →
 ACall Tryz.prog 90 [.ptr rx 0 0, int j, x] G fun y G' => zVN C rx (C.cl j inp cnt) y G G'
theorem zE2 {N0 rx rf : Nat} {G G' : zC} (h : Fr1 rx G G') (hN : N0 ≤ G.length) : KpX N0 rx rf G G' := ⟨h.1, fun i hi hx => h.2 i (by omega) hx, fun i c h1 h2 hc => by rw [h.2 i (zD hc) h1]; exact hc⟩
theorem zLQ {N0 rx rf : Nat} {G : zC} (hN : N0 ≤ G.length) (x y z : HO) : KpX N0 rx rf G (G.set rx x ++ [y, z]) := (KpX.setx x).trans (KpX.app (by simpa using hN) [y, z])
theorem FR.newt0 {G : zC} {N0 rf rs vs v m : Nat} {k : Int} {slots stk stk' : List Int} {sk : AV} {L : List (List AV)} (h : FR G N0 rf rs vs k slots stk sk) (hN : N0 ≤ G.length) (hl : stk'.length ≤ 400000) (hL : L = stk'.reverse.map iR) (hm : m = stk'.length) :
  FR (G.set rf (.box [int k, .os rs vs 0 slots.length, .os G.length v 0 m]) ++ [.arr v 1 L]) N0 rf rs vs k slots stk' (.os G.length v 0 m) := by
 subst hL; subst hm
 have := h.newt (v := v) (stk' := stk') hN hl
 rwa [zY6 _ _ (zD h.f)] at this
theorem FR.appt {G : zC} {N0 rf rs vs rt vt v m : Nat} {k : Int} {slots stk stk' : List Int} {sk : AV} {L rows : List (List AV)} (h : FR G N0 rf rs vs k slots stk sk) (hg : G[rt]? = some (.arr vt 1 rows)) (h0 : N0 ≤ rt) (hne : ¬ rt = rs) (hl : stk'.length ≤ 400000) (hL : L = stk'.reverse.map iR) (hm : m = stk'.length) :
  FR ((G.set rt (.arr v 1 L)).set rf (.box [int k, .os rs vs 0 slots.length, .os rt v 0 m])) N0 rf rs vs k slots stk' (.os rt v 0 m) := by
 subst hL; subst hm
 obtain ⟨hf, hs, ht, nf, ns⟩ := h
 have hft := zV hg hf (by simp)
 have hfs := zV hs hf (by simp)
 refine ⟨by rw [zXD (by simpa using zD hf)], by rw [zXy (fun e => hfs e.symm), zXy hne]; exact hs, ?_, nf, ns⟩
 refine .os rt v (stk'.reverse.map iR) stk' _ rfl ?_ ?_ (by simp) (by simpa using hl) h0 hne
 ·rw [zXy (fun e => hft e.symm), zXD (zD hg)]
 ·rw [zXR (by simp)]
theorem StP.of_go {C : Cx} {N0 rx rf rs vs : Nat} {slots stk : List Int} {c : Int} {G G2 G3 : zC} {sk : AV} (hK : KpX N0 rx rf G G2) (hk : Kp0 N0 rf G2 G3) (hx : rx < N0) (hrn : G2[rx]? = some (RnB C 0 (-1) (-1) c)) (hf : FR G3 N0 rf rs vs C.k slots stk sk) : StP C N0 rx rf rs vs (.go, ⟨slots, stk, c⟩) (bool false) G G3 :=
 ⟨hK.trans (hk.x rx), rfl, by rw [hk.keep rx hx]; exact hrn, ⟨sk, hf⟩, hx⟩
theorem StP.of_flt {C : Cx} {N0 rx rf rs vs : Nat} {s : St} {f p a : Int} {G G2 G3 : zC} (hK : KpX N0 rx rf G G2) (hk : Kp0 N0 rf G2 G3) (hx : rx < N0) (hrn : G2[rx]? = some (RnB C f p a s.cnt)) : StP C N0 rx rf rs vs (.flt f p a, s) (bool false) G G3 :=
 ⟨hK.trans (hk.x rx), rfl, by rw [hk.keep rx hx]; exact hrn⟩
theorem FR.fr1 {G G' : zC} {N0 rx rf rs vs : Nat} {k : Int} {slots stk : List Int} {sk : AV} (h : FR G N0 rf rs vs k slots stk sk) (hx : rx < N0) (hf : Fr1 rx G G') : FR G' N0 rf rs vs k slots stk sk := h.mono fun i h1 h2 => hf.2 i h2 (by omega)
theorem zIq {rows : List (List AV)} {stk : List Int} {p : Nat} (ht : rows.take stk.length = stk.reverse.map iR) (hp : p ≤ stk.length) : ((rows.drop (stk.length - p)).take p) = (stk.take p).reverse.map iR := by
 have e : (rows.drop (stk.length - p)).take p = (rows.take stk.length).drop (stk.length - p) := by rw [List.drop_take]; congr 1; omega
 rw [e, ht, ← List.map_drop, List.drop_reverse]
 congr 2
 congr 1
 omega
theorem zDo {rows : List (List AV)} {stk : List Int} {p : Nat} (ht : rows.take stk.length = stk.reverse.map iR) (hp : p ≤ stk.length) : rows.take (stk.length - p) = (stk.drop p).reverse.map iR := by
 have e : rows.take (stk.length - p) = (rows.take stk.length).take (stk.length - p) := by rw [zZq, zYQ (by omega)]
 rw [e, ht, ← zY3, List.take_reverse]
 congr 2
 congr 1
 omega
section
variable {C : Cx} {N0 rx rf rs vs : Nat} {slots stk : List Int} {cnt : Int} {G : zC} {a b num : Int} {bd el : List Ins}
theorem zP6 (p : Nat) (ha : 0 ≤ a ∧ a < C.k) (hkl : C.k < C.ps.length) (hps : C.ps.length ≤ 1048576) (hpp : (C.ps.getD a.toNat default).par = p) (hpl : p ≤ stk.length) (hin : ∀ v ∈ stk.take p, inI C.w v) (hcl : ∀ out c, C.cl a.toNat (stk.take p).reverse (IntKind.i64.wrap (cnt + 1)) = (.ok out, c) → out.length ≤ 90000) (hR : rnP C) (h : StH C N0 rx rf rs vs ⟨slots, stk, cnt⟩ G) (hn : 0 ≤ num ∧ num ≤ 1000000) (hc : zM bd ≤ 1000000) (hN : N0 ≤ G.length) (hl : stk.length ≤ 300000) :
  ACall Tryz.prog 185 [.ptr rx 0 0, .ptr rf 0 0, zJ2 20 a b bd el, int num] G fun y G' => StP C N0 rx rf rs vs (exS C 20 a b num (St.tick ⟨slots, stk, cnt⟩)) y G G' := by
 obtain ⟨hrn, ⟨sk, hfr⟩, hx⟩ := h
 simp only at hrn hfr
 have hff := hfr.f
 have hss := hfr.s
 have nf := hfr.nf
 have ns := hfr.ns
 have hrx := zD hrn
 have hrf := zD hff
 have hrs := zD hss
 have hfs := zV hss hff (by simp)
 have hfr1 := fun x y => hfr.mono (G' := G.set rx x ++ [y]) fun i h1 h2 => by rw [zXu (by simpa using h2), zXy (by omega)]
 have hex : exS C 20 a b num (St.tick ⟨slots, stk, cnt⟩) = zGb (St.tick ⟨slots, stk, cnt⟩) p (C.cl a.toNat (stk.take p).reverse (IntKind.i64.wrap (cnt + 1))) := by
  show zGb _ (C.ps.getD a.toNat default).par.toNat _ = _
  rw [hpp]; rfl
 rw [hex]
 have hgd : (C.ps.map prR).getD a.toNat [] = prR (C.ps.getD a.toNat default) := zAD (by omega)
 have hinp : ((stk.take p).reverse.length : Int) = (C.ps.getD a.toNat default).par := by rw [hpp, zXS, zX1]; omega
 have hinI : ∀ v ∈ (stk.take p).reverse, inI C.w v := fun v hv => hin v (zZa.1 hv)
 have hR' := fun G' x h1 h2 => hR a.toNat (stk.take p).reverse (IntKind.i64.wrap (cnt + 1)) rx G' x (by omega) hinp hinI h1 h2
 rw [show ((a.toNat : Nat) : Int) = a by omega] at hR'
 clear hex
 generalize hRR : C.cl a.toNat (stk.take p).reverse (IntKind.i64.wrap (cnt + 1)) = R at *
 have hgo : ∀ outl c, R = (.ok outl, c) → zGb (St.tick ⟨slots, stk, cnt⟩) p R = (.go, ⟨slots, outl.reverse ++ stk.drop p, c⟩) := fun outl c h => by rw [h]; rfl
 have hflt : ∀ f q a1 c, R = (.flt f q a1, c) → zGb (St.tick ⟨slots, stk, cnt⟩) p R = (.flt f q a1, ⟨slots, stk, c⟩) := fun f q a1 c h => by rw [h]; rfl
 generalize zGb (St.tick ⟨slots, stk, cnt⟩) p R = S at *
 have hfr2 := fun x y z => hfr.mono (G' := G.set rx x ++ [y, z]) fun i h1 h2 => by rw [zXu (by simpa using h2), zXy (by omega)]
 cases hfr.t with
 | nil =>
  have hp0 : p = 0 := by simpa using hpl
  subst hp0
  refine enter Tryz.func185 L185_ok (zXs rfl) ?_
  repeat' (first | refine zXx (by omega) ?_ | refine zA (zFr bd (by omega) _) ?_ | simp -implicitDefEqProofs (disch := omega) only [L185, hrn, hff, hgd, hpp, zP, zBH, zXF, zFm, zJ5, zFn, zB, zG, zH, zI, zZ, zAs, zY, splice, zXv, zXw, push_cast, simprocAttr, ↓reduceIte, zXq])
  refine zL (hR' _ _ (by rw [zXu (by simpa using hrx), zXD hrx]) (.inr ⟨G.length + 1, 1, rfl, by rw [zFm]; rfl⟩)) ?_
  rintro y G2 ⟨hF, hm⟩
  have hfr2 := (hfr2 _ _ _).fr1 hx hF
  have hff2 := hfr2.f
  have hbb := (hF.2 G.length (by simp) (by omega)).trans (zFn _ _ _ _)
  have hG2 := hF.1
  simp only [zXT, zXG, zXI, zX6] at hG2
  have hK := (zLQ (rx := rx) (rf := rf) hN _ _ _).trans (zE2 (N0 := N0) (rf := rf) hF (by simp; omega))
  obtain ⟨r, c⟩ := R
  have hkn : ∀ x y, Kp0 N0 rf G2 (G2.set rf x ++ [y]) := fun x y => (Kp0.setf nf _).trans (Kp0.app (by simp; omega) _)
  cases r with
  | flt f q a1 =>
   obtain ⟨rfl, hrn2⟩ := hm
   rw [hflt _ _ _ _ rfl]
   repeat' (simp -implicitDefEqProofs (disch := omega) only [hff2, zB, zG, splice, zXv, zXw, push_cast, simprocAttr, ↓reduceIte, zXq])
   exact StP.of_flt hK (hkn _ _) hx hrn2
  | ok outl =>
   obtain ⟨⟨z, rfl, hz⟩, hrn2⟩ := hm
   rw [hgo _ _ rfl]
   have hll := hcl _ _ rfl
   cases outl with
   | nil =>
    repeat' (simp -implicitDefEqProofs (disch := omega) only [hff2, zB, zG, splice, zXv, zXw, push_cast, simprocAttr, ↓reduceIte, zXq])
    exact StP.of_go hK (hkn _ _) hx hrn2 (hfr2.newt0 (by omega) (by simp) rfl rfl)
   | cons v0 outl =>
    have hz1 : z = 1 := hz.resolve_right (by simp)
    subst hz1
    generalize v0 :: outl = ol at *
    repeat' (first | refine zXx (by omega) ?_ | simp -implicitDefEqProofs (disch := omega) only [hff2, zB, zG, splice, zXv, zXw, zXr, push_cast, simprocAttr, ↓reduceIte, zXq])
    exact StP.of_go hK (hkn _ _) hx hrn2 (hfr2.newt0 (by omega) (by simp; omega) (by simp) (by simp))
 | os rt vt rows _ n hnn hg ht hlr hbb0 h0 hne =>
  subst hnn
  have hft := zV hg hff (by simp)
  have hgx : ∀ x y z, (G.set rx x ++ [y, z])[rt]? = some (.arr vt 1 rows) := fun x y z => by rw [zXu (by simpa using zD hg), zXy (by omega)]; exact hg
  have hgx1 : ∀ x y, (G.set rx x ++ [y])[rt]? = some (.arr vt 1 rows) := fun x y => by rw [zXu (by simpa using zD hg), zXy (by omega)]; exact hg
  have hix : ((stk.length : Int) - p).toNat = stk.length - p := by omega
  have hix2 : stk.length - (stk.length - p) = p := by omega
  have hle : stk.length - p + p ≤ rows.length := by omega
  have hdr := zIq ht hpl
  have htr := zDo ht hpl
  have hpn : ((stk.take p).reverse.map iR).length = p := by simp; omega
  have hcl2 : ((stk.take p).reverse).length = p := by simp; omega
  refine enter Tryz.func185 L185_ok (zXs rfl) ?_
  repeat' (first | refine zXx (by omega) ?_ | refine zA (zFr bd (by omega) _) ?_ | simp -implicitDefEqProofs (disch := omega) only [L185, hrn, hff, hgd, hpp, hix, hix2, hle, hdr, hpn, hgx, hgx1, zP, zBH, zXF, zZw, zXr, zFm, zJ5, zFn, zB, zG, zH, zI, zZ, zAs, zY, splice, zXv, zXw, push_cast, simprocAttr, ↓reduceIte, zXq])
  refine zL (hR' _ _ (by rw [zXu (by simpa using hrx), zXD hrx]) (.inr ⟨G.length + 1, 1, by rw [hcl2], by rw [zFm]⟩)) ?_
  rintro y G2 ⟨hF, hm⟩
  have hfr2 := (hfr2 _ _ _).fr1 hx hF
  have hff2 := hfr2.f
  have hbb := (hF.2 G.length (by simp) (by omega)).trans (zFn _ _ _ _)
  have hG2 := hF.1
  simp only [zXT, zXG, zXI, zX6] at hG2
  have hK := (zLQ (rx := rx) (rf := rf) hN _ _ _).trans (zE2 (N0 := N0) (rf := rf) hF (by simp; omega))
  obtain ⟨r, c⟩ := R
  have hg2 := (hF.2 rt (by simp; have := zD hg; omega) (by omega)).trans (hgx _ _ _)
  have hkn : ∀ x y, Kp0 N0 rf G2 ((G2.set rt x).set rf y) := fun x y => (Kp0.seta h0 hg2 _).trans (Kp0.setf nf _)
  have hlt2 : (rows.take (stk.length - p)).length = stk.length - p := by simp; omega
  have hltr : ((stk.drop p).reverse.map iR).length = stk.length - p := by simp
  cases r with
  | flt f q a1 =>
   obtain ⟨rfl, hrn2⟩ := hm
   rw [hflt _ _ _ _ rfl]
   repeat' (first | refine zXx (by omega) ?_ | simp -implicitDefEqProofs (disch := omega) only [hff2, hg2, hix, zH, splice, zXv, zXw, push_cast, simprocAttr, ↓reduceIte, zXq])
   exact StP.of_flt hK (hkn _ _) hx hrn2
  | ok outl =>
   obtain ⟨⟨z, rfl, hz⟩, hrn2⟩ := hm
   rw [hgo _ _ rfl]
   have hll := hcl _ _ rfl
   cases outl with
   | nil =>
    repeat' (first | refine zXx (by omega) ?_ | simp -implicitDefEqProofs (disch := omega) only [hff2, hg2, hix, zH, splice, zXv, zXw, push_cast, simprocAttr, ↓reduceIte, zXq])
    exact StP.of_go hK (hkn _ _) hx hrn2 (hfr2.appt hg2 h0 hne (by simp; omega) (by simp [htr]) (by simp))
   | cons v0 outl =>
    have hz1 : z = 1 := hz.resolve_right (by simp)
    subst hz1
    generalize v0 :: outl = ol at *
    repeat' (first | refine zXx (by omega) ?_ | simp -implicitDefEqProofs (disch := omega) only [hff2, hg2, hix, zH, splice, zXv, zXw, zXr, push_cast, simprocAttr, ↓reduceIte, zXq])
    exact StP.of_go hK (hkn _ _) hx hrn2 (hfr2.appt hg2 h0 hne (by simp; omega) (by simp [htr]) (by simp; omega))
end
structure zSa (C : Cx) : Prop where
 hw : wOk C.w
 hp : zBZ C.ps C.k
 hcl : zSb C
 hL : 0 ≤ C.L ∧ C.L ≤ 8
 hkl : C.k < C.ps.length
 hps : C.ps.length ≤ 1048576
 hsl : C.q.slots ≤ 1024
structure zVU (C : Cx) (x : Ins) (num base h h' lev : Int) (out : Bool) (s : St) : Prop where
 he : zB1 C.ps C.k x out h = some h'
 h0 : 0 ≤ h
 h1 : h ≤ 1024
 b0 : 0 ≤ base
 bo : out = true → base = 0
 ty : TyS C s (base + h)
 hlev : base ≤ 1024 * lev
 l1 : 1 ≤ lev
 lv : lev + zCz x ≤ 257
 n0 : 0 ≤ num
 nn : num + zBs x ≤ 32768
theorem zIn (C : Cx) (o a b : Int) (l m : List Ins) (num : Int) (s : St) : exI C (.mk o a b l m) num s =
  if o = 18 then (if s.tick.top = 0 then exL C m (num + 1 + zM l) s.tick.pop else exL C l (num + 1) s.tick.pop)
  else if o = 19 then zBL (exL C m (num + 1 + zM l)) (exL C l (num + 1)) C.k num C.L.toNat s.tick
  else exS C o a b num s.tick := by rw [zUu]; rfl
theorem zME (C : Cx) (o a b num : Int) (s : St) (h18 : ¬ o = 18) (h19 : ¬ o = 19) (l m : List Ins) : exI C (.mk o a b l m) num s = exS C o a b num s.tick := by
 rw [zIn, if_neg h18, if_neg h19]
theorem zEu {w v : Int} (hw : wOk w) (h : inI w v) : -1000 ≤ v ∧ v ≤ 1000 := by
 have := (zBM hw v).1 h
 have := zCA hw
 omega
theorem zP1 {C : Cx} (ok : zSa C) (hR : rnP C) (x : Ins) (p1 : lsP C x.body) (p2 : lsP C x.els) {num base h h' lev : Int} {out : Bool} {N0 rx rf rs vs : Nat} {s : St} {G : zC} (H : zVU C x num base h h' lev out s) (hs : StH C N0 rx rf rs vs s G) (hN : N0 ≤ G.length) :
  ACall Tryz.prog 185 [.ptr rx 0 0, .ptr rf 0 0, .agg (zAp x), int num] G fun y G' => StP C N0 rx rf rs vs (exI C x num s) y G G' := by
 obtain ⟨hw, hp, hcl, hL, hkl, hps, hsl⟩ := ok
 obtain ⟨he, h0, h1, b0, bo, hty, hlev, l1, lv, n0, nn⟩ := H
 obtain ⟨o, a, b, bd, el⟩ := x
 have hins : AV.agg (zAp (.mk o a b bd el)) = zJ2 o a b bd el := by rw [zDv]; rfl
 rw [hins]
 simp only [Ins.body, Ins.els] at p1 p2
 simp only [zBs] at nn
 simp only [zCz] at lv
 have hln := hty.ln
 have hlb : base ≤ 263168 := by omega
 have hn : 0 ≤ num ∧ num ≤ 1000000 := by omega
 have hc : zM bd ≤ 1000000 := by omega
 have hsll : (s.slots.length : Int) ≤ 1024 := by rw [hty.sl]; exact hsl
 have hslq := hty.sl
 by_cases h18 : o = 18
 ·subst h18
  obtain ⟨_, _, g1, e, g2, g3, g4, g5⟩ := zCE.1 he
  obtain ⟨slots, stk, cnt⟩ := s
  cases stk with
  | nil => simp at hln; omega
  | cons v stk =>
   rw [zIn, if_pos rfl]
   exact zQa v base h e lev out g1 h1 b0 bo hty hlev l1 g2 g3 (by omega) (by omega) p1 p2 hs hn hc hN (by simp only [zXI] at hln; omega)
 by_cases h19 : o = 19
 ·subst h19
  obtain ⟨_, _, g1, g2, g3, g4, _⟩ := zGk.1 he
  obtain ⟨slots, stk, cnt⟩ := s
  have hb := bo g1
  subst hb; subst g2
  rw [zIn, if_neg (by decide), if_pos rfl]
  exact zP8 lev hw hp hcl hL l1 (by simpa using hty) g4 g3 (by omega) (by omega) p1 p2 hs hn hc hN (by simp only at hln; omega)
 rw [zME C o a b num s h18 h19]
 by_cases h20 : o = 20
 ·subst h20
  obtain ⟨_, _, g1, g2, g3, _⟩ := zMU.1 he
  obtain ⟨slots, stk, cnt⟩ := s
  have hpj := hp a.toNat (by omega)
  obtain ⟨p, hpp⟩ : ∃ p : Nat, (C.ps.getD a.toNat default).par = p := ⟨(C.ps.getD a.toNat default).par.toNat, by omega⟩
  have hpl : p ≤ stk.length := by simp only at hln; omega
  have hin : ∀ v ∈ stk.take p, inI C.w v := fun v hv => hty.st v (zYf hv)
  refine zP6 p g1 hkl hps hpp hpl hin (fun outl c hcc => ?_) hR hs hn hc hN (by simp only at hln; omega)
  have := hcl a.toNat (by omega) (stk.take p).reverse (IntKind.i64.wrap (cnt + 1)) (by rw [hpp, zXS, zX1]; omega) fun v hv => hin v (zZa.1 hv)
  rw [hcc] at this
  have h2 := zDO hpj.2.2.1 hpj.2.2.2
  have := this.1
  omega
 simp only [zB1] at he
 split at he
 case isFalse => cases he
 rename_i hf
 obtain ⟨f1, f2, f3, f4, f5, f6, f7, f8⟩ := hf
 have hsl2 : (s.slots.length : Int) = (C.ps.getD C.k default).slots := hty.sl
 obtain ⟨e01, e2, e3, e4, e5⟩ := @zA2 C.ps C.k o a out h
 by_cases ho : o = 22
 ·subst ho
  rw [e2 (.inr rfl)] at he
  have := zAW he
  obtain ⟨slots, stk, cnt⟩ := s
  cases stk with
  | nil => simp at hln; omega
  | cons v stk => exact zP2 v hs hn hc hN (by simp only [zXI] at hln; omega)
 have u22 : o ≤ 21 := by omega
 clear ho
 by_cases ho : o = 21
 ·subst ho
  obtain ⟨slots, stk, cnt⟩ := s
  exact zP4 hs hn hc hN (by simp only at hln; omega)
 have u21 : o ≤ 20 := by omega
 clear ho
 have u17 : o ≤ 17 := by omega
 clear h18 h19 h20 u22 u21
 by_cases ho : o = 17
 ·subst ho
  rw [e3 (.inr (.inr rfl))] at he
  have := zAW he
  obtain ⟨slots, stk, cnt⟩ := s
  cases stk with
  | nil => simp at hln; omega
  | cons v stk => exact zQc v hs hn hc hN (by simp only [zXI] at hln; omega)
 have v17 : o ≤ 16 := by omega
 clear ho
 by_cases ho : o = 16
 ·subst ho
  rw [e3 (.inr (.inl rfl))] at he
  have := zAW he
  obtain ⟨slots, stk, cnt⟩ := s
  cases stk with
  | nil => simp at hln; omega
  | cons v stk => exact zQe v hw (hty.st v (by simp)) hs hn hc hN (by simp only [zXI] at hln; omega)
 have v16 : o ≤ 15 := by omega
 clear ho
 by_cases ho : o = 0
 ·subst ho
  obtain ⟨slots, stk, cnt⟩ := s
  have := f4 rfl
  exact zSV (by omega) hs hn hc hN (by simp only at hln; omega)
 have w0 : 1 ≤ o := by omega
 clear ho
 by_cases ho : o = 1
 ·subst ho
  obtain ⟨slots, stk, cnt⟩ := s
  have := f5 (.inl rfl)
  exact zST (by simp only at hsl2; omega) hs hn hc hN (by simp only at hln; omega)
 have w1 : 2 ≤ o := by omega
 clear ho
 by_cases ho : o = 2
 ·subst ho
  rw [e2 (.inl rfl)] at he
  have := zAW he
  obtain ⟨slots, stk, cnt⟩ := s
  cases stk with
  | nil => simp at hln; omega
  | cons v stk =>
   have := f5 (.inr rfl)
   exact zSR v (by simp only at hsl2; omega) hs hn hc hN (by simp only [zXI] at hln; omega)
 have w2 : 3 ≤ o := by omega
 clear ho
 by_cases ho : o = 3
 ·subst ho
  rw [e3 (.inl rfl)] at he
  have := zAW he
  obtain ⟨slots, stk, cnt⟩ := s
  cases stk with
  | nil => simp at hln; omega
  | cons v stk =>
   have := f6 (.inl rfl)
   exact zSP v (by simp only at hsl2; omega) (by simp only at hsl2; omega) (by simp only at hsll; omega) (zEu hw (hty.st v (by simp))) hs hn hc hN (by simp only [zXI] at hln; omega)
 have w3 : 4 ≤ o := by omega
 clear ho
 by_cases ho : o = 4
 ·subst ho
  rw [e4 rfl] at he
  have := zAW he
  obtain ⟨slots, stk, cnt⟩ := s
  match stk, hln with
  | [], hln => simp at hln; omega
  | [v], hln => simp at hln; omega
  | v :: i :: stk, hln =>
   have := f6 (.inr rfl)
   exact zSN v i (by simp only at hsl2; omega) (by simp only at hsl2; omega) (by simp only at hsll; omega) (zEu hw (hty.st i (by simp))) hs hn hc hN (by simp only [zXI] at hln; omega)
 have w4 : 5 ≤ o := by omega
 clear ho
 rw [e5 (by omega)] at he
 have := zAW he
 obtain ⟨slots, stk, cnt⟩ := s
 match stk, hty, hs, hln with
 | [], _, _, hln => simp at hln; omega
 | [v], _, _, hln => simp at hln; omega
 | v :: i :: stk, hty, hs, hln =>
  have k1 : inI C.w i := hty.st i (zYE _ (zZc ..))
  have k2 : inI C.w v := hty.st v (zZc ..)
  have k3 : 5 ≤ o := by omega
  have k4 : o ≤ 15 := by omega
  have k5 : stk.length ≤ 300000 := by simp only [zXI] at hln; omega
  exact zSL (o := o) (v2 := v) (v1 := i) hw k3 k4 k1 k2 hs hn hc hN k5
theorem zKa (C : Cx) {l : List Ins} {j : Nat} (hj : j < l.length) (num : Int) (s : St) : exL C (l.drop j) num s = match exI C (l.getD j default) num s with
  | (.go, s') => exL C (l.drop (j + 1)) (num + zBs (l.getD j default)) s'
  | (.ret, s') => (.ret, s')
  | (.flt x y z, s') => (.flt x y z, s') := by
 rw [zF3 hj]; simp only [exL]
 cases exI C (l.getD j default) num s with
 | mk f s' => cases f <;> rfl
structure LsI (C : Cx) (l : List Ins) (num base lev : Int) (out : Bool) (N0 rx rf rs vs : Nat) (s0 : St) (h' : Int) (G : zC) (j : Nat) (s : St) (h : Int) (e' : Env) (G1 : zC) : Prop where
 e0 : e' 0 = .ptr rx 0 0
 e1 : e' 1 = .ptr rf 0 0
 e2 : e' 2 = .sl 5 (l.map zAp)
 e3 : e' 3 = int (num + zM (l.take j))
 e9 : e' 9 = int j
 hj : j ≤ l.length
 kp : KpX N0 rx rf G G1
 sh : StH C N0 rx rf rs vs s G1
 ty : TyS C s (base + h)
 h0 : 0 ≤ h
 h1 : h ≤ 1024
 ef : zBl C.ps C.k (l.drop j) out h = some h'
 eq : exL C l num s0 = exL C (l.drop j) (num + zM (l.take j)) s
theorem zHm {x : Ins} : ∀ {l : List Ins}, x ∈ l → zCz x ≤ zAy l
 | y :: l, h => by
  simp only [zAy]
  rcases zX5.1 h with rfl | h
  ·omega
  ·have := zHm h; omega
theorem zWX {C : Cx} (ok : zSa C) (hR : rnP C) (l : List Ins) : lsP C l := by
 induction l using Ins.indL with
 | h l ih =>
 intro num base h0 h' lev out N0 rx rf rs vs s0 G hef hh0 hh1 b0 bo hty hlev l1 lv n0 nn hsh hN
 have hln := zR l
 refine enter Tryz.func135 L135_ok (zXs rfl) ?_
 repeat' (simp -implicitDefEqProofs (disch := omega) only [L135, push_cast, Nat.reduceAdd])
 refine zAh (fun (st : Nat × St × Int) e' G1 => LsI C l num base lev out N0 rx rf rs vs s0 h' G st.1 st.2.1 st.2.2 e' G1) (fun st => l.length - st.1) (0, s0, h0) ?_ ?_
 ·exact ⟨rfl, rfl, rfl, zDS rfl (by simp [zM]), rfl, zXJ _, KpX.refl, hsh, hty, hh0, hh1, by simpa using hef, by simp [zM]⟩
 rintro ⟨j, s, h⟩ e' G1 ⟨e0, e1, e2, e3, e9, hj, kp, sh, ty, g0, g1, ef, eq⟩
 simp only at e3 e9 hj kp sh ty g0 g1 ef eq
 by_cases hlt : j < l.length
 ·have hmem := zAq hlt
  obtain ⟨p1, p2⟩ := ih _ hmem
  rw [zAR _ _ hlt] at ef
  cases hxe : zB1 C.ps C.k (l.getD j default) out h with
  | none => rw [hxe] at ef; cases ef
  | some g =>
  rw [hxe] at ef
  have ef : zBl C.ps C.k (l.drop (j + 1)) out g = some h' := ef
  have hgr := zES ok.hp _ out h g g0 g1 hxe
  have hit := zAl l (j + 1)
  rw [zAf hlt] at hit
  have hlm := zHm hmem
  have hIH : zVU C (l.getD j default) (num + zM (l.take j)) base h g lev out s := ⟨hxe, g0, g1, b0, bo, ty, hlev, l1, by omega, by omega, by omega⟩
  have hstep := zP1 ok hR (l.getD j default) p1 p2 hIH sh (zX3 hN kp.le)
  have hok := zMG ok.hw ok.hp ok.hcl (l.getD j default) (num + zM (l.take j)) base h g out s hxe g0 b0 bo ty
  rw [zKa C hlt] at eq
  have hrow : (l.map zAp).getD j [] = zAp (l.getD j default) := zQ hlt
  repeat' (first | refine zXx (by omega) ?_ | simp -implicitDefEqProofs (disch := omega) only [e0, e1, e2, e3, e9, hrow, zRn, zOm, zXr, zO, push_cast, simprocAttr, ↓reduceIte])
  refine zL hstep ?_
  cases hx : exI C (l.getD j default) (num + zM (l.take j)) s with
  | mk f s1 =>
  rw [hx] at hok eq
  cases f with
  | ret =>
   rintro y G2 ⟨hk2, rfl, hsh2⟩
   rw [show exL C l num s0 = (.ret, s1) from eq]
   repeat' (simp -implicitDefEqProofs (disch := omega) only [push_cast, ↓reduceIte])
   exact ⟨kp.trans hk2, rfl, hsh2⟩
  | flt f p a =>
   rintro y G2 ⟨hk2, rfl, hrn2⟩
   have hf0 : ¬ f = 0 := by have : 1 ≤ f ∧ f ≤ 5 := hok; omega
   rw [show exL C l num s0 = (.flt f p a, s1) from eq]
   repeat' (simp -implicitDefEqProofs (disch := omega) only [e0, hrn2, zXv, zXw, zX, push_cast, simprocAttr, ↓reduceIte])
   exact ⟨kp.trans hk2, rfl, hrn2⟩
  | go =>
   rintro y G2 ⟨hk2, rfl, hsh2⟩
   have hrn2 := hsh2.rn
   have hsn := zAf hlt
   have hie := zCj (l.getD j default)
   repeat' (first | refine zXx (by omega) ?_ | refine zN (zFr (l.getD j default).body (by omega) _) rfl ?_ | refine zN (zFr (l.getD j default).els (by omega) _) rfl ?_ | simp -implicitDefEqProofs (disch := omega) only [e0, e2, e3, e9, hrn2, hrow, zDv, zXr, zXv, zXw, push_cast, simprocAttr, ↓reduceIte])
   refine .mk (j + 1, s1, g) ⟨e0, e1, e2, ?_, rfl, hlt, kp.trans hk2, hsh2, hok, hgr.1, hgr.2, ef, ?_⟩ (by dsimp only; omega)
   ·exact zDS rfl (by rw [hsn, hie]; omega)
   ·rw [show exL C l num s0 = exL C (l.drop (j + 1)) (num + zM (l.take j) + zBs (l.getD j default)) s1 from eq, hsn]
    congr 1
    omega
 ·have e : j = l.length := by omega
  subst e
  rw [zZi] at eq
  rw [show exL C l num s0 = (.go, s) from eq]
  repeat' (first | refine zXx (by omega) ?_ | simp -implicitDefEqProofs (disch := omega) only [e2, e9, zXr, zT, push_cast, ↓reduceIte, Nat.reduceEqDiff])
  exact sh
def zBo (n : Nat) (inp : List Int) (i : Nat) : List Int := inp.take i ++ List.replicate (n - i) 0
theorem zGs {n : Nat} {inp : List Int} {i : Nat} (hi : i ≤ inp.length) (hn : inp.length ≤ n) : (zBo n inp i).length = n := by simp [zBo]; omega
theorem zJJ (n : Nat) (inp : List Int) : zBo n inp 0 = List.replicate n 0 := by simp [zBo]
theorem zCP (n : Nat) (inp : List Int) : zBo n inp inp.length = inp ++ List.replicate (n - inp.length) 0 := by simp [zBo]
theorem zIZ {n : Nat} {inp : List Int} {i : Nat} (hi : i < inp.length) (hn : inp.length ≤ n) : (zBo n inp i).set i (inp.getD i default) = zBo n inp (i + 1) := by
 unfold zBo
 rw [zYw _ _ (by simp; omega), zBT hi, zX1, zYQ (by omega), zZl]
 obtain ⟨m, hm⟩ : ∃ m, n - i = m + 1 := ⟨n - i - 1, by omega⟩
 rw [hm, List.replicate_succ, List.set_cons_zero, show n - (i + 1) = m by omega, zYm]
 rfl
theorem Kp0.put {N0 rf rs vs : Nat} {G : zC} {l : List (List AV)} (ns : N0 ≤ rs) (h : G[rs]? = some (.arr vs 1 l)) (x : HO) : Kp0 N0 rf G (G.set rs x) := Kp0.seta ns h x
structure CpI (C : Cx) (rx : Nat) (inp : List Int) (x : AV) (cnt : Int) (G : zC) (n i : Nat) (e' : Env) (G1 : zC) : Prop where
 e0 : e' 0 = .ptr rx 0 0
 e1 : e' 1 = int C.k
 e2 : e' 2 = x
 e7 : e' 7 = .ptr G.length 0 0
 e8 : e' 8 = .ptr (G.length + 2) 0 0
 e9 : e' 9 = int i
 hi : i ≤ inp.length
 kp : Kp0 G.length (G.length + 2) G G1
 bx : G1[G.length]? = some (.box (prR C.q))
 fr : FR G1 G.length (G.length + 2) (G.length + 1) 0 C.k (zBo n inp i) [] zAg
theorem InO.mono {G G' : zC} {x : AV} {l : List Int} (h : InO G x l) (hk : ∀ i, i < G.length → G'[i]? = G[i]?) : InO G' x l := by
 rcases h with h | ⟨r, v, h1, h2⟩
 ·exact .inl h
 ·exact .inr ⟨r, v, h1, by rw [hk r (zD h2)]; exact h2⟩
theorem zTu {C : Cx} {rx rq rf rs vs : Nat} {sl : List Int} {sk : AV} {c1 : Int} {G G2 : zC} {e : Env} (hF : Fr1 rx G G2) (hrx : rx < G.length) (hrn : G2[rx]? = some (RnB C 0 (-1) (-1) c1)) (hq : G2[rq]? = some (.box (prR C.q))) (hf : G2[rf]? = some (.box [int C.k, .os rs vs 0 sl.length, sk])) (hs : G2[rs]? = some (.arr vs 1 (sl.map iR)))
  (h6 : C.q.outs.length ≤ 128) (h8 : ∀ s ∈ C.q.outs, 0 ≤ s ∧ s < sl.length) (hsl : sl.length ≤ 100000) (e7 : e 7 = .ptr rq 0 0) (e8 : e 8 = .ptr rf 0 0) (e11 : e 11 = .os G2.length 0 0 0) (e12 : e 12 = int 0) :
  zAj Tryz.prog [.code (L90.body.sub [1, 1, 1, 1, 1, 1, 1, 1, 1, 0, 1, 0]), .blk 2, .code (L90.body.sub [1, 1, 1, 1, 1, 1, 1, 1, 1, 1])] (zSj [RV.tmp 6] fun y G' => zVN C rx (CR.ok (C.q.outs.map fun i => sl.getD i.toNat default), c1) y G G') .normal e (G2 ++ [.arr 0 1 []]) := by
 refine zAh (fun (st : Nat × Nat) e' H' => e' 7 = .ptr rq 0 0 ∧ e' 8 = .ptr rf 0 0 ∧ e' 11 = .os G2.length st.2 0 st.1 ∧ e' 12 = int st.1 ∧ H' = G2 ++ [.arr st.2 1 (((C.q.outs.take st.1).map fun i => sl.getD i.toNat default).map iR)] ∧ st.1 ≤ C.q.outs.length) (fun st => C.q.outs.length - st.1) (0, 0) ?_ ?_
 ·exact ⟨e7, e8, e11, e12, rfl, zXJ _⟩
 have hlq := zD hq
 have hlf := zD hf
 have hls := zD hs
 rintro ⟨i, v⟩ e' H' ⟨e7, e8, e11, e12, rfl, hi⟩
 simp only at e11 e12 hi
 by_cases hlt : i < C.q.outs.length
 ·have hm := h8 _ (zAq hlt)
  have hor : (C.q.outs.map iR).getD i [] = [int (C.q.outs.getD i default)] := zQ hlt
  have hmt : (C.q.outs.getD i default).toNat < sl.length := by have h1 := hm.1; have h2 := hm.2; generalize C.q.outs.getD i default = z at *; omega
  have hsr : (sl.map iR).getD (C.q.outs.getD i default).toNat [] = [int (sl.getD (C.q.outs.getD i default).toNat default)] := zQ hmt
  have htk : (((C.q.outs.take i).map fun i => sl.getD i.toNat default).map iR).take i = ((C.q.outs.take i).map fun i => sl.getD i.toNat default).map iR := zXR (by rw [zXr, zXr, zX1]; omega)
  have hln : (((C.q.outs.take i).map fun i => sl.getD i.toNat default).map iR).length = i := by rw [zXr, zXr, zX1]; omega
  have hsn := zBT hlt
  repeat' (first | refine zXx (by omega) ?_ | simp -implicitDefEqProofs (disch := omega) only [e7, e8, e11, e12, hq, hf, hs, hor, hsr, htk, hln, zF, zAV, zP, zXF, zXr, zB, zXv, zXw, zO, push_cast, simprocAttr, ↓reduceIte, zXq])
  refine .mk (i + 1, v + 1) ⟨e7, e8, rfl, rfl, ?_, hlt⟩ (by dsimp only; omega)
  simp only [hsn, zYg, zYx, zZk, iR]
 ·have e : i = C.q.outs.length := by omega
  subst e
  rw [zZb] at *
  have hln : ((C.q.outs.map fun i => sl.getD i.toNat default).map iR).length = C.q.outs.length := by simp
  repeat' (first | refine zXx (by omega) ?_ | simp -implicitDefEqProofs (disch := omega) only [L90, LCode.sub, e7, e11, e12, hq, hln, zF, zAV, zP, zXF, zXr, zB, zXw, zT, push_cast, simprocAttr, ↓reduceIte])
  refine ⟨⟨by rw [zXT]; have := hF.1; omega, fun i hi hne => ?_⟩, ⟨1, ?_, .inl rfl⟩, ?_⟩
  ·rw [zXu (zXN hi hF.1)]; exact hF.2 i hi hne
  ·rw [zXR (by simp)]
  ·rw [zXu (zD hrn)]; exact hrn
set_option maxHeartbeats 1000000 in
theorem zO1 {C : Cx} (ok : zSa C) (hR : rnP C) (hh : zCk C.q) (hb : zM C.q.body ≤ 32768) (hlv : zAy C.q.body ≤ 256) (hef : zBl C.ps C.k C.q.body true 0 = some 0) (inp : List Int) (cnt : Int) (rx : Nat) (G : zC) (x : AV) (hi : (inp.length : Int) = C.q.par) (hin : ∀ v ∈ inp, inI C.w v) (hrn : G[rx]? = some (RnB C 0 (-1) (-1) cnt)) (hx : InO G x inp) :
  ACall Tryz.prog 90 [.ptr rx 0 0, int C.k, x] G fun y G' => zVN C rx (fin C.q C.k (exL C C.q.body 0 ⟨zCG C.q inp, [], cnt⟩)) y G G' := by
 obtain ⟨h1, h2, h3, h4, h5, h6, h7, h8⟩ := hh
 have hrx := zD hrn
 have hgd : (C.ps.map prR).getD C.k [] = prR C.q := zAD ok.hkl
 have hkl := ok.hkl
 have hps := ok.hps
 obtain ⟨n, hn⟩ : ∃ n : Nat, C.q.slots = n := ⟨C.q.slots.toNat, by omega⟩
 have hS : zCG C.q inp = zBo n inp inp.length := by rw [zCP]; unfold zCG; rw [hn]; rfl
 rw [hS]
 refine enter Tryz.func90 L90_ok (zXs rfl) ?_
 repeat' (first | refine zXx (by omega) ?_ | simp -implicitDefEqProofs (disch := omega) only [L90, hrn, hgd, zAc, zF, hn, zP, zBK, zDf, zBA, rBuild, fillA, zY, splice, zXv, zXw, push_cast, simprocAttr, ↓reduceIte, zXq])
 refine zAh (fun (i : Nat) e' G1 => CpI C rx inp x cnt G n i e' G1) (fun i => inp.length - i) 0 ?_ ?_
 ·refine ⟨rfl, rfl, rfl, rfl, rfl, rfl, zXJ _, Kp0.app (zXL _) _, by simp, ⟨?_, ?_, .nil, by omega, by omega⟩⟩
  ·simp [zAc, zJJ]
  ·simp [zAc, zJJ, iR]
 rintro i e' G1 ⟨e0, e1, e2, e7, e8, e9, hii, kp, bx, fr⟩
 have hnl : inp.length ≤ n := by omega
 have hsl := zGs hii hnl
 have hff := fr.f
 have hss := fr.s
 rw [hsl] at hff
 have hX := hx.mono kp.keep
 by_cases hlt : i < inp.length
 ·have hrow : (inp.map iR).getD i [] = [int (inp.getD i default)] := zQ hlt
  have hrow1 : List.drop 1 (((zBo n inp i).map iR).getD i []) = [] := by rw [zQ (by omega)]; rfl
  have hst := fr.put i (inp.getD i default)
  rw [zIZ hlt hnl] at hst
  rcases hX with rfl | ⟨r, v, rfl, hgr⟩
  ·repeat' (first | refine zXx (by omega) ?_ | simp -implicitDefEqProofs (disch := omega) only [e2, e8, e9, hff, hss, hrow, hrow1, hsl, zXF, zXr, splice, zXv, zXw, zO, push_cast, simprocAttr, ↓reduceIte, zXq])
   exact .mk (i + 1) ⟨e0, e1, e2, e7, e8, rfl, hlt, kp.trans (Kp0.put (by omega) hss _), by rw [zH (zV hss bx (by simp))]; exact bx, hst⟩ (by omega)
  ·repeat' (first | refine zXx (by omega) ?_ | simp -implicitDefEqProofs (disch := omega) only [e2, e8, e9, hff, hss, hgr, hrow, hrow1, hsl, zXF, zXr, splice, zXv, zXw, zO, push_cast, simprocAttr, ↓reduceIte, zXq])
   exact .mk (i + 1) ⟨e0, e1, e2, e7, e8, rfl, hlt, kp.trans (Kp0.put (by omega) hss _), by rw [zH (zV hss bx (by simp))]; exact bx, hst⟩ (by omega)
 ·have e : i = inp.length := by omega
  subst e
  have hrn1 : G1[rx]? = some (RnB C 0 (-1) (-1) cnt) := by rw [kp.keep rx hrx]; exact hrn
  have hS0 : ∀ v ∈ zBo n inp inp.length, inI C.w v := fun v hv => by
   rw [zCP] at hv
   rcases zXV.1 hv with hv | hv
   ·exact hin v hv
   ·rw [(zZJ.1 hv).2, zBM ok.hw]
    have := zCA ok.hw
    omega
  have hty : TyS C ⟨zBo n inp inp.length, [], cnt⟩ (0 + 0) := ⟨by simp only [hsl]; exact hn.symm, hS0, by simp, rfl⟩
  have hSH : StH C G.length rx (G.length + 2) (G.length + 1) 0 ⟨zBo n inp inp.length, [], cnt⟩ G1 := ⟨hrn1, ⟨_, fr⟩, hrx⟩
  have hls := zWX ok hR C.q.body 0 0 0 0 1 true G.length rx (G.length + 2) (G.length + 1) 0 _ G1 hef (by omega) (by omega) (by omega) (fun _ => rfl) hty (by omega) (by omega) (by omega) (by omega) (by omega) hSH kp.le
  have hok := zDg ok.hw ok.hp ok.hcl C.q.body 0 0 0 0 true _ hef (by omega) (by omega) (fun _ => rfl) hty
  have hlk : lkOk .slc x = true := by rcases hX with rfl | ⟨r, v, rfl, hgr⟩ <;> rfl
  have hvo : verOk G1 x = True := by
   rcases hX with rfl | ⟨r, v, rfl, hgr⟩
   ·rfl
   ·simp [verOk, hgr, isVer, isArr]
  have hlo : lenOf x = some inp.length := by rcases hX with rfl | ⟨r, v, rfl, hgr⟩ <;> simp [lenOf]
  repeat' (simp -implicitDefEqProofs (disch := omega) only [e0, e2, e7, e8, e9, hlk, hvo, hlo, zYn, bx, zA6, zP, zT, push_cast, simprocAttr, ↓reduceIte])
  refine zL hls ?_
  have hkX := kp.x rx
  cases hx : exL C C.q.body 0 ⟨zBo n inp inp.length, [], cnt⟩ with
  | mk f s1 =>
  rw [hx] at hok
  obtain ⟨sl1, stk1, c1⟩ := s1
  have hfr1 : ∀ {G' : zC}, KpX G.length rx (G.length + 2) G G' → Fr1 rx G G' := fun h => ⟨h.1, fun i hi hne => h.2 i hi hne⟩
  cases f with
  | flt f p a =>
   rintro y G2 ⟨hk2, rfl, hrn2⟩
   have hf0 : ¬ f = 0 := by have : 1 ≤ f ∧ f ≤ 5 := hok; omega
   rw [show fin C.q C.k (Flow.flt f p a, (⟨sl1, stk1, c1⟩ : St)) = (.flt f p a, c1) from rfl]
   have hbx2 := hk2.box _ _ (by omega) (by omega) bx
   repeat' (simp -implicitDefEqProofs (disch := omega) only [e0, hrn2, zXv, zXw, zX, push_cast, simprocAttr, ↓reduceIte])
   exact ⟨hfr1 (hkX.trans hk2), rfl, hrn2⟩
  | ret =>
   rintro y G2 ⟨hk2, rfl, ⟨hrn2, ⟨sk2, fr2⟩, _⟩⟩
   have hbx2 := hk2.box _ _ (by omega) (by omega) bx
   have hff2 := fr2.f
   have hss2 := fr2.s
   by_cases hres : 0 ≤ C.q.res
   ·rw [show fin C.q C.k (Flow.ret, (⟨sl1, stk1, c1⟩ : St)) = (.ok stk1.reverse, c1) from if_pos hres]
    cases fr2.t with
    | nil =>
     repeat' (simp -implicitDefEqProofs (disch := omega) only [e0, e7, e8, hrn2, hbx2, hff2, zA7, zP, zXv, zXw, zAd, push_cast, simprocAttr, ↓reduceIte])
     exact ⟨hfr1 (hkX.trans hk2), ⟨0, rfl, .inr rfl⟩, hrn2⟩
    | os rt vt rows _ m hm hg ht hl hb h0' hne =>
     have hk3 : KpX G.length rx (G.length + 2) G2 (G2.set rt .dead) := (Kp0.seta h0' hg _).x rx
     have hm' : m = stk1.length := hm
     clear hm
     subst hm'
     repeat' (first | refine zXx (by omega) ?_ | simp -implicitDefEqProofs (disch := omega) only [e0, e7, e8, hrn2, hbx2, hff2, hg, zA7, zP, zXv, zXw, zAd, push_cast, simprocAttr, ↓reduceIte])
     exact ⟨hfr1 ((hkX.trans hk2).trans hk3), ⟨1, by rw [ht], .inl rfl⟩, by rw [zXy (by omega)]; exact hrn2⟩
   ·rw [show fin C.q C.k (Flow.ret, (⟨sl1, stk1, c1⟩ : St)) = (.ok (C.q.outs.map fun i => sl1.getD i.toNat default), c1) from if_neg hres]
    have hs1 : (sl1.length : Int) = C.q.slots := hok.2.sl
    have hO := fun e0 e1 e2 e3 e4 => zTu (C := C) (sl := sl1) (e := e0) (hfr1 (hkX.trans hk2)) hrx hrn2 hbx2 hff2 hss2 h6 (by rw [hs1]; exact h8) (by omega) e1 e2 e3 e4
    repeat' (simp -implicitDefEqProofs (disch := omega) only [e0, e7, hrn2, hbx2, zA7, zP, zXv, zXw, zAn, push_cast, simprocAttr, ↓reduceIte])
    exact hO _ (by assumption) (by assumption) rfl rfl
  | go =>
   rintro y G2 ⟨hk2, rfl, ⟨hrn2, ⟨sk2, fr2⟩, _⟩⟩
   have hbx2 := hk2.box _ _ (by omega) (by omega) bx
   have hff2 := fr2.f
   have hss2 := fr2.s
   by_cases hres : 0 ≤ C.q.res
   ·rw [show fin C.q C.k (Flow.go, (⟨sl1, stk1, c1⟩ : St)) = (.flt 4 C.k (zM C.q.body), c1) from if_pos hres]
    repeat' (first | refine zA (zFr C.q.body (by omega) _) ?_ | simp -implicitDefEqProofs (disch := omega) only [e0, e1, e7, hrn2, hbx2, zA7, zA6, zP, zXv, zXw, zAd, push_cast, simprocAttr, ↓reduceIte])
    refine zL (zIl C _ _ _ _ _ _ _ _ _ hrn2) ?_
    rintro _ G3 ⟨rfl, rfl⟩
    have hrn3 : (G2.set rx (RnB C 4 C.k (zM C.q.body) c1))[rx]? = some (RnB C 4 C.k (zM C.q.body) c1) := zXD (zD hrn2)
    repeat' (simp -implicitDefEqProofs (disch := omega) only [e0, hrn3, zXv, zXw, push_cast, simprocAttr, ↓reduceIte])
    exact ⟨hfr1 ((hkX.trans hk2).set _), rfl, hrn3⟩
   ·rw [show fin C.q C.k (Flow.go, (⟨sl1, stk1, c1⟩ : St)) = (.ok (C.q.outs.map fun i => sl1.getD i.toNat default), c1) from if_neg hres]
    have hty2 : TyS C ⟨sl1, stk1, c1⟩ (0 + 0) := hok
    have hs1 : (sl1.length : Int) = C.q.slots := hty2.sl
    have hO := fun e0 e1 e2 e3 e4 => zTu (C := C) (sl := sl1) (e := e0) (hfr1 (hkX.trans hk2)) hrx hrn2 hbx2 hff2 hss2 h6 (by rw [hs1]; exact h8) (by omega) e1 e2 e3 e4
    repeat' (simp -implicitDefEqProofs (disch := omega) only [e0, e7, hrn2, hbx2, zA7, zP, zXv, zXw, zAn, push_cast, simprocAttr, ↓reduceIte])
    exact hO _ (by assumption) (by assumption) rfl rfl
theorem zVG {ps : List Pr} {w L : Int} (hw : wOk w) (hL : 0 ≤ L ∧ L ≤ 8) (hv : zBt ps) {k n : Nat} (hk : k ≤ n) (hkl : k < ps.length) : zSa ⟨ps, w, L, k, zCQ ps w L n⟩ where
 hw := hw
 hp := zDM fun j hj => hv.2 j (Nat.lt_trans hj hkl)
 hcl := fun j hj inp c h1 h2 => zG9 hw hv n j inp c (by have : j < k := hj; omega) (by have : j < k := hj; omega) h1 h2
 hL := hL
 hkl := hkl
 hps := by have := hv.1; simp only; omega
 hsl := (hv.2 k hkl).2.1.2.2.1
theorem zWf {ps : List Pr} {w L : Int} (hw : wOk w) (hL : 0 ≤ L ∧ L ≤ 8) (hv : zBt ps) : ∀ (m k n : Nat), k ≤ m → k ≤ n → k < ps.length → rnP ⟨ps, w, L, k, zCQ ps w L n⟩ := by
 intro m
 induction m with
 | zero =>
  intro k n h1 _ _ j inp cnt rx G x hj
  simp only at hj; omega
 | succ m ih =>
  intro k n h1 h2 h3 j inp cnt rx G x hj hi hin hrn hx
  simp only at hj
  obtain ⟨n, rfl⟩ : ∃ n', n = n' + 1 := ⟨n - 1, by omega⟩
  obtain ⟨_, p2, p3, p4, p5⟩ := hv.2 j (by omega)
  have hsn := zBf (show j < ps.length by omega)
  exact zO1 (C := ⟨ps, w, L, j, zCQ ps w L n⟩) (zVG hw hL hv (by omega) (by omega)) (ih j n (by omega) (by omega) (by omega)) p2 (by simp only [Cx.q]; omega) p4 p5 inp cnt rx G x hi hin hrn hx
theorem zSZ {ps : List Pr} {w L : Int} (hw : wOk w) (hL : 0 ≤ L ∧ L ≤ 8) (hv : zBt ps) {k : Nat} (hk : k < ps.length) (inp : List Int) (cnt : Int) (rx : Nat) (G : zC) (x : AV) (hi : (inp.length : Int) = (ps.getD k default).par) (hin : ∀ v ∈ inp, inI w v)
  (hrn : G[rx]? = some (.box [zAM ps, int w, int L, int 0, int (-1), int (-1), int cnt])) (hx : InO G x inp) :
  ACall Tryz.prog 90 [.ptr rx 0 0, int k, x] G fun y G' => zVN ⟨ps, w, L, k, zCQ ps w L k⟩ rx (zCQ ps w L (k + 1) k inp cnt) y G G' := by
 obtain ⟨_, p2, p3, p4, p5⟩ := hv.2 k hk
 have hsn := zBf hk
 exact zO1 (C := ⟨ps, w, L, k, zCQ ps w L k⟩) (zVG hw hL hv (zXL _) hk) (zWf hw hL hv k k k (zXL _) (zXL _) hk) p2 (by simp only [Cx.q]; omega) p4 p5 inp cnt rx G x hi hin hrn hx
theorem zRO (w L : Int) (H : zC) : zAe 14 [.agg [int w, int L]] H (bool (decide (wOk w ∧ 0 ≤ L ∧ L ≤ 8))) := by
 refine ACall.drop (R := fun x => x = bool (decide (wOk w ∧ 0 ≤ L ∧ L ≤ 8))) ?_
 refine enter Tryz.func14 L14_ok (zXs rfl) ?_
 by_cases hw : wOk w
 ·by_cases h1 : 0 ≤ L
  ·by_cases h2 : L ≤ 8
   ·rw [show decide (wOk w ∧ 0 ≤ L ∧ L ≤ 8) = true from zXU ⟨hw, h1, h2⟩]
    repeat' (first | refine zA (zA1 _ _) ?_ | simp -implicitDefEqProofs (disch := omega) only [L14, zF, zY, hw, zAd, push_cast, simprocAttr, ↓reduceIte, zXq])
    exact ⟨_, rfl⟩
   ·rw [show decide (wOk w ∧ 0 ≤ L ∧ L ≤ 8) = false from zX9 fun hh => h2 hh.2.2]
    repeat' (first | refine zA (zA1 _ _) ?_ | simp -implicitDefEqProofs (disch := omega) only [L14, zF, zY, hw, zAd, zAn, push_cast, simprocAttr, ↓reduceIte, zXq])
    exact ⟨_, rfl⟩
  ·rw [show decide (wOk w ∧ 0 ≤ L ∧ L ≤ 8) = false from zX9 fun hh => h1 hh.2.1]
   repeat' (first | refine zA (zA1 _ _) ?_ | simp -implicitDefEqProofs (disch := omega) only [L14, zF, zY, hw, zAn, push_cast, simprocAttr, ↓reduceIte, zXq])
   exact ⟨_, rfl⟩
 ·rw [show decide (wOk w ∧ 0 ≤ L ∧ L ≤ 8) = false from zX9 fun hh => hw hh.1]
  repeat' (first | refine zA (zA1 _ _) ?_ | simp -implicitDefEqProofs (disch := omega) only [L14, zF, zY, hw, push_cast, simprocAttr, ↓reduceIte, zXq])
  exact ⟨_, rfl⟩
open Classical in
noncomputable def zC0 (ps : List Pr) (p w L : Int) (inp : List Int) : Int :=
 if ¬ (wOk w ∧ 0 ≤ L ∧ L ≤ 8) then 1 else if ¬ zBt ps then 1 else if p < 0 ∨ ps.length ≤ p then 7 else if 67108864 < zET ps p.toNat L then 8 else if ¬ (inp.length : Int) = (ps.getD p.toNat default).par then 2 else if ¬ (∀ v ∈ inp, inI w v) then 2 else 0
structure zEY (ps : List Pr) (p w L : Int) (inp : List Int) : Prop where
 hw : wOk w
 hl : 0 ≤ L ∧ L ≤ 8
 hv : zBt ps
 hp : 0 ≤ p ∧ p < ps.length
 hc : zET ps p.toNat L ≤ 67108864
 hn : (inp.length : Int) = (ps.getD p.toNat default).par
 hi : ∀ v ∈ inp, inI w v
theorem zJp {ps : List Pr} {p w L : Int} {inp : List Int} (h : ¬ zEY ps p w L inp) : ¬ zC0 ps p w L inp = 0 := by
 unfold zC0
 by_cases h1 : wOk w ∧ 0 ≤ L ∧ L ≤ 8
 ·rw [if_neg (zX2 h1)]
  by_cases h2 : zBt ps
  ·rw [if_neg (zX2 h2)]
   by_cases h3 : p < 0 ∨ ps.length ≤ p
   ·rw [if_pos h3]; decide
   ·rw [if_neg h3]
    by_cases h4 : 67108864 < zET ps p.toNat L
    ·rw [if_pos h4]; decide
    ·rw [if_neg h4]
     by_cases h5 : (inp.length : Int) = (ps.getD p.toNat default).par
     ·rw [if_neg (zX2 h5)]
      by_cases h6 : ∀ v ∈ inp, inI w v
      ·exact absurd ⟨h1.1, h1.2, h2, by omega, by omega, h5, h6⟩ h
      ·rw [if_pos h6]; decide
     ·rw [if_pos h5]; decide
  ·rw [if_pos h2]; decide
 ·rw [if_pos h1]; decide
def zO8 (ps : List Pr) (w L f p a c : Int) : AV := .agg [zAM ps, int w, int L, int f, int p, int a, int c]
def zNX : AV := .agg [zAg, int 0, int 0, int 0, int 0, int 0, int 0]
def zCp (ps : List Pr) (p w L : Int) (inp : List Int) (x : AV) : Prop :=
 (¬ zEY ps p w L inp ∧ x = .tup [zNX, zAg, int (zC0 ps p w L inp)]) ∨ (zEY ps p w L inp ∧ ∃ z, match zCQ ps w L (p.toNat + 1) p.toNat inp 0 with
  | (.ok out, c) => (z = 1 ∨ out = []) ∧ x = .tup [zO8 ps w L 0 (-1) (-1) c, .sl z (out.map iR), int 0]
  | (.flt f q a, c) => x = .tup [zO8 ps w L f q a c, .sl z [], int 0])
theorem zOY (ps : List Pr) (hs : zB0 ps) (p w L : Int) (hp : zBP p) (inp : List Int) (hl : inp.length ≤ 1048576) (hi : ∀ v ∈ inp, zBP v) (H : zC) : ACall Tryz.prog 49 [.agg [zAM ps], int p, .agg [int w, int L], .sl 1 (inp.map iR)] H fun x H' => zCp ps p w L inp x ∧ H' = H := by
 refine ACall.drop (R := zCp ps p w L inp) ?_
 refine enter Tryz.func49 L49_ok (zXs rfl) ?_
 have cB := fun H => zRO w L H
 have cV := fun H => zGO ps hs H
 have cC := fun H => zPy ps hs p L H
 by_cases h1 : wOk w ∧ 0 ≤ L ∧ L ≤ 8
 rotate_left
 ·have hE : zC0 ps p w L inp = 1 := by unfold zC0; rw [if_pos h1]
  have hS : ∀ x, x = .tup [zNX, zAg, int 1] → zCp ps p w L inp x := fun x hx => .inl ⟨fun hh => h1 ⟨hh.hw, hh.hl⟩, by rw [hE]; exact hx⟩
  rw [show decide (wOk w ∧ 0 ≤ L ∧ L ≤ 8) = false from zX9 h1] at cB
  generalize zCp ps p w L inp = S at *
  repeat' (first | refine zA (cB _) ?_ | simp -implicitDefEqProofs (disch := omega) only [L49, zY, rBuild, fillA, splice, push_cast, simprocAttr, ↓reduceIte, zXq])
  exact ⟨hS _ rfl, _, rfl⟩
 rw [show decide (wOk w ∧ 0 ≤ L ∧ L ≤ 8) = true from zXU h1] at cB
 by_cases h2 : zBt ps
 rotate_left
 ·have hE : zC0 ps p w L inp = 1 := by unfold zC0; rw [if_neg (zX2 h1), if_pos h2]
  have hS : ∀ x, x = .tup [zNX, zAg, int 1] → zCp ps p w L inp x := fun x hx => .inl ⟨fun hh => h2 hh.hv, by rw [hE]; exact hx⟩
  rw [zEl h2] at cV
  generalize zCp ps p w L inp = S at *
  repeat' (first | refine zA (cB _) ?_ | refine zA (cV _) ?_ | simp -implicitDefEqProofs (disch := omega) only [L49, zF, zY, rBuild, fillA, splice, push_cast, simprocAttr, ↓reduceIte, zXq])
  exact ⟨hS _ rfl, _, rfl⟩
 rw [zB9.2 h2] at cV
 have h8 := h2.1
 by_cases h3 : p < 0 ∨ ps.length ≤ p
 ·have hE : zC0 ps p w L inp = 7 := by unfold zC0; rw [if_neg (zX2 h1), if_neg (zX2 h2), if_pos h3]
  have hS : ∀ x, x = .tup [zNX, zAg, int 7] → zCp ps p w L inp x := fun x hx => .inl ⟨fun hh => by have := hh.hp; omega, by rw [hE]; exact hx⟩
  generalize zCp ps p w L inp = S at *
  by_cases h3' : p < 0
  ·repeat' (first | refine zA (cB _) ?_ | refine zA (cV _) ?_ | simp -implicitDefEqProofs (disch := omega) only [L49, zF, zY, rBuild, fillA, splice, zO, push_cast, simprocAttr, ↓reduceIte, zXq])
   exact ⟨hS _ rfl, _, rfl⟩
  ·repeat' (first | refine zA (cB _) ?_ | refine zA (cV _) ?_ | simp -implicitDefEqProofs (disch := omega) only [L49, zF, zY, rBuild, fillA, splice, zXr, zT, zAd, push_cast, simprocAttr, ↓reduceIte, zXq])
   exact ⟨hS _ rfl, _, rfl⟩
 have hcA : zBC ps p L = .tup [int (zET ps p.toNat L), int 0] := by unfold zBC; rw [if_neg (by simp [zB9.2 h2]), if_neg h3, if_neg (by have := h1.2; omega)]
 rw [hcA] at cC
 by_cases h4 : 67108864 < zET ps p.toNat L
 ·have hE : zC0 ps p w L inp = 8 := by unfold zC0; rw [if_neg (zX2 h1), if_neg (zX2 h2), if_neg h3, if_pos h4]
  have hS : ∀ x, x = .tup [zNX, zAg, int 8] → zCp ps p w L inp x := fun x hx => .inl ⟨fun hh => by have := hh.hc; omega, by rw [hE]; exact hx⟩
  generalize zCp ps p w L inp = S at *
  repeat' (first | refine zA (cB _) ?_ | refine zA (cV _) ?_ | refine zA (cC _) ?_ | simp -implicitDefEqProofs (disch := omega) only [L49, zF, zY, rBuild, fillA, splice, zXr, zO, zT, zAn, push_cast, simprocAttr, ↓reduceIte, zXq])
  exact ⟨hS _ rfl, _, rfl⟩
 have hgd : (ps.map prR).getD p.toNat [] = prR (ps.getD p.toNat default) := zAD (by omega)
 by_cases h5 : (inp.length : Int) = (ps.getD p.toNat default).par
 rotate_left
 ·have hE : zC0 ps p w L inp = 2 := by unfold zC0; rw [if_neg (zX2 h1), if_neg (zX2 h2), if_neg h3, if_neg h4, if_pos h5]
  have hS : ∀ x, x = .tup [zNX, zAg, int 2] → zCp ps p w L inp x := fun x hx => .inl ⟨fun hh => h5 hh.hn, by rw [hE]; exact hx⟩
  generalize zCp ps p w L inp = S at *
  repeat' (first | refine zXx (by omega) ?_ | refine zA (cB _) ?_ | refine zA (cV _) ?_ | refine zA (cC _) ?_ | simp -implicitDefEqProofs (disch := omega) only [L49, zF, zY, rBuild, fillA, splice, hgd, zBH, zP, h5, zXr, zT, zAn, push_cast, simprocAttr, ↓reduceIte, zXq])
  exact ⟨hS _ rfl, _, rfl⟩
 repeat' (first | refine zXx (by omega) ?_ | refine zA (cB _) ?_ | refine zA (cV _) ?_ | refine zA (cC _) ?_ | simp -implicitDefEqProofs (disch := omega) only [L49, zF, zY, hgd, zBH, zP, h5, zXr, zT, zAn, push_cast, simprocAttr, ↓reduceIte, zXq])
 refine zAh (fun (i : Nat) e' H' => e' 1 = int p ∧ e' 3 = .sl 1 (inp.map iR) ∧ e' 4 = .ptr H.length 0 0 ∧ e' 6 = .ptr (H.length + 1) 0 0 ∧ e' 8 = .ptr (H.length + 2) 0 0 ∧ e' 13 = int i ∧ H' = H ++ [.box [zAM ps], .box [int w, int L], .box [zAg, int 0, int 0, int 0, int 0, int 0, int 0]] ∧ i ≤ inp.length ∧ ∀ j, j < i → inI w (inp.getD j default)) (fun i => inp.length - i) 0 ?_ ?_
 ·exact ⟨rfl, rfl, rfl, rfl, rfl, rfl, rfl, zXJ _, fun j hj => by omega⟩
 rintro i e' H' ⟨e1, e3, e4, e6, e8, e13, rfl, hii, hall⟩
 by_cases hlt : i < inp.length
 ·have hrow : (inp.map iR).getD i [] = [int (inp.getD i default)] := zQ hlt
  have cW := fun H => zIM w (inp.getD i default) (hi _ (zAq hlt)) H
  by_cases hI : inI w (inp.getD i default)
  ·rw [zLg h1.1 hI] at cW
   repeat' (first | refine zXx (by omega) ?_ | refine zN (cW _) rfl ?_ | simp -implicitDefEqProofs (disch := omega) only [e3, e6, e13, hrow, zAc, zXr, zO, push_cast, simprocAttr, ↓reduceIte])
   exact .mk (i + 1) ⟨e1, e3, e4, e6, e8, rfl, rfl, hlt, zBu hall hI⟩ (by omega)
  ·have hne : ¬ wrF w (inp.getD i default) = inp.getD i default := fun h => hI (by rw [← h]; exact zD5 h1.1 _)
   have hE : zC0 ps p w L inp = 2 := by unfold zC0; rw [if_neg (zX2 h1), if_neg (zX2 h2), if_neg h3, if_neg h4, if_neg (zX2 h5), if_pos fun h => hI (h _ (zAq hlt))]
   have hS : ∀ x, x = .tup [zNX, zAg, int 2] → zCp ps p w L inp x := fun x hx => .inl ⟨fun hh => hI (hh.hi _ (zAq hlt)), by rw [hE]; exact hx⟩
   generalize zCp ps p w L inp = S at *
   repeat' (first | refine zXx (by omega) ?_ | refine zN (cW _) rfl ?_ | simp -implicitDefEqProofs (disch := omega) only [e3, e6, e8, e13, hrow, hne, zAc, rBuild, fillA, splice, zY, zXr, zO, push_cast, simprocAttr, ↓reduceIte, zXq])
   exact ⟨hS _ rfl, _, rfl⟩
 ·have e : i = inp.length := by omega
  subst e
  have hin : ∀ v ∈ inp, inI w v := fun v hv => by
   obtain ⟨j, hj, rfl⟩ := zYB.1 hv
   have := hall j hj
   rwa [zXC, zXP hj] at this
  have hok : zEY ps p w L inp := ⟨h1.1, h1.2, h2, by omega, by omega, h5, hin⟩
  obtain ⟨k, hk⟩ : ∃ k : Nat, p = k := ⟨p.toNat, by omega⟩
  subst hk
  have hR := fun G h => zSZ h1.1 h1.2 h2 (show k < ps.length by omega) inp 0 (H.length + 3) G (.sl 1 (inp.map iR)) h5 hin h (.inl rfl)
  repeat' (simp -implicitDefEqProofs (disch := omega) only [e1, e3, e4, e6, e13, zAc, zF, rBuild, fillA, splice, zY, zXr, zT, push_cast, simprocAttr, ↓reduceIte, zXq])
  refine zL (hR _ (by simp [zAc])) ?_
  intro y G' hP
  have hfin : ∀ x, (∃ z, match zCQ ps w L (k + 1) k inp 0 with
   | (.ok out, c) => (z = 1 ∨ out = []) ∧ x = .tup [zO8 ps w L 0 (-1) (-1) c, .sl z (out.map iR), int 0]
   | (.flt f q a, c) => x = .tup [zO8 ps w L f q a c, .sl z [], int 0]) → zCp ps k w L inp x := fun x hx => .inr ⟨hok, hx⟩
  generalize zCp ps k w L inp = S at *
  obtain ⟨hF, hm⟩ := hP
  have g8 := (hF.2 (H.length + 2) (by simp) (by omega)).trans (show _ = some (HO.box [zAg, int 0, int 0, int 0, int 0, int 0, int 0]) by simp [zAc])
  have hle := hF.1
  simp only [zXT, zXI, zX6] at hle
  have hpre : ∀ i, i < H.length → G'[i]? = H[i]? := fun i hi => (hF.2 i (by simp; omega) (by omega)).trans (zXu hi)
  have hrest : ∀ x, ∃ rest, G'.set (H.length + 2) x = H ++ rest := fun x => zBp (by simp; omega) fun i hi => by rw [zXy (by omega)]; exact hpre i hi
  cases hr : zCQ ps w L (k + 1) k inp 0 with
  | mk r c =>
  rw [hr] at hm hfin
  cases r with
  | ok out =>
   obtain ⟨⟨z, rfl, hz⟩, hrn⟩ := hm
   repeat' (simp -implicitDefEqProofs (disch := omega) only [e8, g8, hrn, zI, zY, splice, zXv, zXw, push_cast, simprocAttr, ↓reduceIte, zXq])
   exact ⟨hfin _ ⟨z, hz, rfl⟩, hrest _⟩
  | flt f q a =>
   obtain ⟨rfl, hrn⟩ := hm
   repeat' (simp -implicitDefEqProofs (disch := omega) only [e8, g8, hrn, zI, zY, splice, zXv, zXw, push_cast, simprocAttr, ↓reduceIte, zXq])
   exact ⟨hfin _ ⟨0, rfl⟩, hrest _⟩
open Classical in
noncomputable def zD3 (ps : List Pr) (p w L : Int) (inp : List Int) : Int × List Int × Int × Int × Int :=
 if zEY ps p w L inp then match (zCQ ps w L (p.toNat + 1) p.toNat inp 0).1 with
  | .ok out => (0, out, -1, -1, 0)
  | .flt f q a => (f, [], q, a, 0)
 else (0, [], -1, -1, zC0 ps p w L inp)
open Classical in
noncomputable def zK7 (ps : List Pr) (p w L : Int) (inp : List Int) : Int × Int :=
 if zEY ps p w L inp then ((zCQ ps w L (p.toNat + 1) p.toNat inp 0).2, 0) else (0, zC0 ps p w L inp)
def zKI (v : Int × List Int × Int × Int × Int) (o : AV) : AV := .tup [.agg [int v.1, o], int v.2.2.1, int v.2.2.2.1, int v.2.2.2.2]
theorem zPG (z : Nat) (l : List Int) (h : z = 1 ∨ l = []) : AV.Le (.sl z (l.map iR)) (.sl 1 (l.map iR)) := by
 rcases h with rfl | rfl
 ·exact AV.Le.refl _
 ·intro w M ρ n v hv
  simp only [zZk] at hv ⊢
  cases hv with
  | slE _ _ a cap => exact .slE _ _ _ _
  | slN _ _ xs b o cap c h1 h2 h3 h4 h5 h6 => exact .slE _ _ _ _
theorem zHy : AV.Le zAg (.sl 1 (([] : List Int).map iR)) := AV.Le.nil 1
theorem zU1 (v : Int × List Int × Int × Int × Int) {o o' : AV} (h : AV.Le o o') : AV.Le (zKI v o) (zKI v o') := fun w M ρ n u hv => by
 cases hv with
 | tup _ _ us hl hr =>
  refine .tup _ _ _ (by simpa using hl) fun i y u hy hu => ?_
  match i with
  | 0 =>
   simp only [zYh, zXt] at hy
   subst hy
   refine AV.Le.agg (xs := [int v.1, o]) (ys := [int v.1, o']) rfl (fun j x y hx hy => ?_) _ _ _ _ _ (hr 0 (.agg [int v.1, o]) u rfl hu)
   match j with
   | 0 => cases hx; cases hy; exact AV.Le.refl _
   | 1 => cases hx; cases hy; exact h
   | j + 2 => simp at hx
  | 1 => exact hr 1 y u hy hu
  | 2 => exact hr 2 y u hy hu
  | 3 => exact hr 3 y u hy hu
  | j + 4 => simp at hy
def zJz (v : Int × List Int × Int × Int × Int) (x : AV) : Prop := ∃ o, x = zKI v o ∧ AV.Le o (.sl 1 (v.2.1.map iR))
theorem zO9 {k : FuncId} {args : List AV} {H : zC} {v : Int × List Int × Int × Int × Int} (h : ACall Tryz.prog k args H fun x H' => zJz v x ∧ H' = H) : zAe k args H (zKI v (.sl 1 (v.2.1.map iR))) :=
 h.resTo fun x H' ⟨⟨o, hx, ho⟩, hH⟩ => ⟨_, by rw [hx]; exact zU1 v ho, rfl, hH⟩
theorem zQw (ps : List Pr) (hs : zB0 ps) (p w L : Int) (hp : zBP p) (inp : List Int) (hl : inp.length ≤ 1048576) (hi : ∀ v ∈ inp, zBP v) (H : zC) : zAe 19 [.agg [zAM ps], int p, .agg [int w, int L], .sl 1 (inp.map iR)] H (zKI (zD3 ps p w L inp) (.sl 1 ((zD3 ps p w L inp).2.1.map iR))) := by
 refine zO9 ?_
 refine ACall.drop (R := zJz (zD3 ps p w L inp)) ?_
 refine enter Tryz.func19 L19_ok (zXs rfl) ?_
 repeat' (simp -implicitDefEqProofs (disch := omega) only [L19, zAc, zF, zY, push_cast, simprocAttr, ↓reduceIte, zXq])
 refine zL (zOY ps hs p w L hp inp hl hi _) ?_
 rintro x H' ⟨hS, rfl⟩
 rcases hS with ⟨hn, rfl⟩ | ⟨hok, z, hS⟩
 ·have hV : zD3 ps p w L inp = (0, [], -1, -1, zC0 ps p w L inp) := if_neg hn
  have he := zJp hn
  have hF : ∀ x, x = zKI (0, [], -1, -1, zC0 ps p w L inp) zAg → zJz (zD3 ps p w L inp) x := fun x hx => by rw [hV]; exact ⟨_, hx, zHy⟩
  generalize zJz (zD3 ps p w L inp) = S at *
  generalize zC0 ps p w L inp = er at *
  repeat' (simp -implicitDefEqProofs (disch := omega) only [zNX, zAc, zY, rBuild, fillA, splice, zX, push_cast, simprocAttr, ↓reduceIte, zXq])
  exact ⟨hF _ rfl, _, rfl⟩
 ·cases hr : zCQ ps w L (p.toNat + 1) p.toNat inp 0 with
  | mk r c =>
  rw [hr] at hS
  cases r with
  | ok out =>
   obtain ⟨hz, rfl⟩ := hS
   have hV : zD3 ps p w L inp = (0, out, -1, -1, 0) := by unfold zD3; rw [if_pos hok, hr]
   have hF : ∀ x, x = zKI (0, out, -1, -1, 0) (.sl z (out.map iR)) → zJz (zD3 ps p w L inp) x := fun x hx => by rw [hV]; exact ⟨_, hx, zPG z out hz⟩
   generalize zJz (zD3 ps p w L inp) = S at *
   repeat' (simp -implicitDefEqProofs (disch := omega) only [zO8, zAc, zY, rBuild, fillA, splice, push_cast, simprocAttr, ↓reduceIte, zXq])
   exact ⟨hF _ rfl, _, rfl⟩
  | flt f q a =>
   subst hS
   have hV : zD3 ps p w L inp = (f, [], q, a, 0) := by unfold zD3; rw [if_pos hok, hr]
   have hF : ∀ x, x = zKI (f, [], q, a, 0) zAg → zJz (zD3 ps p w L inp) x := fun x hx => by rw [hV]; exact ⟨_, hx, zHy⟩
   have hf : ¬ f = 0 := by
    have := zG9 (L := L) hok.hw hok.hv (p.toNat + 1) p.toNat inp 0 (by omega) (by have := hok.hp; omega) hok.hn hok.hi
    rw [hr] at this
    have : 1 ≤ f ∧ f ≤ 5 := this
    omega
   generalize zJz (zD3 ps p w L inp) = S at *
   repeat' (simp -implicitDefEqProofs (disch := omega) only [zO8, zAc, zY, rBuild, fillA, splice, zX, push_cast, simprocAttr, ↓reduceIte, zXq])
   exact ⟨hF _ rfl, _, rfl⟩
theorem zRH (ps : List Pr) (hs : zB0 ps) (p w L : Int) (hp : zBP p) (inp : List Int) (hl : inp.length ≤ 1048576) (hi : ∀ v ∈ inp, zBP v) (H : zC) : zAe 21 [.agg [zAM ps], int p, .agg [int w, int L], .sl 1 (inp.map iR)] H (.tup [int (zK7 ps p w L inp).1, int (zK7 ps p w L inp).2]) := by
 refine ACall.drop (R := fun x => x = .tup [int (zK7 ps p w L inp).1, int (zK7 ps p w L inp).2]) ?_
 refine enter Tryz.func21 L21_ok (zXs rfl) ?_
 repeat' (simp -implicitDefEqProofs (disch := omega) only [L21, zAc, zF, zY, push_cast, simprocAttr, ↓reduceIte, zXq])
 refine zL (zOY ps hs p w L hp inp hl hi _) ?_
 rintro x H' ⟨hS, rfl⟩
 rcases hS with ⟨hn, rfl⟩ | ⟨hok, z, hS⟩
 ·have hV : zK7 ps p w L inp = (0, zC0 ps p w L inp) := if_neg hn
  rw [hV]
  generalize zC0 ps p w L inp = er at *
  repeat' (simp -implicitDefEqProofs (disch := omega) only [zNX, zAc, zY, splice, push_cast, simprocAttr, ↓reduceIte, zXq])
  exact ⟨_, rfl⟩
 ·have hV : zK7 ps p w L inp = ((zCQ ps w L (p.toNat + 1) p.toNat inp 0).2, 0) := if_pos hok
  rw [hV]
  cases hr : zCQ ps w L (p.toNat + 1) p.toNat inp 0 with
  | mk r c =>
  rw [hr] at hS
  cases r with
  | ok out =>
   obtain ⟨hz, rfl⟩ := hS
   repeat' (simp -implicitDefEqProofs (disch := omega) only [zO8, zAc, zY, splice, push_cast, simprocAttr, ↓reduceIte, zXq])
   exact ⟨_, rfl⟩
  | flt f q a =>
   subst hS
   repeat' (simp -implicitDefEqProofs (disch := omega) only [zO8, zAc, zY, splice, push_cast, simprocAttr, ↓reduceIte, zXq])
   exact ⟨_, rfl⟩
section
variable {G : zC} {N0 rf rs vs : Nat} {k v : Int} {slots stk : List Int} {sk : AV}
theorem zN4 (h : FR G N0 rf rs vs k slots (v :: stk) sk) : ACall Tryz.prog 226 [.ptr rf 0 0] G fun y G' => y = int v ∧ Kp0 N0 rf G G' ∧ ∃ sk', FR G' N0 rf rs vs k slots stk sk' := by
 obtain ⟨hf, hs, ht, nf, ns⟩ := h
 obtain ⟨rt, vt, rows, rfl, g1, g2, g3, g4, g5, g6, g7, g8⟩ := ht.cons
 have hft := zV g1 hf (by simp)
 have hfs := zV hs hf (by simp)
 have hrf := zD hf
 generalize hN : stk.length + 1 = N at *
 have hix : ((N : Int) - 1).toNat = stk.length := by omega
 refine enter Tryz.func226 L226_ok (zXs rfl) ?_
 repeat' (first | refine zXx (by omega) ?_ | simp -implicitDefEqProofs (disch := omega) only [L226, hf, g1, hix, g7, splice, zXF, zYD, zXv, zXw, push_cast, simprocAttr, ↓reduceIte, zXq])
 refine ⟨Kp0.setf nf _, .os rt vt 0 stk.length, ?_, ?_, ?_, nf, ns⟩
 ·rw [zXD hrf]
 ·rw [zXy (fun e => hfs e.symm)]; exact hs
 ·exact .os rt vt rows stk _ rfl (by rw [zXy (fun e => hft e.symm)]; exact g1) g8 (by omega) g4 g5 g6
theorem zN1 (l : List Int) (z : Nat) (hz : z = 1 ∨ l = []) (hll : l.length ≤ 90000) (h : FR G N0 rf rs vs k slots stk sk) (hl : stk.length ≤ 300000) : ACall Tryz.prog 225 [.ptr rf 0 0, .sl z (l.map iR)] G fun y G' => y = .tup [] ∧ Kp0 N0 rf G G' ∧ ∃ sk', FR G' N0 rf rs vs k slots (l.reverse ++ stk) sk' := by
 have hfr := h
 obtain ⟨hf, hs, ht, nf, ns⟩ := h
 have hrf := zD hf
 have hrs := zD hs
 have hfs := zV hs hf (by simp)
 refine enter Tryz.func225 L225_ok (zXs rfl) ?_
 cases ht with
 | nil =>
  cases l with
  | nil =>
   repeat' (simp -implicitDefEqProofs (disch := omega) only [L225, hf, zB, zG, splice, zXv, zXw, push_cast, simprocAttr, ↓reduceIte, zXq])
   exact ⟨by simp [zAO], by simp [zAO], (Kp0.setf nf _).trans (Kp0.app (by simp; omega) _), _, hfr.newt0 (by omega) (by simp) rfl rfl⟩
  | cons x l =>
   have hz1 : z = 1 := hz.resolve_right (by simp)
   subst hz1
   generalize hL : x :: l = ll at *
   repeat' (first | refine zXx (by omega) ?_ | simp -implicitDefEqProofs (disch := omega) only [L225, hf, zB, zG, splice, zXv, zXw, zXr, push_cast, simprocAttr, ↓reduceIte, zXq])
   exact ⟨by simp [zAO], by simp [zAO], (Kp0.setf nf _).trans (Kp0.app (by simp; omega) _), _, hfr.newt0 (by omega) (by simp; omega) (by simp) (by simp)⟩
 | os rt vt rows _ n hn hg ht hlr hb h0 hne =>
  have hrt := zD hg
  have hft := zV hg hf (by simp)
  repeat' (simp -implicitDefEqProofs (disch := omega) only [L225, hf, zH, hg, splice, zXv, zXw, zXr, push_cast, simprocAttr, ↓reduceIte, zXq])
  refine ⟨⟨hz.imp id fun h => by rw [h]; rfl, hlr, by omega, by omega⟩, by simp [zAO], by simp [zAO], (Kp0.seta h0 hg _).trans (Kp0.setf nf _), _, hfr.appt hg h0 hne (by simp; omega) (by simp [ht]) (by simp [hn]; omega)⟩
theorem zLO (h : FR G N0 rf rs vs k slots stk sk) (hl : stk.length ≤ 300000) : ACall Tryz.prog 225 [.ptr rf 0 0, .sl 1 [[int v]]] G fun y G' => y = .tup [] ∧ Kp0 N0 rf G G' ∧ ∃ sk', FR G' N0 rf rs vs k slots (v :: stk) sk' :=
 zN1 [v] 1 (.inl rfl) (by simp) h hl
end
@[push_cast] theorem zVo {P : Program} {e : Env} {H : zC} {d : Option Nat} {l tl : List LO} {k : List Go.Ax.Item} {Q : Out → Env → zC → Prop} (t : TypeId) (x : LX) : oqK P (.mkif t x) e H d l tl k Q = gqK P (rMkif t (ev e x) H) e H d l tl k Q := rfl
abbrev zIV (f p a : Int) : Value := .iface 121 (.agg #[.int .i64 f, .int .i64 p, .int .i64 a])
theorem zOr (C : Cx) (G : zC) (rf rp ri : Nat) (k num f : Int) (cs : List AV) (x1 x2 : AV) (hp : G[rp]? = some (.box [.ptr rf 0 0])) (hf : G[rf]? = some (.box [int k, x1, x2])) (i0 i1 i2 i3 i4 i6 i7 : AV) (hi : G[ri]? = some (.box [i0, i1, i2, i3, i4, int num, i6, i7])) :
  ACallX Tryz.prog 223 [int f, .ptr rp 0 0, .ptr ri 0 0] G (fun _ _ => False) fun z G' => z = zIV f k num ∧ G' = G := by
 refine zBr Tryz.func223 L223_ok (zXs rfl) ?_
 repeat' (simp -implicitDefEqProofs (disch := omega) only [L223, hp, hf, hi, rBuild, fillA, rMkif, zJC, zHH, zKq, splice, zXv, zXw, push_cast, simprocAttr, ↓reduceIte, zXq])
theorem zUD (C : Cx) (G : zC) (rf rp ri rg : Nat) (k num a b i : Int) (x1 x2 : AV) (hp : G[rp]? = some (.box [.ptr rf 0 0])) (hf : G[rf]? = some (.box [int k, x1, x2])) (i0 i3 i4 i6 i7 : AV) (hi : G[ri]? = some (.box [i0, int a, int b, i3, i4, int num, i6, i7]))
  (hg : G[rg]? = some (.box [.fn (.func 223) [] [.ptr rp 0 0, .ptr ri 0 0]])) (ha : 0 ≤ a ∧ a ≤ 100000) (hb : 0 ≤ b ∧ b ≤ 100000) (hii : -1000 ≤ i ∧ i ≤ 1000) :
  ACallX Tryz.prog 224 [int i, .ptr ri 0 0, .ptr rg 0 0] G (fun y G' => (0 ≤ i ∧ i < b) ∧ y = int (a + i) ∧ G' = G) fun z G' => (i < 0 ∨ b ≤ i) ∧ z = zIV 2 k num ∧ G' = G := by
 refine zBr Tryz.func224 L224_ok (zXs rfl) ?_
 have hF := zOr C G rf rp ri k num 2 [] x1 x2 hp hf i0 (int a) (int b) i3 i4 i6 i7 hi
 by_cases h1 : i < 0
 ·repeat' (first | refine zXx (by omega) ?_ | refine zS (hF) ?_ | simp -implicitDefEqProofs (disch := omega) only [L224, hg, zXw, zO, push_cast, simprocAttr, ↓reduceIte])
 ·by_cases h2 : b ≤ i
  ·repeat' (first | refine zXx (by omega) ?_ | refine zS (hF) ?_ | simp -implicitDefEqProofs (disch := omega) only [L224, hi, hg, zXv, zXw, zT, zAd, push_cast, simprocAttr, ↓reduceIte])
  ·repeat' (first | refine zXx (by omega) ?_ | simp -implicitDefEqProofs (disch := omega) only [L224, hi, zXv, zXw, zT, zAn, push_cast, simprocAttr, ↓reduceIte])
   omega
abbrev RnM (C : Cx) (st sz om : AV) (cnt : Int) : HO := .box [zAM C.ps, int C.w, int C.L, st, sz, om, int cnt]
structure StM (C : Cx) (st sz om : AV) (N0 rx rf rs vs : Nat) (s : St) (G : zC) : Prop where
 rn : G[rx]? = some (RnM C st sz om s.cnt)
 fr : ∃ sk, FR G N0 rf rs vs C.k s.slots s.stk sk
 hx : rx < N0
def StMR (C : Cx) (st sz om : AV) (N0 rx rf rs vs : Nat) (r : Flow × St) (y : AV) (G G' : zC) : Prop :=
 KpX N0 rx rf G G' ∧ match r with
  | (.go, s) => y = bool false ∧ StM C st sz om N0 rx rf rs vs s G'
  | (.ret, s) => y = bool true ∧ StM C st sz om N0 rx rf rs vs s G'
  | (.flt f p a, s) => False
def StMZ (C : Cx) (st sz om : AV) (N0 rx rf : Nat) (r : Flow × St) (z : Value) (G G' : zC) : Prop :=
 KpX N0 rx rf G G' ∧ match r with
  | (.flt f p a, s) => z = zIV f p a ∧ G'[rx]? = some (RnM C st sz om s.cnt)
  | _ => False
abbrev G3 (C : Cx) (st sz om : AV) (cnt : Int) (rx rf : Nat) (G : zC) (cs : List AV) : zC :=
 G.set rx (RnM C st sz om cnt) ++ [.box [.ptr rf 0 0], .box cs, .box [.fn (.func 223) [] [.ptr G.length 0 0, .ptr (G.length + 1) 0 0]]]
theorem zFl {G : zC} (a : Nat) (x y z w : HO) : (G.set a x ++ [y, z, w])[G.length]? = some y ∧ (G.set a x ++ [y, z, w])[G.length + 1]? = some z ∧ (G.set a x ++ [y, z, w])[G.length + 2]? = some w := by
 refine ⟨?_, ?_, ?_⟩ <;> (rw [zXz (by simp)]; simp)
theorem zAZ {G : zC} (a : Nat) (x y z w : HO) : (G.set a x ++ [y, z, w])[G.length + 2]? = some w := (zFl a x y z w).2.2
theorem zAY {G : zC} (a : Nat) (x y z w w' : HO) : (G.set a x ++ [y, z, w]).set (G.length + 2) w' = G.set a x ++ [y, z, w'] := by
 have := zYw (s := G.set a x) (t := [y, z, w]) (G.length + 2) w' (by simp)
 rw [this]; simp
section
variable {C : Cx} {st sz om : AV} {N0 rx rf rs vs : Nat} {G G2 : zC} {cnt : Int} {cs : List AV}
theorem zIg (hN : N0 ≤ G.length) : KpX N0 rx rf G (G3 C st sz om cnt rx rf G cs) := (KpX.setx _).trans (KpX.app (by simpa using hN) _)
theorem zKV : (G3 C st sz om cnt rx rf G cs)[G.length]? = some (.box [.ptr rf 0 0]) := (zFl _ _ _ _ _).1
theorem zKU : (G3 C st sz om cnt rx rf G cs)[G.length + 1]? = some (.box cs) := (zFl _ _ _ _ _).2.1
theorem zKT : (G3 C st sz om cnt rx rf G cs)[G.length + 2]? = some (.box [.fn (.func 223) [] [.ptr G.length 0 0, .ptr (G.length + 1) 0 0]]) := (zFl _ _ _ _ _).2.2
theorem zCe {i : Nat} (h1 : ¬ rx = i) (h2 : i < G.length) : (G3 C st sz om cnt rx rf G cs)[i]? = G[i]? := by rw [zXu (by simpa using h2), zXy h1]
theorem zUq : (G3 C st sz om cnt rx rf G cs).length = G.length + 3 := by simp
theorem zII (h : rx < G.length) : (G3 C st sz om cnt rx rf G cs)[rx]? = some (RnM C st sz om cnt) := by rw [zXu (by simpa using h), zXD h]
theorem zHp {s' : St} {sk' : AV} {r : Flow × St} (hr : r = (.go, s')) (hN : N0 ≤ G.length) (hx : rx < N0) (hk : Kp0 N0 rf (G3 C st sz om s'.cnt rx rf G cs) G2) (hf : FR G2 N0 rf rs vs C.k s'.slots s'.stk sk') : StMR C st sz om N0 rx rf rs vs r (bool false) G G2 := by
 subst hr
 exact ⟨(zIg hN).trans (hk.x rx), rfl, by rw [hk.keep rx hx]; exact zII (by omega), ⟨_, hf⟩, hx⟩
theorem zUp {s' : St} {sk' : AV} {r : Flow × St} (hr : r = (.ret, s')) (hN : N0 ≤ G.length) (hx : rx < N0) (hk : Kp0 N0 rf (G3 C st sz om s'.cnt rx rf G cs) G2) (hf : FR G2 N0 rf rs vs C.k s'.slots s'.stk sk') : StMR C st sz om N0 rx rf rs vs r (bool true) G G2 := by
 subst hr
 exact ⟨(zIg hN).trans (hk.x rx), rfl, by rw [hk.keep rx hx]; exact zII (by omega), ⟨_, hf⟩, hx⟩
theorem zJ7 {s' : St} {r : Flow × St} {f p a : Int} (hr : r = (.flt f p a, s')) (hN : N0 ≤ G.length) (hx : rx < N0) (hk : Kp0 N0 rf (G3 C st sz om s'.cnt rx rf G cs) G2) : StMZ C st sz om N0 rx rf r (zIV f p a) G G2 := by
 subst hr
 exact ⟨(zIg hN).trans (hk.x rx), rfl, by rw [hk.keep rx hx]; exact zII (by omega)⟩
end
section
variable {C : Cx} {st sz om : AV} {N0 rx rf rs vs : Nat} {slots stk : List Int} {cnt : Int} {G : zC} {a b num : Int} {bd el : List Ins}
abbrev zAE (o a b : Int) (bd el : List Ins) (num : Int) : List AV := [int o, int a, int b, .sl 5 (bd.map zAp), .sl 5 (el.map zAp), int num, .sl 8 (zBE bd (num + 1)), .sl 8 (zBE el (num + 1 + zM bd))]
theorem zSW (ha : 0 ≤ a ∧ a ≤ 999999999) (h : StM C st sz om N0 rx rf rs vs ⟨slots, stk, cnt⟩ G) (hN : N0 ≤ G.length) (hl : stk.length ≤ 300000) :
  ACallX Tryz.prog 180 [.ptr rx 0 0, .ptr rf 0 0, .agg (zAE 0 a b bd el num)] G (fun y G' => StMR C st sz om N0 rx rf rs vs (exS C 0 a b num (St.tick ⟨slots, stk, cnt⟩)) y G G') fun z G' => StMZ C st sz om N0 rx rf (exS C 0 a b num (St.tick ⟨slots, stk, cnt⟩)) z G G' := by
 obtain ⟨hrn, ⟨sk, hfr⟩, hx⟩ := h
 simp only at hrn hfr
 have hff := hfr.f
 have hss := hfr.s
 have nf := hfr.nf
 have ns := hfr.ns
 have hrx := zD hrn
 have hrf := zD hff
 have hrs := zD hss
 have hfs := zV hss hff (by simp)
 have hfr1 : FR (G3 C st sz om (IntKind.i64.wrap (cnt + 1)) rx rf G (zAE 0 a b bd el num)) N0 rf rs vs C.k slots (stk) sk := hfr.mono fun i h1 h2 => zCe (by omega) h2
 have q0 : (G3 C st sz om (IntKind.i64.wrap (cnt + 1)) rx rf G (zAE 0 a b bd el num))[G.length]? = _ := zKV
 have q1 : (G3 C st sz om (IntKind.i64.wrap (cnt + 1)) rx rf G (zAE 0 a b bd el num))[G.length + 1]? = _ := zKU
 have q2 : (G3 C st sz om (IntKind.i64.wrap (cnt + 1)) rx rf G (zAE 0 a b bd el num))[G.length + 2]? = _ := zKT
 have qx : (G3 C st sz om (IntKind.i64.wrap (cnt + 1)) rx rf G (zAE 0 a b bd el num))[rx]? = _ := zII hrx
 have qf : (G3 C st sz om (IntKind.i64.wrap (cnt + 1)) rx rf G (zAE 0 a b bd el num))[rf]? = _ := hfr1.f
 have qs : (G3 C st sz om (IntKind.i64.wrap (cnt + 1)) rx rf G (zAE 0 a b bd el num))[rs]? = _ := hfr1.s
 have hi : zBP a := by unfold zBP; omega
 refine zBr Tryz.func180 L180_ok (zXs rfl) ?_
 repeat' (first | refine zA (zNp C.w a hi _) ?_ | simp -implicitDefEqProofs (disch := omega) only [L180, hrn, q0, q1, qx, zB, zG, zY, splice, zXv, zXw, zAZ, zAY, push_cast, simprocAttr, ↓reduceIte, zXq])
 refine zL (zLO hfr1 hl) ?_
 rintro _ G' ⟨rfl, hk, sk', hfr'⟩
 repeat' (simp -implicitDefEqProofs (disch := omega) only [push_cast])
 exact zHp (s' := ⟨slots, wrF C.w a :: stk, _⟩) rfl hN hx hk hfr'
theorem zSU (ha : 0 ≤ a ∧ a < slots.length) (h : StM C st sz om N0 rx rf rs vs ⟨slots, stk, cnt⟩ G) (hN : N0 ≤ G.length) (hl : stk.length ≤ 300000) :
  ACallX Tryz.prog 180 [.ptr rx 0 0, .ptr rf 0 0, .agg (zAE 1 a b bd el num)] G (fun y G' => StMR C st sz om N0 rx rf rs vs (exS C 1 a b num (St.tick ⟨slots, stk, cnt⟩)) y G G') fun z G' => StMZ C st sz om N0 rx rf (exS C 1 a b num (St.tick ⟨slots, stk, cnt⟩)) z G G' := by
 obtain ⟨hrn, ⟨sk, hfr⟩, hx⟩ := h
 simp only at hrn hfr
 have hff := hfr.f
 have hss := hfr.s
 have nf := hfr.nf
 have ns := hfr.ns
 have hrx := zD hrn
 have hrf := zD hff
 have hrs := zD hss
 have hfs := zV hss hff (by simp)
 have hfr1 : FR (G3 C st sz om (IntKind.i64.wrap (cnt + 1)) rx rf G (zAE 1 a b bd el num)) N0 rf rs vs C.k slots (stk) sk := hfr.mono fun i h1 h2 => zCe (by omega) h2
 have q0 : (G3 C st sz om (IntKind.i64.wrap (cnt + 1)) rx rf G (zAE 1 a b bd el num))[G.length]? = _ := zKV
 have q1 : (G3 C st sz om (IntKind.i64.wrap (cnt + 1)) rx rf G (zAE 1 a b bd el num))[G.length + 1]? = _ := zKU
 have q2 : (G3 C st sz om (IntKind.i64.wrap (cnt + 1)) rx rf G (zAE 1 a b bd el num))[G.length + 2]? = _ := zKT
 have qx : (G3 C st sz om (IntKind.i64.wrap (cnt + 1)) rx rf G (zAE 1 a b bd el num))[rx]? = _ := zII hrx
 have qf : (G3 C st sz om (IntKind.i64.wrap (cnt + 1)) rx rf G (zAE 1 a b bd el num))[rf]? = _ := hfr1.f
 have qs : (G3 C st sz om (IntKind.i64.wrap (cnt + 1)) rx rf G (zAE 1 a b bd el num))[rs]? = _ := hfr1.s
 have hrow : (slots.map iR).getD a.toNat [] = [int (slots.getD a.toNat default)] := zQ (by omega)
 have hrow1 : List.drop 1 ((slots.map iR).getD a.toNat []) = [] := by rw [hrow]; rfl
 refine zBr Tryz.func180 L180_ok (zXs rfl) ?_
 repeat' (first | refine zXx (by omega) ?_ | simp -implicitDefEqProofs (disch := omega) only [L180, hrn, q0, q1, qf, qs, zB, zG, zY, splice, zXv, zXw, zAZ, zAY, hrow, zXF, push_cast, simprocAttr, ↓reduceIte, zXq])
 refine zL (zLO hfr1 hl) ?_
 rintro _ G' ⟨rfl, hk, sk', hfr'⟩
 repeat' (simp -implicitDefEqProofs (disch := omega) only [push_cast])
 exact zHp (s' := ⟨slots, slots.getD a.toNat default :: stk, _⟩) rfl hN hx hk hfr'
theorem zSS (v : Int) (ha : 0 ≤ a ∧ a < slots.length) (h : StM C st sz om N0 rx rf rs vs ⟨slots, v :: stk, cnt⟩ G) (hN : N0 ≤ G.length) (hl : stk.length ≤ 300000) :
  ACallX Tryz.prog 180 [.ptr rx 0 0, .ptr rf 0 0, .agg (zAE 2 a b bd el num)] G (fun y G' => StMR C st sz om N0 rx rf rs vs (exS C 2 a b num (St.tick ⟨slots, v :: stk, cnt⟩)) y G G') fun z G' => StMZ C st sz om N0 rx rf (exS C 2 a b num (St.tick ⟨slots, v :: stk, cnt⟩)) z G G' := by
 obtain ⟨hrn, ⟨sk, hfr⟩, hx⟩ := h
 simp only at hrn hfr
 have hff := hfr.f
 have hss := hfr.s
 have nf := hfr.nf
 have ns := hfr.ns
 have hrx := zD hrn
 have hrf := zD hff
 have hrs := zD hss
 have hfs := zV hss hff (by simp)
 have hfr1 : FR (G3 C st sz om (IntKind.i64.wrap (cnt + 1)) rx rf G (zAE 2 a b bd el num)) N0 rf rs vs C.k slots (v :: stk) sk := hfr.mono fun i h1 h2 => zCe (by omega) h2
 have q0 : (G3 C st sz om (IntKind.i64.wrap (cnt + 1)) rx rf G (zAE 2 a b bd el num))[G.length]? = _ := zKV
 have q1 : (G3 C st sz om (IntKind.i64.wrap (cnt + 1)) rx rf G (zAE 2 a b bd el num))[G.length + 1]? = _ := zKU
 have q2 : (G3 C st sz om (IntKind.i64.wrap (cnt + 1)) rx rf G (zAE 2 a b bd el num))[G.length + 2]? = _ := zKT
 have qx : (G3 C st sz om (IntKind.i64.wrap (cnt + 1)) rx rf G (zAE 2 a b bd el num))[rx]? = _ := zII hrx
 have qf : (G3 C st sz om (IntKind.i64.wrap (cnt + 1)) rx rf G (zAE 2 a b bd el num))[rf]? = _ := hfr1.f
 have qs : (G3 C st sz om (IntKind.i64.wrap (cnt + 1)) rx rf G (zAE 2 a b bd el num))[rs]? = _ := hfr1.s
 have hrow : (slots.map iR).getD a.toNat [] = [int (slots.getD a.toNat default)] := zQ (by omega)
 have hrow1 : List.drop 1 ((slots.map iR).getD a.toNat []) = [] := by rw [hrow]; rfl
 refine zBr Tryz.func180 L180_ok (zXs rfl) ?_
 repeat' (first | refine zXx (by omega) ?_ | simp -implicitDefEqProofs (disch := omega) only [L180, hrn, q0, q1, qf, qs, zB, zG, zY, splice, zXv, zXw, zAZ, zAY, zXF, push_cast, simprocAttr, ↓reduceIte, zXq])
 refine zL (zN4 hfr1) ?_
 rintro _ G' ⟨rfl, hk, sk', hfr'⟩
 have hff' := hfr'.f
 have hss' := hfr'.s
 have b0 := hk.box G.length _ (by omega) q0
 have b1 := hk.box (G.length + 1) _ (by omega) q1
 have b2 := hk.box (G.length + 2) _ (by omega) q2
 have bx : _ = some (RnM C st sz om (IntKind.i64.wrap (cnt + 1))) := (hk.keep rx hx).trans qx
 repeat' (first | refine zXx (by omega) ?_ | simp -implicitDefEqProofs (disch := omega) only [hff', hss', b0, b1, hrow1, zXF, splice, zXv, zXw, push_cast, simprocAttr, ↓reduceIte, zXq])
 exact zHp (s' := ⟨slots.set a.toNat v, stk, _⟩) rfl hN hx (hk.trans (Kp0.seta ns hss' _)) (hfr'.put a.toNat v)
theorem zP5 (h : StM C st sz om N0 rx rf rs vs ⟨slots, stk, cnt⟩ G) (hN : N0 ≤ G.length) (hl : stk.length ≤ 300000) :
  ACallX Tryz.prog 180 [.ptr rx 0 0, .ptr rf 0 0, .agg (zAE 21 a b bd el num)] G (fun y G' => StMR C st sz om N0 rx rf rs vs (exS C 21 a b num (St.tick ⟨slots, stk, cnt⟩)) y G G') fun z G' => StMZ C st sz om N0 rx rf (exS C 21 a b num (St.tick ⟨slots, stk, cnt⟩)) z G G' := by
 obtain ⟨hrn, ⟨sk, hfr⟩, hx⟩ := h
 simp only at hrn hfr
 have hff := hfr.f
 have hss := hfr.s
 have nf := hfr.nf
 have ns := hfr.ns
 have hrx := zD hrn
 have hrf := zD hff
 have hrs := zD hss
 have hfs := zV hss hff (by simp)
 have hfr1 : FR (G3 C st sz om (IntKind.i64.wrap (cnt + 1)) rx rf G (zAE 21 a b bd el num)) N0 rf rs vs C.k slots (stk) sk := hfr.mono fun i h1 h2 => zCe (by omega) h2
 have q0 : (G3 C st sz om (IntKind.i64.wrap (cnt + 1)) rx rf G (zAE 21 a b bd el num))[G.length]? = _ := zKV
 have q1 : (G3 C st sz om (IntKind.i64.wrap (cnt + 1)) rx rf G (zAE 21 a b bd el num))[G.length + 1]? = _ := zKU
 have q2 : (G3 C st sz om (IntKind.i64.wrap (cnt + 1)) rx rf G (zAE 21 a b bd el num))[G.length + 2]? = _ := zKT
 have qx : (G3 C st sz om (IntKind.i64.wrap (cnt + 1)) rx rf G (zAE 21 a b bd el num))[rx]? = _ := zII hrx
 have qf : (G3 C st sz om (IntKind.i64.wrap (cnt + 1)) rx rf G (zAE 21 a b bd el num))[rf]? = _ := hfr1.f
 have qs : (G3 C st sz om (IntKind.i64.wrap (cnt + 1)) rx rf G (zAE 21 a b bd el num))[rs]? = _ := hfr1.s
 refine zBr Tryz.func180 L180_ok (zXs rfl) ?_
 repeat' (simp -implicitDefEqProofs (disch := omega) only [L180, hrn, q1, zB, zG, zY, splice, zXv, zXw, zAZ, zAY, push_cast, simprocAttr, ↓reduceIte, zXq])
 exact zUp (s' := ⟨slots, stk, _⟩) rfl hN hx Kp0.refl hfr1
theorem zP3 (v : Int) (h : StM C st sz om N0 rx rf rs vs ⟨slots, v :: stk, cnt⟩ G) (hN : N0 ≤ G.length) (hl : stk.length ≤ 300000) :
  ACallX Tryz.prog 180 [.ptr rx 0 0, .ptr rf 0 0, .agg (zAE 22 a b bd el num)] G (fun y G' => StMR C st sz om N0 rx rf rs vs (exS C 22 a b num (St.tick ⟨slots, v :: stk, cnt⟩)) y G G') fun z G' => StMZ C st sz om N0 rx rf (exS C 22 a b num (St.tick ⟨slots, v :: stk, cnt⟩)) z G G' := by
 obtain ⟨hrn, ⟨sk, hfr⟩, hx⟩ := h
 simp only at hrn hfr
 have hff := hfr.f
 have hss := hfr.s
 have nf := hfr.nf
 have ns := hfr.ns
 have hrx := zD hrn
 have hrf := zD hff
 have hrs := zD hss
 have hfs := zV hss hff (by simp)
 have hfr1 : FR (G3 C st sz om (IntKind.i64.wrap (cnt + 1)) rx rf G (zAE 22 a b bd el num)) N0 rf rs vs C.k slots (v :: stk) sk := hfr.mono fun i h1 h2 => zCe (by omega) h2
 have q0 : (G3 C st sz om (IntKind.i64.wrap (cnt + 1)) rx rf G (zAE 22 a b bd el num))[G.length]? = _ := zKV
 have q1 : (G3 C st sz om (IntKind.i64.wrap (cnt + 1)) rx rf G (zAE 22 a b bd el num))[G.length + 1]? = _ := zKU
 have q2 : (G3 C st sz om (IntKind.i64.wrap (cnt + 1)) rx rf G (zAE 22 a b bd el num))[G.length + 2]? = _ := zKT
 have qx : (G3 C st sz om (IntKind.i64.wrap (cnt + 1)) rx rf G (zAE 22 a b bd el num))[rx]? = _ := zII hrx
 have qf : (G3 C st sz om (IntKind.i64.wrap (cnt + 1)) rx rf G (zAE 22 a b bd el num))[rf]? = _ := hfr1.f
 have qs : (G3 C st sz om (IntKind.i64.wrap (cnt + 1)) rx rf G (zAE 22 a b bd el num))[rs]? = _ := hfr1.s
 refine zBr Tryz.func180 L180_ok (zXs rfl) ?_
 repeat' (simp -implicitDefEqProofs (disch := omega) only [L180, hrn, q0, q1, zB, zG, zY, splice, zXv, zXw, zAZ, zAY, push_cast, simprocAttr, ↓reduceIte, zXq])
 refine zL (zN4 hfr1) ?_
 rintro _ G' ⟨rfl, hk, sk', hfr'⟩
 have hff' := hfr'.f
 have hss' := hfr'.s
 have b0 := hk.box G.length _ (by omega) q0
 have b1 := hk.box (G.length + 1) _ (by omega) q1
 have b2 := hk.box (G.length + 2) _ (by omega) q2
 have bx : _ = some (RnM C st sz om (IntKind.i64.wrap (cnt + 1))) := (hk.keep rx hx).trans qx
 by_cases h1 : v = 0
 ·repeat' (simp -implicitDefEqProofs (disch := omega) only [b2, zXw, zAi, push_cast, simprocAttr, ↓reduceIte])
  refine zJ (zOr C G' rf G.length (G.length + 1) C.k num 3 [] _ _ b0 hff' _ _ _ _ _ _ _ b1) (fun _ _ hh => hh.elim) ?_
  rintro _ G2 ⟨rfl, rfl⟩
  repeat' (simp -implicitDefEqProofs (disch := omega) only [push_cast])
  exact zJ7 (s' := ⟨slots, v :: stk, _⟩) (by simp only [exS, St.tick, St.top, zYt, h1, if_true]; rfl) hN hx hk
 ·repeat' (simp -implicitDefEqProofs (disch := omega) only [zX, push_cast, ↓reduceIte])
  exact zHp (s' := ⟨slots, stk, _⟩) (by simp only [exS, St.tick, St.top, St.pop, zYt, zYG, h1, if_false]; rfl) hN hx hk hfr'
theorem zSQ (i : Int) (ha : 0 ≤ a ∧ a < slots.length) (hb : 1 ≤ b ∧ b ≤ slots.length - a) (hs : slots.length ≤ 1024) (hii : -1000 ≤ i ∧ i ≤ 1000) (h : StM C st sz om N0 rx rf rs vs ⟨slots, i :: stk, cnt⟩ G) (hN : N0 ≤ G.length) (hl : stk.length ≤ 300000) :
  ACallX Tryz.prog 180 [.ptr rx 0 0, .ptr rf 0 0, .agg (zAE 3 a b bd el num)] G (fun y G' => StMR C st sz om N0 rx rf rs vs (exS C 3 a b num (St.tick ⟨slots, i :: stk, cnt⟩)) y G G') fun z G' => StMZ C st sz om N0 rx rf (exS C 3 a b num (St.tick ⟨slots, i :: stk, cnt⟩)) z G G' := by
 obtain ⟨hrn, ⟨sk, hfr⟩, hx⟩ := h
 simp only at hrn hfr
 have hff := hfr.f
 have hss := hfr.s
 have nf := hfr.nf
 have ns := hfr.ns
 have hrx := zD hrn
 have hrf := zD hff
 have hrs := zD hss
 have hfs := zV hss hff (by simp)
 have hfr1 : FR (G3 C st sz om (IntKind.i64.wrap (cnt + 1)) rx rf G (zAE 3 a b bd el num)) N0 rf rs vs C.k slots (i :: stk) sk := hfr.mono fun i h1 h2 => zCe (by omega) h2
 have q0 : (G3 C st sz om (IntKind.i64.wrap (cnt + 1)) rx rf G (zAE 3 a b bd el num))[G.length]? = _ := zKV
 have q1 : (G3 C st sz om (IntKind.i64.wrap (cnt + 1)) rx rf G (zAE 3 a b bd el num))[G.length + 1]? = _ := zKU
 have q2 : (G3 C st sz om (IntKind.i64.wrap (cnt + 1)) rx rf G (zAE 3 a b bd el num))[G.length + 2]? = _ := zKT
 have qx : (G3 C st sz om (IntKind.i64.wrap (cnt + 1)) rx rf G (zAE 3 a b bd el num))[rx]? = _ := zII hrx
 have qf : (G3 C st sz om (IntKind.i64.wrap (cnt + 1)) rx rf G (zAE 3 a b bd el num))[rf]? = _ := hfr1.f
 have qs : (G3 C st sz om (IntKind.i64.wrap (cnt + 1)) rx rf G (zAE 3 a b bd el num))[rs]? = _ := hfr1.s
 refine zBr Tryz.func180 L180_ok (zXs rfl) ?_
 repeat' (simp -implicitDefEqProofs (disch := omega) only [L180, hrn, q0, q1, qf, zB, zG, zY, splice, zXv, zXw, zAZ, zAY, push_cast, simprocAttr, ↓reduceIte, zXq])
 refine zL (zN4 hfr1) ?_
 rintro _ G' ⟨rfl, hk, sk', hfr'⟩
 have hff' := hfr'.f
 have hss' := hfr'.s
 have b0 := hk.box G.length _ (by omega) q0
 have b1 := hk.box (G.length + 1) _ (by omega) q1
 have b2 := hk.box (G.length + 2) _ (by omega) q2
 have bx : _ = some (RnM C st sz om (IntKind.i64.wrap (cnt + 1))) := (hk.keep rx hx).trans qx
 repeat' (simp -implicitDefEqProofs (disch := omega) only [hff', b0, zXv, zXw, push_cast, simprocAttr, ↓reduceIte])
 refine zAU (zUD C G' rf G.length (G.length + 1) (G.length + 2) C.k num a b i _ _ b0 hff' _ _ _ _ _ b1 b2 (by omega) (by omega) hii) ?_ ?_
 ·rintro _ G2 ⟨⟨h1, h2⟩, rfl, rfl⟩
  have hrow : (slots.map iR).getD (a + i).toNat [] = [int (slots.getD (a + i).toNat default)] := zQ (by omega)
  repeat' (first | refine zXx (by omega) ?_ | simp -implicitDefEqProofs (disch := omega) only [hff', hss', b0, hrow, zXF, zXv, zXw, push_cast, simprocAttr, ↓reduceIte, zXq])
  refine zL (zLO hfr' hl) ?_
  rintro _ G2 ⟨rfl, hk2, sk2, hfr2⟩
  repeat' (simp -implicitDefEqProofs (disch := omega) only [push_cast])
  exact zHp (s' := ⟨slots, slots.getD (a + i).toNat default :: stk, _⟩) (by simp only [exS, St.tick, St.top, St.pop, St.push, zYt, zYG, show ¬ i < 0 by omega, show ¬ b ≤ i by omega, or_self, if_false]; rfl) hN hx (hk.trans hk2) hfr2
 ·rintro _ G2 ⟨h1, rfl, rfl⟩
  repeat' (simp -implicitDefEqProofs (disch := omega) only [push_cast])
  exact zJ7 (s' := ⟨slots, i :: stk, _⟩) (by simp only [exS, St.tick, St.top, zYt, h1, if_true]; rfl) hN hx hk
theorem zSO (v i : Int) (ha : 0 ≤ a ∧ a < slots.length) (hb : 1 ≤ b ∧ b ≤ slots.length - a) (hs : slots.length ≤ 1024) (hii : -1000 ≤ i ∧ i ≤ 1000) (h : StM C st sz om N0 rx rf rs vs ⟨slots, v :: i :: stk, cnt⟩ G) (hN : N0 ≤ G.length) (hl : stk.length ≤ 300000) :
  ACallX Tryz.prog 180 [.ptr rx 0 0, .ptr rf 0 0, .agg (zAE 4 a b bd el num)] G (fun y G' => StMR C st sz om N0 rx rf rs vs (exS C 4 a b num (St.tick ⟨slots, v :: i :: stk, cnt⟩)) y G G') fun z G' => StMZ C st sz om N0 rx rf (exS C 4 a b num (St.tick ⟨slots, v :: i :: stk, cnt⟩)) z G G' := by
 obtain ⟨hrn, ⟨sk, hfr⟩, hx⟩ := h
 simp only at hrn hfr
 have hff := hfr.f
 have hss := hfr.s
 have nf := hfr.nf
 have ns := hfr.ns
 have hrx := zD hrn
 have hrf := zD hff
 have hrs := zD hss
 have hfs := zV hss hff (by simp)
 have hfr1 : FR (G3 C st sz om (IntKind.i64.wrap (cnt + 1)) rx rf G (zAE 4 a b bd el num)) N0 rf rs vs C.k slots (v :: i :: stk) sk := hfr.mono fun i h1 h2 => zCe (by omega) h2
 have q0 : (G3 C st sz om (IntKind.i64.wrap (cnt + 1)) rx rf G (zAE 4 a b bd el num))[G.length]? = _ := zKV
 have q1 : (G3 C st sz om (IntKind.i64.wrap (cnt + 1)) rx rf G (zAE 4 a b bd el num))[G.length + 1]? = _ := zKU
 have q2 : (G3 C st sz om (IntKind.i64.wrap (cnt + 1)) rx rf G (zAE 4 a b bd el num))[G.length + 2]? = _ := zKT
 have qx : (G3 C st sz om (IntKind.i64.wrap (cnt + 1)) rx rf G (zAE 4 a b bd el num))[rx]? = _ := zII hrx
 have qf : (G3 C st sz om (IntKind.i64.wrap (cnt + 1)) rx rf G (zAE 4 a b bd el num))[rf]? = _ := hfr1.f
 have qs : (G3 C st sz om (IntKind.i64.wrap (cnt + 1)) rx rf G (zAE 4 a b bd el num))[rs]? = _ := hfr1.s
 refine zBr Tryz.func180 L180_ok (zXs rfl) ?_
 repeat' (simp -implicitDefEqProofs (disch := omega) only [L180, hrn, q0, q1, zB, zG, zY, splice, zXv, zXw, zAZ, zAY, push_cast, simprocAttr, ↓reduceIte, zXq])
 refine zL (zN4 hfr1) ?_
 rintro _ G0 ⟨rfl, hk0, sk0, hfr0⟩
 have c0 := hk0.box G.length _ (by omega) q0
 have hff0 := hfr0.f
 have hss0 := hfr0.s
 repeat' (simp -implicitDefEqProofs (disch := omega) only [c0, hff0, zXv, zXw, push_cast, simprocAttr, ↓reduceIte])
 refine zL (zN4 hfr0) ?_
 rintro _ G' ⟨rfl, hk1, sk', hfr'⟩
 have hk := hk0.trans hk1
 have hff' := hfr'.f
 have hss' := hfr'.s
 have b0 := hk.box G.length _ (by omega) q0
 have b1 := hk.box (G.length + 1) _ (by omega) q1
 have b2 := hk.box (G.length + 2) _ (by omega) q2
 have bx : _ = some (RnM C st sz om (IntKind.i64.wrap (cnt + 1))) := (hk.keep rx hx).trans qx
 repeat' (simp -implicitDefEqProofs (disch := omega) only [hff', b0, zXv, zXw, push_cast, simprocAttr, ↓reduceIte])
 refine zAU (zUD C G' rf G.length (G.length + 1) (G.length + 2) C.k num a b i _ _ b0 hff' _ _ _ _ _ b1 b2 (by omega) (by omega) hii) ?_ ?_
 ·rintro _ G2 ⟨⟨h1, h2⟩, rfl, rfl⟩
  have hrow1 : List.drop 1 ((slots.map iR).getD (a + i).toNat []) = [] := by rw [zQ (by omega)]; rfl
  repeat' (first | refine zXx (by omega) ?_ | simp -implicitDefEqProofs (disch := omega) only [hff', hss', b0, hrow1, zXF, splice, zXv, zXw, push_cast, simprocAttr, ↓reduceIte, zXq])
  exact zHp (s' := ⟨slots.set (a + i).toNat v, stk, _⟩) (by simp only [exS, St.tick, St.top, St.pop, St.put, zYt, zYG, show ¬ i < 0 by omega, show ¬ b ≤ i by omega, or_self, if_false]; rfl) hN hx (hk.trans (Kp0.seta ns hss' _)) (hfr'.put (a + i).toNat v)
 ·rintro _ G2 ⟨h1, rfl, rfl⟩
  repeat' (simp -implicitDefEqProofs (disch := omega) only [push_cast])
  exact zJ7 (s' := ⟨slots, v :: i :: stk, _⟩) (by simp only [exS, St.tick, St.pop, St.top, zYG, zYt, h1, if_true]; rfl) hN hx hk
end
theorem OpM.cmpT {w : Int} {left : List Nat} {ks : List Value} {vs : List AV} (h : OpM w left ks vs) (o : Int) : (∀ k' ∈ ks, kCmp (.int .i64 o) k' = true) = True := by
 simp only [eq_iff_iff, iff_true]; exact h.cmp o
theorem zHa {rows : List (List AV)} {stk : List Int} {i : Nat} (ht : rows.take stk.length = stk.reverse.map iR) (hi : i < stk.length) : rows.getD i [] = [int (stk.reverse.getD i default)] := by
 have e : rows.getD i [] = (rows.take stk.length).getD i [] := by
  simp only [zXC, zX4, hi, if_true]
 rw [e, ht]
 exact zQ (by simpa using hi)
section
variable {C : Cx} {st sz om : AV} {N0 rx rf rs vs : Nat} {slots stk : List Int} {cnt : Int} {G : zC} {a b num : Int} {ks : List Value} {vm : List AV} {bd el : List Ins}
theorem zQf (v : Int) (hm : OpM C.w [] ks vm) (hw : wOk C.w) (hv : inI C.w v) (h : StM C st sz (.mp ks vm) N0 rx rf rs vs ⟨slots, v :: stk, cnt⟩ G) (hN : N0 ≤ G.length) (hl : stk.length ≤ 300000) :
  ACallX Tryz.prog 180 [.ptr rx 0 0, .ptr rf 0 0, .agg (zAE 16 a b bd el num)] G (fun y G' => StMR C st sz (.mp ks vm) N0 rx rf rs vs (exS C 16 a b num (St.tick ⟨slots, v :: stk, cnt⟩)) y G G') fun z G' => StMZ C st sz (.mp ks vm) N0 rx rf (exS C 16 a b num (St.tick ⟨slots, v :: stk, cnt⟩)) z G G' := by
 obtain ⟨hrn, ⟨sk, hfr⟩, hx⟩ := h
 simp only at hrn hfr
 have hff := hfr.f
 have hss := hfr.s
 have nf := hfr.nf
 have ns := hfr.ns
 have hrx := zD hrn
 have hrf := zD hff
 have hrs := zD hss
 have hfs := zV hss hff (by simp)
 have hfr1 : FR (G3 C st sz (.mp ks vm) (IntKind.i64.wrap (cnt + 1)) rx rf G (zAE 16 a b bd el num)) N0 rf rs vs C.k slots (v :: stk) sk := hfr.mono fun i h1 h2 => zCe (by omega) h2
 have q0 : (G3 C st sz (.mp ks vm) (IntKind.i64.wrap (cnt + 1)) rx rf G (zAE 16 a b bd el num))[G.length]? = _ := zKV
 have q1 : (G3 C st sz (.mp ks vm) (IntKind.i64.wrap (cnt + 1)) rx rf G (zAE 16 a b bd el num))[G.length + 1]? = _ := zKU
 have q2 : (G3 C st sz (.mp ks vm) (IntKind.i64.wrap (cnt + 1)) rx rf G (zAE 16 a b bd el num))[G.length + 2]? = _ := zKT
 have qx : (G3 C st sz (.mp ks vm) (IntKind.i64.wrap (cnt + 1)) rx rf G (zAE 16 a b bd el num))[rx]? = _ := zII hrx
 have qf : (G3 C st sz (.mp ks vm) (IntKind.i64.wrap (cnt + 1)) rx rf G (zAE 16 a b bd el num))[rf]? = _ := hfr1.f
 have qs : (G3 C st sz (.mp ks vm) (IntKind.i64.wrap (cnt + 1)) rx rf G (zAE 16 a b bd el num))[rs]? = _ := hfr1.s
 obtain ⟨rt, vt, rows, N, rfl, hg, hN2, hlr, hbb, ht, h0, hne⟩ : ∃ (rt vt : Nat) (rows : List (List AV)) (N : Nat), sk = .os rt vt 0 N ∧ G[rt]? = some (.arr vt 1 rows) ∧ N = stk.length + 1 ∧ N ≤ rows.length ∧ rows.length ≤ 400000 ∧ rows.take (v :: stk).length = (v :: stk).reverse.map iR ∧ N0 ≤ rt ∧ ¬ rt = rs := by
  cases hfr.t with
  | os rt vt rows _ n hn hg ht hl hb h0 hne => exact ⟨rt, vt, rows, n, rfl, hg, by simpa using hn, hl, hb, by rw [← hn]; exact ht, h0, hne⟩
 have hft := zV hg hff (by simp)
 have hrt := zD hg
 have qt : (G3 C st sz (.mp ks vm) (IntKind.i64.wrap (cnt + 1)) rx rf G (zAE 16 a b bd el num))[rt]? = some (.arr vt 1 rows) := (zCe (by omega) hrt).trans hg
 have hcm := hm.cmpT 16
 have hge := (hm.get 16).trans (show zHC C.w [] 16 = some _ from rfl)
 have hdr : rows.take stk.length = stk.reverse.map iR := by
  have := zDo (p := 1) ht (by simp)
  simpa using this
 have hlt1 : (rows.take stk.length).length = stk.length := by rw [zX1]; omega
 have hr : rows.getD stk.length [] = [int v] := by
  have := zHa (i := stk.length) ht (by simp)
  rwa [show (v :: stk).reverse.getD stk.length default = v by rw [zYc, zXC, zXz (by simp)]; simp] at this
 have cO := zUc (G := G3 C st sz (.mp ks vm) (IntKind.i64.wrap (cnt + 1)) rx rf G (zAE 16 a b bd el num)) hw hv qt hN2 hlr (by omega) hr
 refine zBr Tryz.func180 L180_ok (zXs rfl) ?_
 repeat' (simp -implicitDefEqProofs (disch := omega) only [L180, hrn, q0, q1, qx, qf, zB, zG, zY, splice, zXv, zXw, zAZ, zAY, push_cast, simprocAttr, ↓reduceIte, zXq])
 generalize hZ : (G.set rx (RnM C st sz (.mp ks vm) (IntKind.i64.wrap (cnt + 1))) ++ [HO.box [.ptr rf 0 0], HO.box (zAE 16 a b bd el num), HO.box [.fn (.func 223) [] [.ptr G.length 0 0, .ptr (G.length + 1) 0 0]]]) = Z
 have hZ' : G3 C st sz (.mp ks vm) (IntKind.i64.wrap (cnt + 1)) rx rf G (zAE 16 a b bd el num) = Z := hZ
 rw [hZ'] at q0 q1 q2 qx qf qs qt cO
 repeat' (first | refine zXx (by omega) ?_ | refine zAG (cO) ?_ | simp -implicitDefEqProofs (disch := omega) only [q0, qf, qt, hcm, hge, hdr, zXF, zH, splice, zXv, zXw, push_cast, simprocAttr, ↓reduceIte, zXq])
 subst hZ
 exact zHp (s' := ⟨slots, wrF C.w (-v) :: stk, IntKind.i64.wrap (cnt + 1)⟩) rfl hN hx ((Kp0.seta h0 qt _).trans (Kp0.setf nf _)) (hfr1.appt (L := stk.reverse.map iR ++ [[int (wrF C.w (-v))]]) qt h0 hne (by simp only [zXI]; omega) (by simp [iR]) rfl)
theorem zQd (v : Int) (hm : OpM C.w [] ks vm) (h : StM C st sz (.mp ks vm) N0 rx rf rs vs ⟨slots, v :: stk, cnt⟩ G) (hN : N0 ≤ G.length) (hl : stk.length ≤ 300000) :
  ACallX Tryz.prog 180 [.ptr rx 0 0, .ptr rf 0 0, .agg (zAE 17 a b bd el num)] G (fun y G' => StMR C st sz (.mp ks vm) N0 rx rf rs vs (exS C 17 a b num (St.tick ⟨slots, v :: stk, cnt⟩)) y G G') fun z G' => StMZ C st sz (.mp ks vm) N0 rx rf (exS C 17 a b num (St.tick ⟨slots, v :: stk, cnt⟩)) z G G' := by
 obtain ⟨hrn, ⟨sk, hfr⟩, hx⟩ := h
 simp only at hrn hfr
 have hff := hfr.f
 have hss := hfr.s
 have nf := hfr.nf
 have ns := hfr.ns
 have hrx := zD hrn
 have hrf := zD hff
 have hrs := zD hss
 have hfs := zV hss hff (by simp)
 have hfr1 : FR (G3 C st sz (.mp ks vm) (IntKind.i64.wrap (cnt + 1)) rx rf G (zAE 17 a b bd el num)) N0 rf rs vs C.k slots (v :: stk) sk := hfr.mono fun i h1 h2 => zCe (by omega) h2
 have q0 : (G3 C st sz (.mp ks vm) (IntKind.i64.wrap (cnt + 1)) rx rf G (zAE 17 a b bd el num))[G.length]? = _ := zKV
 have q1 : (G3 C st sz (.mp ks vm) (IntKind.i64.wrap (cnt + 1)) rx rf G (zAE 17 a b bd el num))[G.length + 1]? = _ := zKU
 have q2 : (G3 C st sz (.mp ks vm) (IntKind.i64.wrap (cnt + 1)) rx rf G (zAE 17 a b bd el num))[G.length + 2]? = _ := zKT
 have qx : (G3 C st sz (.mp ks vm) (IntKind.i64.wrap (cnt + 1)) rx rf G (zAE 17 a b bd el num))[rx]? = _ := zII hrx
 have qf : (G3 C st sz (.mp ks vm) (IntKind.i64.wrap (cnt + 1)) rx rf G (zAE 17 a b bd el num))[rf]? = _ := hfr1.f
 have qs : (G3 C st sz (.mp ks vm) (IntKind.i64.wrap (cnt + 1)) rx rf G (zAE 17 a b bd el num))[rs]? = _ := hfr1.s
 obtain ⟨rt, vt, rows, N, rfl, hg, hN2, hlr, hbb, ht, h0, hne⟩ : ∃ (rt vt : Nat) (rows : List (List AV)) (N : Nat), sk = .os rt vt 0 N ∧ G[rt]? = some (.arr vt 1 rows) ∧ N = stk.length + 1 ∧ N ≤ rows.length ∧ rows.length ≤ 400000 ∧ rows.take (v :: stk).length = (v :: stk).reverse.map iR ∧ N0 ≤ rt ∧ ¬ rt = rs := by
  cases hfr.t with
  | os rt vt rows _ n hn hg ht hl hb h0 hne => exact ⟨rt, vt, rows, n, rfl, hg, by simpa using hn, hl, hb, by rw [← hn]; exact ht, h0, hne⟩
 have hft := zV hg hff (by simp)
 have hrt := zD hg
 have qt : (G3 C st sz (.mp ks vm) (IntKind.i64.wrap (cnt + 1)) rx rf G (zAE 17 a b bd el num))[rt]? = some (.arr vt 1 rows) := (zCe (by omega) hrt).trans hg
 have hcm := hm.cmpT 17
 have hge := (hm.get 17).trans (show zHC C.w [] 17 = some _ from rfl)
 have hdr : rows.take stk.length = stk.reverse.map iR := by
  have := zDo (p := 1) ht (by simp)
  simpa using this
 have hlt1 : (rows.take stk.length).length = stk.length := by rw [zX1]; omega
 have hr : rows.getD stk.length [] = [int v] := by
  have := zHa (i := stk.length) ht (by simp)
  rwa [show (v :: stk).reverse.getD stk.length default = v by rw [zYc, zXC, zXz (by simp)]; simp] at this
 have cO := zT9 (G := G3 C st sz (.mp ks vm) (IntKind.i64.wrap (cnt + 1)) rx rf G (zAE 17 a b bd el num)) qt hN2 hlr (by omega) hr
 rw [show exS C 17 a b num (St.tick ⟨slots, v :: stk, cnt⟩) = (.go, ⟨slots, (if v = 0 then 1 else 0) :: stk, IntKind.i64.wrap (cnt + 1)⟩) from rfl]
 generalize (if v = 0 then (1 : Int) else 0) = u at *
 refine zBr Tryz.func180 L180_ok (zXs rfl) ?_
 repeat' (simp -implicitDefEqProofs (disch := omega) only [L180, hrn, q0, q1, qx, qf, zB, zG, zY, splice, zXv, zXw, zAZ, zAY, push_cast, simprocAttr, ↓reduceIte, zXq])
 generalize hZ : (G.set rx (RnM C st sz (.mp ks vm) (IntKind.i64.wrap (cnt + 1))) ++ [HO.box [.ptr rf 0 0], HO.box (zAE 17 a b bd el num), HO.box [.fn (.func 223) [] [.ptr G.length 0 0, .ptr (G.length + 1) 0 0]]]) = Z
 have hZ' : G3 C st sz (.mp ks vm) (IntKind.i64.wrap (cnt + 1)) rx rf G (zAE 17 a b bd el num) = Z := hZ
 rw [hZ'] at q0 q1 q2 qx qf qs qt cO
 repeat' (first | refine zXx (by omega) ?_ | refine zAG (cO) ?_ | simp -implicitDefEqProofs (disch := omega) only [q0, qf, qt, hcm, hge, hdr, zXF, zH, splice, zXv, zXw, push_cast, simprocAttr, ↓reduceIte, zXq])
 subst hZ
 exact zHp (s' := ⟨slots, u :: stk, IntKind.i64.wrap (cnt + 1)⟩) rfl hN hx ((Kp0.seta h0 qt _).trans (Kp0.setf nf _)) (hfr1.appt (L := stk.reverse.map iR ++ [[int (u)]]) qt h0 hne (by simp only [zXI]; omega) (by simp [iR]) rfl)
theorem zSM {o : Int} (v2 v1 : Int) (hm : OpM C.w [] ks vm) (hw : wOk C.w) (h5 : 5 ≤ o) (h15 : o ≤ 15) (hv1 : inI C.w v1) (hv2 : inI C.w v2) (h : StM C st sz (.mp ks vm) N0 rx rf rs vs ⟨slots, v2 :: v1 :: stk, cnt⟩ G) (hN : N0 ≤ G.length) (hl : stk.length ≤ 300000) :
  ACallX Tryz.prog 180 [.ptr rx 0 0, .ptr rf 0 0, .agg (zAE o a b bd el num)] G (fun y G' => StMR C st sz (.mp ks vm) N0 rx rf rs vs (exS C o a b num (St.tick ⟨slots, v2 :: v1 :: stk, cnt⟩)) y G G') fun z G' => StMZ C st sz (.mp ks vm) N0 rx rf (exS C o a b num (St.tick ⟨slots, v2 :: v1 :: stk, cnt⟩)) z G G' := by
 obtain ⟨hrn, ⟨sk, hfr⟩, hx⟩ := h
 simp only at hrn hfr
 have hff := hfr.f
 have hss := hfr.s
 have nf := hfr.nf
 have ns := hfr.ns
 have hrx := zD hrn
 have hrf := zD hff
 have hrs := zD hss
 have hfs := zV hss hff (by simp)
 have hfr1 : FR (G3 C st sz (.mp ks vm) (IntKind.i64.wrap (cnt + 1)) rx rf G (zAE o a b bd el num)) N0 rf rs vs C.k slots (v2 :: v1 :: stk) sk := hfr.mono fun i h1 h2 => zCe (by omega) h2
 have q0 : (G3 C st sz (.mp ks vm) (IntKind.i64.wrap (cnt + 1)) rx rf G (zAE o a b bd el num))[G.length]? = _ := zKV
 have q1 : (G3 C st sz (.mp ks vm) (IntKind.i64.wrap (cnt + 1)) rx rf G (zAE o a b bd el num))[G.length + 1]? = _ := zKU
 have q2 : (G3 C st sz (.mp ks vm) (IntKind.i64.wrap (cnt + 1)) rx rf G (zAE o a b bd el num))[G.length + 2]? = _ := zKT
 have qx : (G3 C st sz (.mp ks vm) (IntKind.i64.wrap (cnt + 1)) rx rf G (zAE o a b bd el num))[rx]? = _ := zII hrx
 have qf : (G3 C st sz (.mp ks vm) (IntKind.i64.wrap (cnt + 1)) rx rf G (zAE o a b bd el num))[rf]? = _ := hfr1.f
 have qs : (G3 C st sz (.mp ks vm) (IntKind.i64.wrap (cnt + 1)) rx rf G (zAE o a b bd el num))[rs]? = _ := hfr1.s
 obtain ⟨rt, vt, rows, N, rfl, hg, hN2, hlr, hbb, ht, h0, hne⟩ : ∃ (rt vt : Nat) (rows : List (List AV)) (N : Nat), sk = .os rt vt 0 N ∧ G[rt]? = some (.arr vt 1 rows) ∧ N = stk.length + 2 ∧ N ≤ rows.length ∧ rows.length ≤ 400000 ∧ rows.take (v2 :: v1 :: stk).length = (v2 :: v1 :: stk).reverse.map iR ∧ N0 ≤ rt ∧ ¬ rt = rs := by
  cases hfr.t with
  | os rt vt rows _ n hn hg ht hl hb h0 hne => exact ⟨rt, vt, rows, n, rfl, hg, by simpa using hn, hl, hb, by rw [← hn]; exact ht, h0, hne⟩
 have hft := zV hg hff (by simp)
 have hrt := zD hg
 have qt : (G3 C st sz (.mp ks vm) (IntKind.i64.wrap (cnt + 1)) rx rf G (zAE o a b bd el num))[rt]? = some (.arr vt 1 rows) := (zCe (by omega) hrt).trans hg
 have hcm := hm.cmpT o
 have hge := (hm.get o).trans (show zHC C.w [] o = some (.fn (.func 57) [] [.vp [int C.w] 0, .vp [str (opS o)] 0]) by unfold zHC; rw [if_neg (by omega), if_neg (by omega), if_pos ⟨h5, h15, by simp⟩])
 have hdr : rows.take stk.length = stk.reverse.map iR := by
  have := zDo (p := 2) ht (by simp)
  simpa using this
 have hlt1 : (rows.take stk.length).length = stk.length := by rw [zX1]; omega
 have hra : rows.getD stk.length [] = [int v1] := by
  have := zHa (i := stk.length) ht (by simp; omega)
  rwa [show (v2 :: v1 :: stk).reverse.getD stk.length default = v1 by rw [zYc, zYc, zYm, zXC, zXz (by simp)]; simp] at this
 have hrb : rows.getD (stk.length + 1) [] = [int v2] := by
  have := zHa (i := stk.length + 1) ht (by simp)
  rwa [show (v2 :: v1 :: stk).reverse.getD (stk.length + 1) default = v2 by rw [zYc, zYc, zYm, zXC, zXz (by simp)]; simp] at this
 have cO := binOp (G := G3 C st sz (.mp ks vm) (IntKind.i64.wrap (cnt + 1)) rx rf G (zAE o a b bd el num)) hw h5 h15 hv1 hv2 qt hN2 hlr (by omega) hra hrb
 have hex : exS C o a b num (St.tick ⟨slots, v2 :: v1 :: stk, cnt⟩) = zRU C num (St.tick ⟨slots, v2 :: v1 :: stk, cnt⟩) (zDH o C.w v1 v2) := by
  unfold exS
  repeat rw [if_neg (by omega)]
  rfl
 rw [hex]
 unfold zRU
 generalize zDH o C.w v1 v2 = q at *
 by_cases hq : q.2 = 0
 ·rw [if_pos hq]
  rw [hq] at cO
  refine zBr Tryz.func180 L180_ok (zXs rfl) ?_
  repeat' (simp -implicitDefEqProofs (disch := omega) only [L180, hrn, q0, q1, qx, qf, zB, zG, zY, splice, zXv, zXw, zAZ, zAY, zX, push_cast, simprocAttr, ↓reduceIte, zXq])
  generalize hZ : (G.set rx (RnM C st sz (.mp ks vm) (IntKind.i64.wrap (cnt + 1))) ++ [HO.box [.ptr rf 0 0], HO.box (zAE o a b bd el num), HO.box [.fn (.func 223) [] [.ptr G.length 0 0, .ptr (G.length + 1) 0 0]]]) = Z
  have hZ' : G3 C st sz (.mp ks vm) (IntKind.i64.wrap (cnt + 1)) rx rf G (zAE o a b bd el num) = Z := hZ
  rw [hZ'] at q0 q1 q2 qx qf qs qt cO
  repeat' (first | refine zXx (by omega) ?_ | refine zAG (cO) ?_ | simp -implicitDefEqProofs (disch := omega) only [q0, qf, qt, hcm, hge, hdr, zXF, zH, splice, zXv, zXw, push_cast, simprocAttr, ↓reduceIte, zXq])
  subst hZ
  exact zHp (s' := ⟨slots, q.1 :: stk, IntKind.i64.wrap (cnt + 1)⟩) rfl hN hx ((Kp0.seta h0 qt _).trans (Kp0.setf nf _)) (hfr1.appt (L := stk.reverse.map iR ++ [[int (q.1)]]) qt h0 hne (by simp only [zXI]; omega) (by simp [iR]) rfl)
 ·rw [if_neg hq]
  refine zBr Tryz.func180 L180_ok (zXs rfl) ?_
  repeat' (simp -implicitDefEqProofs (disch := omega) only [L180, hrn, q0, q1, qx, qf, zB, zG, zY, splice, zXv, zXw, zAZ, zAY, zX, push_cast, simprocAttr, ↓reduceIte, zXq])
  generalize hZ : (G.set rx (RnM C st sz (.mp ks vm) (IntKind.i64.wrap (cnt + 1))) ++ [HO.box [.ptr rf 0 0], HO.box (zAE o a b bd el num), HO.box [.fn (.func 223) [] [.ptr G.length 0 0, .ptr (G.length + 1) 0 0]]]) = Z
  have hZ' : G3 C st sz (.mp ks vm) (IntKind.i64.wrap (cnt + 1)) rx rf G (zAE o a b bd el num) = Z := hZ
  rw [hZ'] at q0 q1 q2 qx qf qs qt cO
  repeat' (first | refine zAG (cO) ?_ | simp -implicitDefEqProofs (disch := omega) only [q2, hcm, hge, zXF, zXw, zX, push_cast, simprocAttr, ↓reduceIte])
  subst hZ
  refine zJ (zOr C _ rf G.length (G.length + 1) C.k num q.2 [] _ _ q0 qf _ _ _ _ _ _ _ q1) (fun _ _ hh => hh.elim) ?_
  rintro _ G2 ⟨rfl, rfl⟩
  repeat' (simp -implicitDefEqProofs (disch := omega) only [push_cast])
  exact zJ7 rfl hN hx Kp0.refl
end
end Go.Proofs.YtaipgalanpcgoaaGreat
