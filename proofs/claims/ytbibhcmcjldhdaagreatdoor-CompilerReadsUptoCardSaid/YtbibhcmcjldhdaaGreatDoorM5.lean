/- Parts,merged by a program (wip/tools/merge2.py): Mc10d Mc10e Mc10f Mc10g Mc11 Mc12 Fm3 Cr1 Fp Cp2 Cp3 Cp4 Ax42 Fn Cp5 Cp6 Cr2 Cr3 Cp7 Cp8 Cp9 Ax41 Cp10 Cp11 Ax31. -/
import Derived.Test.YtbibhcmcjldhdaaGreatDoorM4
import Derived.Lib.ItoaMem
import Derived.Test.YtbibhcmcjldhdaaGreatDoorChecked
import Derived.RangeFuncNested
namespace Go.Proofs.YtbibhcmcjldhdaaGreatDoor
open Go Go.Ax
set_option maxRecDepth 100000
set_option linter.unusedSimpArgs false
set_option linter.unusedVariables false
set_option maxHeartbeats 4000000
set_option maxHeartbeats 8000000 in
theorem zR1 (ps : List Pr) (k : Nat) (hk : k < ps.length) (hps : ps.length ≤ 1048576) (hp : zDc ps k) (hh : zDk (ps.getD k default)) (l : List Ins) (out : Bool) (level c : Int) (r : Nat) (G : zA) (o : Int) (ho : o < 0 ∨ 22 < o) : zJ6 ps k l out level c r G o := by
 intro j h e' G' a b bd el hlt hx hs hbd hel hrl hc0 hl0 hl1 ⟨e0,e2,e3,e9,e10,e11,e12,e42,e43,e44,gr,g9,g10,fr,gl,hj,hhh,cc,lv,ef⟩
 have hrow : (l.map zAp).getD j [] = [int o,int a,int b,.sl 5 (bd.map zAp),.sl 5 (el.map zAp)] := by
  rw [zN hlt,hx]; simp [zAp,zAc]
 have hrl' := zZl hrl fr.1
 have hb := zAs l (j + 1)
 have hb2 := zAB l (j + 1)
 have hsn := zAl hlt
 have hsl := zAC hlt
 rw [hx] at hsn hsl
 simp only [zBa,zCN] at hsn hsl
 have hbl := zM bd
 have hell := zM el
 have hbv := zX bd
 have helv := zX el
 obtain ⟨q1,q2,q3,q4,q5,q6,q7,q8⟩ := hh
 have ef0 := ef
 rw [zAM ps k hlt,hx] at ef
 have fA : ∀ B b,Fr1 r G (G'.set r B ++ [b]) := fun B b => (fr.trans (Fr1.set B)).trans (Fr1.app _)
 have fB : ∀ B b X,Fr1 r G ((G'.set r B).set (G.length + 1) X ++ [b]) := fun B b X => ((fr.trans (Fr1.set B)).set' (i := G.length + 1) (by omega) X).trans (Fr1.app _)
 have hng : ((∀ h',¬ zCA ps k (.mk o a b bd el) out h = some h') ∨ 32768 < c + zL (l.take j) + zBa (.mk o a b bd el) ∨ 257 < level + zCN (.mk o a b bd el)) → ¬ zDJ ps k l out level c := zBb hlt hx ef0
 have hSr : ∀ B b,(G'.set r B ++ [b])[r]? = some B := fun B b => by rw [zB (by simpa using hrl'),zH hrl']
 have hS9 : ∀ B b,(G'.set r B ++ [b])[G.length]? = some (.box (prR (ps.getD k default))) := fun B b => by rw [zB (by rw [zZc]; omega),zG (by omega)]; exact g9
 have hS10 : ∀ B b,(G'.set r B ++ [b])[G.length + 1]? = some (.box [int h]) := fun B b => by rw [zB (by rw [zZc]; omega),zG (by omega)]; exact g10
 have hSx : ∀ B b,(G'.set r B ++ [b])[G'.length]? = some b := fun B b => by rw [zYY (by simp)]; simp
 have hTx : ∀ B b X,((G'.set r B).set (G.length + 1) X ++ [b])[G'.length]? = some b := fun B b X => by rw [zYY (by simp)]; simp
 have hln := zM l
 have hXr : ∀ B X,(G'.set r B ++ X)[r]? = some B := fun B X => by rw [zB (by simpa using hrl'),zH hrl']
 have hX9 : ∀ B X,(G'.set r B ++ X)[G.length]? = some (.box (prR (ps.getD k default))) := fun B X => by rw [zB (by rw [zZc]; omega),zG (by omega)]; exact g9
 have hX10 : ∀ B X,(G'.set r B ++ X)[G.length + 1]? = some (.box [int h]) := fun B X => by rw [zB (by rw [zZc]; omega),zG (by omega)]; exact g10
 have hXx : ∀ B b X,(G'.set r B ++ b :: X)[G'.length]? = some b := fun B b X => by rw [zYY (by simp)]; simp
 have hXy : ∀ B b d X,(G'.set r B ++ b :: d :: X)[G'.length + 1]? = some d := fun B b d X => by rw [zYY (by simp)]; simp
 have hYr : ∀ B Y X,((G'.set r B).set (G.length + 1) Y ++ X)[r]? = some B := fun B Y X => by rw [zB (by simpa using hrl'),zG (by omega),zH hrl']
 have hY9 : ∀ B Y X,((G'.set r B).set (G.length + 1) Y ++ X)[G.length]? = some (.box (prR (ps.getD k default))) := fun B Y X => by rw [zB (by simp; omega),zG (by omega),zG (by omega)]; exact g9
 have hY10 : ∀ B Y X,((G'.set r B).set (G.length + 1) Y ++ X)[G.length + 1]? = some Y := fun B Y X => by rw [zB (by simp; omega),zH (by simp; omega)]
 have hYx : ∀ B Y b X,((G'.set r B).set (G.length + 1) Y ++ b :: X)[G'.length]? = some b := fun B Y b X => by rw [zYY (by simp)]; simp
 have hXs : ∀ B b z Y,(G'.set r B ++ [b,z]).set (G'.length + 1) Y = G'.set r B ++ [b,Y] := fun B b z Y => by rw [zzao _ _ (by simp)]; simp
 have fX : ∀ B X,Fr1 r G (G'.set r B ++ X) := fun B X => (fr.trans (Fr1.set B)).trans (Fr1.app _)
 have fY : ∀ B Y X,Fr1 r G ((G'.set r B).set (G.length + 1) Y ++ X) := fun B Y X => ((fr.trans (Fr1.set B)).set' (i := G.length + 1) (by omega) Y).trans (Fr1.app _)
 by_cases hcn : c + zL (l.take j) + 1 ≤ 32768
 ·have ng := hng (.inl fun h' hh => by
   simp only [zCA] at hh
   rw [if_neg (by unfold zW; omega)] at hh
   cases hh)
  rcases ho with ho | ho
  ·repeat' (first | refine zY1 (by omega) ?_ | refine zD (zAo _) ?_ | refine zI (zAG _) ?_ | simp -implicitDefEqProofs (disch := omega) only [e0,e42,e43,e44,gr,hrow,zB,zK,splice,zYV,zBE,hXr,hXx,L46,LCode.sub,zS,zAj,zAK,zAx,push_cast,↓reduceIte,Nat.reduceEqDiff,reduceCtorEq,Nat.reduceAdd,Nat.reduceLeDiff,Int.reduceNeg,zYW])
   all_goals first | exact fX _ _ | exact ⟨ng,fX _ _⟩
  ·repeat' (first | refine zY1 (by omega) ?_ | refine zD (zAo _) ?_ | refine zI (zAG _) ?_ | simp -implicitDefEqProofs (disch := omega) only [e0,e42,e43,e44,gr,hrow,zB,zK,splice,zYV,zBE,hXr,hXx,L46,LCode.sub,zS,zAj,zAK,zAx,push_cast,↓reduceIte,Nat.reduceEqDiff,reduceCtorEq,Nat.reduceAdd,Nat.reduceLeDiff,Int.reduceNeg,zYW])
   all_goals first | exact fX _ _ | exact ⟨ng,fX _ _⟩
 ·repeat' (first | refine zY1 (by omega) ?_ | refine zI (zAG _) ?_ | simp -implicitDefEqProofs (disch := omega) only [e0,e42,e43,e44,gr,hrow,zB,zK,splice,zYV,zBE,hXr,L46,LCode.sub,zS,zAK,push_cast,↓reduceIte,Nat.reduceEqDiff,reduceCtorEq,Nat.reduceAdd,Nat.reduceLeDiff,Int.reduceNeg,zYW])
  exact ⟨hng (.inr (.inl (by simp only [zBa]; omega))),fX _ _⟩
set_option maxHeartbeats 8000000 in
theorem zUp (ps : List Pr) (k : Nat) (hk : k < ps.length) (hps : ps.length ≤ 1048576) (hp : zDc ps k) (hh : zDk (ps.getD k default)) (l : List Ins) (out : Bool) (level c : Int) (r : Nat) (G : zA) : zJ6 ps k l out level c r G 21 := by
 intro j h e' G' a b bd el hlt hx hs hbd hel hrl hc0 hl0 hl1 ⟨e0,e2,e3,e9,e10,e11,e12,e42,e43,e44,gr,g9,g10,fr,gl,hj,hhh,cc,lv,ef⟩
 have hrow : (l.map zAp).getD j [] = [int 21,int a,int b,.sl 5 (bd.map zAp),.sl 5 (el.map zAp)] := by
  rw [zN hlt,hx]; simp [zAp,zAc]
 have hrl' := zZl hrl fr.1
 have hb := zAs l (j + 1)
 have hb2 := zAB l (j + 1)
 have hsn := zAl hlt
 have hsl := zAC hlt
 rw [hx] at hsn hsl
 simp only [zBa,zCN] at hsn hsl
 have hbl := zM bd
 have hell := zM el
 have hbv := zX bd
 have helv := zX el
 obtain ⟨q1,q2,q3,q4,q5,q6,q7,q8⟩ := hh
 have ef0 := ef
 rw [zAM ps k hlt,hx] at ef
 have fA : ∀ B b,Fr1 r G (G'.set r B ++ [b]) := fun B b => (fr.trans (Fr1.set B)).trans (Fr1.app _)
 have fB : ∀ B b X,Fr1 r G ((G'.set r B).set (G.length + 1) X ++ [b]) := fun B b X => ((fr.trans (Fr1.set B)).set' (i := G.length + 1) (by omega) X).trans (Fr1.app _)
 have hng : ((∀ h',¬ zCA ps k (.mk 21 a b bd el) out h = some h') ∨ 32768 < c + zL (l.take j) + zBa (.mk 21 a b bd el) ∨ 257 < level + zCN (.mk 21 a b bd el)) → ¬ zDJ ps k l out level c := zBb hlt hx ef0
 have hSr : ∀ B b,(G'.set r B ++ [b])[r]? = some B := fun B b => by rw [zB (by simpa using hrl'),zH hrl']
 have hS9 : ∀ B b,(G'.set r B ++ [b])[G.length]? = some (.box (prR (ps.getD k default))) := fun B b => by rw [zB (by rw [zZc]; omega),zG (by omega)]; exact g9
 have hS10 : ∀ B b,(G'.set r B ++ [b])[G.length + 1]? = some (.box [int h]) := fun B b => by rw [zB (by rw [zZc]; omega),zG (by omega)]; exact g10
 have hSx : ∀ B b,(G'.set r B ++ [b])[G'.length]? = some b := fun B b => by rw [zYY (by simp)]; simp
 have hTx : ∀ B b X,((G'.set r B).set (G.length + 1) X ++ [b])[G'.length]? = some b := fun B b X => by rw [zYY (by simp)]; simp
 have hln := zM l
 have hXr : ∀ B X,(G'.set r B ++ X)[r]? = some B := fun B X => by rw [zB (by simpa using hrl'),zH hrl']
 have hX9 : ∀ B X,(G'.set r B ++ X)[G.length]? = some (.box (prR (ps.getD k default))) := fun B X => by rw [zB (by rw [zZc]; omega),zG (by omega)]; exact g9
 have hX10 : ∀ B X,(G'.set r B ++ X)[G.length + 1]? = some (.box [int h]) := fun B X => by rw [zB (by rw [zZc]; omega),zG (by omega)]; exact g10
 have hXx : ∀ B b X,(G'.set r B ++ b :: X)[G'.length]? = some b := fun B b X => by rw [zYY (by simp)]; simp
 have hXy : ∀ B b d X,(G'.set r B ++ b :: d :: X)[G'.length + 1]? = some d := fun B b d X => by rw [zYY (by simp)]; simp
 have hYr : ∀ B Y X,((G'.set r B).set (G.length + 1) Y ++ X)[r]? = some B := fun B Y X => by rw [zB (by simpa using hrl'),zG (by omega),zH hrl']
 have hY9 : ∀ B Y X,((G'.set r B).set (G.length + 1) Y ++ X)[G.length]? = some (.box (prR (ps.getD k default))) := fun B Y X => by rw [zB (by simp; omega),zG (by omega),zG (by omega)]; exact g9
 have hY10 : ∀ B Y X,((G'.set r B).set (G.length + 1) Y ++ X)[G.length + 1]? = some Y := fun B Y X => by rw [zB (by simp; omega),zH (by simp; omega)]
 have hYx : ∀ B Y b X,((G'.set r B).set (G.length + 1) Y ++ b :: X)[G'.length]? = some b := fun B Y b X => by rw [zYY (by simp)]; simp
 have hXs : ∀ B b z Y,(G'.set r B ++ [b,z]).set (G'.length + 1) Y = G'.set r B ++ [b,Y] := fun B b z Y => by rw [zzao _ _ (by simp)]; simp
 have fX : ∀ B X,Fr1 r G (G'.set r B ++ X) := fun B X => (fr.trans (Fr1.set B)).trans (Fr1.app _)
 have fY : ∀ B Y X,Fr1 r G ((G'.set r B).set (G.length + 1) Y ++ X) := fun B Y X => ((fr.trans (Fr1.set B)).set' (i := G.length + 1) (by omega) Y).trans (Fr1.app _)
 by_cases hcn : c + zL (l.take j) + 1 ≤ 32768
 ·cases hI : zCA ps k (.mk 21 a b bd el) out h with
  | some h' =>
   obtain ⟨hab,hem,rfl,hm,rfl⟩ := zVK.1 hI
   rw [hI] at ef
   have hz : zL bd = 0 ∧ zL el = 0 ∧ zAE bd = 0 ∧ zAE el = 0 := by
    rw [zZh.1 hem.1,zZh.1 hem.2]; exact ⟨rfl,rfl,rfl,rfl⟩
   have fRT : ∀ B Y X,Fr1 r G ((G'.set r B).set (G.length + 1) Y ++ X) := fY
   by_cases hr : (ps.getD k default).res < 0
   ·have hmx : (if (ps.getD k default).res < 0 then (0 : Int) else (ps.getD k default).res) = 0 := if_pos hr
    repeat' (first | refine zY1 (by omega) ?_ | refine zD (zAo _) ?_ | simp -implicitDefEqProofs (disch := omega) only [e0,e2,e9,e10,e42,e43,e44,gr,hrow,zB,zK,zT,splice,zFu,zBx,zYV,zBE,hXr,hX9,hX10,hXx,hYx,L46,LCode.sub,hmx,zS,zAj,zAz,push_cast,↓reduceIte,Nat.reduceEqDiff,reduceCtorEq,Nat.reduceAdd,Nat.reduceLeDiff,Int.reduceEq,Int.reduceNeg,zYW])
    exact .mk (j + 1,0) ⟨e0,e2,e3,e9,e10,e11,e12,e42,e43,rfl,by rw [hYr,hsn]; simp only [hz,zZJ,zZw]; push_cast; rw [zzag],hY9 _ _ _,by rw [hY10],fRT _ _ _,by simp; omega,hlt,by dsimp only; omega,by dsimp only; rw [hsn]; omega,by dsimp only; rw [hsl]; omega,ef⟩ (by dsimp only; omega)
   ·have hmx : (if (ps.getD k default).res < 0 then (0 : Int) else (ps.getD k default).res) = (ps.getD k default).res := if_neg hr
    repeat' (first | refine zY1 (by omega) ?_ | refine zD (zAo _) ?_ | simp -implicitDefEqProofs (disch := omega) only [e0,e2,e9,e10,e42,e43,e44,gr,hrow,zB,zK,zT,splice,zFu,zBx,zYV,zBE,hXr,hX9,hX10,hXx,hYx,L46,LCode.sub,hmx,zS,zAj,zAz,push_cast,↓reduceIte,Nat.reduceEqDiff,reduceCtorEq,Nat.reduceAdd,Nat.reduceLeDiff,Int.reduceEq,Int.reduceNeg,zYW])
    exact .mk (j + 1,0) ⟨e0,e2,e3,e9,e10,e11,e12,e42,e43,rfl,by rw [hYr,hsn]; simp only [hz,zZJ,zZw]; push_cast; rw [zzag],hY9 _ _ _,by rw [hY10],fRT _ _ _,by simp; omega,hlt,by dsimp only; omega,by dsimp only; rw [hsn]; omega,by dsimp only; rw [hsl]; omega,ef⟩ (by dsimp only; omega)
  | none =>
   have ng := hng (.inl fun h' hh => by rw [hI] at hh; cases hh)
   have hn : ¬ ((a = 0 ∧ b = 0) ∧ (bd.length = 0 ∧ el.length = 0) ∧ out = true ∧ h = max (ps.getD k default).res 0) := fun hh => by rw [zVK.2 ⟨hh.1,hh.2.1,hh.2.2.1,hh.2.2.2,rfl⟩] at hI; cases hI
   cases out with
   | false =>
    repeat' (first | refine zY1 (by omega) ?_ | refine zD (zAo _) ?_ | refine zI (zAG _) ?_ | simp -implicitDefEqProofs (disch := omega) only [e0,e2,e42,e43,e44,gr,hrow,zB,zK,splice,zYV,zBE,hXr,hXx,L46,LCode.sub,zS,zAj,push_cast,↓reduceIte,Nat.reduceEqDiff,reduceCtorEq,Nat.reduceAdd,Nat.reduceLeDiff,Int.reduceEq,Int.reduceNeg,zYW])
    all_goals first | exact fX _ _ | exact ⟨ng,fX _ _⟩
   | true =>
    by_cases hr : (ps.getD k default).res < 0
    ·have hmx : (if (ps.getD k default).res < 0 then (0 : Int) else (ps.getD k default).res) = 0 := if_pos hr
     repeat' (first | intro y0 H2 h0; obtain ⟨hb,rfl⟩ : MT _ _ H2 := h0; (try (exfalso; contradiction)); (try simp only [zY5] at hb) | intro z0 H2 h0; obtain ⟨hb,rfl,rfl⟩ : MF _ z0 _ H2 := h0; clear hb | refine zY1 (by omega) ?_ | refine zF (zCY _ _) ?_ ?_ | simp -implicitDefEqProofs (disch := omega) only [e0,e2,e9,e10,e42,e43,e44,gr,hrow,zB,zK,zT,splice,zFu,zBx,zYV,zBE,hXr,hX9,hX10,hXx,hYx,L46,LCode.sub,hmx,zS,zAj,zAz,zAx,push_cast,↓reduceIte,Nat.reduceEqDiff,reduceCtorEq,Nat.reduceAdd,Nat.reduceLeDiff,Int.reduceEq,Int.reduceNeg,zYW] | split)
     all_goals first | exact fX _ _ | exact fY _ _ _ | exact ⟨ng,fX _ _⟩ | exact ⟨ng,fY _ _ _⟩ | (exfalso; refine hn ⟨⟨?_,?_⟩,⟨?_,?_⟩,rfl,?_⟩ <;> omega)
    ·have hmx : (if (ps.getD k default).res < 0 then (0 : Int) else (ps.getD k default).res) = (ps.getD k default).res := if_neg hr
     repeat' (first | intro y0 H2 h0; obtain ⟨hb,rfl⟩ : MT _ _ H2 := h0; (try (exfalso; contradiction)); (try simp only [zY5] at hb) | intro z0 H2 h0; obtain ⟨hb,rfl,rfl⟩ : MF _ z0 _ H2 := h0; clear hb | refine zY1 (by omega) ?_ | refine zF (zCY _ _) ?_ ?_ | simp -implicitDefEqProofs (disch := omega) only [e0,e2,e9,e10,e42,e43,e44,gr,hrow,zB,zK,zT,splice,zFu,zBx,zYV,zBE,hXr,hX9,hX10,hXx,hYx,L46,LCode.sub,hmx,zS,zAj,zAz,zAx,push_cast,↓reduceIte,Nat.reduceEqDiff,reduceCtorEq,Nat.reduceAdd,Nat.reduceLeDiff,Int.reduceEq,Int.reduceNeg,zYW] | split)
     all_goals first | exact fX _ _ | exact fY _ _ _ | exact ⟨ng,fX _ _⟩ | exact ⟨ng,fY _ _ _⟩ | (exfalso; refine hn ⟨⟨?_,?_⟩,⟨?_,?_⟩,rfl,?_⟩ <;> omega)
 ·repeat' (first | refine zY1 (by omega) ?_ | refine zI (zAG _) ?_ | simp -implicitDefEqProofs (disch := omega) only [e0,e42,e43,e44,gr,hrow,zB,zK,splice,zYV,zBE,hXr,L46,LCode.sub,zS,zAK,push_cast,↓reduceIte,Nat.reduceEqDiff,reduceCtorEq,Nat.reduceAdd,Nat.reduceLeDiff,Int.reduceNeg,zYW])
  exact ⟨hng (.inr (.inl (by simp only [zBa]; omega))),fX _ _⟩
set_option maxHeartbeats 8000000 in
theorem zUq (ps : List Pr) (k : Nat) (hk : k < ps.length) (hps : ps.length ≤ 1048576) (hp : zDc ps k) (hh : zDk (ps.getD k default)) (l : List Ins) (out : Bool) (level c : Int) (r : Nat) (G : zA) : zJ6 ps k l out level c r G 20 := by
 intro j h e' G' a b bd el hlt hx hs hbd hel hrl hc0 hl0 hl1 ⟨e0,e2,e3,e9,e10,e11,e12,e42,e43,e44,gr,g9,g10,fr,gl,hj,hhh,cc,lv,ef⟩
 have hrow : (l.map zAp).getD j [] = [int 20,int a,int b,.sl 5 (bd.map zAp),.sl 5 (el.map zAp)] := by
  rw [zN hlt,hx]; simp [zAp,zAc]
 have hrl' := zZl hrl fr.1
 have hb := zAs l (j + 1)
 have hb2 := zAB l (j + 1)
 have hsn := zAl hlt
 have hsl := zAC hlt
 rw [hx] at hsn hsl
 simp only [zBa,zCN] at hsn hsl
 have hbl := zM bd
 have hell := zM el
 have hbv := zX bd
 have helv := zX el
 obtain ⟨q1,q2,q3,q4,q5,q6,q7,q8⟩ := hh
 have ef0 := ef
 rw [zAM ps k hlt,hx] at ef
 have fA : ∀ B b,Fr1 r G (G'.set r B ++ [b]) := fun B b => (fr.trans (Fr1.set B)).trans (Fr1.app _)
 have fB : ∀ B b X,Fr1 r G ((G'.set r B).set (G.length + 1) X ++ [b]) := fun B b X => ((fr.trans (Fr1.set B)).set' (i := G.length + 1) (by omega) X).trans (Fr1.app _)
 have hng : ((∀ h',¬ zCA ps k (.mk 20 a b bd el) out h = some h') ∨ 32768 < c + zL (l.take j) + zBa (.mk 20 a b bd el) ∨ 257 < level + zCN (.mk 20 a b bd el)) → ¬ zDJ ps k l out level c := zBb hlt hx ef0
 have hSr : ∀ B b,(G'.set r B ++ [b])[r]? = some B := fun B b => by rw [zB (by simpa using hrl'),zH hrl']
 have hS9 : ∀ B b,(G'.set r B ++ [b])[G.length]? = some (.box (prR (ps.getD k default))) := fun B b => by rw [zB (by rw [zZc]; omega),zG (by omega)]; exact g9
 have hS10 : ∀ B b,(G'.set r B ++ [b])[G.length + 1]? = some (.box [int h]) := fun B b => by rw [zB (by rw [zZc]; omega),zG (by omega)]; exact g10
 have hSx : ∀ B b,(G'.set r B ++ [b])[G'.length]? = some b := fun B b => by rw [zYY (by simp)]; simp
 have hTx : ∀ B b X,((G'.set r B).set (G.length + 1) X ++ [b])[G'.length]? = some b := fun B b X => by rw [zYY (by simp)]; simp
 have hln := zM l
 have hXr : ∀ B X,(G'.set r B ++ X)[r]? = some B := fun B X => by rw [zB (by simpa using hrl'),zH hrl']
 have hX9 : ∀ B X,(G'.set r B ++ X)[G.length]? = some (.box (prR (ps.getD k default))) := fun B X => by rw [zB (by rw [zZc]; omega),zG (by omega)]; exact g9
 have hX10 : ∀ B X,(G'.set r B ++ X)[G.length + 1]? = some (.box [int h]) := fun B X => by rw [zB (by rw [zZc]; omega),zG (by omega)]; exact g10
 have hXx : ∀ B b X,(G'.set r B ++ b :: X)[G'.length]? = some b := fun B b X => by rw [zYY (by simp)]; simp
 have hXy : ∀ B b d X,(G'.set r B ++ b :: d :: X)[G'.length + 1]? = some d := fun B b d X => by rw [zYY (by simp)]; simp
 have hYr : ∀ B Y X,((G'.set r B).set (G.length + 1) Y ++ X)[r]? = some B := fun B Y X => by rw [zB (by simpa using hrl'),zG (by omega),zH hrl']
 have hY9 : ∀ B Y X,((G'.set r B).set (G.length + 1) Y ++ X)[G.length]? = some (.box (prR (ps.getD k default))) := fun B Y X => by rw [zB (by simp; omega),zG (by omega),zG (by omega)]; exact g9
 have hY10 : ∀ B Y X,((G'.set r B).set (G.length + 1) Y ++ X)[G.length + 1]? = some Y := fun B Y X => by rw [zB (by simp; omega),zH (by simp; omega)]
 have hYx : ∀ B Y b X,((G'.set r B).set (G.length + 1) Y ++ b :: X)[G'.length]? = some b := fun B Y b X => by rw [zYY (by simp)]; simp
 have hXs : ∀ B b z Y,(G'.set r B ++ [b,z]).set (G'.length + 1) Y = G'.set r B ++ [b,Y] := fun B b z Y => by rw [zzao _ _ (by simp)]; simp
 have fX : ∀ B X,Fr1 r G (G'.set r B ++ X) := fun B X => (fr.trans (Fr1.set B)).trans (Fr1.app _)
 have fY : ∀ B Y X,Fr1 r G ((G'.set r B).set (G.length + 1) Y ++ X) := fun B Y X => ((fr.trans (Fr1.set B)).set' (i := G.length + 1) (by omega) Y).trans (Fr1.app _)
 by_cases hcn : c + zL (l.take j) + 1 ≤ 32768
 ·have hpr1 : (prR (ps.getD a.toNat default)).drop 1 = [int (ps.getD a.toNat default).par,int (ps.getD a.toNat default).slots,int (ps.getD a.toNat default).res,.sl 1 ((ps.getD a.toNat default).outs.map iR),.sl 5 ((ps.getD a.toNat default).body.map zAp)] := rfl
  by_cases ha : 0 ≤ a ∧ a < k
  ·obtain ⟨p1,p2,p3,p4⟩ := hp a.toNat (by omega)
   have po := zKx p3 p4
   have cO := fun H => zPz (ps.getD a.toNat default) (by omega) H
   cases hI : zCA ps k (.mk 20 a b bd el) out h with
   | some h' =>
    obtain ⟨hb0,hem,_,f1,f2,rfl⟩ := zSX.1 hI
    rw [hI] at ef
    have hz : zL bd = 0 ∧ zL el = 0 ∧ zAE bd = 0 ∧ zAE el = 0 := by
     rw [zZh.1 hem.1,zZh.1 hem.2]; exact ⟨rfl,rfl,rfl,rfl⟩
    repeat' (first | refine zY1 (by omega) ?_ | refine zC (cO _) ?_ | refine zD (zAo _) ?_ | simp -implicitDefEqProofs (disch := omega) only [e0,e11,e42,e43,e44,gr,hrow,zB,zK,splice,zBx,zYV,zBE,hXr,hXx,hXy,hXs,L46,LCode.sub,zBL,zES,zIy,hpr1,zS,zAj,push_cast,↓reduceIte,Nat.reduceEqDiff,reduceCtorEq,Nat.reduceAdd,Nat.reduceLeDiff,Int.reduceEq,Int.reduceNeg,zYW])
    refine zDQ (zCb h (ps.getD a.toNat default).par (zEz (ps.getD a.toNat default) - (ps.getD a.toNat default).par) hhh (by omega) _ _ (hX10 _ _)) ?_ ?_
    ·intro y0 H2 h0
     obtain ⟨-,rfl⟩ : NT _ _ _ _ _ H2 := h0
     simp -implicitDefEqProofs (disch := omega) only [zB,zK,zG,zH,zCd,zT,zBG,zBH,zBF,zBk,zS,zAQ,zAj,zAK,zAz,zAx,push_cast,↓reduceIte,Nat.reduceEqDiff,reduceCtorEq,Nat.reduceAdd,Nat.reduceSub,Nat.reduceMul,Nat.reduceLeDiff,Nat.reduceLT,Nat.reduceMod,Nat.reduceDiv,Int.reduceToNat,Int.reduceLT,Int.reduceLE,Int.reduceEq,Int.reduceAdd,Int.reduceSub,Int.reduceNeg,Int.reduceMul,zYW]
     repeat' (first | refine zD (zAo _) ?_ | simp -implicitDefEqProofs (disch := omega) only [e44,zYV,hYx,zAz,push_cast,↓reduceIte,Nat.reduceEqDiff,Nat.reduceAdd,Nat.reduceLeDiff])
     exact .mk (j + 1,h + (zEz (ps.getD a.toNat default) - (ps.getD a.toNat default).par)) ⟨e0,e2,e3,e9,e10,e11,e12,e42,e43,rfl,by rw [hYr,hsn]; simp only [hz,zZJ,zZw]; push_cast; rw [zzag],hY9 _ _ _,by rw [hY10],fY _ _ _,by simp; omega,hlt,by dsimp only; omega,by dsimp only; rw [hsn]; omega,by dsimp only; rw [hsl]; omega,ef⟩ (by dsimp only; omega)
    ·intro z0 H2 h0
     obtain ⟨-,hn,-⟩ : NF _ _ _ _ z0 _ H2 := h0
     exact absurd ⟨f1,f2⟩ hn
   | none =>
    have ng := hng (.inl fun h' hh => by rw [hI] at hh; cases hh)
    have hn : ¬ (b = 0 ∧ (bd.length = 0 ∧ el.length = 0) ∧ (ps.getD a.toNat default).par ≤ h ∧ h + (zEz (ps.getD a.toNat default) - (ps.getD a.toNat default).par) ≤ 1024) := fun hh => by rw [zSX.2 ⟨hh.1,hh.2.1,ha,hh.2.2.1,hh.2.2.2,rfl⟩] at hI; cases hI
    repeat' (first | intro y0 H2 h0; obtain ⟨hb,rfl⟩ : MT _ _ H2 := h0; (try (exfalso; contradiction)); (try simp only [zY5] at hb) | intro z0 H2 h0; obtain ⟨hb,rfl,rfl⟩ : MF _ z0 _ H2 := h0; clear hb | intro y0 H2 h0; obtain ⟨hb,rfl⟩ : NT _ _ _ _ _ H2 := h0 | intro z0 H2 h0; obtain ⟨rfl,hb,rfl | rfl⟩ : NF _ _ _ _ z0 _ H2 := h0 | refine zY1 (by omega) ?_ | refine zD (zAo _) ?_ | refine zC (cO _) ?_ | refine zF (zCY _ _) ?_ ?_ | refine zF (zCb h (ps.getD a.toNat default).par (zEz (ps.getD a.toNat default) - (ps.getD a.toNat default).par) hhh (by omega) _ _ (hX10 _ _)) ?_ ?_ | simp -implicitDefEqProofs (disch := omega) only [e0,e11,e42,e43,e44,gr,hrow,zB,zK,zT,splice,zBx,zYV,zBE,hXr,hXx,hXy,hYx,hXs,L46,LCode.sub,zBL,zES,zIy,hpr1,zS,zAj,zAz,zAx,push_cast,↓reduceIte,Nat.reduceEqDiff,reduceCtorEq,Nat.reduceAdd,Nat.reduceLeDiff,Int.reduceEq,Int.reduceNeg,zYW] | split)
    all_goals first | exact fX _ _ | exact fY _ _ _ | exact ⟨ng,fX _ _⟩ | exact ⟨ng,fY _ _ _⟩ | (exfalso; refine hn ⟨?_,⟨?_,?_⟩,?_,?_⟩ <;> omega)
  ·have ng := hng (.inl fun h' hh => ha (zSX.1 hh).2.2.1)
   repeat' (first | intro y0 H2 h0; obtain ⟨hb,rfl⟩ : MT _ _ H2 := h0; (try (exfalso; contradiction)); (try simp only [zY5] at hb) | intro z0 H2 h0; obtain ⟨hb,rfl,rfl⟩ : MF _ z0 _ H2 := h0; clear hb | refine zY1 (by omega) ?_ | refine zD (zAo _) ?_ | refine zF (zCY _ _) ?_ ?_ | simp -implicitDefEqProofs (disch := omega) only [e0,e42,e43,e44,gr,hrow,zB,zK,splice,zYV,zBE,hXr,hXx,L46,LCode.sub,zS,zAQ,zAj,zAK,push_cast,↓reduceIte,Nat.reduceEqDiff,reduceCtorEq,Nat.reduceAdd,Nat.reduceLeDiff,Int.reduceEq,Int.reduceNeg,zYW] | split)
   all_goals first | exact fX _ _ | exact ⟨ng,fX _ _⟩ | (exfalso; omega)
 ·repeat' (first | refine zY1 (by omega) ?_ | refine zI (zAG _) ?_ | simp -implicitDefEqProofs (disch := omega) only [e0,e42,e43,e44,gr,hrow,zB,zK,splice,zYV,zBE,hXr,L46,LCode.sub,zS,zAK,push_cast,↓reduceIte,Nat.reduceEqDiff,reduceCtorEq,Nat.reduceAdd,Nat.reduceLeDiff,Int.reduceNeg,zYW])
  exact ⟨hng (.inr (.inl (by simp only [zBa]; omega))),fX _ _⟩
set_option maxHeartbeats 8000000 in
theorem zUs (ps : List Pr) (k : Nat) (hk : k < ps.length) (hps : ps.length ≤ 1048576) (hp : zDc ps k) (hh : zDk (ps.getD k default)) (l : List Ins) (out : Bool) (level c : Int) (r : Nat) (G : zA) : zJ6 ps k l out level c r G 18 := by
 intro j h e' G' a b bd el hlt hx hs hbd hel hrl hc0 hl0 hl1 ⟨e0,e2,e3,e9,e10,e11,e12,e42,e43,e44,gr,g9,g10,fr,gl,hj,hhh,cc,lv,ef⟩
 have hrow : (l.map zAp).getD j [] = [int 18,int a,int b,.sl 5 (bd.map zAp),.sl 5 (el.map zAp)] := by
  rw [zN hlt,hx]; simp [zAp,zAc]
 have hrl' := zZl hrl fr.1
 have hb := zAs l (j + 1)
 have hb2 := zAB l (j + 1)
 have hsn := zAl hlt
 have hsl := zAC hlt
 rw [hx] at hsn hsl
 simp only [zBa,zCN] at hsn hsl
 have hbl := zM bd
 have hell := zM el
 have hbv := zX bd
 have helv := zX el
 obtain ⟨q1,q2,q3,q4,q5,q6,q7,q8⟩ := hh
 have ef0 := ef
 rw [zAM ps k hlt,hx] at ef
 have fA : ∀ B b,Fr1 r G (G'.set r B ++ [b]) := fun B b => (fr.trans (Fr1.set B)).trans (Fr1.app _)
 have fB : ∀ B b X,Fr1 r G ((G'.set r B).set (G.length + 1) X ++ [b]) := fun B b X => ((fr.trans (Fr1.set B)).set' (i := G.length + 1) (by omega) X).trans (Fr1.app _)
 have hng : ((∀ h',¬ zCA ps k (.mk 18 a b bd el) out h = some h') ∨ 32768 < c + zL (l.take j) + zBa (.mk 18 a b bd el) ∨ 257 < level + zCN (.mk 18 a b bd el)) → ¬ zDJ ps k l out level c := zBb hlt hx ef0
 have hSr : ∀ B b,(G'.set r B ++ [b])[r]? = some B := fun B b => by rw [zB (by simpa using hrl'),zH hrl']
 have hS9 : ∀ B b,(G'.set r B ++ [b])[G.length]? = some (.box (prR (ps.getD k default))) := fun B b => by rw [zB (by rw [zZc]; omega),zG (by omega)]; exact g9
 have hS10 : ∀ B b,(G'.set r B ++ [b])[G.length + 1]? = some (.box [int h]) := fun B b => by rw [zB (by rw [zZc]; omega),zG (by omega)]; exact g10
 have hSx : ∀ B b,(G'.set r B ++ [b])[G'.length]? = some b := fun B b => by rw [zYY (by simp)]; simp
 have hTx : ∀ B b X,((G'.set r B).set (G.length + 1) X ++ [b])[G'.length]? = some b := fun B b X => by rw [zYY (by simp)]; simp
 have hln := zM l
 have hXr : ∀ B X,(G'.set r B ++ X)[r]? = some B := fun B X => by rw [zB (by simpa using hrl'),zH hrl']
 have hX9 : ∀ B X,(G'.set r B ++ X)[G.length]? = some (.box (prR (ps.getD k default))) := fun B X => by rw [zB (by rw [zZc]; omega),zG (by omega)]; exact g9
 have hX10 : ∀ B X,(G'.set r B ++ X)[G.length + 1]? = some (.box [int h]) := fun B X => by rw [zB (by rw [zZc]; omega),zG (by omega)]; exact g10
 have hXx : ∀ B b X,(G'.set r B ++ b :: X)[G'.length]? = some b := fun B b X => by rw [zYY (by simp)]; simp
 have hXy : ∀ B b d X,(G'.set r B ++ b :: d :: X)[G'.length + 1]? = some d := fun B b d X => by rw [zYY (by simp)]; simp
 have hYr : ∀ B Y X,((G'.set r B).set (G.length + 1) Y ++ X)[r]? = some B := fun B Y X => by rw [zB (by simpa using hrl'),zG (by omega),zH hrl']
 have hY9 : ∀ B Y X,((G'.set r B).set (G.length + 1) Y ++ X)[G.length]? = some (.box (prR (ps.getD k default))) := fun B Y X => by rw [zB (by simp; omega),zG (by omega),zG (by omega)]; exact g9
 have hY10 : ∀ B Y X,((G'.set r B).set (G.length + 1) Y ++ X)[G.length + 1]? = some Y := fun B Y X => by rw [zB (by simp; omega),zH (by simp; omega)]
 have hYx : ∀ B Y b X,((G'.set r B).set (G.length + 1) Y ++ b :: X)[G'.length]? = some b := fun B Y b X => by rw [zYY (by simp)]; simp
 have hXs : ∀ B b z Y,(G'.set r B ++ [b,z]).set (G'.length + 1) Y = G'.set r B ++ [b,Y] := fun B b z Y => by rw [zzao _ _ (by simp)]; simp
 have fX : ∀ B X,Fr1 r G (G'.set r B ++ X) := fun B X => (fr.trans (Fr1.set B)).trans (Fr1.app _)
 have fY : ∀ B Y X,Fr1 r G ((G'.set r B).set (G.length + 1) Y ++ X) := fun B Y X => ((fr.trans (Fr1.set B)).set' (i := G.length + 1) (by omega) Y).trans (Fr1.app _)
 by_cases hcn : c + zL (l.take j) + 1 ≤ 32768
 ·cases out with
  | false =>
   have hio : (false && decide (h = 1)) = false := rfl
   have h18 := fun h' => zCS (ps := ps) (k := k) (a := a) (b := b) (bd := bd) (el := el) (out := false) (h := h) (h' := h')
   have hx0 := hx
   repeat' (first | refine zY1 (by omega) ?_ | refine zD (zAo _) ?_ | simp -implicitDefEqProofs (disch := omega) only [e0,e11,e42,e43,e44,gr,hrow,zB,zK,splice,zYV,zBE,hXr,hXx,L46,LCode.sub,zS,zAj,push_cast,↓reduceIte,Nat.reduceEqDiff,reduceCtorEq,Nat.reduceAdd,Nat.reduceLeDiff,Int.reduceEq,Int.reduceNeg,zYW])
   refine zF (zCb h 1 (-1) hhh (by omega) _ _ (hX10 _ _)) ?_ ?_
   ·intro y0 H2 h0
    obtain ⟨hb1,rfl⟩ : NT _ _ _ _ _ H2 := h0
    simp -implicitDefEqProofs (disch := omega) only [zB,zK,zG,zH,zCd,zT,zBG,zBH,zBF,zBk,zS,zAQ,zAj,zAK,zAz,zAx,push_cast,↓reduceIte,Nat.reduceEqDiff,reduceCtorEq,Nat.reduceAdd,Nat.reduceSub,Nat.reduceMul,Nat.reduceLeDiff,Nat.reduceLT,Nat.reduceMod,Nat.reduceDiv,Int.reduceToNat,Int.reduceLT,Int.reduceLE,Int.reduceEq,Int.reduceAdd,Int.reduceSub,Int.reduceNeg,Int.reduceMul,zYW]
    repeat' (simp -implicitDefEqProofs (disch := omega) only [e0,e2,e3,hYx,push_cast,↓reduceIte,Nat.reduceEqDiff,reduceCtorEq,Nat.reduceAdd,Nat.reduceLeDiff,Int.reduceNeg])
    refine zF (hbd false (level + 1) (c + zL (l.take j) + 1) _ r (hYr _ _ _) (by omega) (by omega) (by omega) (by omega)) ?_ ?_
    ·rintro y0 G2 ⟨y1,rfl,he1,hc1,hv1,hf1,hr2⟩
     have rg1 := zBI hp bd _ 0 y1 (by omega) (by omega) he1
     have fr2 : Fr1 r G G2 := (fY _ _ _).trans hf1
     have l2 : G'.length + 1 ≤ G2.length := by have := hf1.1; simpa using this
     have k9 : G2[G.length]? = some (.box (prR (ps.getD k default))) := (hf1.2 _ (by simp; omega) (by omega)).trans (hY9 _ _ _)
     have k10 : G2[G.length + 1]? = some (.box [int (h + -1)]) := (hf1.2 _ (by simp; omega) (by omega)).trans (hY10 _ _ _)
     have kx : G2[G'.length]? = some (.box [int 18,int a,int b,.sl 5 (bd.map zAp),.sl 5 (el.map zAp)]) := (hf1.2 _ (by simp) (by omega)).trans (hYx _ _ _ _)
     clear hf1
     repeat' (simp -implicitDefEqProofs (disch := omega) only [e0,e3,kx,push_cast,↓reduceIte,Nat.reduceEqDiff,reduceCtorEq,Nat.reduceAdd,Nat.reduceLeDiff])
     refine zF (hel false (level + 1) (c + zL (l.take j) + 1 + zL bd) G2 r hr2 (by omega) (by omega) (by omega) (by omega)) ?_ ?_
     ·rintro y0 G3 ⟨y2,rfl,he2,hc2,hv2,hf2,hr3⟩
      have rg2 := zBI hp el _ 0 y2 (by omega) (by omega) he2
      have fr3 : Fr1 r G G3 := fr2.trans hf2
      have l3 : G'.length + 1 ≤ G3.length := zZ3 l2 hf2.1
      have m9 : G3[G.length]? = some (.box (prR (ps.getD k default))) := (hf2.2 _ (by omega) (by omega)).trans k9
      have m10 : G3[G.length + 1]? = some (.box [int (h + -1)]) := (hf2.2 _ (by omega) (by omega)).trans k10
      have mx : G3[G'.length]? = some (.box [int 18,int a,int b,.sl 5 (bd.map zAp),.sl 5 (el.map zAp)]) := (hf2.2 _ (by omega) (by omega)).trans kx
      clear hf2 k9 k10 kx
      have fR3 : ∀ X,Fr1 r G (G3.set (G.length + 1) X) := fun X => fr3.set' (by omega) X
      by_cases hy : y2 = y1
      ·subst hy
       repeat' (first | refine zD (zAo _) ?_ | simp -implicitDefEqProofs (disch := omega) only [e11,push_cast,↓reduceIte,Nat.reduceEqDiff])
       refine zF (zCb (h + -1) 0 y2 (by omega) (by omega) _ _ m10) ?_ ?_
       ·intro y0 H2 h0
        obtain ⟨hb2,rfl⟩ : NT _ _ _ _ _ H2 := h0
        by_cases hab : a = 0 ∧ b = 0
        ·have hI := (h18 _).2 ⟨hab.1,hab.2,by omega,y2,by rw [hio]; exact he1,by rw [hio]; exact he2,by omega,rfl⟩
         rw [hI] at ef
         repeat' (first | refine zD (zAo _) ?_ | simp -implicitDefEqProofs (disch := omega) only [e44,mx,zG,zAz,push_cast,↓reduceIte,Nat.reduceEqDiff,Nat.reduceAdd,Nat.reduceLeDiff,Int.reduceNeg])
         have hcnt : c + (zL (l.take j) : Int) + 1 + zL bd + zL el = c + (zL (l.take (j + 1)) : Nat) := by rw [hsn]; push_cast; omega
         have hyy : h + -1 + y2 = h + (y2 - 1) := by omega
         exact .mk (j + 1,h + (y2 - 1)) ⟨e0,e2,e3,e9,e10,e11,e12,e42,e43,rfl,by rw [zG (by omega),hr3,hcnt],by rw [zG (by omega)]; exact m9,by rw [zH (by omega),hyy],fR3 _,by simp; omega,hlt,by dsimp only; omega,by dsimp only; rw [hsn]; omega,by dsimp only; rw [hsl]; omega,ef⟩ (by dsimp only; omega)
        ·have ng := hng (.inl fun h' hh => hab (by obtain ⟨g1,g2,_⟩ := zCS.1 hh; exact ⟨g1,g2⟩))
         repeat' (first | refine zY1 (by omega) ?_ | refine zI (zAG _) ?_ | simp -implicitDefEqProofs (disch := omega) only [mx,zG,zAz,zAx,push_cast,↓reduceIte,Nat.reduceEqDiff,Nat.reduceAdd,Nat.reduceLeDiff,Int.reduceNeg] | split)
         all_goals first | exact fR3 _ | exact ⟨ng,fR3 _⟩ | (exfalso; omega)
       ·intro z0 H2 h0
        obtain ⟨rfl,hb2,hH2⟩ : NF _ _ _ _ z0 _ H2 := h0
        have ng := hng (.inl fun h' hh => by
         obtain ⟨g1,g2,g3,e,g4,g5,g6,g7⟩ := zCS.1 hh
         rw [hio,he1] at g4
         simp only [zYT] at g4
         omega)
        rcases hH2 with rfl | rfl
        ·repeat' (first | refine zY1 (by omega) ?_ | simp -implicitDefEqProofs (disch := omega) only [push_cast])
         first | exact fr3 | exact ⟨ng,fr3⟩
        ·repeat' (first | refine zY1 (by omega) ?_ | simp -implicitDefEqProofs (disch := omega) only [push_cast,Int.reduceNeg])
         first | exact fR3 _ | exact ⟨ng,fR3 _⟩
      ·have ng := hng (.inl fun h' hh => by
        obtain ⟨g1,g2,g3,e,g4,g5,g6,g7⟩ := zCS.1 hh
        rw [hio,he1] at g4
        rw [hio,he2] at g5
        simp only [zYT] at g4 g5
        omega)
       repeat' (first | refine zY1 (by omega) ?_ | refine zI (zAG _) ?_ | simp -implicitDefEqProofs (disch := omega) only [zAx,push_cast,↓reduceIte,Nat.reduceEqDiff])
       first | exact fr3 | exact ⟨ng,fr3⟩
     ·rintro z0 G3 ⟨rfl,hb2,hf2⟩
      have ng := hng (by
       by_cases hg : ∃ e,zDu ps k el false 0 = some e
       ·refine .inr (zZo fun hno => hb2 ⟨hg,?_,?_⟩) <;> simp only [zBa,zCN] at hno <;> omega
       ·exact .inl fun h' hh => by
         obtain ⟨g1,g2,g3,e,g4,g5,g6,g7⟩ := zCS.1 hh
         rw [hio] at g5
         exact hg ⟨_,g5⟩)
      repeat' (first | refine zY1 (by omega) ?_ | simp -implicitDefEqProofs (disch := omega) only [push_cast])
      first | exact fr2.trans hf2 | exact ⟨ng,fr2.trans hf2⟩
    ·rintro z0 G2 ⟨rfl,hb2,hf2⟩
     have ng := hng (by
      by_cases hg : ∃ e,zDu ps k bd false 0 = some e
      ·refine .inr (zZo fun hno => hb2 ⟨hg,?_,?_⟩) <;> simp only [zBa,zCN] at hno <;> omega
      ·exact .inl fun h' hh => by
        obtain ⟨g1,g2,g3,e,g4,g5,g6,g7⟩ := zCS.1 hh
        rw [hio] at g4
        exact hg ⟨_,g4⟩)
     repeat' (first | refine zY1 (by omega) ?_ | simp -implicitDefEqProofs (disch := omega) only [push_cast])
     first | exact (fY _ _ _).trans hf2 | exact ⟨ng,(fY _ _ _).trans hf2⟩
   ·intro z0 H2 h0
    obtain ⟨rfl,hb2,hH2⟩ : NF _ _ _ _ z0 _ H2 := h0
    have ng := hng (.inl fun h' hh => by
     obtain ⟨g1,g2,g3,_⟩ := zCS.1 hh
     omega)
    rcases hH2 with rfl | rfl
    ·repeat' (first | refine zY1 (by omega) ?_ | simp -implicitDefEqProofs (disch := omega) only [push_cast])
     first | exact fX _ _ | exact ⟨ng,fX _ _⟩
    ·simp -implicitDefEqProofs (disch := omega) only [zB,zK,zG,zH,zCd,zT,zBG,zBH,zBF,zBk,zS,zAQ,zAj,zAK,zAz,zAx,push_cast,↓reduceIte,Nat.reduceEqDiff,reduceCtorEq,Nat.reduceAdd,Nat.reduceSub,Nat.reduceMul,Nat.reduceLeDiff,Nat.reduceLT,Nat.reduceMod,Nat.reduceDiv,Int.reduceToNat,Int.reduceLT,Int.reduceLE,Int.reduceEq,Int.reduceAdd,Int.reduceSub,Int.reduceNeg,Int.reduceMul,zYW]
     repeat' (refine zY1 (by omega) ?_)
     first | exact fY _ _ _ | exact ⟨ng,fY _ _ _⟩
  | true =>
   by_cases h1e : h = 1
   ·have hio : (true && decide (h = 1)) = true := by simp [h1e]
    have h18 := fun h' => zCS (ps := ps) (k := k) (a := a) (b := b) (bd := bd) (el := el) (out := true) (h := h) (h' := h')
    have hx0 := hx
    repeat' (first | refine zY1 (by omega) ?_ | refine zD (zAo _) ?_ | simp -implicitDefEqProofs (disch := omega) only [e0,e11,e42,e43,e44,gr,hrow,zB,zK,splice,zYV,zBE,hXr,hXx,L46,LCode.sub,zS,zAj,push_cast,↓reduceIte,Nat.reduceEqDiff,reduceCtorEq,Nat.reduceAdd,Nat.reduceLeDiff,Int.reduceEq,Int.reduceNeg,zYW])
    refine zF (zCb h 1 (-1) hhh (by omega) _ _ (hX10 _ _)) ?_ ?_
    ·intro y0 H2 h0
     obtain ⟨hb1,rfl⟩ : NT _ _ _ _ _ H2 := h0
     simp -implicitDefEqProofs (disch := omega) only [zB,zK,zG,zH,zCd,zT,zBG,zBH,zBF,zBk,zS,zAQ,zAj,zAK,zAz,zAx,push_cast,↓reduceIte,Nat.reduceEqDiff,reduceCtorEq,Nat.reduceAdd,Nat.reduceSub,Nat.reduceMul,Nat.reduceLeDiff,Nat.reduceLT,Nat.reduceMod,Nat.reduceDiv,Int.reduceToNat,Int.reduceLT,Int.reduceLE,Int.reduceEq,Int.reduceAdd,Int.reduceSub,Int.reduceNeg,Int.reduceMul,zYW]
     repeat' (simp -implicitDefEqProofs (disch := omega) only [e0,e2,e3,e10,hY10,hYx,zAz,push_cast,↓reduceIte,Nat.reduceEqDiff,reduceCtorEq,Nat.reduceAdd,Nat.reduceLeDiff,Int.reduceNeg])
     refine zF (hbd true (level + 1) (c + zL (l.take j) + 1) _ r (hYr _ _ _) (by omega) (by omega) (by omega) (by omega)) ?_ ?_
     ·rintro y0 G2 ⟨y1,rfl,he1,hc1,hv1,hf1,hr2⟩
      have rg1 := zBI hp bd _ 0 y1 (by omega) (by omega) he1
      have fr2 : Fr1 r G G2 := (fY _ _ _).trans hf1
      have l2 : G'.length + 1 ≤ G2.length := by have := hf1.1; simpa using this
      have k9 : G2[G.length]? = some (.box (prR (ps.getD k default))) := (hf1.2 _ (by simp; omega) (by omega)).trans (hY9 _ _ _)
      have k10 : G2[G.length + 1]? = some (.box [int (h + -1)]) := (hf1.2 _ (by simp; omega) (by omega)).trans (hY10 _ _ _)
      have kx : G2[G'.length]? = some (.box [int 18,int a,int b,.sl 5 (bd.map zAp),.sl 5 (el.map zAp)]) := (hf1.2 _ (by simp) (by omega)).trans (hYx _ _ _ _)
      clear hf1
      repeat' (simp -implicitDefEqProofs (disch := omega) only [e0,e3,kx,push_cast,↓reduceIte,Nat.reduceEqDiff,reduceCtorEq,Nat.reduceAdd,Nat.reduceLeDiff,Int.reduceNeg])
      refine zF (hel true (level + 1) (c + zL (l.take j) + 1 + zL bd) G2 r hr2 (by omega) (by omega) (by omega) (by omega)) ?_ ?_
      ·rintro y0 G3 ⟨y2,rfl,he2,hc2,hv2,hf2,hr3⟩
       have rg2 := zBI hp el _ 0 y2 (by omega) (by omega) he2
       have fr3 : Fr1 r G G3 := fr2.trans hf2
       have l3 : G'.length + 1 ≤ G3.length := zZ3 l2 hf2.1
       have m9 : G3[G.length]? = some (.box (prR (ps.getD k default))) := (hf2.2 _ (by omega) (by omega)).trans k9
       have m10 : G3[G.length + 1]? = some (.box [int (h + -1)]) := (hf2.2 _ (by omega) (by omega)).trans k10
       have mx : G3[G'.length]? = some (.box [int 18,int a,int b,.sl 5 (bd.map zAp),.sl 5 (el.map zAp)]) := (hf2.2 _ (by omega) (by omega)).trans kx
       clear hf2 k9 k10 kx
       have fR3 : ∀ X,Fr1 r G (G3.set (G.length + 1) X) := fun X => fr3.set' (by omega) X
       by_cases hy : y2 = y1
       ·subst hy
        repeat' (first | refine zD (zAo _) ?_ | simp -implicitDefEqProofs (disch := omega) only [e11,push_cast,↓reduceIte,Nat.reduceEqDiff,Int.reduceNeg])
        refine zF (zCb (h + -1) 0 y2 (by omega) (by omega) _ _ m10) ?_ ?_
        ·intro y0 H2 h0
         obtain ⟨hb2,rfl⟩ : NT _ _ _ _ _ H2 := h0
         by_cases hab : a = 0 ∧ b = 0
         ·have hI := (h18 _).2 ⟨hab.1,hab.2,by omega,y2,by rw [hio]; exact he1,by rw [hio]; exact he2,by omega,rfl⟩
          rw [hI] at ef
          repeat' (first | refine zD (zAo _) ?_ | simp -implicitDefEqProofs (disch := omega) only [e44,mx,zG,zAz,push_cast,↓reduceIte,Nat.reduceEqDiff,Nat.reduceAdd,Nat.reduceLeDiff,Int.reduceNeg])
          have hcnt : c + (zL (l.take j) : Int) + 1 + zL bd + zL el = c + (zL (l.take (j + 1)) : Nat) := by rw [hsn]; push_cast; omega
          have hyy : h + -1 + y2 = h + (y2 - 1) := by omega
          exact .mk (j + 1,h + (y2 - 1)) ⟨e0,e2,e3,e9,e10,e11,e12,e42,e43,rfl,by rw [zG (by omega),hr3,hcnt],by rw [zG (by omega)]; exact m9,by rw [zH (by omega),hyy],fR3 _,by simp; omega,hlt,by dsimp only; omega,by dsimp only; rw [hsn]; omega,by dsimp only; rw [hsl]; omega,ef⟩ (by dsimp only; omega)
         ·have ng := hng (.inl fun h' hh => hab (by obtain ⟨g1,g2,_⟩ := zCS.1 hh; exact ⟨g1,g2⟩))
          repeat' (first | refine zY1 (by omega) ?_ | refine zI (zAG _) ?_ | simp -implicitDefEqProofs (disch := omega) only [mx,zG,zAz,zAx,push_cast,↓reduceIte,Nat.reduceEqDiff,Nat.reduceAdd,Nat.reduceLeDiff,Int.reduceNeg] | split)
          all_goals first | exact fR3 _ | exact ⟨ng,fR3 _⟩ | (exfalso; omega)
        ·intro z0 H2 h0
         obtain ⟨rfl,hb2,hH2⟩ : NF _ _ _ _ z0 _ H2 := h0
         have ng := hng (.inl fun h' hh => by
          obtain ⟨g1,g2,g3,e,g4,g5,g6,g7⟩ := zCS.1 hh
          rw [hio,he1] at g4
          simp only [zYT] at g4
          omega)
         rcases hH2 with rfl | rfl
         ·repeat' (refine zY1 (by omega) ?_)
          first | exact fr3 | exact ⟨ng,fr3⟩
         ·repeat' (refine zY1 (by omega) ?_)
          first | exact fR3 _ | exact ⟨ng,fR3 _⟩
       ·have ng := hng (.inl fun h' hh => by
         obtain ⟨g1,g2,g3,e,g4,g5,g6,g7⟩ := zCS.1 hh
         rw [hio,he1] at g4
         rw [hio,he2] at g5
         simp only [zYT] at g4 g5
         omega)
        repeat' (first | refine zY1 (by omega) ?_ | refine zI (zAG _) ?_ | simp -implicitDefEqProofs (disch := omega) only [zAx,push_cast,↓reduceIte,Nat.reduceEqDiff,Int.reduceNeg])
        first | exact fr3 | exact ⟨ng,fr3⟩
      ·rintro z0 G3 ⟨rfl,hb2,hf2⟩
       have ng := hng (by
        by_cases hg : ∃ e,zDu ps k el true 0 = some e
        ·refine .inr (zZo fun hno => hb2 ⟨hg,?_,?_⟩) <;> simp only [zBa,zCN] at hno <;> omega
        ·exact .inl fun h' hh => by
          obtain ⟨g1,g2,g3,e,g4,g5,g6,g7⟩ := zCS.1 hh
          rw [hio] at g5
          exact hg ⟨_,g5⟩)
       repeat' (first | refine zY1 (by omega) ?_ | simp -implicitDefEqProofs (disch := omega) only [push_cast,Int.reduceNeg])
       first | exact fr2.trans hf2 | exact ⟨ng,fr2.trans hf2⟩
     ·rintro z0 G2 ⟨rfl,hb2,hf2⟩
      have ng := hng (by
       by_cases hg : ∃ e,zDu ps k bd true 0 = some e
       ·refine .inr (zZo fun hno => hb2 ⟨hg,?_,?_⟩) <;> simp only [zBa,zCN] at hno <;> omega
       ·exact .inl fun h' hh => by
         obtain ⟨g1,g2,g3,e,g4,g5,g6,g7⟩ := zCS.1 hh
         rw [hio] at g4
         exact hg ⟨_,g4⟩)
      repeat' (first | refine zY1 (by omega) ?_ | simp -implicitDefEqProofs (disch := omega) only [push_cast,Int.reduceNeg])
      first | exact (fY _ _ _).trans hf2 | exact ⟨ng,(fY _ _ _).trans hf2⟩
    ·intro z0 H2 h0
     obtain ⟨rfl,hb2,hH2⟩ : NF _ _ _ _ z0 _ H2 := h0
     have ng := hng (.inl fun h' hh => by
      obtain ⟨g1,g2,g3,_⟩ := zCS.1 hh
      omega)
     rcases hH2 with rfl | rfl
     ·repeat' (refine zY1 (by omega) ?_)
      first | exact fX _ _ | exact ⟨ng,fX _ _⟩
     ·simp -implicitDefEqProofs (disch := omega) only [zB,zK,zG,zH,zCd,zT,zBG,zBH,zBF,zBk,zS,zAQ,zAj,zAK,zAz,zAx,push_cast,↓reduceIte,Nat.reduceEqDiff,reduceCtorEq,Nat.reduceAdd,Nat.reduceSub,Nat.reduceMul,Nat.reduceLeDiff,Nat.reduceLT,Nat.reduceMod,Nat.reduceDiv,Int.reduceToNat,Int.reduceLT,Int.reduceLE,Int.reduceEq,Int.reduceAdd,Int.reduceSub,Int.reduceNeg,Int.reduceMul,zYW]
      repeat' (refine zY1 (by omega) ?_)
      first | exact fY _ _ _ | exact ⟨ng,fY _ _ _⟩
   ·have hio : (true && decide (h = 1)) = false := by simp [h1e]
    have h18 := fun h' => zCS (ps := ps) (k := k) (a := a) (b := b) (bd := bd) (el := el) (out := true) (h := h) (h' := h')
    have hx0 := hx
    repeat' (first | refine zY1 (by omega) ?_ | refine zD (zAo _) ?_ | simp -implicitDefEqProofs (disch := omega) only [e0,e11,e42,e43,e44,gr,hrow,zB,zK,splice,zYV,zBE,hXr,hXx,L46,LCode.sub,zS,zAj,push_cast,↓reduceIte,Nat.reduceEqDiff,reduceCtorEq,Nat.reduceAdd,Nat.reduceLeDiff,Int.reduceEq,Int.reduceNeg,zYW])
    refine zF (zCb h 1 (-1) hhh (by omega) _ _ (hX10 _ _)) ?_ ?_
    ·intro y0 H2 h0
     obtain ⟨hb1,rfl⟩ : NT _ _ _ _ _ H2 := h0
     simp -implicitDefEqProofs (disch := omega) only [zB,zK,zG,zH,zCd,zT,zBG,zBH,zBF,zBk,zS,zAQ,zAj,zAK,zAz,zAx,push_cast,↓reduceIte,Nat.reduceEqDiff,reduceCtorEq,Nat.reduceAdd,Nat.reduceSub,Nat.reduceMul,Nat.reduceLeDiff,Nat.reduceLT,Nat.reduceMod,Nat.reduceDiv,Int.reduceToNat,Int.reduceLT,Int.reduceLE,Int.reduceEq,Int.reduceAdd,Int.reduceSub,Int.reduceNeg,Int.reduceMul,zYW]
     repeat' (simp -implicitDefEqProofs (disch := omega) only [e0,e2,e3,e10,hY10,hYx,zAx,push_cast,↓reduceIte,Nat.reduceEqDiff,reduceCtorEq,Nat.reduceAdd,Nat.reduceLeDiff,Int.reduceNeg])
     refine zF (hbd false (level + 1) (c + zL (l.take j) + 1) _ r (hYr _ _ _) (by omega) (by omega) (by omega) (by omega)) ?_ ?_
     ·rintro y0 G2 ⟨y1,rfl,he1,hc1,hv1,hf1,hr2⟩
      have rg1 := zBI hp bd _ 0 y1 (by omega) (by omega) he1
      have fr2 : Fr1 r G G2 := (fY _ _ _).trans hf1
      have l2 : G'.length + 1 ≤ G2.length := by have := hf1.1; simpa using this
      have k9 : G2[G.length]? = some (.box (prR (ps.getD k default))) := (hf1.2 _ (by simp; omega) (by omega)).trans (hY9 _ _ _)
      have k10 : G2[G.length + 1]? = some (.box [int (h + -1)]) := (hf1.2 _ (by simp; omega) (by omega)).trans (hY10 _ _ _)
      have kx : G2[G'.length]? = some (.box [int 18,int a,int b,.sl 5 (bd.map zAp),.sl 5 (el.map zAp)]) := (hf1.2 _ (by simp) (by omega)).trans (hYx _ _ _ _)
      clear hf1
      repeat' (simp -implicitDefEqProofs (disch := omega) only [e0,e3,kx,push_cast,↓reduceIte,Nat.reduceEqDiff,reduceCtorEq,Nat.reduceAdd,Nat.reduceLeDiff,Int.reduceNeg])
      refine zF (hel false (level + 1) (c + zL (l.take j) + 1 + zL bd) G2 r hr2 (by omega) (by omega) (by omega) (by omega)) ?_ ?_
      ·rintro y0 G3 ⟨y2,rfl,he2,hc2,hv2,hf2,hr3⟩
       have rg2 := zBI hp el _ 0 y2 (by omega) (by omega) he2
       have fr3 : Fr1 r G G3 := fr2.trans hf2
       have l3 : G'.length + 1 ≤ G3.length := zZ3 l2 hf2.1
       have m9 : G3[G.length]? = some (.box (prR (ps.getD k default))) := (hf2.2 _ (by omega) (by omega)).trans k9
       have m10 : G3[G.length + 1]? = some (.box [int (h + -1)]) := (hf2.2 _ (by omega) (by omega)).trans k10
       have mx : G3[G'.length]? = some (.box [int 18,int a,int b,.sl 5 (bd.map zAp),.sl 5 (el.map zAp)]) := (hf2.2 _ (by omega) (by omega)).trans kx
       clear hf2 k9 k10 kx
       have fR3 : ∀ X,Fr1 r G (G3.set (G.length + 1) X) := fun X => fr3.set' (by omega) X
       by_cases hy : y2 = y1
       ·subst hy
        repeat' (first | refine zD (zAo _) ?_ | simp -implicitDefEqProofs (disch := omega) only [e11,push_cast,↓reduceIte,Nat.reduceEqDiff,Int.reduceNeg])
        refine zF (zCb (h + -1) 0 y2 (by omega) (by omega) _ _ m10) ?_ ?_
        ·intro y0 H2 h0
         obtain ⟨hb2,rfl⟩ : NT _ _ _ _ _ H2 := h0
         by_cases hab : a = 0 ∧ b = 0
         ·have hI := (h18 _).2 ⟨hab.1,hab.2,by omega,y2,by rw [hio]; exact he1,by rw [hio]; exact he2,by omega,rfl⟩
          rw [hI] at ef
          repeat' (first | refine zD (zAo _) ?_ | simp -implicitDefEqProofs (disch := omega) only [e44,mx,zG,zAz,push_cast,↓reduceIte,Nat.reduceEqDiff,Nat.reduceAdd,Nat.reduceLeDiff,Int.reduceNeg])
          have hcnt : c + (zL (l.take j) : Int) + 1 + zL bd + zL el = c + (zL (l.take (j + 1)) : Nat) := by rw [hsn]; push_cast; omega
          have hyy : h + -1 + y2 = h + (y2 - 1) := by omega
          exact .mk (j + 1,h + (y2 - 1)) ⟨e0,e2,e3,e9,e10,e11,e12,e42,e43,rfl,by rw [zG (by omega),hr3,hcnt],by rw [zG (by omega)]; exact m9,by rw [zH (by omega),hyy],fR3 _,by simp; omega,hlt,by dsimp only; omega,by dsimp only; rw [hsn]; omega,by dsimp only; rw [hsl]; omega,ef⟩ (by dsimp only; omega)
         ·have ng := hng (.inl fun h' hh => hab (by obtain ⟨g1,g2,_⟩ := zCS.1 hh; exact ⟨g1,g2⟩))
          repeat' (first | refine zY1 (by omega) ?_ | refine zI (zAG _) ?_ | simp -implicitDefEqProofs (disch := omega) only [mx,zG,zAz,zAx,push_cast,↓reduceIte,Nat.reduceEqDiff,Nat.reduceAdd,Nat.reduceLeDiff,Int.reduceNeg] | split)
          all_goals first | exact fR3 _ | exact ⟨ng,fR3 _⟩ | (exfalso; omega)
        ·intro z0 H2 h0
         obtain ⟨rfl,hb2,hH2⟩ : NF _ _ _ _ z0 _ H2 := h0
         have ng := hng (.inl fun h' hh => by
          obtain ⟨g1,g2,g3,e,g4,g5,g6,g7⟩ := zCS.1 hh
          rw [hio,he1] at g4
          simp only [zYT] at g4
          omega)
         rcases hH2 with rfl | rfl
         ·repeat' (first | refine zY1 (by omega) ?_ | simp -implicitDefEqProofs (disch := omega) only [push_cast,Int.reduceNeg])
          first | exact fr3 | exact ⟨ng,fr3⟩
         ·repeat' (first | refine zY1 (by omega) ?_ | simp -implicitDefEqProofs (disch := omega) only [push_cast,Int.reduceNeg])
          first | exact fR3 _ | exact ⟨ng,fR3 _⟩
       ·have ng := hng (.inl fun h' hh => by
         obtain ⟨g1,g2,g3,e,g4,g5,g6,g7⟩ := zCS.1 hh
         rw [hio,he1] at g4
         rw [hio,he2] at g5
         simp only [zYT] at g4 g5
         omega)
        repeat' (first | refine zY1 (by omega) ?_ | refine zI (zAG _) ?_ | simp -implicitDefEqProofs (disch := omega) only [zAx,push_cast,↓reduceIte,Nat.reduceEqDiff,Int.reduceNeg])
        first | exact fr3 | exact ⟨ng,fr3⟩
      ·rintro z0 G3 ⟨rfl,hb2,hf2⟩
       have ng := hng (by
        by_cases hg : ∃ e,zDu ps k el false 0 = some e
        ·refine .inr (zZo fun hno => hb2 ⟨hg,?_,?_⟩) <;> simp only [zBa,zCN] at hno <;> omega
        ·exact .inl fun h' hh => by
          obtain ⟨g1,g2,g3,e,g4,g5,g6,g7⟩ := zCS.1 hh
          rw [hio] at g5
          exact hg ⟨_,g5⟩)
       repeat' (first | refine zY1 (by omega) ?_ | simp -implicitDefEqProofs (disch := omega) only [push_cast,Int.reduceNeg])
       first | exact fr2.trans hf2 | exact ⟨ng,fr2.trans hf2⟩
     ·rintro z0 G2 ⟨rfl,hb2,hf2⟩
      have ng := hng (by
       by_cases hg : ∃ e,zDu ps k bd false 0 = some e
       ·refine .inr (zZo fun hno => hb2 ⟨hg,?_,?_⟩) <;> simp only [zBa,zCN] at hno <;> omega
       ·exact .inl fun h' hh => by
         obtain ⟨g1,g2,g3,e,g4,g5,g6,g7⟩ := zCS.1 hh
         rw [hio] at g4
         exact hg ⟨_,g4⟩)
      repeat' (first | refine zY1 (by omega) ?_ | simp -implicitDefEqProofs (disch := omega) only [push_cast,Int.reduceNeg])
      first | exact (fY _ _ _).trans hf2 | exact ⟨ng,(fY _ _ _).trans hf2⟩
    ·intro z0 H2 h0
     obtain ⟨rfl,hb2,hH2⟩ : NF _ _ _ _ z0 _ H2 := h0
     have ng := hng (.inl fun h' hh => by
      obtain ⟨g1,g2,g3,_⟩ := zCS.1 hh
      omega)
     rcases hH2 with rfl | rfl
     ·repeat' (first | refine zY1 (by omega) ?_ | simp -implicitDefEqProofs (disch := omega) only [push_cast])
      first | exact fX _ _ | exact ⟨ng,fX _ _⟩
     ·simp -implicitDefEqProofs (disch := omega) only [zB,zK,zG,zH,zCd,zT,zBG,zBH,zBF,zBk,zS,zAQ,zAj,zAK,zAz,zAx,push_cast,↓reduceIte,Nat.reduceEqDiff,reduceCtorEq,Nat.reduceAdd,Nat.reduceSub,Nat.reduceMul,Nat.reduceLeDiff,Nat.reduceLT,Nat.reduceMod,Nat.reduceDiv,Int.reduceToNat,Int.reduceLT,Int.reduceLE,Int.reduceEq,Int.reduceAdd,Int.reduceSub,Int.reduceNeg,Int.reduceMul,zYW]
      repeat' (refine zY1 (by omega) ?_)
      first | exact fY _ _ _ | exact ⟨ng,fY _ _ _⟩
 ·repeat' (first | refine zY1 (by omega) ?_ | refine zI (zAG _) ?_ | simp -implicitDefEqProofs (disch := omega) only [e0,e42,e43,e44,gr,hrow,zB,zK,splice,zYV,zBE,hXr,L46,LCode.sub,zS,zAK,push_cast,↓reduceIte,Nat.reduceEqDiff,reduceCtorEq,Nat.reduceAdd,Nat.reduceLeDiff,Int.reduceNeg,zYW])
  exact ⟨hng (.inr (.inl (by simp only [zBa]; omega))),fX _ _⟩
set_option maxHeartbeats 8000000 in
theorem zUr (ps : List Pr) (k : Nat) (hk : k < ps.length) (hps : ps.length ≤ 1048576) (hp : zDc ps k) (hh : zDk (ps.getD k default)) (l : List Ins) (out : Bool) (level c : Int) (r : Nat) (G : zA) : zJ6 ps k l out level c r G 19 := by
 intro j h e' G' a b bd el hlt hx hs hbd hel hrl hc0 hl0 hl1 ⟨e0,e2,e3,e9,e10,e11,e12,e42,e43,e44,gr,g9,g10,fr,gl,hj,hhh,cc,lv,ef⟩
 have hrow : (l.map zAp).getD j [] = [int 19,int a,int b,.sl 5 (bd.map zAp),.sl 5 (el.map zAp)] := by
  rw [zN hlt,hx]; simp [zAp,zAc]
 have hrl' := zZl hrl fr.1
 have hb := zAs l (j + 1)
 have hb2 := zAB l (j + 1)
 have hsn := zAl hlt
 have hsl := zAC hlt
 rw [hx] at hsn hsl
 simp only [zBa,zCN] at hsn hsl
 have hbl := zM bd
 have hell := zM el
 have hbv := zX bd
 have helv := zX el
 obtain ⟨q1,q2,q3,q4,q5,q6,q7,q8⟩ := hh
 have ef0 := ef
 rw [zAM ps k hlt,hx] at ef
 have fA : ∀ B b,Fr1 r G (G'.set r B ++ [b]) := fun B b => (fr.trans (Fr1.set B)).trans (Fr1.app _)
 have fB : ∀ B b X,Fr1 r G ((G'.set r B).set (G.length + 1) X ++ [b]) := fun B b X => ((fr.trans (Fr1.set B)).set' (i := G.length + 1) (by omega) X).trans (Fr1.app _)
 have hng : ((∀ h',¬ zCA ps k (.mk 19 a b bd el) out h = some h') ∨ 32768 < c + zL (l.take j) + zBa (.mk 19 a b bd el) ∨ 257 < level + zCN (.mk 19 a b bd el)) → ¬ zDJ ps k l out level c := zBb hlt hx ef0
 have hSr : ∀ B b,(G'.set r B ++ [b])[r]? = some B := fun B b => by rw [zB (by simpa using hrl'),zH hrl']
 have hS9 : ∀ B b,(G'.set r B ++ [b])[G.length]? = some (.box (prR (ps.getD k default))) := fun B b => by rw [zB (by rw [zZc]; omega),zG (by omega)]; exact g9
 have hS10 : ∀ B b,(G'.set r B ++ [b])[G.length + 1]? = some (.box [int h]) := fun B b => by rw [zB (by rw [zZc]; omega),zG (by omega)]; exact g10
 have hSx : ∀ B b,(G'.set r B ++ [b])[G'.length]? = some b := fun B b => by rw [zYY (by simp)]; simp
 have hTx : ∀ B b X,((G'.set r B).set (G.length + 1) X ++ [b])[G'.length]? = some b := fun B b X => by rw [zYY (by simp)]; simp
 have hln := zM l
 have hXr : ∀ B X,(G'.set r B ++ X)[r]? = some B := fun B X => by rw [zB (by simpa using hrl'),zH hrl']
 have hX9 : ∀ B X,(G'.set r B ++ X)[G.length]? = some (.box (prR (ps.getD k default))) := fun B X => by rw [zB (by rw [zZc]; omega),zG (by omega)]; exact g9
 have hX10 : ∀ B X,(G'.set r B ++ X)[G.length + 1]? = some (.box [int h]) := fun B X => by rw [zB (by rw [zZc]; omega),zG (by omega)]; exact g10
 have hXx : ∀ B b X,(G'.set r B ++ b :: X)[G'.length]? = some b := fun B b X => by rw [zYY (by simp)]; simp
 have hXy : ∀ B b d X,(G'.set r B ++ b :: d :: X)[G'.length + 1]? = some d := fun B b d X => by rw [zYY (by simp)]; simp
 have hYr : ∀ B Y X,((G'.set r B).set (G.length + 1) Y ++ X)[r]? = some B := fun B Y X => by rw [zB (by simpa using hrl'),zG (by omega),zH hrl']
 have hY9 : ∀ B Y X,((G'.set r B).set (G.length + 1) Y ++ X)[G.length]? = some (.box (prR (ps.getD k default))) := fun B Y X => by rw [zB (by simp; omega),zG (by omega),zG (by omega)]; exact g9
 have hY10 : ∀ B Y X,((G'.set r B).set (G.length + 1) Y ++ X)[G.length + 1]? = some Y := fun B Y X => by rw [zB (by simp; omega),zH (by simp; omega)]
 have hYx : ∀ B Y b X,((G'.set r B).set (G.length + 1) Y ++ b :: X)[G'.length]? = some b := fun B Y b X => by rw [zYY (by simp)]; simp
 have hXs : ∀ B b z Y,(G'.set r B ++ [b,z]).set (G'.length + 1) Y = G'.set r B ++ [b,Y] := fun B b z Y => by rw [zzao _ _ (by simp)]; simp
 have fX : ∀ B X,Fr1 r G (G'.set r B ++ X) := fun B X => (fr.trans (Fr1.set B)).trans (Fr1.app _)
 have fY : ∀ B Y X,Fr1 r G ((G'.set r B).set (G.length + 1) Y ++ X) := fun B Y X => ((fr.trans (Fr1.set B)).set' (i := G.length + 1) (by omega) Y).trans (Fr1.app _)
 by_cases hcn : c + zL (l.take j) + 1 ≤ 32768
 ·by_cases hh0 : h = 0
  ·subst hh0
   cases out with
   | false =>
    have ng := hng (.inl fun h' hh => by have := (zIZ.1 hh).2.2.1; cases this)
    repeat' (first | refine zY1 (by omega) ?_ | refine zD (zAo _) ?_ | refine zI (zAG _) ?_ | simp -implicitDefEqProofs (disch := omega) only [e0,e2,e10,e42,e43,e44,gr,hrow,zB,zK,splice,zYV,zBE,hXr,hX10,hXx,L46,LCode.sub,zS,zAj,push_cast,↓reduceIte,Nat.reduceEqDiff,reduceCtorEq,Nat.reduceAdd,Nat.reduceLeDiff,Int.reduceEq,Int.reduceNeg,zYW])
    all_goals first | exact fX _ _ | exact ⟨ng,fX _ _⟩
   | true =>
    repeat' (first | refine zY1 (by omega) ?_ | refine zD (zAo _) ?_ | simp -implicitDefEqProofs (disch := omega) only [e0,e2,e3,e10,e42,e43,e44,gr,hrow,zB,zK,splice,zYV,zBE,hXr,hX10,hXx,L46,LCode.sub,zS,zAj,push_cast,↓reduceIte,Nat.reduceEqDiff,reduceCtorEq,Nat.reduceAdd,Nat.reduceLeDiff,Int.reduceEq,Int.reduceNeg,zYW])
    refine zDQ (hbd true (level + 1) (c + zL (l.take j) + 1) _ r (hXr _ _) (by omega) (by omega) (by omega) (by omega)) ?_ ?_
    ·rintro y0 G2 ⟨y1,rfl,he1,hc1,hv1,hf1,hr2⟩
     have fr2 : Fr1 r G G2 := (fX _ _).trans hf1
     have l2 : G'.length + 1 ≤ G2.length := by have := hf1.1; simpa using this
     have k9 : G2[G.length]? = some (.box (prR (ps.getD k default))) := (hf1.2 _ (by simp; omega) (by omega)).trans (hX9 _ _)
     have k10 : G2[G.length + 1]? = some (.box [int 0]) := (hf1.2 _ (by simp; omega) (by omega)).trans (hX10 _ _)
     have kx : G2[G'.length]? = some (.box [int 19,int a,int b,.sl 5 (bd.map zAp),.sl 5 (el.map zAp)]) := (hf1.2 _ (by simp) (by omega)).trans (hXx _ _ _)
     clear hf1
     by_cases hy1 : y1 = 0
     ·subst hy1
      repeat' (simp -implicitDefEqProofs (disch := omega) only [e0,e3,kx,push_cast,↓reduceIte,Nat.reduceEqDiff,reduceCtorEq,Nat.reduceAdd,Nat.reduceLeDiff])
      refine zDQ (hel false (level + 1) (c + zL (l.take j) + 1 + zL bd) G2 r hr2 (by omega) (by omega) (by omega) (by omega)) ?_ ?_
      ·rintro y0 G3 ⟨y2,rfl,he2,hc2,hv2,hf2,hr3⟩
       have fr3 : Fr1 r G G3 := fr2.trans hf2
       have l3 : G'.length + 1 ≤ G3.length := zZ3 l2 hf2.1
       have m9 : G3[G.length]? = some (.box (prR (ps.getD k default))) := (hf2.2 _ (by omega) (by omega)).trans k9
       have m10 : G3[G.length + 1]? = some (.box [int 0]) := (hf2.2 _ (by omega) (by omega)).trans k10
       have mx : G3[G'.length]? = some (.box [int 19,int a,int b,.sl 5 (bd.map zAp),.sl 5 (el.map zAp)]) := (hf2.2 _ (by omega) (by omega)).trans kx
       clear hf2 k9 k10 kx
       by_cases hy2 : y2 = 1
       ·subst hy2
        by_cases hab : a = 0 ∧ b = 0
        ·have hI := (zIZ (ps := ps) (k := k) (a := a) (b := b) (bd := bd) (el := el) (out := true) (h := 0) (h' := 0)).2 ⟨hab.1,hab.2,rfl,rfl,he2,he1,rfl⟩
         rw [hI] at ef
         repeat' (first | refine zD (zAo _) ?_ | simp -implicitDefEqProofs (disch := omega) only [e44,mx,zAz,push_cast,↓reduceIte,Nat.reduceEqDiff,Nat.reduceAdd,Nat.reduceLeDiff])
         have hcnt : c + (zL (l.take j) : Int) + 1 + zL bd + zL el = c + (zL (l.take (j + 1)) : Nat) := by rw [hsn]; push_cast; omega
         exact .mk (j + 1,0) ⟨e0,e2,e3,e9,e10,e11,e12,e42,e43,rfl,by rw [hr3,hcnt],m9,m10,fr3,by omega,hlt,by dsimp only; omega,by dsimp only; rw [hsn]; omega,by dsimp only; rw [hsl]; omega,ef⟩ (by dsimp only; omega)
        ·have ng := hng (.inl fun h' hh => hab (by obtain ⟨g1,g2,_⟩ := zIZ.1 hh; exact ⟨g1,g2⟩))
         repeat' (first | refine zY1 (by omega) ?_ | refine zD (zAo _) ?_ | refine zI (zAG _) ?_ | simp -implicitDefEqProofs (disch := omega) only [mx,zAz,zAx,push_cast,↓reduceIte,Nat.reduceEqDiff,Nat.reduceAdd,Nat.reduceLeDiff] | split)
         all_goals first | exact fr3 | exact ⟨ng,fr3⟩ | (exfalso; omega)
       ·have ng := hng (.inl fun h' hh => by
         have := (zIZ.1 hh).2.2.2.2.1
         rw [he2] at this
         simp only [zYT] at this
         omega)
        repeat' (first | refine zY1 (by omega) ?_ | refine zI (zAG _) ?_ | simp -implicitDefEqProofs (disch := omega) only [zAx,push_cast,↓reduceIte,Nat.reduceEqDiff])
        all_goals first | exact fr3 | exact ⟨ng,fr3⟩ | (exfalso; omega)
      ·rintro z0 G3 ⟨rfl,hb2,hf2⟩
       have ng := hng (by
        by_cases hg : ∃ e,zDu ps k el false 0 = some e
        ·refine .inr (zZo fun hno => hb2 ⟨hg,?_,?_⟩) <;> simp only [zBa,zCN] at hno <;> omega
        ·exact .inl fun h' hh => hg ⟨_,(zIZ.1 hh).2.2.2.2.1⟩)
       repeat' (first | refine zY1 (by omega) ?_ | simp -implicitDefEqProofs (disch := omega) only [push_cast])
       first | exact fr2.trans hf2 | exact ⟨ng,fr2.trans hf2⟩
     ·have ng := hng (.inl fun h' hh => by
       have := (zIZ.1 hh).2.2.2.2.2.1
       rw [he1] at this
       simp only [zYT] at this
       omega)
      repeat' (first | refine zY1 (by omega) ?_ | refine zI (zAG _) ?_ | simp -implicitDefEqProofs (disch := omega) only [zAx,push_cast,↓reduceIte,Nat.reduceEqDiff])
      all_goals first | exact fr2 | exact ⟨ng,fr2⟩ | (exfalso; omega)
    ·rintro z0 G2 ⟨rfl,hb2,hf2⟩
     have ng := hng (by
      by_cases hg : ∃ e,zDu ps k bd true 0 = some e
      ·refine .inr (zZo fun hno => hb2 ⟨hg,?_,?_⟩) <;> simp only [zBa,zCN] at hno <;> omega
      ·exact .inl fun h' hh => hg ⟨_,(zIZ.1 hh).2.2.2.2.2.1⟩)
     repeat' (first | refine zY1 (by omega) ?_ | simp -implicitDefEqProofs (disch := omega) only [push_cast])
     first | exact (fX _ _).trans hf2 | exact ⟨ng,(fX _ _).trans hf2⟩
  ·have ng := hng (.inl fun h' hh => hh0 (zIZ.1 hh).2.2.2.1)
   repeat' (first | refine zY1 (by omega) ?_ | refine zD (zAo _) ?_ | refine zI (zAG _) ?_ | simp -implicitDefEqProofs (disch := omega) only [e0,e10,e42,e43,e44,gr,hrow,zB,zK,splice,zYV,zBE,hXr,hX10,hXx,L46,LCode.sub,zS,zAj,zAx,push_cast,↓reduceIte,Nat.reduceEqDiff,reduceCtorEq,Nat.reduceAdd,Nat.reduceLeDiff,Int.reduceEq,Int.reduceNeg,zYW])
   all_goals first | exact fX _ _ | exact ⟨ng,fX _ _⟩
 ·repeat' (first | refine zY1 (by omega) ?_ | refine zI (zAG _) ?_ | simp -implicitDefEqProofs (disch := omega) only [e0,e42,e43,e44,gr,hrow,zB,zK,splice,zYV,zBE,hXr,L46,LCode.sub,zS,zAK,push_cast,↓reduceIte,Nat.reduceEqDiff,reduceCtorEq,Nat.reduceAdd,Nat.reduceLeDiff,Int.reduceNeg,zYW])
  exact ⟨hng (.inr (.inl (by simp only [zBa]; omega))),fX _ _⟩
theorem zR2 (ps : List Pr) (k : Nat) (hk : k < ps.length) (hps : ps.length ≤ 1048576) (hp : zDc ps k) (hh : zDk (ps.getD k default)) (l : List Ins) (out : Bool) (level c : Int) (r : Nat) (G : zA) (o : Int) : zJ6 ps k l out level c r G o := by
 have hcase : (o < 0 ∨ 22 < o) ∨ (o = 0) ∨ (o = 1) ∨ (o = 2) ∨ (o = 22) ∨ (o = 3) ∨ (o = 16) ∨ (o = 17) ∨ (o = 4) ∨ (5 ≤ o ∧ o ≤ 15) ∨ o = 18 ∨ o = 19 ∨ o = 20 ∨ o = 21 := by omega
 rcases hcase with hc | rfl | rfl | rfl | rfl | rfl | rfl | rfl | rfl | hc | rfl | rfl | rfl | rfl
 ·exact zR1 ps k hk hps hp hh l out level c r G o hc
 ·exact zXB ps k hk hps hp hh l out level c r G
 ·exact zXA ps k hk hps hp hh l out level c r G
 ·exact zXz ps k hk hps hp hh l out level c r G
 ·exact zUo ps k hk hps hp hh l out level c r G
 ·exact zXy ps k hk hps hp hh l out level c r G
 ·exact zUu ps k hk hps hp hh l out level c r G
 ·exact zUt ps k hk hps hp hh l out level c r G
 ·exact zXx ps k hk hps hp hh l out level c r G
 ·exact zR0 ps k hk hps hp hh l out level c r G o hc
 ·exact zUs ps k hk hps hp hh l out level c r G
 ·exact zUr ps k hk hps hp hh l out level c r G
 ·exact zUq ps k hk hps hp hh l out level c r G
 ·exact zUp ps k hk hps hp hh l out level c r G
theorem effC (ps : List Pr) (k : Nat) (hk : k < ps.length) (hps : ps.length ≤ 1048576) (hp : zDc ps k) (hh : zDk (ps.getD k default)) (l : List Ins) : zL l ≤ 1048576 → zYz ps k l := by
 induction l using Ins.indL with
 | h l ih =>
 intro hs out level c G r hr hc0 hc1 hl0 hl1
 have hrl := (zYU.1 hr).1
 refine zG2 Tryz.func46 L46_ok (zY0 rfl) ?_
 have hln := zM l
 by_cases hlev : level ≤ 256
 ·repeat' (first | refine zY1 (by omega) ?_ | refine zD (zAo _) ?_ | simp -implicitDefEqProofs (disch := omega) only [L46,hr,zBL,zBx,zES,zIy,splice,zYV,zAj,push_cast,↓reduceIte,Nat.reduceEqDiff,reduceCtorEq,Nat.reduceAdd,Nat.reduceLeDiff,Int.reduceNeg,zYW])
  refine zAd (fun (st : Nat × Int) e' H' => EfI ps k l out level c r G st.1 st.2 e' H') (fun st => l.length - st.1) (0,0) ?_ ?_
  ·exact ⟨rfl,rfl,rfl,rfl,rfl,rfl,rfl,rfl,rfl,rfl,by rw [zB hrl,hr]; simp [zL],by simp,by simp,Fr1.app _,by simp,zZm _,by simp,by simp [zL]; omega,by simp [zAE]; omega,by simp⟩
  rintro ⟨j,h⟩ e' G' hI
  by_cases hlt : j < l.length
  ·have hk0 := zAt hlt
   have hx := ih _ hk0
   have hb := zAs l (j + 1)
   rw [zAl hlt,zE2] at hb
   have hx1 := hx.1 (by omega)
   have hx2 := hx.2 (by omega)
   exact zR2 ps k hk hps hp hh l out level c r G (l.getD j default).op j h e' G' (l.getD j default).a (l.getD j default).b (l.getD j default).body (l.getD j default).els hlt (by cases l.getD j default; rfl) hs hx1 hx2 hrl hc0 hl0 hlev hI
  ·obtain ⟨e0,e2,e3,e9,e10,e11,e12,e42,e43,e44,gr,g9,g10,fr,gl,hj,hhh,cc,lv,ef⟩ := hI
   simp only at *
   have e : j = l.length := by omega
   subst e
   rw [zzbr] at ef
   rw [zzaF] at gr cc lv
   repeat' (simp -implicitDefEqProofs (disch := omega) only [e43,e44,e10,g10,zAQ,push_cast,↓reduceIte,Nat.reduceEqDiff,Nat.reduceAdd,Nat.reduceLeDiff,Int.reduceNeg])
   exact ⟨h,rfl,ef,cc,lv,fr,gr⟩
 ·by_cases hl : l.length = 0
  ·have hl2 := zZh.1 hl
   subst hl2
   have hL : (Ax.LX.c (.v (.int .i64 0))) = (Ax.LX.c (.v (.int .i64 0))) := rfl
   repeat' (first | refine zY1 (by omega) ?_ | refine zD (zAo _) ?_ | simp -implicitDefEqProofs (disch := omega) only [L46,hr,zBL,zBx,zES,zIy,splice,zYV,zzaC,zY4,zAK,push_cast,↓reduceIte,Nat.reduceEqDiff,reduceCtorEq,Nat.reduceAdd,Nat.reduceLeDiff,Int.reduceNeg,zYW])
   refine zAd (fun (_ : Unit) e' H' => e' 10 = .ptr (G.length + 1) 0 0 ∧ e' 43 = int 0 ∧ e' 44 = int 0 ∧ H' = G ++ [.box (prR (ps.getD k default)),.box [int 0]]) (fun _ => 0) () ⟨rfl,rfl,rfl,rfl⟩ ?_
   rintro _ e' H' ⟨h10,h43,h44,rfl⟩
   repeat' (simp -implicitDefEqProofs (disch := omega) only [h10,h43,h44,push_cast,↓reduceIte,Nat.reduceEqDiff,Nat.reduceAdd,Nat.reduceLeDiff,Int.reduceLT,Int.reduceNeg])
   exact ⟨0,rfl,by simp [zDu],by simp [zL]; omega,by simp [zAE]; omega,Fr1.app _,by rw [zB hrl,hr]; simp [zL]⟩
  ·repeat' (first | refine zI (zAG _) ?_ | simp -implicitDefEqProofs (disch := omega) only [L46,zYV,zAK,zAx,push_cast,↓reduceIte,Nat.reduceEqDiff,reduceCtorEq,Nat.reduceAdd,Int.reduceNeg])
   have h1 : 1 ≤ zAE l := by
    cases l with
    | nil => exact absurd rfl hl
    | cons x l => simp only [zAE]; rw [zSH]; omega
   first | exact ⟨fun hg => by have := hg.2.2; omega,Fr1.refl⟩ | exact Fr1.refl
theorem zYi (m q : Pr) (r : Nat) (H : zA) (hr : H[r]? = some (.box (prR q))) : zBm 45 [.agg (prR m),.ptr r 0 0] H (bool (decide (m.name = q.name))) := by
 refine ACall.drop (R := fun x => x = bool (decide (m.name = q.name))) ?_
 refine enter Tryz.func45 L45_ok (zY0 rfl) ?_
 have hlt : r < H.length := (zYU.1 hr).1
 have hg : ∀ l,(H ++ l)[r]? = some (HO.box (prR q)) := fun l => by rw [zY2 hlt]; exact hr
 repeat' (simp -implicitDefEqProofs (disch := omega) only [L45,zBE,zIy,zBx,zEv,hg,push_cast,↓reduceIte,Nat.reduceEqDiff,reduceCtorEq,Nat.reduceAdd,Nat.reduceLeDiff])
 exact ⟨_,rfl⟩
theorem zVn (l : List Pr) (q : Pr) (hl : l.length ≤ 1048576) (r : Nat) (H : zA) (hr : H[r]? = some (.box (prR q))) : zBm 72 [.sl 6 (l.map prR),.fn (.func 45) [] [.ptr r 0 0]] H (int (zOY (l.findIdx? fun m => decide (m.name = q.name)))) := by
 refine enter Tryz.func72 L72_ok (zY0 rfl) ?_
 repeat' (simp -implicitDefEqProofs (disch := omega) only [L72,push_cast,↓reduceIte,reduceCtorEq,Nat.reduceAdd,Int.reduceNeg])
 refine zAd (fun (j : Nat) e' H' => e' 0 = .sl 6 (l.map prR) ∧ e' 1 = .fn (.func 45) [] [.ptr r 0 0] ∧ e' 7 = int l.length ∧ e' 8 = int j ∧ H = H' ∧ j ≤ l.length ∧ ∀ i,i < j → ¬ (l.getD i default).name = q.name) (fun j => l.length - j) 0 ?_ ?_
 ·exact ⟨rfl,rfl,rfl,rfl,rfl,zZm _,by simp⟩
 rintro j e' H' ⟨h0,h1,h7,h8,rfl,hj,hb⟩
 by_cases hlt : j < l.length
 ·have hc := fun m => zYi m q r H hr
  cases hin : decide ((l.getD j default).name = q.name)
  ·have hc1 := hc (l.getD j default)
   rw [hin] at hc1
   repeat' (first | refine zY1 (by omega) ?_ | refine zC (hc1) ?_ | simp -implicitDefEqProofs (disch := omega) only [h0,h1,h7,h8,zBL,zBx,zES,zS,push_cast,↓reduceIte,Nat.reduceEqDiff,reduceCtorEq,Nat.reduceAdd,Nat.reduceLeDiff,Int.reduceNeg])
   exact .mk (j + 1) ⟨h0,h1,h7,rfl,rfl,hlt,zCv hb (of_decide_eq_false hin)⟩ (by omega)
  ·have hc1 := hc (l.getD j default)
   rw [hin] at hc1
   repeat' (first | refine zY1 (by omega) ?_ | refine zC (hc1) ?_ | simp -implicitDefEqProofs (disch := omega) only [h0,h1,h7,h8,zBL,zBx,zES,zS,push_cast,↓reduceIte,Nat.reduceEqDiff,reduceCtorEq,Nat.reduceAdd,Nat.reduceLeDiff,Int.reduceNeg])
   rw [zIU hlt hin fun i hi => zzad (hb i hi)]
   rfl
 ·rw [zIV (l := l) (p := fun m => decide (m.name = q.name)) fun i hi => zzad (hb i (by omega))]
  repeat' (simp -implicitDefEqProofs (disch := omega) only [h7,h8,zAQ,push_cast,↓reduceIte,Int.reduceNeg])
  rfl
theorem zVo (l : List Pr) (q : Pr) (hl : l.length ≤ 1048576) (r : Nat) (H : zA) (hr : H[r]? = some (.box (prR q))) : zBm 44 [.sl 6 (l.map prR),.fn (.func 45) [] [.ptr r 0 0]] H (bool (l.any fun m => decide (m.name = q.name))) := by
 refine enter Tryz.func44 L44_ok (zY0 rfl) ?_
 have hi : (l.any fun m => decide (m.name = q.name)) = decide (0 ≤ zOY (l.findIdx? fun m => decide (m.name = q.name))) := by
  cases h : l.findIdx? fun m => decide (m.name = q.name) with
  | none =>
   rw [zzaQ] at h
   refine (?_ : _ = false).trans (show false = decide (0 ≤ zOY none) from rfl)
   rw [List.any_eq_false]
   intro x hx
   rw [h x hx]; decide
  | some i =>
   refine (?_ : _ = true).trans (zZz (show 0 ≤ zOY (some i) by simp only [zOY]; omega)).symm
   rw [List.any_eq_true]
   obtain ⟨h1,h2,_⟩ := zZ6.1 h
   exact ⟨_,zzaO h1,h2⟩
 rw [hi]
 have hb : -1 ≤ zOY (l.findIdx? fun m => decide (m.name = q.name)) := by
  cases l.findIdx? fun m => decide (m.name = q.name) <;> simp only [zOY] <;> omega
 repeat' (first | refine zC (zVn l q hl r H hr) ?_ | simp -implicitDefEqProofs (disch := omega) only [L44,push_cast,↓reduceIte,Nat.reduceEqDiff,reduceCtorEq,Nat.reduceAdd])
@[push_cast] theorem zWw (m : Option Value) (d : Nat) (e : Env) : zWy m [d] e = up e d (.v (Go.Ax.recV m)) := rfl
@[push_cast] theorem zWx (m : Option Value) (e : Env) : zWy m [] e = e := rfl
@[push_cast] theorem zUI : Go.Ax.recV none = .nilIface := rfl
@[push_cast] theorem zUH (z : Value) : Go.Ax.recV (some z) = z := rfl
theorem zMp (r : Nat) (H : zA) : zQx Tryz.prog 42 [.ptr r 0 0] none H fun H' => H' = H := by
 refine zFB Tryz.func42 L42_ok (zY0 rfl) ?_
 repeat' (simp -implicitDefEqProofs (disch := omega) only [L42,push_cast,↓reduceIte,Nat.reduceEqDiff,reduceCtorEq,Nat.reduceAdd])
theorem zMo (r : Nat) (H : zA) (b : Bool) (hr : H[r]? = some (.box [bool b])) : zQx Tryz.prog 42 [.ptr r 0 0] (some zCF) H fun H' => H' = (H ++ [HO.box []]).set r (.box [bool false]) := by
 have hl := (zYU.1 hr).1
 refine zFB Tryz.func42 L42_ok (zY0 rfl) ?_
 repeat' (simp -implicitDefEqProofs (disch := omega) only [L42,zB,zK,hr,splice,push_cast,↓reduceIte,Nat.reduceEqDiff,reduceCtorEq,Nat.reduceAdd,Nat.reduceLeDiff,Nat.reduceLT,zYW])
structure VdI (ps : List Pr) (H : zA) (j : Nat) (own : Int) (e' : Env) (G : zA) : Prop where
 e1 : e' 1 = .ptr H.length 0 0
 e2 : e' 2 = .ptr (H.length + 1) 0 0
 e3 : e' 3 = .ptr (H.length + 2) 0 0
 e18 : e' 18 = zAU ps
 e19 : e' 19 = int ps.length
 e20 : e' 20 = int j
 fr : ∀ i,i < H.length → G[i]? = H[i]?
 gl : H.length + 3 ≤ G.length
 g0 : G[H.length]? = some (.box [zAU ps])
 g1 : G[H.length + 1]? = some (.box [bool false])
 g2 : G[H.length + 2]? = some (.box [zAU ps,int own,int (zAO (ps.take j) : Nat)])
 hj : j ≤ ps.length
 all : ∀ i,i < j → prP ps i
abbrev VdR (ps : List Pr) (H : zA) (x : AV) (H' : zA) : Prop := x = bool (zBR ps) ∧ x.cl = true ∧ ∃ rest,H' = H ++ rest
theorem zCm (ps : List Pr) (H G : zA) (e : Env) (h2 : e 2 = .ptr (H.length + 1) 0 0) (fr : ∀ i,i < H.length → G[i]? = H[i]?) (gl : H.length + 2 ≤ G.length) (g1 : G[H.length + 1]? = some (.box [bool false])) (hn : ¬ zDt ps) :
  zEw Tryz.prog L14.res (VdR ps H) 42 [.ptr (H.length + 1) 0 0] (.pan zCF) e G := by
 intro X ρ w vs hr hv
 refine (zMo (H.length + 1) G false g1 X ρ w vs hr hv).mono ?_
 rintro en u' w' ⟨v,H',ρ',h1,h2',h3,h4,h5⟩
 refine ⟨v,H',ρ',h1,h2',?_,h4,h5⟩
 subst h3
 have hg : ((G ++ [HO.box []]).set (H.length + 1) (.box [bool false]))[H.length + 1]? = some (.box [bool false]) := by
  rw [zZs (by simp; omega)]
 obtain ⟨rest,hrest⟩ := zF6 (H := H) (G := (G ++ [HO.box []]).set (H.length + 1) (.box [bool false])) (by simp; omega) fun i hi => by
  rw [zZj (by omega),zY2 (by omega),fr i hi]
 have hvb := zO3 hn
 refine ⟨?_,?_,?_,rest,hrest⟩
 ·simp [L14,zAA,zCH,h2,rLoad,hg,rLoadO,isVer,Res.also,isBox]
 ·simp [L14,zAA,zCH,h2,rLoad,hg,rLoadO,isVer,Res.also,isBox,cellsV,hvb]
 ·simp [L14,zAA,zCH,h2,rLoad,hg,rLoadO,isVer,Res.also,isBox,cellsV,AV.cl]
theorem zT9 (ps : List Pr) (H G : zA) (e : Env) (h2 : e 2 = .ptr (H.length + 1) 0 0) (fr : ∀ i,i < H.length → G[i]? = H[i]?) (gl : H.length + 2 ≤ G.length) (g1 : G[H.length + 1]? = some (.box [bool true])) (hn : zDt ps) :
  zEw Tryz.prog L14.res (VdR ps H) 42 [.ptr (H.length + 1) 0 0] .ret e G := by
 intro X ρ w vs hr hv
 refine (zMp (H.length + 1) G X ρ w vs hr hv).mono ?_
 rintro en u' w' ⟨v,H',ρ',h1,h2',h3,h4,h5⟩
 refine ⟨v,H',ρ',h1,h2',?_,h4,h5⟩
 subst h3
 obtain ⟨rest,hrest⟩ := zF6 (H := H) (G := H') (by omega) fr
 have hvb := zFm.2 hn
 refine ⟨?_,?_,?_,rest,hrest⟩
 ·simp [L14,zAA,zCH,h2,rLoad,g1,rLoadO,isVer,Res.also,isBox]
 ·simp [L14,zAA,zCH,h2,rLoad,g1,rLoadO,isVer,Res.also,isBox,cellsV,hvb]
 ·simp [L14,zAA,zCH,h2,rLoad,g1,rLoadO,isVer,Res.also,isBox,cellsV,AV.cl]
theorem zK1 : zFl Tryz.prog 42 := ⟨_,Tryz.func42,by kernel_rfl,by kernel_rfl⟩
set_option maxHeartbeats 8000000 in
theorem zCt (ps : List Pr) (hs : zCU ps) (H : zA) : zBm 14 [.agg [zAU ps]] H (bool (zBR ps)) := by
 obtain ⟨hs1,hs2,hs3⟩ := hs
 refine ACall.drop (R := fun x => x = bool (zBR ps)) ?_
 refine zVJ Tryz.func14 L14_ok (zY0 rfl) ?_
 show wpD _ L14.res (VdR ps H) _ _ _
 generalize hres : L14.res = res
 by_cases h8 : ps.length ≤ 8
 ·repeat' (simp -implicitDefEqProofs (disch := omega) only [L14,zBE,zYV,zAj,push_cast,↓reduceIte,Nat.reduceEqDiff,Nat.reduceAdd,Nat.reduceLeDiff,Int.reduceNeg,zYW])
  refine ⟨_,_,_,rfl,zK1,?_⟩
  repeat' (first | refine zD (zAo _) ?_ | simp -implicitDefEqProofs (disch := omega) only [zFy,zBE,rBuild,fillA,zYV,push_cast,↓reduceIte,Nat.reduceEqDiff,Nat.reduceAdd,Nat.reduceLeDiff,Int.reduceNeg,zYW])
  refine zAd (fun (st : Nat × Int) e' G => VdI ps H st.1 st.2 e' G) (fun st => ps.length - st.1) (0,0) ?_ ?_
  ·refine ⟨rfl,rfl,rfl,rfl,rfl,rfl,fun i hi => zY2 hi,by simp,by simp [zA6],by simp [zA6],by simp [zA6,zAO],by omega,fun i hi => by omega⟩
  rintro ⟨j,own⟩ e' G ⟨h1,h2,h3,h18,h19,h20,fr,gl,g0,g1,g2,hj,hall⟩
  simp only at h20 g2 hj hall
  by_cases hlt : j < ps.length
  ·obtain ⟨m1,m2,m3⟩ := hs3 _ (zAt hlt)
   have hfail : ¬ prP ps j → ¬ zDt ps := fun hn hv => hn (hv.2 j hlt)
   repeat' (first | refine zY1 (by omega) ?_ | simp -implicitDefEqProofs (disch := omega) only [h3,h18,h19,h20,g2,zB,zK,zBL,zBx,zEv,splice,zYV,zS,push_cast,↓reduceIte,Nat.reduceEqDiff,Nat.reduceAdd,Nat.reduceLeDiff,Int.reduceNeg,zYW])
   have z0 : (G.set (H.length + 2) (HO.box [zAU ps,int j,int (zAO (ps.take j) : Nat)]) ++ [HO.box (prR (ps.getD j default))])[H.length]? = some (.box [zAU ps]) := by
    rw [zY2 (by simp; omega),zZj (by omega),g0]
   have z1 : (G.set (H.length + 2) (HO.box [zAU ps,int j,int (zAO (ps.take j) : Nat)]) ++ [HO.box (prR (ps.getD j default))])[H.length + 1]? = some (.box [bool false]) := by
    rw [zY2 (by simp; omega),zZj (by omega),g1]
   have z2 : (G.set (H.length + 2) (HO.box [zAU ps,int j,int (zAO (ps.take j) : Nat)]) ++ [HO.box (prR (ps.getD j default))])[H.length + 2]? = some (.box [zAU ps,int j,int (zAO (ps.take j) : Nat)]) := by
    rw [zY2 (by simp; omega),zZs (by omega)]
   have z5 : (G.set (H.length + 2) (HO.box [zAU ps,int j,int (zAO (ps.take j) : Nat)]) ++ [HO.box (prR (ps.getD j default))])[G.length]? = some (.box (prR (ps.getD j default))) := by
    rw [zYY (by simp)]; simp
   have zf : ∀ i,i < H.length → (G.set (H.length + 2) (HO.box [zAU ps,int j,int (zAO (ps.take j) : Nat)]) ++ [HO.box (prR (ps.getD j default))])[i]? = H[i]? := fun i hi => by
    rw [zY2 (by simp; omega),zZj (by omega),fr i hi]
   have zl : H.length + 4 ≤ (G.set (H.length + 2) (HO.box [zAU ps,int j,int (zAO (ps.take j) : Nat)]) ++ [HO.box (prR (ps.getD j default))]).length := by simp; omega
   have zl2 : G.length < (G.set (H.length + 2) (HO.box [zAU ps,int j,int (zAO (ps.take j) : Nat)]) ++ [HO.box (prR (ps.getD j default))]).length := by simp
   have zr : H.length + 3 ≤ G.length := gl
   simp only [prR] at z0 z1 z2 z5 zf zl zl2
   generalize (G.set (H.length + 2) (HO.box [zAU ps,int j,int (zAO (ps.take j) : Nat)]) ++ [HO.box [str (ps.getD j default).name,int (ps.getD j default).par,int (ps.getD j default).slots,int (ps.getD j default).res,.sl 1 ((ps.getD j default).outs.map iR),.sl 5 ((ps.getD j default).body.map zAp)]]) = Z at *
   generalize hrr : G.length = r at *
   clear fr gl g0 g1 g2 hrr
   have z5' : Z[r]? = some (.box (prR (ps.getD j default))) := z5
   cases hN : zEC (ps.getD j default).name with
   | false =>
    repeat' (first | refine zC (zDE (ps.getD j default).name _ (by omega)) ?_ | refine zI (zAG _) ?_ | simp -implicitDefEqProofs (disch := omega) only [z5,hN,push_cast,↓reduceIte,Nat.reduceEqDiff,Nat.reduceAdd,Nat.reduceLeDiff,Int.reduceNeg])
    subst hres
    exact zCm ps H _ _ h2 zf (by omega) z1 (hfail fun hp => by rw [hp.1.1] at hN; cases hN)
   | true =>
    have cN : zBm 44 [.sl 6 ((ps.map prR).take (j - 0)),.fn (.func 45) [] [.ptr r 0 0]] Z (bool ((ps.take j).any fun m => decide (m.name = (ps.getD j default).name))) := by
     have := zVo (ps.take j) (ps.getD j default) (by simp; omega) r Z z5'
     rw [List.map_take] at this
     exact this
    cases hC : (ps.take j).any fun m => decide (m.name = (ps.getD j default).name) with
    | true =>
     rw [hC] at cN
     repeat' (first | refine zY1 (by omega) ?_ | refine zC (zDE (ps.getD j default).name _ (by omega)) ?_ | refine zC (cN) ?_ | refine zI (zAG _) ?_ | simp -implicitDefEqProofs (disch := omega) only [h1,z0,z5,hN,zYV,push_cast,↓reduceIte,Nat.reduceEqDiff,Nat.reduceAdd,Nat.reduceLeDiff,Int.reduceToNat,Int.reduceLE,Int.reduceNeg])
     subst hres
     refine zCm ps H _ _ h2 zf (by omega) z1 (hfail fun hp => ?_)
     obtain ⟨m,hm,hmn⟩ := List.any_eq_true.1 hC
     obtain ⟨i,hi,rfl⟩ := zZY.1 hm
     simp only [zzap] at hi
     have e : (ps.take j)[i] = ps.getD i default := by rw [List.getElem_take,zZd,zZe (by omega)]; rfl
     rw [e,zY5] at hmn
     exact hp.1.2 i (by omega) hmn
    | false =>
     rw [hC] at cN
     have hne : ∀ i,i < j → ¬ (ps.getD i default).name = (ps.getD j default).name := fun i hi hh => by
      rw [List.any_eq_false] at hC
      refine hC (ps.getD i default) ?_ (zZz hh)
      rw [zZY]
      refine ⟨i,by simp; omega,?_⟩
      rw [List.getElem_take,zZd,zZe (by omega)]; rfl
     by_cases hP1 : 0 ≤ (ps.getD j default).par ∧ (ps.getD j default).par ≤ (ps.getD j default).slots ∧ (ps.getD j default).slots ≤ 1024 ∧ -1 ≤ (ps.getD j default).res ∧ (ps.getD j default).res ≤ 128
     ·obtain ⟨q1,q2,q3,q4,q5⟩ := hP1
      by_cases hP2 : (ps.getD j default).outs.length ≤ 128 ∧ ((ps.getD j default).res = -1 ∨ (ps.getD j default).outs.length = 0)
      ·obtain ⟨q6,q7⟩ := hP2
       by_cases hrs : (ps.getD j default).res = -1
       ·repeat' (first | refine zY1 (by omega) ?_ | refine zC (zDE (ps.getD j default).name _ (by omega)) ?_ | refine zC (cN) ?_ | refine zD (zAo _) ?_ | simp -implicitDefEqProofs (disch := omega) only [h1,z0,z5,hN,zYV,zAj,zAz,push_cast,↓reduceIte,Nat.reduceEqDiff,Nat.reduceAdd,Nat.reduceLeDiff,Int.reduceToNat,Int.reduceLE,Int.reduceNeg])
        refine zAd (fun (m : Nat) e' G' => e' 1 = .ptr H.length 0 0 ∧ e' 2 = .ptr (H.length + 1) 0 0 ∧ e' 3 = .ptr (H.length + 2) 0 0 ∧ e' 5 = .ptr r 0 0 ∧ e' 18 = zAU ps ∧ e' 19 = int ps.length ∧ e' 20 = int j ∧ e' 85 = .sl 1 ((ps.getD j default).outs.map iR) ∧ e' 86 = int (ps.getD j default).outs.length ∧ e' 87 = int m ∧ Z = G' ∧ m ≤ (ps.getD j default).outs.length ∧ ∀ m',m' < m → 0 ≤ (ps.getD j default).outs.getD m' default ∧ (ps.getD j default).outs.getD m' default < (ps.getD j default).slots) (fun m => (ps.getD j default).outs.length - m) 0 ?_ ?_
        ·exact ⟨h1,h2,h3,rfl,h18,h19,h20,rfl,rfl,rfl,rfl,zZm _,fun m hm => by omega⟩
        clear h1 h2 h3 h18 h19 h20
        rintro m e' G' ⟨h1,h2,h3,h5,h18,h19,h20,h85,h86,h87,hGZ,hm,hout⟩
        subst hGZ
        by_cases hlt3 : m < (ps.getD j default).outs.length
        ·have hor : ((ps.getD j default).outs.map iR).getD m [] = [int ((ps.getD j default).outs.getD m default)] := zN hlt3
         by_cases hO : 0 ≤ (ps.getD j default).outs.getD m default ∧ (ps.getD j default).outs.getD m default < (ps.getD j default).slots
         ·repeat' (first | refine zY1 (by omega) ?_ | refine zD (zAo _) ?_ | simp -implicitDefEqProofs (disch := omega) only [h5,h85,h86,h87,z5,hor,zYV,zS,zAj,push_cast,↓reduceIte,Nat.reduceEqDiff,Nat.reduceAdd,Nat.reduceLeDiff])
          exact .mk (m + 1) ⟨h1,h2,h3,h5,h18,h19,h20,h85,h86,rfl,rfl,hlt3,zCv hout hO⟩ (by omega)
         ·have hv : ¬ zDt ps := hfail fun hp => hO (hp.2.1.2.2.2.2.2.2.2 _ (zAt hlt3))
          have hO' : ¬ 0 ≤ (ps.getD j default).outs.getD m default ∨ (0 ≤ (ps.getD j default).outs.getD m default ∧ ¬ (ps.getD j default).outs.getD m default < (ps.getD j default).slots) := by omega
          subst hres
          rcases hO' with hc | ⟨hc1,hc2⟩
          ·repeat' (first | refine zY1 (by omega) ?_ | refine zI (zAG _) ?_ | simp -implicitDefEqProofs (disch := omega) only [h85,h86,h87,hor,zYV,zS,zAK,push_cast,↓reduceIte,Nat.reduceEqDiff,Nat.reduceAdd,Nat.reduceLeDiff])
           exact zCm ps H _ _ h2 zf (by omega) z1 hv
          ·repeat' (first | refine zY1 (by omega) ?_ | refine zI (zAG _) ?_ | simp -implicitDefEqProofs (disch := omega) only [h5,h85,h86,h87,z5,hor,zYV,zS,zAQ,zAj,push_cast,↓reduceIte,Nat.reduceEqDiff,Nat.reduceAdd,Nat.reduceLeDiff])
           exact zCm ps H _ _ h2 zf (by omega) z1 hv
        ·have e : m = (ps.getD j default).outs.length := by omega
         subst e
         have hout' : ∀ s ∈ (ps.getD j default).outs,0 ≤ s ∧ s < (ps.getD j default).slots := by
          intro s hs
          obtain ⟨m,hm,rfl⟩ := zZY.1 hs
          have := hout m hm
          have e : (ps.getD j default).outs.getD m default = (ps.getD j default).outs[m] := by rw [zZd,zZe hm]; rfl
          rw [e] at this
          exact this
         have hH : zDk (ps.getD j default) := ⟨q1,q2,q3,q4,q5,q6,q7.imp id zZh.1,hout'⟩
         have hsn := zCW hlt
         have hcnt : zAO (ps.take j) ≤ 32768 := by
          cases j with
          | zero => simp [zAO]
          | succ j => exact (hall j (by omega)).2.2.1
         have cE := effC ps j hlt hs1 (zKv hall) hH (ps.getD j default).body m3 true 1 (zAO (ps.take j) : Nat) Z (H.length + 2) z2 (by omega) (by omega) (by omega) (by omega)
         repeat' (simp -implicitDefEqProofs (disch := omega) only [h3,h5,h86,h87,z5,zAQ,push_cast,↓reduceIte,Nat.reduceEqDiff,Nat.reduceAdd,Nat.reduceLeDiff])
         refine zF cE ?_ ?_
         ·rintro x G' ⟨e,rfl,hE,hc1,hc2,hfr,hg2⟩
          have y0 := (hfr.2 H.length (by omega) (by omega)).trans z0
          have y1 := (hfr.2 (H.length + 1) (by omega) (by omega)).trans z1
          have yf : ∀ i,i < H.length → G'[i]? = H[i]? := fun i hi => (hfr.2 i (by omega) (by omega)).trans (zf i hi)
          have yl := hfr.1
          by_cases he : e = 0
          ·subst he
           repeat' (first | refine zD (zAo _) ?_ | simp -implicitDefEqProofs (disch := omega) only [h20,push_cast,↓reduceIte,Nat.reduceEqDiff])
           exact .mk (j + 1,(j : Int)) ⟨h1,h2,h3,h18,h19,rfl,yf,by omega,y0,y1,by rw [hg2,hsn]; simp,hlt,zCv hall ⟨⟨hN,hne⟩,hH,by omega,by omega,hE⟩⟩ (by dsimp only; omega)
          ·have hv : ¬ zDt ps := hfail fun hp => by have := hp.2.2.2.2; rw [hE] at this; exact he (by simpa using this)
           repeat' (first | refine zI (zAG _) ?_ | simp -implicitDefEqProofs (disch := omega) only [zAx,push_cast])
           subst hres
           exact zCm ps H _ _ h2 yf (by omega) y1 hv
         ·rintro z G' ⟨rfl,hng,hfr⟩
          have y1 := (hfr.2 (H.length + 1) (by omega) (by omega)).trans z1
          have yf : ∀ i,i < H.length → G'[i]? = H[i]? := fun i hi => (hfr.2 i (by omega) (by omega)).trans (zf i hi)
          have yl := hfr.1
          repeat' (simp -implicitDefEqProofs (disch := omega) only [push_cast])
          subst hres
          exact zCm ps H _ _ h2 yf (by omega) y1 (hfail fun hp => hng ⟨⟨0,hp.2.2.2.2⟩,by have := hp.2.2.1; omega,by have := hp.2.2.2.1; omega⟩)
       ·repeat' (first | refine zY1 (by omega) ?_ | refine zC (zDE (ps.getD j default).name _ (by omega)) ?_ | refine zC (cN) ?_ | refine zD (zAo _) ?_ | simp -implicitDefEqProofs (disch := omega) only [h1,z0,z5,hN,zYV,zAj,zAz,zAx,push_cast,↓reduceIte,Nat.reduceEqDiff,Nat.reduceAdd,Nat.reduceLeDiff,Int.reduceToNat,Int.reduceLE,Int.reduceNeg])
        refine zAd (fun (m : Nat) e' G' => e' 1 = .ptr H.length 0 0 ∧ e' 2 = .ptr (H.length + 1) 0 0 ∧ e' 3 = .ptr (H.length + 2) 0 0 ∧ e' 5 = .ptr r 0 0 ∧ e' 18 = zAU ps ∧ e' 19 = int ps.length ∧ e' 20 = int j ∧ e' 85 = .sl 1 ((ps.getD j default).outs.map iR) ∧ e' 86 = int (ps.getD j default).outs.length ∧ e' 87 = int m ∧ Z = G' ∧ m ≤ (ps.getD j default).outs.length ∧ ∀ m',m' < m → 0 ≤ (ps.getD j default).outs.getD m' default ∧ (ps.getD j default).outs.getD m' default < (ps.getD j default).slots) (fun m => (ps.getD j default).outs.length - m) 0 ?_ ?_
        ·exact ⟨h1,h2,h3,rfl,h18,h19,h20,rfl,rfl,rfl,rfl,zZm _,fun m hm => by omega⟩
        clear h1 h2 h3 h18 h19 h20
        rintro m e' G' ⟨h1,h2,h3,h5,h18,h19,h20,h85,h86,h87,hGZ,hm,hout⟩
        subst hGZ
        by_cases hlt3 : m < (ps.getD j default).outs.length
        ·exfalso; omega
        ·have e : m = (ps.getD j default).outs.length := by omega
         subst e
         have hout' : ∀ s ∈ (ps.getD j default).outs,0 ≤ s ∧ s < (ps.getD j default).slots := by
          intro s hs
          obtain ⟨m,hm,rfl⟩ := zZY.1 hs
          have := hout m hm
          have e : (ps.getD j default).outs.getD m default = (ps.getD j default).outs[m] := by rw [zZd,zZe hm]; rfl
          rw [e] at this
          exact this
         have hH : zDk (ps.getD j default) := ⟨q1,q2,q3,q4,q5,q6,q7.imp id zZh.1,hout'⟩
         have hsn := zCW hlt
         have hcnt : zAO (ps.take j) ≤ 32768 := by
          cases j with
          | zero => simp [zAO]
          | succ j => exact (hall j (by omega)).2.2.1
         have cE := effC ps j hlt hs1 (zKv hall) hH (ps.getD j default).body m3 true 1 (zAO (ps.take j) : Nat) Z (H.length + 2) z2 (by omega) (by omega) (by omega) (by omega)
         repeat' (simp -implicitDefEqProofs (disch := omega) only [h3,h5,h86,h87,z5,zAQ,push_cast,↓reduceIte,Nat.reduceEqDiff,Nat.reduceAdd,Nat.reduceLeDiff])
         refine zF cE ?_ ?_
         ·rintro x G' ⟨e,rfl,hE,hc1,hc2,hfr,hg2⟩
          have y0 := (hfr.2 H.length (by omega) (by omega)).trans z0
          have y1 := (hfr.2 (H.length + 1) (by omega) (by omega)).trans z1
          have yf : ∀ i,i < H.length → G'[i]? = H[i]? := fun i hi => (hfr.2 i (by omega) (by omega)).trans (zf i hi)
          have yl := hfr.1
          by_cases he : e = 0
          ·subst he
           repeat' (first | refine zD (zAo _) ?_ | simp -implicitDefEqProofs (disch := omega) only [h20,push_cast,↓reduceIte,Nat.reduceEqDiff])
           exact .mk (j + 1,(j : Int)) ⟨h1,h2,h3,h18,h19,rfl,yf,by omega,y0,y1,by rw [hg2,hsn]; simp,hlt,zCv hall ⟨⟨hN,hne⟩,hH,by omega,by omega,hE⟩⟩ (by dsimp only; omega)
          ·have hv : ¬ zDt ps := hfail fun hp => by have := hp.2.2.2.2; rw [hE] at this; exact he (by simpa using this)
           repeat' (first | refine zI (zAG _) ?_ | simp -implicitDefEqProofs (disch := omega) only [zAx,push_cast])
           subst hres
           exact zCm ps H _ _ h2 yf (by omega) y1 hv
         ·rintro z G' ⟨rfl,hng,hfr⟩
          have y1 := (hfr.2 (H.length + 1) (by omega) (by omega)).trans z1
          have yf : ∀ i,i < H.length → G'[i]? = H[i]? := fun i hi => (hfr.2 i (by omega) (by omega)).trans (zf i hi)
          have yl := hfr.1
          repeat' (simp -implicitDefEqProofs (disch := omega) only [push_cast])
          subst hres
          exact zCm ps H _ _ h2 yf (by omega) y1 (hfail fun hp => hng ⟨⟨0,hp.2.2.2.2⟩,by have := hp.2.2.1; omega,by have := hp.2.2.2.1; omega⟩)
      ·have hc : ¬ (ps.getD j default).outs.length ≤ 128 ∨ ((ps.getD j default).outs.length ≤ 128 ∧ ¬ (ps.getD j default).res = -1 ∧ ¬ (ps.getD j default).outs.length = 0) := by omega
       have hv : ¬ zDt ps := hfail fun hp => hP2 ⟨hp.2.1.2.2.2.2.2.1,hp.2.1.2.2.2.2.2.2.1.imp id fun h => by rw [h]; rfl⟩
       rcases hc with hc | ⟨hc1,hc2,hc3⟩
       ·repeat' (first | refine zY1 (by omega) ?_ | refine zC (zDE (ps.getD j default).name _ (by omega)) ?_ | refine zC (cN) ?_ | refine zD (zAo _) ?_ | refine zI (zAG _) ?_ | simp -implicitDefEqProofs (disch := omega) only [h1,z0,z5,hN,zYV,zAj,zAK,push_cast,↓reduceIte,Nat.reduceEqDiff,Nat.reduceAdd,Nat.reduceLeDiff,Int.reduceToNat,Int.reduceLE,Int.reduceNeg])
        subst hres
        exact zCm ps H _ _ h2 zf (by omega) z1 hv
       ·repeat' (first | refine zY1 (by omega) ?_ | refine zC (zDE (ps.getD j default).name _ (by omega)) ?_ | refine zC (cN) ?_ | refine zD (zAo _) ?_ | refine zI (zAG _) ?_ | simp -implicitDefEqProofs (disch := omega) only [h1,z0,z5,hN,zYV,zAj,zAx,push_cast,↓reduceIte,Nat.reduceEqDiff,Nat.reduceAdd,Nat.reduceLeDiff,Int.reduceToNat,Int.reduceLE,Int.reduceNeg])
        subst hres
        exact zCm ps H _ _ h2 zf (by omega) z1 hv
     ·have hc : ¬ 0 ≤ (ps.getD j default).par ∨ (0 ≤ (ps.getD j default).par ∧ ¬ (ps.getD j default).par ≤ (ps.getD j default).slots) ∨ (0 ≤ (ps.getD j default).par ∧ (ps.getD j default).par ≤ (ps.getD j default).slots ∧ ¬ (ps.getD j default).slots ≤ 1024) ∨ (0 ≤ (ps.getD j default).par ∧ (ps.getD j default).par ≤ (ps.getD j default).slots ∧ (ps.getD j default).slots ≤ 1024 ∧ ¬ -1 ≤ (ps.getD j default).res) ∨ (0 ≤ (ps.getD j default).par ∧ (ps.getD j default).par ≤ (ps.getD j default).slots ∧ (ps.getD j default).slots ≤ 1024 ∧ -1 ≤ (ps.getD j default).res ∧ ¬ (ps.getD j default).res ≤ 128) := by omega
      have hv : ¬ zDt ps := hfail fun hp => hP1 ⟨hp.2.1.1,hp.2.1.2.1,hp.2.1.2.2.1,hp.2.1.2.2.2.1,hp.2.1.2.2.2.2.1⟩
      subst hres
      rcases hc with hc | ⟨hc1,hc2⟩ | ⟨hc1,hc2,hc3⟩ | ⟨hc1,hc2,hc3,hc4⟩ | ⟨hc1,hc2,hc3,hc4,hc5⟩
      ·repeat' (first | refine zY1 (by omega) ?_ | refine zC (zDE (ps.getD j default).name _ (by omega)) ?_ | refine zC (cN) ?_ | refine zD (zAo _) ?_ | refine zI (zAG _) ?_ | simp -implicitDefEqProofs (disch := omega) only [h1,z0,z5,hN,zYV,zAK,push_cast,↓reduceIte,Nat.reduceEqDiff,Nat.reduceAdd,Nat.reduceLeDiff,Int.reduceToNat,Int.reduceLE,Int.reduceNeg])
       exact zCm ps H _ _ h2 zf (by omega) z1 hv
      ·repeat' (first | refine zY1 (by omega) ?_ | refine zC (zDE (ps.getD j default).name _ (by omega)) ?_ | refine zC (cN) ?_ | refine zD (zAo _) ?_ | refine zI (zAG _) ?_ | simp -implicitDefEqProofs (disch := omega) only [h1,z0,z5,hN,zYV,zAj,zAK,push_cast,↓reduceIte,Nat.reduceEqDiff,Nat.reduceAdd,Nat.reduceLeDiff,Int.reduceToNat,Int.reduceLE,Int.reduceNeg])
       exact zCm ps H _ _ h2 zf (by omega) z1 hv
      ·repeat' (first | refine zY1 (by omega) ?_ | refine zC (zDE (ps.getD j default).name _ (by omega)) ?_ | refine zC (cN) ?_ | refine zD (zAo _) ?_ | refine zI (zAG _) ?_ | simp -implicitDefEqProofs (disch := omega) only [h1,z0,z5,hN,zYV,zAj,zAK,push_cast,↓reduceIte,Nat.reduceEqDiff,Nat.reduceAdd,Nat.reduceLeDiff,Int.reduceToNat,Int.reduceLE,Int.reduceNeg])
       exact zCm ps H _ _ h2 zf (by omega) z1 hv
      ·repeat' (first | refine zY1 (by omega) ?_ | refine zC (zDE (ps.getD j default).name _ (by omega)) ?_ | refine zC (cN) ?_ | refine zD (zAo _) ?_ | refine zI (zAG _) ?_ | simp -implicitDefEqProofs (disch := omega) only [h1,z0,z5,hN,zYV,zAj,zAK,push_cast,↓reduceIte,Nat.reduceEqDiff,Nat.reduceAdd,Nat.reduceLeDiff,Int.reduceToNat,Int.reduceLE,Int.reduceNeg])
       exact zCm ps H _ _ h2 zf (by omega) z1 hv
      ·repeat' (first | refine zY1 (by omega) ?_ | refine zC (zDE (ps.getD j default).name _ (by omega)) ?_ | refine zC (cN) ?_ | refine zD (zAo _) ?_ | refine zI (zAG _) ?_ | simp -implicitDefEqProofs (disch := omega) only [h1,z0,z5,hN,zYV,zAj,zAK,push_cast,↓reduceIte,Nat.reduceEqDiff,Nat.reduceAdd,Nat.reduceLeDiff,Int.reduceToNat,Int.reduceLE,Int.reduceNeg])
       exact zCm ps H _ _ h2 zf (by omega) z1 hv
  ·have e : j = ps.length := by omega
   subst e
   repeat' (simp -implicitDefEqProofs (disch := omega) only [h2,h19,h20,g1,splice,zAQ,push_cast,↓reduceIte,Nat.reduceEqDiff,Nat.reduceAdd,Nat.reduceLeDiff,Int.reduceNeg,zYW])
   subst hres
   refine zT9 ps H _ _ h2 (fun i hi => ?_) (by simpa using (by omega : H.length + 2 ≤ G.length)) (by rw [zZs (by omega)]) ⟨h8,hall⟩
   rw [zZj (by omega),fr i hi]
 ·repeat' (simp -implicitDefEqProofs (disch := omega) only [L14,zBE,zYV,zAK,push_cast,↓reduceIte,Nat.reduceEqDiff,Nat.reduceAdd,Nat.reduceLeDiff,Int.reduceNeg,zYW])
  refine ⟨_,_,_,rfl,zK1,?_⟩
  repeat' (first | refine zI (zAG _) ?_ | simp -implicitDefEqProofs (disch := omega) only [push_cast,Int.reduceNeg])
  subst hres
  exact zCm ps H _ _ rfl (fun i hi => by rw [zY2 hi]) (by simp) (by simp [zA6]) fun hv => h8 hv.1
end Go.Proofs.YtbibhcmcjldhdaaGreatDoor
namespace Go.Proofs.YtbibhcmcjldhdaaGreatDoor
open Go Go.Ax Go.RowKit
set_option maxRecDepth 100000
set_option linter.unusedSimpArgs false
set_option linter.unusedVariables false
set_option maxHeartbeats 4000000
def zEx (q : Pr) : List Int := q.par :: q.slots :: q.res :: q.outs
def zDi (q : Pr) : Ln := zEs :: q.name :: (zEx q).map Lib.itoa
def prT (q : Pr) : Wd := zCD 0 (zDi q) ++ (lsT 1 q.body ++ zCD 0 [zEe])
def zBZ : List Pr → Wd
 | [] => []
 | q :: l => prT q ++ zBZ l
theorem zGg : ∀ l m : List Pr,zBZ (l ++ m) = zBZ l ++ zBZ m
 | [],m => by simp [zBZ]
 | x :: l,m => by simp [zBZ,zGg l m]
theorem zG9 {xs : List Pr} {j : Nat} (h : j < xs.length) : zBZ (xs.take (j + 1)) = zBZ (xs.take j) ++ prT (xs.getD j default) := by
 rw [zBf h,zGg]
 simp [zBZ]
theorem zJ3 {xs : List Pr} {j : Nat} (h : j < xs.length) : (zBZ (xs.take j)).length + (prT (xs.getD j default)).length ≤ (zBZ xs).length := by
 have e : xs = xs.take (j + 1) ++ xs.drop (j + 1) := (zZ7 _ _).symm
 have := congrArg (fun l => (zBZ l).length) e
 simp only [zGg,zG9 h,zY3] at this
 omega
structure FmP (N : Int → Prop) (q : Pr) : Prop where
 nm : q.name.length ≤ 1048576
 os : q.outs.length ≤ 100000
 nums : ∀ n ∈ zEx q,N n
 body : zOQ N q.body
 cnt : zL q.body ≤ 900000
theorem zP9 (ps : List Pr) (hs : zCU ps) (hv : zBR ps = false) (H : zA) : zBm 13 [.agg [zAU ps]] H (str []) := by
 refine ACall.drop (R := fun x => x = str []) ?_
 refine enter Tryz.func13 L13f_ok (zY0 rfl) ?_
 have cV := fun H => zCt ps hs H
 rw [hv] at cV
 repeat' (first | refine zC (cV _) ?_ | simp -implicitDefEqProofs (disch := omega) only [L13f,zBE,push_cast,↓reduceIte,Nat.reduceEqDiff,Nat.reduceAdd,Nat.reduceLeDiff,zYW])
 all_goals exact ⟨_,rfl⟩
set_option maxHeartbeats 8000000 in
theorem zKR {N : Int → Prop} (hN : zHh N) (ps : List Pr) (hs : zCU ps) (hv : zBR ps = true) (hp : ∀ q ∈ ps,FmP N q) (hl : (zBZ ps).length ≤ 50000000000000) (H : zA) : zBm 13 [.agg [zAU ps]] H (str (zBZ ps)) := by
 refine ACall.drop (R := fun x => x = str (zBZ ps)) ?_
 refine enter Tryz.func13 L13f_ok (zY0 rfl) ?_
 have cV := fun H => zCt ps hs H
 rw [hv] at cV
 repeat' (first | refine zC (cV _) ?_ | simp -implicitDefEqProofs (disch := omega) only [L13f,zBE,push_cast,↓reduceIte,Nat.reduceEqDiff,Nat.reduceAdd,Nat.reduceLeDiff,zYW])
 refine zAd (fun (j : Nat) e' G => e' 3 = .ptr (H.length + 1) 0 0 ∧ e' 4 = .ptr (H.length + 2) 0 0 ∧ e' 5 = .ptr (H.length + 3) 0 0 ∧ e' 17 = zAU ps ∧ e' 18 = int ps.length ∧ e' 19 = int j ∧ j ≤ ps.length ∧ BSt H.length (H.length + 1) (zBZ (ps.take j)) G ∧ G[H.length + 2]? = some (zNM (H.length + 1)) ∧ G[H.length + 3]? = some (zNK (H.length + 2) (H.length + 3)) ∧ H.length + 4 ≤ G.length ∧ ∀ i,i < H.length → G[i]? = H[i]?) (fun j => ps.length - j) 0 ?_ ?_
 ·refine ⟨rfl,rfl,rfl,rfl,rfl,rfl,zZm _,⟨by omega,.inl ⟨?_,rfl⟩⟩,?_,?_,by simp,fun i hi => zY2 hi⟩
  ·rw [zA6]; rfl
  ·rw [zA6]; rfl
  ·rw [zA6]; rfl
 rintro j e' G ⟨g3,g4,g5,g17,g18,g19,hj,hB,k1,k2,hG,hfr⟩
 by_cases hlt : j < ps.length
 rotate_left
 ·have e : j = ps.length := by omega
  subst e
  rw [zzaF] at hB
  repeat' (simp -implicitDefEqProofs (disch := omega) only [g3,g18,g19,zAQ,push_cast,↓reduceIte,Nat.reduceEqDiff])
  refine zAm (zRH H.length (H.length + 1) _ G hB (by omega)) ?_
  rintro x G2 ⟨rfl,hk⟩
  repeat' (simp -implicitDefEqProofs (disch := omega) only [push_cast])
  exact zF6 (by have := hk.1; omega) fun i hi => (hk.2.1 i hi).trans (hfr i hi)
 have hpl := hs.1
 have hmem := zAt hlt
 have hst := zG9 hlt
 have hsp := zJ3 hlt
 obtain ⟨p1,p2,p3,p4,p5⟩ := hp _ hmem
 have hrow : (ps.map prR).getD j [] = prR (ps.getD j default) := zBL hlt
 generalize hqe : ps.getD j default = q at *
 have hrG := hB.lt
 repeat' (first | refine zY1 (by omega) ?_ | simp -implicitDefEqProofs (disch := omega) only [g17,g18,g19,hrow,prR,zS,push_cast,↓reduceIte,Nat.reduceEqDiff,Nat.reduceAdd,Nat.reduceLeDiff,Nat.reduceLT,Int.reduceAdd,zYW])
 have hnl : (zEx q).length = q.outs.length + 3 := rfl
 have hnr : (zEx q).map iR = [int q.par] :: [int q.slots] :: [int q.res] :: q.outs.map iR := rfl
 have hph : zDi q = zEs :: q.name :: (zEx q).map Lib.itoa := rfl
 generalize hnsd : zEx q = ns at *
 refine zAd (fun (k : Nat) e2 G2 => e2 3 = .ptr (H.length + 1) 0 0 ∧ e2 4 = .ptr (H.length + 2) 0 0 ∧ e2 5 = .ptr (H.length + 3) 0 0 ∧ e2 17 = zAU ps ∧ e2 18 = int ps.length ∧ e2 19 = int j ∧ e2 7 = .ptr G.length 0 0 ∧ e2 8 = .os (G.length + 1) k 0 (k + 2) ∧ e2 35 = .os (G.length + 2) 1 0 ns.length ∧ e2 36 = int ns.length ∧ e2 37 = int k ∧ k ≤ ns.length ∧ G2 = G ++ .box [str q.name,int q.par,int q.slots,int q.res,.sl 1 (q.outs.map iR),.sl 5 (q.body.map zAp)] :: .arr k 1 ((zEs :: q.name :: (ns.take k).map Lib.itoa).map sR) :: .arr 1 1 (ns.map iR) :: []) (fun k => ns.length - k) 0 ?_ ?_
 ·refine ⟨g3,g4,g5,g17,g18,g19,rfl,rfl,?_,?_,rfl,zZm _,?_⟩
  ·show AV.os (G.length + 2) 1 0 (3 + q.outs.length) = AV.os (G.length + 2) 1 0 ns.length
   rw [hnl,zzaV 3]
  ·show int _ = int _
   congr 1
   omega
  ·rw [hnr]; rfl
 rintro k e2 G2 ⟨g3,g4,g5,g17,g18,g19,g7,g8,g35,g36,g37,hk,rfl⟩
 by_cases hkl : k < ns.length
 ·have hnk := p3 _ (zAt hkl)
  have hts := zBf (l := ns) (j := k) hkl
  have hfin : List.take (k + 2) ((zEs :: q.name :: (ns.take k).map Lib.itoa).map sR) ++ [sR (Lib.itoa (ns.getD k default))] = (zEs :: q.name :: (ns.take (k + 1)).map Lib.itoa).map sR := by
   rw [hts,zZu (by simp; omega)]
   simp
  have hrl2 : ((zEs :: q.name :: (ns.take k).map Lib.itoa).map sR).length = k + 2 := by simp; omega
  generalize hRk : (zEs :: q.name :: (ns.take k).map Lib.itoa).map sR = Rk at *
  repeat' (first | refine zY1 (by omega) ?_ | refine zC (hN.call _ hnk _) ?_ | simp -implicitDefEqProofs (disch := omega) only [g8,g35,g36,g37,zN,iR,hrl2,zZw,zS,push_cast,↓reduceIte,Nat.reduceEqDiff,reduceCtorEq,Nat.reduceLeDiff,Nat.reduceLT,zYW])
  exact .mk (k + 1) ⟨g3,g4,g5,g17,g18,g19,g7,rfl,g35,g36,rfl,hkl,congrArg (fun z => G ++ HO.box [str q.name,int q.par,int q.slots,int q.res,.sl 1 (q.outs.map iR),.sl 5 (q.body.map zAp)] :: HO.arr (k + 1) 1 z :: HO.arr 1 1 (ns.map iR) :: []) hfin⟩ (by omega)
 have hkn : k = ns.length := by omega
 have hall : List.take (k + 2) ((zEs :: q.name :: (ns.take k).map Lib.itoa).map sR) = (zDi q).map sR := by
  rw [zZu (by simp; omega),zZu (by omega),hph]
 have hrl2 : ((zEs :: q.name :: (ns.take k).map Lib.itoa).map sR).length = k + 2 := by simp; omega
 have hcl : zHa ((zEs :: q.name :: (ns.take k).map Lib.itoa).map sR) = true := zBA (fun _ => rfl) _
 generalize hRk : (zEs :: q.name :: (ns.take k).map Lib.itoa).map sR = Rk at *
 have hGr : ∀ X,(G ++ X)[H.length + 2]? = some (zNM (H.length + 1)) := fun X => by rw [zY2 (by omega)]; exact k1
 have hGs : ∀ X,(G ++ X)[H.length + 3]? = some (zNK (H.length + 2) (H.length + 3)) := fun X => by rw [zY2 (by omega)]; exact k2
 have hhl : (zDi q).length = ns.length + 2 := by rw [hph]; simp
 have hhw := zKH (ws := zDi q) (k := 1048576) fun w hw => by
  rw [hph] at hw
  simp only [zZr,zZK] at hw
  rcases hw with rfl | rfl | ⟨n,hn,rfl⟩
  ·simp [zEs]
  ·exact p1
  ·have := hN.len n (p3 n hn); omega
 have hhw2 : zBQ (zDi q) ≤ 100005 * 1048577 := zZ3 hhw (zZB _ (by omega))
 repeat' (simp -implicitDefEqProofs (disch := omega) only [g4,g8,g36,g37,hGr,hall,zAQ,push_cast,↓reduceIte,Nat.reduceEqDiff,Nat.reduceAdd,Nat.reduceLeDiff])
 refine ⟨⟨by omega,hcl⟩,?_⟩
 refine zAm (zIK H.length (H.length + 1) _ 0 (zDi q) _ (hB.app _) (by simp; omega) (by omega) (by omega) (by omega)) ?_
 rintro x G1 ⟨rfl,hb1,hk3⟩
 have m1 := hk3.2.2 G.length [str q.name,int q.par,int q.slots,int q.res,.sl 1 (q.outs.map iR),.sl 5 (q.body.map zAp)] (by omega) (by simp)
 have hl3 := hk3.2.2 (H.length + 2) _ (by omega) (hGr _)
 have hs3 := hk3.2.2 (H.length + 3) _ (by omega) (hGs _)
 have hn1 := hk3.1
 simp only [zY3] at hn1
 have hI : prT q = zCD 0 (zDi q) ++ (lsT 1 q.body ++ zCD 0 [zEe]) := rfl
 rw [hI] at hst hsp
 simp only [zY3] at hsp
 have cb := zVr hN H.length (H.length + 1) (H.length + 2) (H.length + 3) (by omega) (by omega) (zL q.body + 1) q.body 1 _ G1 (by omega) p4 (by omega) hb1 (by omega) hl3 hs3 (by simp only [zY3]; omega)
 repeat' (simp -implicitDefEqProofs (disch := omega) only [g5,g7,m1,hs3,push_cast,↓reduceIte,Nat.reduceEqDiff,Nat.reduceAdd,Nat.reduceLeDiff])
 refine zAm cb ?_
 rintro x G2 ⟨rfl,hb2,hk4⟩
 have m2 := hk4.2.2 G.length [str q.name,int q.par,int q.slots,int q.res,.sl 1 (q.outs.map iR),.sl 5 (q.body.map zAp)] (by omega) m1
 have hl4 := hk4.2.2 (H.length + 2) _ (by omega) hl3
 have hs4 := hk4.2.2 (H.length + 3) _ (by omega) hs3
 have hn2 := hk4.1
 repeat' (simp -implicitDefEqProofs (disch := omega) only [g4,hl4,push_cast,↓reduceIte,Nat.reduceEqDiff,reduceCtorEq,Nat.reduceAdd,Nat.reduceLeDiff,Nat.reduceLT,zYW])
 refine zAm (zIK H.length (H.length + 1) _ 0 [zEe] G2 hb2 (by omega) (by omega) (by simp) (by simp only [zY3,zBQ,zEe,zYZ,zY4] at hsp ⊢; omega)) ?_
 rintro x G3 ⟨rfl,hb3,hk5⟩
 have hl5 := hk5.2.2 (H.length + 2) _ (by omega) hl4
 have hs5 := hk5.2.2 (H.length + 3) _ (by omega) hs4
 have hn3 := hk5.1
 repeat' (simp -implicitDefEqProofs (disch := omega) only [g19,push_cast,↓reduceIte,Nat.reduceEqDiff])
 refine .mk (j + 1) ⟨g3,g4,g5,g17,g18,rfl,hlt,?_,hl5,hs5,by omega,fun i hi => ?_⟩ (by omega)
 ·rw [hst]
  simpa only [zZx] using hb3
 ·rw [hk5.2.1 i hi,hk4.2.1 i hi,hk3.2.1 i hi,zY2 (by omega)]
  exact hfr i hi
def zMi (w : Wd) : Prop := w ≠ [] ∧ (32 : UInt8) ∉ w ∧ (10 : UInt8) ∉ w
theorem zIT (w x : Wd) (l : Ln) : Lib.join (w :: x :: l) [32] = w ++ 32 :: Lib.join (x :: l) [32] := by simp [Lib.join,List.intercalate,List.intersperse]
theorem zGZ : ∀ {l : Ln},(∀ w ∈ l,zMi w) → (10 : UInt8) ∉ Lib.join l [32]
 | [],_ => by simp [Lib.join]
 | [w],h => by rw [Lib.join_one]; exact (h w (by simp)).2.2
 | w :: x :: l,h => by
  rw [zIT]
  have h1 := zGZ (l := x :: l) fun y hy => h y (zZN _ hy)
  have h2 := (h w (by simp)).2.2
  simp only [zZv,zZr,not_or]
  exact ⟨h2,by decide,h1⟩
theorem zH8 : ∀ {l : Ln},(∀ w ∈ l,zMi w) → zEd (Lib.join l [32]) = l
 | [],_ => by simp [Lib.join,zEd,spB,ne]
 | [w],h => by
  obtain ⟨h1,h2,_⟩ := h w (by simp)
  rw [Lib.join_one,zMm h2,zQ1,if_neg h1]; rfl
 | w :: x :: l,h => by
  obtain ⟨h1,h2,_⟩ := h w (by simp)
  have ih := zH8 (l := x :: l) fun y hy => h y (zZN _ hy)
  rw [zIT]
  unfold zEd at ih ⊢
  rw [zFr h2,zZ0 (zGP.2 h1),ih]
theorem zKq : ∀ d,(10 : UInt8) ∉ Lib.repeatL [32,32] d
 | 0 => by simp [Lib.repeatL]
 | d + 1 => by
  have := zKq d
  simp only [Lib.repeatL,zZv,zZr,zZ1,or_false,not_or]
  exact ⟨⟨by decide,by decide⟩,this⟩
theorem zJ8 (s : Wd) : ∀ d,zEd (Lib.repeatL [32,32] d ++ s) = zEd s
 | 0 => rfl
 | d + 1 => by
  have e : Lib.repeatL [32,32] (d + 1) ++ s = 32 :: 32 :: (Lib.repeatL [32,32] d ++ s) := by simp [Lib.repeatL]
  have ih := zJ8 s d
  rw [e]
  unfold zEd at ih ⊢
  rw [spB,if_pos rfl,spB,if_pos rfl,zzaj (by simp [ne]),zzaj (by simp [ne]),ih]
theorem zA5 {d : Nat} {ws : Ln} (h : ∀ w ∈ ws,zMi w) (hn : ws ≠ []) (s : Wd) : zA9 (zCD d ws ++ s) = ws :: zA9 s := by
 have h10 : (10 : UInt8) ∉ Lib.repeatL [32,32] d ++ Lib.join ws [32] := by
  simp only [zZv,not_or]; exact ⟨zKq d,zGZ h⟩
 have e : zCD d ws ++ s = (Lib.repeatL [32,32] d ++ Lib.join ws [32]) ++ 10 :: s := by simp [zCD]
 unfold zA9
 rw [e,zFr h10,zZG,zJ8,zH8 h,zZ0 (zGP.2 hn)]
theorem zLH : zA9 [] = [] := by simp [zA9,spB,zEd,ne]
theorem zHR : ∀ u : Nat,∀ c ∈ Lib.decDigits u,isD c = true := by
 intro u
 induction u using Nat.strongRecOn with
 | ind u ih =>
  intro c hc
  have hd : ∀ k,k < 10 → isD (UInt8.ofNat (48 + k)) = true := by
   intro k hk
   simp [isD,UInt8.toNat_ofNat]; omega
  rw [Lib.decDigits] at hc
  split at hc
  ·rename_i hlt
   simp only [zZr,zZ1,or_false] at hc
   subst hc; exact hd u hlt
  ·rename_i hlt
   simp only [zZv,zZr,zZ1,or_false] at hc
   rcases hc with hc | rfl
   ·exact ih (u / 10) (by omega) c hc
   ·exact hd _ (by omega)
theorem zOn (u : Nat) : 1 ≤ (Lib.decDigits u).length := by
 rw [Lib.decDigits]; split <;> simp
theorem zJ1 : ∀ (k u : Nat),u < 10 ^ (k + 1) → (Lib.decDigits u).length ≤ k + 1
 | 0,u,h => by rw [Lib.decDigits_one (by simpa using h)]; simp
 | k + 1,u,h => by
  rw [Lib.decDigits]
  split
  ·simp
  ·have h2 : u / 10 < 10 ^ (k + 1) := by rw [zzbd] at h; omega
   have := zJ1 k _ h2
   simp only [zY3,zYZ,zY4]; omega
theorem zPQ (n : Nat) (l : List UInt8) (c : UInt8) : zGv n (l ++ [c]) = 10 * zGv n l + (c.toNat - 48) := by unfold zGv; rw [List.foldl_append]; rfl
theorem zPP : ∀ u : Nat,zGv 0 (Lib.decDigits u) = u := by
 intro u
 induction u using Nat.strongRecOn with
 | ind u ih =>
  have hd : ∀ k,k < 10 → (UInt8.ofNat (48 + k)).toNat - 48 = k := by
   intro k hk
   simp [UInt8.toNat_ofNat]; omega
  rw [Lib.decDigits]
  split
  ·rename_i hlt
   have := hd u hlt
   rw [show zGv 0 [UInt8.ofNat (48 + u)] = 10 * 0 + ((UInt8.ofNat (48 + u)).toNat - 48) from rfl,this]; omega
  ·rename_i hlt
   rw [zPQ,ih _ (by omega),hd _ (by omega)]; omega
theorem zNS {u : Nat} (h : u ≤ 999999999) : zE0 (Lib.decDigits u) = true := by
 have h1 := zOn u
 have h2 := zJ1 8 u (by omega)
 simp only [zE0,zYX,zY5,zZb]
 exact ⟨⟨h1,h2⟩,fun c hc => zHR u c hc⟩
def NR (n : Int) : Prop := -1 ≤ n ∧ n ≤ 999999999
theorem zNu {n : Int} (h : NR n) : zOW (Lib.itoa n) = some n := by
 obtain ⟨h1,h2⟩ := h
 by_cases hn : n = -1
 ·subst hn
  have e : Lib.itoa (-1) = [45,49] := by
   have := Lib.itoa_neg 1 (zZa _)
   rw [Lib.decDigits_one (by omega)] at this
   exact this
  rw [e]; decide
 ·obtain ⟨u,rfl⟩ : ∃ u : Nat,n = u := ⟨n.toNat,by omega⟩
  rw [Lib.itoa_nonneg]
  have hd := zNS (u := u) (by omega)
  have hh : ¬ (Lib.decDigits u).head? = some 45 := by
   intro e
   have := zHR u 45 (List.mem_of_mem_head? e)
   revert this; decide
  rw [zOW,if_neg hh,if_pos hd,zPP]
theorem zHI {n : Int} (h : NR n) : zMi (Lib.itoa n) ∧ (Lib.itoa n).length ≤ 10 := by
 obtain ⟨h1,h2⟩ := h
 by_cases hn : n = -1
 ·subst hn
  have e : Lib.itoa (-1) = [45,49] := by
   have := Lib.itoa_neg 1 (zZa _)
   rw [Lib.decDigits_one (by omega)] at this
   exact this
  rw [e]; exact ⟨⟨by decide,by decide,by decide⟩,by decide⟩
 ·obtain ⟨u,rfl⟩ : ∃ u : Nat,n = u := ⟨n.toNat,by omega⟩
  rw [Lib.itoa_nonneg]
  have h3 := zOn u
  have h4 := zJ1 8 u (by omega)
  refine ⟨⟨fun e => by rw [e] at h3; simp at h3,fun hc => ?_,fun hc => ?_⟩,by omega⟩
  ·have := zHR u _ hc; revert this; decide
  ·have := zHR u _ hc; revert this; decide
theorem zEW : ∀ {l : List Int},(∀ n ∈ l,NR n) → zCa (l.map Lib.itoa) = some l
 | [],_ => rfl
 | n :: l,h => by
  simp only [zZG,zCa,zNu (h n (by simp)),zEW (l := l) fun x hx => h x (zZN _ hx),zZt]
theorem zSr {s : Wd} (h : zEC s = true) : zMi s := by
 obtain ⟨h1,h2,h3,h4,h5⟩ := zE1.1 h
 have h6 : s.takeWhile isN = s := by
  have e : (s.takeWhile isN).length = s.length := by simpa [zH5] using h5
  exact (List.takeWhile_sublist _).eq_of_length e
 have h7 : ∀ c ∈ s,isN c = true := fun c hc => by
  rw [← h6] at hc
  exact zZb.1 (List.all_takeWhile (p := isN) (l := s)) c hc
 refine ⟨fun e => by rw [e] at h1; simp at h1,fun hc => ?_,fun hc => ?_⟩
 ·have := h7 _ hc; revert this; decide
 ·have := h7 _ hc; revert this; decide
theorem zKy : ∀ k,k < 23 → zMi (opsW.getD k []) ∧ (opsW.getD k []).length ≤ 8 ∧ opF (opsW.getD k []) = some k ∧ opsW.getD k [] ≠ zEe ∧ opsW.getD k [] ≠ zEt ∧ opsW.getD k [] ≠ wDo := by
 unfold zMi; decide
end Go.Proofs.YtbibhcmcjldhdaaGreatDoor
namespace Go.Proofs.YtbibhcmcjldhdaaGreatDoor
open Go Go.Ax
set_option maxRecDepth 100000
set_option linter.unusedSimpArgs false
set_option maxHeartbeats 4000000
def L10p : zT3 := ⟨97,[(.cell 2 true 1),(.cell 3 false 1)],(.seq (.ops [oX 2 (.alloc [zAI]),oX 3 (.alloc [(int 0)])]) (.seq (.seq (.ops [oM 11 0,oX 12 (.len .str (.t 11)),oX 13 (bI .gtr (.t 12) (kI 1048576))]) (.cond (.t 13) (.seq (.ops [oX 14 (.build [zAI] []),oS 1 2 14,oN (.store 1 (.t 3) (kI 8))]) .ret) .skip)) (.cut [oX 15 (.mkfn (.func 22) [] [(.t 2),(.t 3)])] (.t 15) [] (.seq (.ops [oX 16 (.build [zAI] []),oX 17 (.box false (.t 16)),oX 4 (.alloc [(.v (.pointer none))]),oS 1 4 17]) (.seq (.seq (.ops [oM 18 0,oX 19 (cF 23 [(.t 18),(.c (.v (.string (mkS [10]))))])]) (.block 0 (.range (.t 19) [20] (.ops [oM 5 20]) (.block 1 (.seq (.ops [oX 6 (.alloc [zAI])]) (.seq (.seq (.ops [oM 21 5,oX 22 (cF 23 [(.t 21),(.c (.v (.string (mkS [32]))))])]) (.block 2 (.range (.t 22) [23] (.ops [oM 7 23]) (.block 3 (.seq (.ops [oM 24 7,oX 25 (.bin .str .neq (.t 24) (.c (.v (.string (mkS [])))))]) (.cond (.t 25) (.ops [oL 26 6,oM 27 7,oX 28 (.bsl true 1 1 [(.v (.string (mkS [])))] [(0,(.t 27))]),oX 29 (.append 1 16 (.t 26) (.t 28)),oS 1 6 29]) .skip)))))) (.seq (.ops [oX 6 (.frzf 1 0 (.t 6)),oL 30 6,oX 31 (.len .slc (.t 30)),oX 32 (bI .gtr (.t 31) (kI 0))]) (.cond (.t 32) (.drawA [oL 33 4,oL 34 4,oK 35 34,oD 36 0 35,oL 37 36,oL 38 6,oX 39 (.bsl true 1 1 [zAI] [(0,(.t 38))]),oN (.mv (.c .any)),oK 41 33,oD 42 0 41,oN (.mv (.c .any))] [(oX 40 (.append 1 24 (.t 37) (.t 39)),[0,8,9]),(oS 1 42 40,[])] []) .skip)))))))) (.seq (.block 4 (.loop (.seq (.seq (.ops [oL 43 4,oK 44 43,oD 45 0 44,oL 46 45,oX 47 (.len .slc (.t 46)),oX 48 (bI .gtr (.t 47) (kI 0))]) (.cond (.t 48) .skip (.exit 4))) (.block 5 (.seq (.ops [oL 49 4,oX 50 (cF 24 [(.t 49)]),oM 8 50]) (.seq (.seq (.ops [oM 51 8]) (.seq (.ops [oX 52 (.iaddr 1 (.t 51) (kI 0))]) (.seq (.ops [oL 53 52]) (.seq (.ops [oX 54 (.bin .str .eql (.t 53) (.c (.v (.string (mkS [112,114,111,99])))))]) (.seq (.ops [oM 55 54]) (.seq (.ops [oT 56 55 (.mv (.t 8))]) (.seq (.ops [oT 57 55 (.len .slc (.t 56))]) (.seq (.ops [oT 58 55 (bI .geq (.t 57) (kI 5))]) (.seq (.ops [oP 59 55 (.t 58) (kB false)]) (.seq (.ops []) (.seq (.callp (some 60) (.c (.fn (.func 25) [] [])) [(.t 59)]) (.ops [])))))))))))) (.seq (.seq (.ops [oM 61 8]) (.seq (.ops [oX 62 (.slice .slc 1 (.t 61) (some (kI 2)) none)]) (.seq (.ops []) (.seq (.callp (some 63) (.c (.fn (.func 26) [] [])) [(.t 62)]) (.seq (.ops [oM 9 63]) (.ops [])))))) (.seq (.draw [oM 64 8,oX 65 (.iaddr 1 (.t 64) (kI 1)),oL 66 65,oM 67 9,oX 68 (.iaddr 1 (.t 67) (kI 0)),oL 69 68,oM 70 9,oX 71 (.iaddr 1 (.t 70) (kI 1)),oL 72 71,oM 73 9,oX 74 (.iaddr 1 (.t 73) (kI 2)),oL 75 74,oX 76 (.build [(.v (.string (mkS []))),(int 0),(int 0),(int 0),zAI,zAI] [(0,(1,(.t 66))),(1,(1,(.t 69))),(2,(1,(.t 72))),(3,(1,(.t 75)))])] [oX 10 (.alloc [(.v (.string (mkS []))),(int 0),(int 0),(int 0),zAI,zAI]),oS 6 10 76]) (.seq (.draw [oD 77 4 10,oL 78 77,oM 79 9,oX 80 (.slice .slc 1 (.t 79) (some (kI 3)) none)] [oX 81 (.append 1 8 (.t 78) (.t 80)),oD 82 4 10,oS 1 82 81]) (.seq (.seq (.ops [oL 83 4]) (.seq (.ops []) (.seq (.callp (some 84) (.c (.fn (.func 27) [] [])) [(.t 83),(.c (.v (.string (mkS [101,110,100]))))]) (.seq (.ops [oD 85 5 10]) (.seq (.ops [oS 1 85 84]) (.ops [])))))) (.ops [oX 10 (.frzf 1 4 (.t 10)),oD 86 0 2,oL 87 86,oA 88 6 10,oX 89 (.bsl true 6 1 [(.v (.string (mkS []))),(int 0),(int 0),(int 0),zAI,zAI] [(0,(.t 88))]),oX 90 (.append 6 88 (.t 87) (.t 89)),oD 91 0 2,oS 1 91 90]))))))))))) (.seq (.seq (.ops [oX 2 (.frzf 6 0 (.t 2)),oA 92 1 2,oX 93 (cF 14 [(.t 92)]),oX 94 (.not (.t 93))]) (.cond (.t 94) (.seq (.ops [oX 95 (.build [zAI] []),oS 1 2 95,oN (.store 1 (.t 3) (kI 1))]) .ret) .skip)) (.seq (.ops [oA 96 1 2,oS 1 2 96,oN (.store 1 (.t 3) (kI 0))]) .ret))))))))⟩
theorem L10p_ok : zJM Tryz.prog Tryz.f10 [⟨12,0,(.pre 6 (.frzf 1 0 (.t 6)))⟩,⟨21,0,(.pre 10 (.frzf 1 4 (.t 10)))⟩,⟨22,0,(.pre 2 (.frzf 6 0 (.t 2)))⟩,⟨11,2,.imm⟩,⟨13,6,.imm⟩,⟨21,3,.imm⟩,⟨16,9,.cut⟩,⟨17,2,.cut⟩,⟨20,1,.cut⟩,⟨13,0,(.drw [7,10])⟩,⟨18,13,.tail⟩,⟨19,4,.tail⟩] = some L10p := by kernel_rfl
end Go.Proofs.YtbibhcmcjldhdaaGreatDoor
namespace Go.Proofs.YtbibhcmcjldhdaaGreatDoor
open Go Go.Ax Go.RowKit
set_option maxRecDepth 100000
set_option linter.unusedSimpArgs false
set_option linter.unusedVariables false
set_option maxHeartbeats 4000000
theorem zSp {s : List UInt8} (h : zE0 s = true) : zGv 0 s < 1000000000 := by
 obtain ⟨h1,h2,h3⟩ := zEB.1 h
 have : ∀ (l : List UInt8) (n k : Nat),n < 10 ^ k → (∀ c ∈ l,isD c = true) → zGv n l < 10 ^ (k + l.length) := by
  intro l
  induction l with
  | nil => intro n k hn _; simpa [zGv] using hn
  | cons c l ih =>
   intro n k hn hc
   rw [zIG]
   have hd := zNW.1 (hc c (by simp))
   have := ih (10 * n + (c.toNat - 48)) (k + 1) (by rw [zzbd]; omega) fun x hx => hc x (by simp [hx])
   rw [zYZ]
   rwa [show k + 1 + l.length = k + (l.length + 1) by omega] at this
 have hb := this s 0 0 (by simp) fun c hc => by
  obtain ⟨j,hj,rfl⟩ := zZY.1 hc
  have := h3 j hj
  simpa [zZd,hj] using this
 exact zIz (by simpa using hb) h2
theorem zDD : ∀ {l : Ln} {ns : List Int},zCa l = some ns → ns.length = l.length
 | [],ns,h => by simp only [zCa,zYT] at h; subst h; rfl
 | w :: l,ns,h => by
  simp only [zCa] at h
  split at h
  ·cases h
  ·cases hl : zCa l with
   | none => rw [hl] at h; cases h
   | some m =>
    rw [hl] at h
    simp only [zZt,zYT] at h
    subst h
    simp [zDD hl]
theorem zIE : ∀ (l : Ln) (w : Wd),zCa (l ++ [w]) = (match zCa l with | some ns => (match zOW w with | some n => some (ns ++ [n]) | none => none) | none => none)
 | [],w => by simp only [zZk,zCa]; cases zOW w <;> rfl
 | x :: l,w => by
  simp only [zY9,zCa,zIE l w]
  cases zOW x with
  | none => rfl
  | some n =>
   cases zCa l with
   | none => rfl
   | some ns => cases zOW w <;> rfl
theorem zGu (l m : Ln) (h : zCa l = none) : zCa (l ++ m) = none := by
 induction l with
 | nil => cases h
 | cons x l ih =>
  simp only [zY9,zCa] at h ⊢
  cases hx : zOW x with
  | none => rfl
  | some n =>
   rw [hx] at h
   cases hl : zCa l with
   | none => rw [ih hl]; rfl
   | some ns => rw [hl] at h; cases h
def lnR (l : Ln) : List AV := [.sl 1 (l.map sR)]
def cutW (s : Wd) (f i : Nat) : Wd := (s.drop f).take (i - f)
structure LnSt (s : Wd) (H : zA) (i f r v1 v2 : Nat) (now : Ln) (out : List Ln) (G : zA) : Prop where
 hf : f ≤ i ∨ (i = s.length + 1 ∧ f = i)
 hi : i ≤ s.length + 1
 law : (i ≤ s.length ∧ out ++ lnM (s.drop i) (cutW s f i) now = zA9 s) ∨ (i = s.length + 1 ∧ out = zA9 s)
 g1 : G[H.length]? = some (.arr v1 1 (out.map lnR))
 g2 : G[r]? = some (.arr v2 1 (now.map sR))
 rn : H.length < r
 fr : ∀ k,k < H.length → G[k]? = H[k]?
 ln : now.length ≤ i
 lo : out.length ≤ i
theorem zPO {w : Wd} {k : Nat} (h : opF w = some k) : k < 23 ∧ opsW.getD k [] = w := by
 unfold opF at h
 obtain ⟨hk,h1,h2⟩ := zZ6.1 h
 have hk2 : k < 23 := hk
 exact ⟨hk2,by simpa [List.getD,zZe hk] using h1⟩
end Go.Proofs.YtbibhcmcjldhdaaGreatDoor
namespace Go.Ax
open Go Go.RowKit
set_option linter.unusedSimpArgs false
set_option linter.unusedVariables false
mutual
def AV.lv (n : Nat) : AV → Bool
 | .agg cs => lvL n cs
 | .tup cs => lvL n cs
 | .fn _ a b => lvL n a && lvL n b
 | .os r _ _ _ => decide (r < n)
 | .ptr r _ _ => decide (r < n)
 | .pe r _ _ _ => decide (r < n)
 | .om r _ => decide (r < n)
 | _ => true
def lvL (n : Nat) : List AV → Bool
 | [] => true
 | x :: l => x.lv n && lvL n l
end
def HO.lv (n : Nat) : HO → Bool
 | .box cs => lvL n cs
 | .arr _ _ xs => xs.all (lvL n)
 | .lp .. => false
 | _ => true
mutual
def AV.ren (π : Nat → Nat) : AV → AV
 | .agg cs => .agg (zGF π cs)
 | .tup cs => .tup (zGF π cs)
 | .fn f a b => .fn f (zGF π a) (zGF π b)
 | .os r v o l => .os (π r) v o l
 | .ptr r v o => .ptr (π r) v o
 | .pe r v i o => .pe (π r) v i o
 | .om r v => .om (π r) v
 | x => x
def zGF (π : Nat → Nat) : List AV → List AV
 | [] => []
 | x :: l => x.ren π :: zGF π l
end
def HO.ren (π : Nat → Nat) : HO → HO
 | .box cs => .box (zGF π cs)
 | .arr v sz xs => .arr v sz (xs.map (zGF π))
 | o => o
theorem zFt (π : Nat → Nat) : ∀ l,zGF π l = l.map (AV.ren π)
 | [] => rfl
 | x :: l => by rw [zGF,zFt π l]; rfl
theorem zBn (π : Nat → Nat) (l : List AV) : (zGF π l).length = l.length := by rw [zFt,zYV]
theorem zDf {π : Nat → Nat} {l : List AV} {i : Nat} {y : AV} (h : (zGF π l)[i]? = some y) : ∃ x,l[i]? = some x ∧ y = x.ren π := by
 rw [zFt,zZy] at h
 cases hx : l[i]? with
 | none => rw [hx] at h; cases h
 | some x => rw [hx] at h; cases h; exact ⟨x,rfl,rfl⟩
theorem zCP {π : Nat → Nat} {l : List AV} {i : Nat} {x : AV} (h : l[i]? = some x) : (zGF π l)[i]? = some (x.ren π) := by rw [zFt,zZy,h]; rfl
theorem zBW {n : Nat} {l : List AV} (h : lvL n l = true) : ∀ {i : Nat} {x : AV},l[i]? = some x → x.lv n = true := by
 induction l with
 | nil => intro i x hx; simp at hx
 | cons y l ih =>
  intro i x hx
  simp only [lvL,zYX] at h
  cases i with
  | zero => simp at hx; subst hx; exact h.1
  | succ i => simp at hx; exact ih h.2 hx
mutual
theorem AV.ren0 (π : Nat → Nat) : ∀ x : AV,x.lv 0 = true → x.ren π = x
 | .agg cs,h => by rw [AV.ren,zIt π cs (by simpa [AV.lv] using h)]
 | .tup cs,h => by rw [AV.ren,zIt π cs (by simpa [AV.lv] using h)]
 | .fn f a b,h => by
  simp only [AV.lv,zYX] at h
  rw [AV.ren,zIt π a h.1,zIt π b h.2]
 | .os ..,h => by simp [AV.lv] at h
 | .ptr ..,h => by simp [AV.lv] at h
 | .pe ..,h => by simp [AV.lv] at h
 | .om ..,h => by simp [AV.lv] at h
 | .any,_ => rfl
 | .v _,_ => rfl
 | .sl _ _,_ => rfl
 | .vp _ _,_ => rfl
 | .mp _ _,_ => rfl
 | .nc,_ => rfl
 | .bnil _,_ => rfl
theorem zIt (π : Nat → Nat) : ∀ l : List AV,lvL 0 l = true → zGF π l = l
 | [],_ => rfl
 | x :: l,h => by
  simp only [lvL,zYX] at h
  rw [zGF,AV.ren0 π x h.1,zIt π l h.2]
end
mutual
theorem AV.lv0 (n : Nat) : ∀ x : AV,x.lv 0 = true → x.lv n = true
 | .agg cs,h => by rw [AV.lv]; exact zQ4 n cs (by simpa [AV.lv] using h)
 | .tup cs,h => by rw [AV.lv]; exact zQ4 n cs (by simpa [AV.lv] using h)
 | .fn f a b,h => by
  simp only [AV.lv,zYX] at h ⊢
  exact ⟨zQ4 n a h.1,zQ4 n b h.2⟩
 | .os ..,h => by simp [AV.lv] at h
 | .ptr ..,h => by simp [AV.lv] at h
 | .pe ..,h => by simp [AV.lv] at h
 | .om ..,h => by simp [AV.lv] at h
 | .any,_ => rfl
 | .v _,_ => rfl
 | .sl _ _,_ => rfl
 | .vp _ _,_ => rfl
 | .mp _ _,_ => rfl
 | .nc,_ => rfl
 | .bnil _,_ => rfl
theorem zQ4 (n : Nat) : ∀ l : List AV,lvL 0 l = true → lvL n l = true
 | [],_ => rfl
 | x :: l,h => by
  simp only [lvL,zYX] at h ⊢
  exact ⟨AV.lv0 n x h.1,zQ4 n l h.2⟩
end
theorem HO.lv0 {o : HO} (n : Nat) (h : o.lv 0 = true) : o.lv n = true := by
 cases o <;> first | rfl | exact zQ4 n _ h | exact zZb.2 fun x hx => zQ4 n x (zZb.1 h x hx) | cases h
theorem HO.ren0 {o : HO} (π : Nat → Nat) (h : o.lv 0 = true) : o.ren π = o := by
 cases o with
 | box cs => rw [HO.ren,zIt π cs h]
 | arr v sz xs =>
  rw [HO.ren]; congr 1
  exact (zzaD fun x hx => zIt π x (zZb.1 h x hx)).trans (List.map_id xs)
 | _ => rfl
section
variable {P : Program} {w w' : World} {X M M' : Nat → Prop} {ρ ρ' : Nat → Loc} {H : zA} {n n' k : Nat} {π : Nat → Nat}
theorem Rep.zero {x : AV} {u : Value} (h : Rep w M ρ 0 x u) (hM : ∀ b,M' b → M b) : Rep w M' ρ' 0 x u := (h.closed rfl ρ' 0).fut (n0 := 0) (Fut.refl _ _ _) (fun b _ hb hb' => hb (hM b hb')) (fun b _ ⟨r,o,hr,_⟩ => by omega) (zZa _)
theorem Rep.ren {x : AV} {u : Value} (h : Rep w M ρ k x u) (hM : ∀ b,M' b → M b) (hρ : ∀ r,r < n → ρ' (π r) = ρ r) (hn : ∀ r,r < n → π r < n') : x.lv n = true → Rep w M' ρ' n' (x.ren π) u := by
 induction h with
 | any => intro _; exact .any _ _
 | v => intro _; exact .v _ _
 | agg _ cs us hl _ ih => intro hc; exact .agg _ _ _ (by rw [zBn]; exact hl) fun i y u hy hu => by obtain ⟨x,hx,rfl⟩ := zDf hy; exact ih i x u hx hu (zBW hc hx)
 | tup _ cs us hl _ ih => intro hc; exact .tup _ _ _ (by rw [zBn]; exact hl) fun i y u hy hu => by obtain ⟨x,hx,rfl⟩ := zDf hy; exact ih i x u hx hu (zBW hc hx)
 | nc => intro _; exact .nc _ _
 | bnil => intro _; exact .bnil _ _
 | slE => intro _; exact .slE _ _ _ _
 | slN _ sz xs b o cap c hm hb hcap hsz hcell hc _ => intro _; exact .slN _ _ _ _ _ _ c (fun h => hm (hM _ h)) hb hcap hsz hcell fun i j x y hx hy => (hc i j x y hx hy).zero hM
 | vp _ cs off b o c hm hb hcell hc _ => intro _; exact .vp _ _ _ _ _ c (fun h => hm (hM _ h)) hb hcell fun j y hy => (hc j y hy).zero hM
 | fn _ f first caps fs us h1 h2 _ _ ih1 ih2 =>
  intro hc; simp only [AV.lv,zYX] at hc
  exact .fn _ _ _ _ _ _ (by rw [zBn]; exact h1) (by rw [zBn]; exact h2) (fun i y u hy hu => by obtain ⟨x,hx,rfl⟩ := zDf hy; exact ih1 i x u hx hu (zBW hc.1 hx)) (fun i y u hy hu => by obtain ⟨x,hx,rfl⟩ := zDf hy; exact ih2 i x u hx hu (zBW hc.2 hx))
 | mp _ ks vs b es clock hm hb hh hks hvs hc _ => intro _; exact .mp _ _ _ _ es clock (fun h => hm (hM _ h)) hb hh hks hvs fun i x e hx he => (hc i x e hx he).zero hM
 | os _ r ver off len u hr hle h1 hp => intro hc; have hc := zZ9 hc; exact .os _ _ _ _ _ _ (hn r hc) (by rw [hρ r hc]; exact hle) h1 (by rw [hρ r hc]; exact hp)
 | ptr _ r ver off u hr hle h1 hp => intro hc; have hc := zZ9 hc; exact .ptr _ _ _ _ _ (hn r hc) (by rw [hρ r hc]; exact hle) h1 (by rw [hρ r hc]; exact hp)
 | pe _ r ver i off u hr hle h1 hp => intro hc; have hc := zZ9 hc; exact .pe _ _ _ _ _ _ (hn r hc) (by rw [hρ r hc]; exact hle) h1 (by rw [hρ r hc]; exact hp)
 | om _ r ver u hr hle h1 hp => intro hc; have hc := zZ9 hc; exact .om _ _ _ _ (hn r hc) (by rw [hρ r hc]; exact hle) h1 (by rw [hρ r hc]; exact hp)
theorem Rep.unren {y : AV} {u : Value} (h : Rep w M ρ k y u) (hM : ∀ b,M' b → M b) (hρ : ∀ r,r < n → ρ' r = ρ (π r)) : ∀ x : AV,x.ren π = y → x.lv n = true → Rep w M' ρ' n x u := by
 induction h with
 | any => intro x hx _; cases x <;> cases hx; exact .any _ _
 | v => intro x hx _; cases x <;> cases hx; exact .v _ _
 | agg _ cs us hl _ ih =>
  intro x hx hc
  cases x <;> cases hx
  exact .agg _ _ _ (by rw [← hl,zBn]) fun i x u hx hu => ih i _ u (zCP hx) hu x rfl (zBW hc hx)
 | tup _ cs us hl _ ih =>
  intro x hx hc
  cases x <;> cases hx
  exact .tup _ _ _ (by rw [← hl,zBn]) fun i x u hx hu => ih i _ u (zCP hx) hu x rfl (zBW hc hx)
 | nc => intro x hx _; cases x <;> cases hx; exact .nc _ _
 | bnil => intro x hx _; cases x <;> cases hx; exact .bnil _ _
 | slE => intro x hx _; cases x <;> cases hx; exact .slE _ _ _ _
 | slN _ sz xs b o cap c hm hb hcap hsz hcell hc _ => intro x hx _; cases x <;> cases hx; exact .slN _ _ _ _ _ _ c (fun h => hm (hM _ h)) hb hcap hsz hcell fun i j x y hx hy => (hc i j x y hx hy).zero hM
 | vp _ cs off b o c hm hb hcell hc _ => intro x hx _; cases x <;> cases hx; exact .vp _ _ _ _ _ c (fun h => hm (hM _ h)) hb hcell fun j y hy => (hc j y hy).zero hM
 | fn _ f first caps fs us h1 h2 _ _ ih1 ih2 =>
  intro x hx hc
  cases x <;> cases hx
  simp only [AV.lv,zYX] at hc
  exact .fn _ _ _ _ _ _ (by rw [← h1,zBn]) (by rw [← h2,zBn]) (fun i x u hx hu => ih1 i _ u (zCP hx) hu x rfl (zBW hc.1 hx)) (fun i x u hx hu => ih2 i _ u (zCP hx) hu x rfl (zBW hc.2 hx))
 | mp _ ks vs b es clock hm hb hh hks hvs hc _ => intro x hx _; cases x <;> cases hx; exact .mp _ _ _ _ es clock (fun h => hm (hM _ h)) hb hh hks hvs fun i x e hx he => (hc i x e hx he).zero hM
 | os _ r ver off len u hr hle h1 hp => intro x hx hc; cases x <;> cases hx; have hc := zZ9 hc; exact .os _ _ _ _ _ _ hc (by rw [hρ _ hc]; exact hle) h1 (by rw [hρ _ hc]; exact hp)
 | ptr _ r ver off u hr hle h1 hp => intro x hx hc; cases x <;> cases hx; have hc := zZ9 hc; exact .ptr _ _ _ _ _ hc (by rw [hρ _ hc]; exact hle) h1 (by rw [hρ _ hc]; exact hp)
 | pe _ r ver i off u hr hle h1 hp => intro x hx hc; cases x <;> cases hx; have hc := zZ9 hc; exact .pe _ _ _ _ _ _ hc (by rw [hρ _ hc]; exact hle) h1 (by rw [hρ _ hc]; exact hp)
 | om _ r ver u hr hle h1 hp => intro x hx hc; cases x <;> cases hx; have hc := zZ9 hc; exact .om _ _ _ _ hc (by rw [hρ _ hc]; exact hle) h1 (by rw [hρ _ hc]; exact hp)
theorem ObjOk.ren {l : Loc} {o : HO} (h : ObjOk w M ρ k l o) (hM : ∀ b,M' b → M b) (hρ : ∀ r,r < n → ρ' (π r) = ρ r) (hn : ∀ r,r < n → π r < n') (ho : o.lv n = true) : ObjOk w M' ρ' n' l (o.ren π) := by
 cases o with
 | dead => trivial
 | box cs =>
  obtain ⟨h1,b,c,e,fr,h2,h3,h4,h5,h6⟩ := h
  refine ⟨h1,b,c,e,fr,h2,h3,by rw [zBn]; exact h4,⟨h5.1,fun t ht => h5.2 t ?_⟩,fun j y u hy hu => ?_⟩
  ·obtain ⟨x,hx,he⟩ := zDf ht
   cases x <;> cases he
   exact hx
  ·obtain ⟨x,hx,rfl⟩ := zDf hy
   exact ⟨(h6 j x u hx hu).1.ren hM hρ hn (zBW ho hx),(h6 j x u hx hu).2⟩
 | arr ver sz xs =>
  obtain ⟨h1,h2,h3,h4,h5,h6⟩ := h
  refine ⟨h1,h2,h3,fun x hx => ?_,by rw [zYV]; exact h5,?_⟩
  ·obtain ⟨x0,hx0,rfl⟩ := zZK.1 hx
   rw [zBn]; exact h4 x0 hx0
  split
  ·rename_i hl; rw [hl] at h6; simp only at h6; rw [h6]; rfl
  ·rename_i b o hl
   rw [hl] at h6
   obtain ⟨c,e,fr,g1,g2,g3,g4⟩ := h6
   refine ⟨c,e,fr,g1,g2,g3,fun i j x y u hx hy hu => ?_⟩
   rw [zZy] at hx
   cases hx0 : xs[i]? with
   | none => rw [hx0] at hx; cases hx
   | some x0 =>
    rw [hx0] at hx; cases hx
    obtain ⟨y0,hy0,rfl⟩ := zDf hy
    exact ⟨(g4 i j x0 y0 u hx0 hy0 hu).1.ren hM hρ hn (zBW (zZb.1 ho x0 (zZp hx0)) hy0),(g4 i j x0 y0 u hx0 hy0 hu).2⟩
 | map ver ks vs =>
  obtain ⟨h1,b,es,clock,h2,h3,h4,h5,h6⟩ := h
  exact ⟨h1,b,es,clock,h2,h3,h4,h5,fun i x e hx he => (h6 i x e hx he).zero hM⟩
 | iter s pos => exact h
 | lp => cases ho
 | mit ks vs left cur =>
  obtain ⟨h1,b,m,es,clock,since,seen,c0,h2,h3,h4,h5,h6⟩ := h
  exact ⟨h1,b,m,es,clock,since,seen,c0,h2,h3,h4,h5.zero hM,h6⟩
 | barr t ver bl => exact h
theorem ObjOk.unren {l : Loc} {o : HO} (h : ObjOk w M ρ k l (o.ren π)) (hM : ∀ b,M' b → M b) (hρ : ∀ r,r < n → ρ' r = ρ (π r)) (ho : o.lv n = true) : ObjOk w M' ρ' n l o := by
 cases o with
 | dead => trivial
 | box cs =>
  obtain ⟨h1,b,c,e,fr,h2,h3,h4,h5,h6⟩ := h
  refine ⟨h1,b,c,e,fr,h2,h3,by rw [← h4,zBn],⟨h5.1,fun t ht => h5.2 t (zCP ht)⟩,fun j y u hy hu => ⟨(h6 j _ u (zCP hy) hu).1.unren hM hρ y rfl (zBW ho hy),(h6 j _ u (zCP hy) hu).2⟩⟩
 | arr ver sz xs =>
  obtain ⟨h1,h2,h3,h4,h5,h6⟩ := h
  rw [zYV] at h5
  refine ⟨h1,h2,h3,fun x hx => by rw [← h4 _ (List.mem_map_of_mem hx),zBn],h5,?_⟩
  split
  ·rename_i hl; rw [hl] at h6; simpa using h6
  ·rename_i b o hl
   rw [hl] at h6
   obtain ⟨c,e,fr,g1,g2,g3,g4⟩ := h6
   refine ⟨c,e,fr,g1,g2,g3,fun i j x y u hx hy hu => ?_⟩
   have hx' : (xs.map (zGF π))[i]? = some (zGF π x) := by rw [zZy,hx]; rfl
   exact ⟨(g4 i j _ _ u hx' (zCP hy) hu).1.unren hM hρ y rfl (zBW (zZb.1 ho x (zZp hx)) hy),(g4 i j _ _ u hx' (zCP hy) hu).2⟩
 | map ver ks vs =>
  obtain ⟨h1,b,es,clock,h2,h3,h4,h5,h6⟩ := h
  exact ⟨h1,b,es,clock,h2,h3,h4,h5,fun i x e hx he => (h6 i x e hx he).zero hM⟩
 | iter s pos => exact h
 | lp => cases ho
 | mit ks vs left cur =>
  obtain ⟨h1,b,m,es,clock,since,seen,c0,h2,h3,h4,h5,h6⟩ := h
  exact ⟨h1,b,m,es,clock,since,seen,c0,h2,h3,h4,h5.zero hM,h6⟩
 | barr t ver bl => exact h
def zGt (π : Nat → Nat) : Nat → List HO → zA → zA
 | _,[],G => G
 | i,o :: l,G => zGt π (i + 1) l (G.set (π i) (o.ren π))
theorem zKu (π : Nat → Nat) : ∀ (l : List HO) (i : Nat) (G : zA),(zGt π i l G).length = G.length
 | [],_,_ => rfl
 | o :: l,i,G => by rw [zGt,zKu π l,zZc]
theorem zJz (π : Nat → Nat) : ∀ (l : List HO) (i : Nat) (G : zA) (s : Nat),(∀ j,j < l.length → π (i + j) ≠ s) → (zGt π i l G)[s]? = G[s]?
 | [],_,_,_,_ => rfl
 | o :: l,i,G,s,h => by
  rw [zGt,zJz π l (i + 1) _ s fun j hj => by have := h (j + 1) (by simp; omega); rwa [show i + (j + 1) = i + 1 + j by omega] at this,zZj]
  exact h 0 (by simp)
theorem zM8 (π : Nat → Nat) : ∀ (l : List HO) (i : Nat) (G : zA) (j : Nat) (o : HO),l[j]? = some o → (∀ a b,a < l.length → b < l.length → π (i + a) = π (i + b) → a = b) → (∀ a,a < l.length → π (i + a) < G.length) → (zGt π i l G)[π (i + j)]? = some (o.ren π)
 | [],_,_,_,_,h,_,_ => by simp at h
 | o :: l,i,G,0,o',h,hi,hl => by
  simp at h; subst h
  simp only [zGt,zZJ]
  rw [zJz,zZs (by simpa using hl 0 (by simp))]
  intro j hj e
  have := hi (j + 1) 0 (by simp; omega) (by simp) (by rw [show i + (j + 1) = i + 1 + j by omega]; exact e)
  omega
 | o :: l,i,G,j + 1,o',h,hi,hl => by
  simp at h
  rw [zGt,show i + (j + 1) = i + 1 + j by omega]
  refine zM8 π l (i + 1) _ j o' h (fun a b ha hb e => ?_) fun a ha => ?_
  ·have := hi (a + 1) (b + 1) (by simp; omega) (by simp; omega) (by rw [show i + (a + 1) = i + 1 + a by omega,show i + (b + 1) = i + 1 + b by omega]; exact e)
   omega
  ·rw [zZc]; have := hl (a + 1) (by simp; omega); rwa [show i + (a + 1) = i + 1 + a by omega] at this
open Classical in
theorem ACallX.ren {f : FuncId} {args : List AV} {R : AV → zA → Prop} {Z : Value → zA → Prop} (h : ACallX P f args H (fun x H' => ∃ H1 junk,H' = H1 ++ junk ∧ R x H1 ∧ H1.length = H.length ∧ H1.all (HO.lv H.length) = true ∧ x.lv H.length = true) fun z H' => ∃ H1 junk,H' = H1 ++ junk ∧ Z z H1 ∧ H1.length = H.length ∧ H1.all (HO.lv H.length) = true)
  (hH : H.all (HO.lv H.length) = true) (ha : lvL H.length args = true) {G : zA} (π : Nat → Nat) (hi : ∀ a b,a < H.length → b < H.length → π a = π b → a = b) (hG : ∀ (r : Nat) (o : HO),H[r]? = some o → G[π r]? = some (o.ren π)) :
  ACallX P f (zGF π args) G (fun y G' => ∃ x H1,R x H1 ∧ y = x.ren π ∧ G' = zGt π 0 H1 G) fun z G' => ∃ H1,Z z H1 ∧ G' = zGt π 0 H1 G := by
 refine ⟨h.1,fun X ρ w vs hr hargs => ?_⟩
 have hlt : ∀ r,r < H.length → π r < G.length := fun r hr => (zYU.1 (hG r _ (zZe hr))).1
 let Im : Nat → Prop := fun s => ∃ r,r < H.length ∧ π r = s
 let X' : Nat → Prop := fun b => X b ∨ ∃ s o,s < G.length ∧ ¬ Im s ∧ (ρ s).blk = some (b,o)
 let ρ0 : Nat → Loc := fun r => ρ (π r)
 have hm : ∀ b,Mut X' ρ0 H.length b → Mut X ρ G.length b := fun b hb => by
  rcases hb with (hb | ⟨s,o,h1,h2,h3⟩) | ⟨r,o,h1,h2⟩
  ·exact .inl hb
  ·exact .inr ⟨s,o,h1,h3⟩
  ·exact .inr ⟨π r,o,hlt r h1,h2⟩
 have hrel : HRel w X' ρ0 H := by
  refine ⟨fun r o ho => ?_,fun r r' b o b' o' h1 h2 hne => hr.inj _ _ b o b' o' (hlt r h1) (hlt r' h2) fun e => hne (hi _ _ h1 h2 e),fun r b o h1 h2 => ⟨(hr.lt _ b o (hlt r h1) h2).1,?_⟩,fun b hb => ?_,fun g hg => ⟨fun ⟨r,o,h1,h2⟩ => (hr.gl g hg).1 ⟨π r,o,hlt r h1,h2⟩,(hr.gl g hg).2⟩⟩
  ·exact (hr.objs _ _ (hG r o ho)).unren hm (fun _ _ => rfl) (zZb.1 hH o (zZp ho))
  ·rintro (hb | ⟨s,o',h3,h4,h5⟩)
   ·exact (hr.lt _ b o (hlt r h1) h2).2 hb
   ·exact hr.inj (π r) s b o b o' (hlt r h1) h3 (fun e => h4 ⟨r,h1,e⟩) h2 h5 rfl
  ·rcases hb with hb | ⟨s,o',h3,h4,h5⟩
   ·exact hr.xlt b hb
   ·exact (hr.lt s b o' h3 h5).1
 have back : ∀ (w' : World) (H1 junk : zA) (ρ' : Nat → Loc),H1.length = H.length → H1.all (HO.lv H.length) = true → HRel w' X' ρ' (H1 ++ junk) → Fut w ρ0 H.length w' ρ' (H1 ++ junk).length →
   ∃ ρ2,HRel w' X ρ2 (zGt π 0 H1 G) ∧ Fut w ρ G.length w' ρ2 (zGt π 0 H1 G).length ∧ ∀ (x : AV) (v : Value),x.lv H.length = true → Rep w' (Mut X' ρ' (H1 ++ junk).length) ρ' (H1 ++ junk).length x v → Rep w' (Mut X ρ2 (zGt π 0 H1 G).length) ρ2 (zGt π 0 H1 G).length (x.ren π) v := by
  intro w' H1 junk ρ' hl hlv g1 g3
  have hlj : (H1 ++ junk).length = H.length + junk.length := by rw [zY3,hl]
  rw [hlj] at g3
  rw [hlj]
  let ρ2 : Nat → Loc := fun s => if hs : Im s then ρ' hs.choose else ρ s
  have e1 : ∀ r,r < H.length → ρ2 (π r) = ρ' r := fun r hr => by
   have hs : Im (π r) := ⟨r,hr,rfl⟩
   show (if hs : Im (π r) then ρ' hs.choose else ρ (π r)) = ρ' r
   rw [dif_pos hs,hi _ _ hs.choose_spec.1 hr hs.choose_spec.2]
  have e2 : ∀ s,¬ Im s → ρ2 s = ρ s := fun s hs => dif_neg hs
  have hm2 : ∀ b,Mut X ρ2 G.length b → Mut X' ρ' (H.length + junk.length) b := fun b hb => by
   rcases hb with hb | ⟨s,o,h1,h2⟩
   ·exact .inl (.inl hb)
   ·by_cases hc : Im s
    ·obtain ⟨r,h3,rfl⟩ := hc
     rw [e1 r h3] at h2; exact .inr ⟨r,o,by omega,h2⟩
    ·rw [e2 s hc] at h2; exact .inl (.inr ⟨s,o,h1,hc,h2⟩)
  have hno : ∀ s b o,s < G.length → ¬ Im s → (ρ s).blk = some (b,o) → b < w.heap.size ∧ ¬ Own ρ0 H.length b := fun s b o h1 h2 h3 =>
   ⟨(hr.lt s b o h1 h3).1,fun ⟨r',o',h4,h5⟩ => hr.inj s (π r') b o b o' h1 (hlt r' h4) (fun e => h2 ⟨r',h4,e.symm⟩) h3 h5 rfl⟩
  have hf : Fut w ρ G.length w' ρ2 G.length := by
   refine ⟨g3.os,g3.tape,g3.output,g3.size,fun b hb hbo => g3.keep b hb fun ⟨r,o,h1,h2⟩ => hbo ⟨π r,o,hlt r h1,h2⟩,fun b ⟨s,o,h1,h2⟩ => ?_,zZa _,fun s h1 => ?_⟩
   ·by_cases hc : Im s
    ·obtain ⟨r,h3,rfl⟩ := hc
     rw [e1 r h3] at h2
     exact (g3.own b ⟨r,o,by omega,h2⟩).imp (fun ⟨r',o',h4,h5⟩ => ⟨π r',o',hlt r' h4,h5⟩) id
    ·rw [e2 s hc] at h2; exact .inl ⟨s,o,h1,h2⟩
   ·by_cases hc : Im s
    ·obtain ⟨r,h3,rfl⟩ := hc
     rw [e1 r h3]; exact g3.loc r h3
    ·rw [e2 s hc]; exact .inl rfl
  have hlG : (zGt π 0 H1 G).length = G.length := zKu _ _ _ _
  have pAt : ∀ r o,H1[r]? = some o → (zGt π 0 H1 G)[π r]? = some (o.ren π) := fun r o ho => by
   have := zM8 π H1 0 G r o ho (fun a b ha hb e => hi a b (by omega) (by omega) (by simpa using e)) (fun a ha => by simpa using hlt a (by omega))
   simpa using this
  have pNe : ∀ s,¬ Im s → (zGt π 0 H1 G)[s]? = G[s]? := fun s hs => zJz π H1 0 G s fun j hj e => hs ⟨j,by omega,by simpa using e⟩
  refine ⟨ρ2,⟨fun s o ho => ?_,fun s s' b o b' o' h1 h2 hne h3 h4 => ?_,fun s b o h1 h2 => ?_,fun b hb => zZl (hr.xlt b hb) g3.size,?_⟩,?_,?_⟩
  ·rw [hlG]
   by_cases hc : Im s
   ·obtain ⟨r,h3,rfl⟩ := hc
    have hr1 : r < H1.length := by omega
    rw [pAt r _ (zZe hr1)] at ho
    cases ho
    have := g1.objs r H1[r] (by rw [zY2 hr1,zZe hr1])
    rw [hlj] at this
    rw [e1 r h3]
    exact this.ren hm2 e1 hlt (zZb.1 hlv _ (zzaO hr1))
   ·rw [pNe s hc] at ho
    rw [e2 s hc]
    have hlt' := (zYU.1 ho).1
    refine (hr.objs s o ho).next hf fun b o' hb => ?_
    obtain ⟨h4,h5⟩ := hno s b o' hlt' hc hb
    exact g3.keep b h4 h5
  ·rw [hlG] at h1 h2
   by_cases hc : Im s <;> by_cases hc' : Im s'
   ·obtain ⟨r,h5,rfl⟩ := hc
    obtain ⟨r',h6,rfl⟩ := hc'
    rw [e1 r h5] at h3; rw [e1 r' h6] at h4
    exact g1.inj r r' b o b' o' (by omega) (by omega) (fun e => hne (by rw [e])) h3 h4
   ·obtain ⟨r,h5,rfl⟩ := hc
    rw [e1 r h5] at h3; rw [e2 s' hc'] at h4
    obtain ⟨h7,h8⟩ := hno s' b' o' h2 hc' h4
    rintro rfl
    rcases g3.own b ⟨r,o,by omega,h3⟩ with h9 | h9
    ·exact h8 h9
    ·omega
   ·obtain ⟨r',h6,rfl⟩ := hc'
    rw [e2 s hc] at h3; rw [e1 r' h6] at h4
    obtain ⟨h7,h8⟩ := hno s b o h1 hc h3
    rintro rfl
    rcases g3.own b ⟨r',o',by omega,h4⟩ with h9 | h9
    ·exact h8 h9
    ·omega
   ·rw [e2 s hc] at h3; rw [e2 s' hc'] at h4
    exact hr.inj s s' b o b' o' h1 h2 hne h3 h4
  ·rw [hlG] at h1
   by_cases hc : Im s
   ·obtain ⟨r,h5,rfl⟩ := hc
    rw [e1 r h5] at h2
    obtain ⟨h3,h4⟩ := g1.lt r b o (by omega) h2
    exact ⟨h3,fun h => h4 (.inl h)⟩
   ·rw [e2 s hc] at h2
    obtain ⟨h3,h4⟩ := hr.lt s b o h1 h2
    exact ⟨zZl h3 g3.size,h4⟩
  ·rw [hlG]; exact hr.gl.fut hf
  ·rw [hlG]; exact hf
  ·intro x v hxv g2; rw [hlG]; exact g2.ren hm2 e1 hlt hxv
 refine (h.2 X' ρ0 w vs hrel ⟨by rw [← hargs.1,zBn],fun i x u hx hu => (hargs.2 i _ u (zCP hx) hu).unren hm (fun _ _ => rfl) x rfl (zBW ha hx)⟩).mono ?_
 rintro en w' (⟨v,x,H',ρ',rfl,⟨H1,junk,rfl,hR,hl,hlv,hxv⟩,g1,g2,g3⟩ | ⟨z,H',ρ',rfl,⟨H1,junk,rfl,hZ,hl,hlv⟩,g1,g3⟩)
 ·obtain ⟨ρ2,f1,f2,f3⟩ := back w' H1 junk ρ' hl hlv g1 g3
  exact .inl ⟨v,x.ren π,_,ρ2,rfl,⟨x,H1,hR,rfl,rfl⟩,f1,f3 x v hxv g2,f2⟩
 ·obtain ⟨ρ2,f1,f2,f3⟩ := back w' H1 junk ρ' hl hlv g1 g3
  exact .inr ⟨z,_,ρ2,rfl,⟨H1,hZ,rfl⟩,f1,f2⟩
theorem ACall.ren {f : FuncId} {args : List AV} {R : AV → zA → Prop} (h : ACall P f args H fun x H' => ∃ H1 junk,H' = H1 ++ junk ∧ R x H1 ∧ H1.length = H.length ∧ H1.all (HO.lv H.length) = true ∧ x.lv H.length = true)
  (hH : H.all (HO.lv H.length) = true) (ha : lvL H.length args = true) {G : zA} (π : Nat → Nat) (hi : ∀ a b,a < H.length → b < H.length → π a = π b → a = b) (hG : ∀ (r : Nat) (o : HO),H[r]? = some o → G[π r]? = some (o.ren π)) :
  ACall P f (zGF π args) G fun y G' => ∃ x H1,R x H1 ∧ y = x.ren π ∧ G' = zGt π 0 H1 G :=
 ((ACallX.ren (Z := fun _ _ => False) (h.x _) hH ha π hi hG).mono (fun _ _ h => h) fun _ _ ⟨_,h,_⟩ => h).calm
theorem ACall.one {f : FuncId} {v off : Nat} {bs : List AV} {o : HO} {R : AV → HO → Prop} (h : ACall P f (.ptr 0 v off :: bs) [o] fun x H' => ∃ o1 junk,H' = o1 :: junk ∧ R x o1 ∧ o1.lv 0 = true ∧ x.lv 0 = true)
  (h1 : o.lv 0 = true) (h2 : lvL 0 bs = true) {G : zA} {r : Nat} (hG : G[r]? = some o) : ACall P f (.ptr r v off :: bs) G fun x G' => ∃ o1,R x o1 ∧ G' = G.set r o1 := by
 have := ACall.ren (H := [o]) (R := fun x H1 => ∃ o1,H1 = [o1] ∧ R x o1 ∧ o1.lv 0 = true ∧ x.lv 0 = true)
  (h.mono fun x H' ⟨o1,junk,e,hR,h3,h4⟩ => ⟨[o1],junk,e,⟨o1,rfl,hR,h3,h4⟩,rfl,by simp [HO.lv0 _ h3],AV.lv0 _ _ h4⟩)
  (by simp [HO.lv0 _ h1]) (by simp [lvL,AV.lv,zQ4 _ _ h2]) (G := G) (fun _ => r) (fun a b ha hb _ => by simp at ha hb; omega)
  (fun r' o' ho => by cases r' with | zero => simp at ho; subst ho; rw [HO.ren0 _ h1]; exact hG | succ r' => simp at ho)
 rw [show zGF (fun _ => r) (.ptr 0 v off :: bs) = .ptr r v off :: bs by rw [zGF,zIt _ _ h2]; rfl] at this
 refine this.mono fun y G' ⟨x,H1,⟨o1,e,hR,h3,h4⟩,e1,e2⟩ => ⟨o1,?_,?_⟩
 ·rw [e1,AV.ren0 _ _ h4]; exact hR
 ·rw [e2,e]; simp only [zGt]; rw [HO.ren0 _ h3]
theorem zBN {e : Env} {d : Option Nat} {l : List LO} {K : List zEp} {Q : Out → Env → zA → Prop} {f : FuncId} {args : List AV} {x : AV} {H' : zA} (h : ACall P f args H fun y G => y = x ∧ G = H') (hk : zU P (.ops l :: K) Q .normal (ups e d x) H') : zQr P f args H e d l K Q :=
 ACall.mono h fun y G ⟨hy,hG⟩ => by subst hy; subst hG; exact hk
end
end Go.Ax
namespace Go.Proofs.YtbibhcmcjldhdaaGreatDoor
open Go Go.Ax
set_option maxRecDepth 100000
set_option linter.unusedSimpArgs false
set_option maxHeartbeats 4000000
def L26n : LFn := ⟨35,[(.tmp 2)],(.seq (.ops [oX 2 (.mv (.c zAI))]) (.seq (.ops [oX 3 (.mv (.c zAI)),oX 3 (.own 1 (.t 3))]) (.seq (.seq (.ops [oM 9 0,oX 10 (.len .slc (.t 9)),oX 11 (.mv (kI 0))]) (.block 0 (.loop (.seq (.ops [oX 12 (bI .lss (.t 11) (.t 10))]) (.seq (.cond (.t 12) .skip (.exit 0)) (.seq (.block 1 (.seq (.ops [oI 13 1 9 11,oL 14 13,oM 5 14]) (.seq (.ops [oM 15 5,oX 16 (cF 56 [(.t 15),(.c (.v (.string (mkS [45]))))]),oM 6 16]) (.seq (.ops [oM 18 6,oX 19 (cF 57 [(.t 18)]),oM 17 19,oE 20 17 0,oE 21 17 1,oM 7 20,oM 8 21]) (.seq (.seq (.ops [oM 22 8]) (.seq (.ops []) (.seq (.callp (some 23) (.c (.fn (.func 25) [] [])) [(.t 22)]) (.ops [])))) (.seq (.seq (.ops [oM 24 6,oM 25 5,oX 26 (.bin .str .neq (.t 24) (.t 25))]) (.cond (.t 26) (.ops [oM 27 7,oX 28 (.neg (.t 27)),oM 7 28]) .skip)) (.ops [oM 29 3,oM 30 7,oX 31 (.bsl true 1 1 [(int 0)] [(0,(.t 30))]),oX 32 (.append 1 8 (.t 29) (.t 31)),oM 3 32]))))))) (.ops [oX 33 (bI .add (.t 11) (kI 1)),oM 11 33]))))))) (.seq (.ops [oM 34 3,oM 2 34]) .ret))))⟩
theorem L26n_ok : zAv Tryz.prog Tryz.f26 [⟨10,2,.imm⟩,⟨1,1,(.pre 3 (.own 1 (.t 3)))⟩,⟨7,1,.cut⟩] = some L26n := by kernel_rfl
def L27n : LFn := ⟨76,[(.tmp 4)],(.seq (.ops [oX 4 (.mv (.c zAI))]) (.seq (.ops [oX 5 (.mv (.c zAI)),oX 5 (.own 5 (.t 5))]) (.block 0 (.loop (.block 1 (.seq (.ops [oM 10 0,oX 11 (cF 24 [(.t 10)]),oM 6 11]) (.seq (.seq (.ops [oM 12 6]) (.seq (.ops [oX 13 (.len .slc (.t 12))]) (.seq (.ops [oX 14 (bI .gtr (.t 13) (kI 0))]) (.seq (.ops []) (.seq (.callp (some 15) (.c (.fn (.func 25) [] [])) [(.t 14)]) (.ops [])))))) (.seq (.seq (.ops [oM 16 6,oX 17 (.iaddr 1 (.t 16) (kI 0)),oL 18 17,oM 19 1,oX 20 (.bin .str .eql (.t 18) (.t 19))]) (.cond (.t 20) (.seq (.seq (.ops [oM 21 6]) (.seq (.ops [oX 22 (.len .slc (.t 21))]) (.seq (.ops [oX 23 (bI .eql (.t 22) (kI 1))]) (.seq (.ops []) (.seq (.callp (some 24) (.c (.fn (.func 25) [] [])) [(.t 23)]) (.ops [])))))) (.seq (.ops [oM 25 5,oM 4 25,oX 4 (.frz (.t 4))]) .ret)) .skip)) (.seq (.draw [oX 26 (cF 38 []),oM 27 6,oX 28 (.iaddr 1 (.t 27) (kI 0)),oL 29 28,oX 30 (cF 58 [(.t 26),(.t 29)]),oM 7 30] []) (.seq (.seq (.ops [oM 31 7]) (.seq (.ops [oX 32 (bI .geq (.t 31) (kI 0))]) (.seq (.ops [oM 33 32]) (.seq (.ops [oT 34 33 (.mv (.t 6))]) (.seq (.ops [oT 35 33 (.len .slc (.t 34))]) (.seq (.ops [oT 36 33 (.mv (.t 7))]) (.seq (.ops [oT 37 33 (cF 39 [(.t 36)])]) (.seq (.ops [oT 38 33 (bI .add (kI 1) (.t 37))]) (.seq (.ops [oT 39 33 (bI .eql (.t 35) (.t 38))]) (.seq (.ops [oP 40 33 (.t 39) (kB false)]) (.seq (.ops []) (.seq (.callp (some 41) (.c (.fn (.func 25) [] [])) [(.t 40)]) (.ops []))))))))))))) (.seq (.seq (.ops [oM 42 6]) (.seq (.ops [oX 43 (.slice .slc 1 (.t 42) (some (kI 1)) none)]) (.seq (.ops []) (.seq (.callp (some 44) (.c (.fn (.func 26) [] [])) [(.t 43)]) (.seq (.ops [oX 45 (.bsl true 1 2 [(int 0)] [(0,(kI 0)),(1,(kI 0))])]) (.seq (.ops [oX 46 (.append 1 8 (.t 44) (.t 45))]) (.seq (.ops [oM 8 46]) (.ops [])))))))) (.seq (.draw [oM 47 7,oM 48 8,oX 49 (.iaddr 1 (.t 48) (kI 0)),oL 50 49,oM 51 8,oX 52 (.iaddr 1 (.t 51) (kI 1)),oL 53 52,oX 54 (.build [(int 0),(int 0),(int 0),zAI,zAI] [(0,(1,(.t 47))),(1,(1,(.t 50))),(2,(1,(.t 53)))])] [oX 9 (.alloc [(int 0),(int 0),(int 0),zAI,zAI]),oS 5 9 54]) (.seq (.seq (.ops [oM 55 7]) (.block 2 (.seq (.ops [oX 57 (bI .eql (.t 55) (kI 18)),oM 56 57]) (.cond (.t 56) (.seq (.seq (.ops [oM 58 0]) (.seq (.ops []) (.seq (.callp (some 59) (.c (.fn (.func 27) [] [])) [(.t 58),(.c (.v (.string (mkS [101,108,115,101]))))]) (.seq (.ops [oD 60 3 9]) (.seq (.ops [oS 1 60 59]) (.ops [])))))) (.seq (.ops [oM 61 0]) (.seq (.ops []) (.seq (.callp (some 62) (.c (.fn (.func 27) [] [])) [(.t 61),(.c (.v (.string (mkS [101,110,100]))))]) (.seq (.ops [oD 63 4 9]) (.seq (.ops [oS 1 63 62]) (.ops []))))))) (.seq (.ops [oX 65 (bI .eql (.t 55) (kI 19)),oM 64 65]) (.cond (.t 64) (.seq (.seq (.ops [oM 66 0]) (.seq (.ops []) (.seq (.callp (some 67) (.c (.fn (.func 27) [] [])) [(.t 66),(.c (.v (.string (mkS [100,111]))))]) (.seq (.ops [oD 68 4 9]) (.seq (.ops [oS 1 68 67]) (.ops [])))))) (.seq (.ops [oM 69 0]) (.seq (.ops []) (.seq (.callp (some 70) (.c (.fn (.func 27) [] [])) [(.t 69),(.c (.v (.string (mkS [101,110,100]))))]) (.seq (.ops [oD 71 3 9]) (.seq (.ops [oS 1 71 70]) (.ops []))))))) .skip)))))) (.ops [oM 72 5,oA 73 5 9,oX 73 (.frzf 5 3 (.t 73)),oX 73 (.frzf 5 4 (.t 73)),oX 74 (.bsl true 5 1 [(int 0),(int 0),(int 0),zAI,zAI] [(0,(.t 73))]),oX 75 (.append 5 72 (.t 72) (.t 74)),oM 5 75]))))))))))))))⟩
theorem L27n_ok : zAv Tryz.prog Tryz.f27 [⟨18,2,(.pre 73 (.frzf 5 3 (.t 73)))⟩,⟨18,2,(.pre 73 (.frzf 5 4 (.t 73)))⟩,⟨6,2,(.pre 4 (.frz (.t 4)))⟩,⟨9,3,.imm⟩,⟨18,2,.imm⟩,⟨1,1,(.pre 5 (.own 5 (.t 5)))⟩,⟨3,3,.cut⟩,⟨5,3,.cut⟩,⟨8,10,.cut⟩,⟨9,2,.cut⟩,⟨13,1,.cut⟩,⟨14,1,.cut⟩,⟨16,1,.cut⟩,⟨17,1,.cut⟩,⟨10,8,.tail⟩] = some L27n := by kernel_rfl
end Go.Proofs.YtbibhcmcjldhdaaGreatDoor
namespace Go.Proofs.YtbibhcmcjldhdaaGreatDoor
open Go Go.Ax Go.RowKit
set_option maxRecDepth 100000
set_option linter.unusedSimpArgs false
set_option linter.unusedVariables false
set_option maxHeartbeats 4000000
def listRV (o : Option (List Ins × List Ln)) : AV := match o with
 | some p => .tup [.sl 5 (p.1.map zAp),bool true]
 | none => .tup [zAI,bool false]
abbrev rdO (L : List Ln) (a : Nat) : HO := .box [.sl 1 (L.map lnR),int a]
structure LsOk (L : List Ln) : Prop where
 len : L.length ≤ 1048577
 ne : ∀ l ∈ L,l ≠ []
 wd : ∀ l ∈ L,l.length ≤ 1048577 ∧ ∀ w ∈ l,w.length ≤ 1048576
theorem zSF (x : Ins) : clL (zAp x) = true := by rw [zHK]; simp [clL,AV.cl]
def LstI (L : List Ln) (m : Nat) (u : Wd) (a0 : Nat) (st : Nat × Nat × List Ins) (e' : Env) (G : zA) : Prop := e' 0 = .ptr 0 0 0 ∧ e' 1 = str u ∧ e' 6 = .os 1 st.2.2.length 0 st.2.2.length ∧ a0 ≤ st.1 ∧ st.1 ≤ L.length ∧ st.2.1 < m ∧ L.length - st.1 < m - st.2.1 ∧ zAL m u (L.drop a0) = (zAL (m - st.2.1) u (L.drop st.1)).map (fun p => (st.2.2 ++ p.1,p.2)) ∧ (∃ J,G = rdO L st.1 :: .arr st.2.2.length 5 (st.2.2.map zAp) :: J) ∧ st.2.2.length ≤ st.1
theorem zTe {x y a b : AV} (h : AV.Le x y) (h2 : AV.Le a b) : AV.Le (.tup [x,a]) (.tup [y,b]) := fun w M ρ n v hv => by
 cases hv with
 | tup _ _ us hl' hr =>
  refine .tup _ _ _ hl' fun i z u hz hu => ?_
  match i,hz with
  | 0,hz => cases hz; exact h _ _ _ _ _ (hr 0 x u rfl hu)
  | 1,hz => cases hz; exact h2 _ _ _ _ _ (hr 1 a u rfl hu)
noncomputable def zA8 (s : Wd) : List Pr × Int := match zCC (zA9 s).length (zA9 s) with
 | none => ([],3)
 | some ps => if zBR ps = true then (ps,0) else ([],1)
theorem zSf (q : Pr) : clL (prR q) = true := by simp [prR,clL,AV.cl]
theorem zC0 : ∀ (n : Nat) (u : Wd) (L : List Ln) (p : List Ins × List Ln),zAL n u L = some p → zL p.1 + p.2.length < L.length
 | 0,_,_,_,h => by simp [zAL] at h
 | _ + 1,_,[],_,h => by simp [zAL] at h
 | n + 1,u,l :: L,p,h => by
  rw [zAL] at h
  split at h
  ·split at h
   ·cases h; simp [zL]
   ·cases h
  split at h
  ·cases h
  have key : ∀ (M : List Ln) (y : Ins),zBa y + M.length ≤ L.length + 1 → (zAL n u M).map (fun r => (y :: r.1,r.2)) = some p → zL p.1 + p.2.length < (l :: L).length := by
   intro M y hM h
   cases hx : zAL n u M with
   | none => rw [hx] at h; cases h
   | some r =>
    rw [hx] at h
    have := zC0 n u M r hx
    simp only [zZt,zYT] at h
    subst h
    simp only [zL,zYZ] at *; omega
  split at h
  ·split at h
   ·cases h
   rename_i h1
   split at h
   ·cases h
   rename_i h2
   have := zC0 _ _ _ _ h1
   have := zC0 _ _ _ _ h2
   exact key _ _ (by simp only [zBa] at *; omega) h
  split at h
  ·split at h
   ·cases h
   rename_i h1
   split at h
   ·cases h
   rename_i h2
   have := zC0 _ _ _ _ h1
   have := zC0 _ _ _ _ h2
   exact key _ _ (by simp only [zBa] at *; omega) h
  ·exact key _ _ (by simp only [zBa,zL]; omega) h
theorem zCZ : ∀ (n : Nat) (u : Wd) (L : List Ln) (p : List Ins × List Ln),zAL n u L = some p → ∀ x ∈ p.2,x ∈ L
 | 0,_,_,_,h => by simp [zAL] at h
 | _ + 1,_,[],_,h => by simp [zAL] at h
 | n + 1,u,l :: L,p,h => by
  rw [zAL] at h
  split at h
  ·split at h
   ·cases h; exact fun x hx => zZN _ hx
   ·cases h
  split at h
  ·cases h
  have key : ∀ (M : List Ln) (y : Ins),(∀ x ∈ M,x ∈ L) → (zAL n u M).map (fun r => (y :: r.1,r.2)) = some p → ∀ x ∈ p.2,x ∈ l :: L := by
   intro M y hM h x hx
   cases hy : zAL n u M with
   | none => rw [hy] at h; cases h
   | some r =>
    rw [hy] at h
    simp only [zZt,zYT] at h
    subst h
    exact zZN _ (hM _ (zCZ n u M r hy x hx))
  split at h
  ·split at h
   ·cases h
   rename_i h1
   split at h
   ·cases h
   rename_i h2
   exact key _ _ (fun x hx => zCZ _ _ _ _ h1 x (zCZ _ _ _ _ h2 x hx)) h
  split at h
  ·split at h
   ·cases h
   rename_i h1
   split at h
   ·cases h
   rename_i h2
   exact key _ _ (fun x hx => zCZ _ _ _ _ h1 x (zCZ _ _ _ _ h2 x hx)) h
  ·exact key _ _ (fun x hx => hx) h
theorem zIx : ∀ (n : Nat) (L : List Ln) (ps : List Pr),zCC n L = some ps → ps.length + zAO ps ≤ L.length ∧ ∀ q ∈ ps,(∃ l ∈ L,q.name ∈ l ∧ q.outs.length ≤ l.length) ∧ zL q.body ≤ L.length
 | n,[],ps,h => by cases n <;> simp only [zCC,zYT] at h <;> subst h <;> exact ⟨zZa _,fun q hq => by cases hq⟩
 | 0,l :: L,ps,h => by simp [zCC] at h
 | n + 1,l :: L,ps,h => by
  rw [zCC] at h
  split at h
  ·cases h
  rename_i q hq
  split at h
  ·cases h
  rename_i b L1 hb
  cases hx : zCC n L1 with
  | none => rw [hx] at h; cases h
  | some qs =>
   rw [hx] at h
   simp only [zZt,zYT] at h
   subst h
   obtain ⟨i1,i2⟩ := zIx n L1 qs hx
   have hc := zC0 _ _ _ _ hb
   have hsub : ∀ x ∈ L1,x ∈ l :: L := fun x hx => zZN _ (zCZ _ _ _ _ hb x hx)
   unfold zQP at hq
   split at hq
   ·rename_i hw
    cases hn : zCa (l.drop 2) with
    | none => rw [hn] at hq; cases hq
    | some ns =>
     rw [hn] at hq
     simp only [zZt,zYT] at hq
     subst hq
     have hnl := zDD hn
     refine ⟨by simp only [zYZ,zAO] at *; omega,fun q hq => ?_⟩
     rcases zZr.1 hq with rfl | hq
     ·refine ⟨⟨l,by simp,?_,?_⟩,by simp only [zYZ] at *; omega⟩
      ·have : 1 < l.length := by omega
       simp only [zZd,zZe this,zZR]
       exact zzaO this
      ·simp only [zzai] at *; omega
     ·obtain ⟨⟨l',h1,h2,h3⟩,h4⟩ := i2 q hq
      exact ⟨⟨l',hsub _ h1,h2,h3⟩,by simp only [zYZ] at *; omega⟩
   ·cases hq
mutual
def zTS : Ins → List Ln
 | .mk o a b l m => zCe o a b :: (if o = 18 then lsL l ++ ([zEt] :: (lsL m ++ [[zEe]])) else if o = 19 then lsL m ++ ([wDo] :: (lsL l ++ [[zEe]])) else [])
def lsL : List Ins → List Ln
 | [] => []
 | x :: l => zTS x ++ lsL l
end
mutual
def RtI : Ins → Prop
 | .mk o a b l m => (0 ≤ o ∧ o ≤ 22 ∧ (∀ n ∈ zBh o a b,NR n) ∧ (zBh o a b).getD 0 0 = a ∧ (zBh o a b).getD 1 0 = b ∧ (o = 18 ∨ o = 19 ∨ (l = [] ∧ m = []))) ∧ RtL l ∧ RtL m
def RtL : List Ins → Prop
 | [] => True
 | x :: l => RtI x ∧ RtL l
end
theorem zP6 {o a b : Int} (h0 : 0 ≤ o) (h1 : o ≤ 22) (hn : ∀ n ∈ zBh o a b,NR n) : ∀ w ∈ zCe o a b,zMi w := by
 intro w hw
 rcases zZr.1 hw with rfl | hw
 ·exact (zKy o.toNat (by omega)).1
 ·obtain ⟨n,hn',rfl⟩ := zZK.1 hw
  exact (zHI (hn n hn')).1
theorem zLP {o a b : Int} (h0 : 0 ≤ o) (h1 : o ≤ 22) (hn : ∀ n ∈ zBh o a b,NR n) (ha : (zBh o a b).getD 0 0 = a) (hb : (zBh o a b).getD 1 0 = b) : zIP (zCe o a b) = some (o.toNat,a,b) := by
 obtain ⟨-,-,h2,-⟩ := zKy o.toNat (by omega)
 have e1 : (zCe o a b).headD [] = opsW.getD o.toNat [] := rfl
 have e2 : (zCe o a b).tail = (zBh o a b).map Lib.itoa := rfl
 simp only [zIP,e1,e2,h2,zEW hn,zDY,if_pos,ha,hb]
theorem zNP {w : Wd} (h : w = zEe ∨ w = zEt ∨ w = wDo) : ∀ x ∈ [w],zMi x := by
 intro x hx
 rw [zZ5.1 hx]
 unfold zMi
 rcases h with rfl | rfl | rfl <;> decide
mutual
theorem zLI (d : Nat) (s : Wd) : ∀ x : Ins,RtI x → zA9 (zMh d x ++ s) = zTS x ++ zA9 s
 | .mk o a b l m,h => by
  simp only [RtI] at h
  obtain ⟨⟨h0,h1,hn,-,-,-⟩,hl,hm⟩ := h
  have hh := zP6 h0 h1 hn
  have hne : zCe o a b ≠ [] := List.cons_ne_nil _ _
  simp only [zMh,zTS]
  split
  ·simp only [zZx,zY9]
   rw [zA5 hh hne,zC1 (d + 1) _ l hl,zA5 (zNP (.inr (.inl rfl))) (List.cons_ne_nil _ _),zC1 (d + 1) _ m hm,zA5 (zNP (.inl rfl)) (List.cons_ne_nil _ _)]
   simp
  ·split
   ·simp only [zZx,zY9]
    rw [zA5 hh hne,zC1 (d + 1) _ m hm,zA5 (zNP (.inr (.inr rfl))) (List.cons_ne_nil _ _),zC1 (d + 1) _ l hl,zA5 (zNP (.inl rfl)) (List.cons_ne_nil _ _)]
    simp
   ·rw [zZA,zA5 hh hne]; rfl
theorem zC1 (d : Nat) (s : Wd) : ∀ l : List Ins,RtL l → zA9 (lsT d l ++ s) = lsL l ++ zA9 s
 | [],_ => rfl
 | x :: l,h => by
  simp only [RtL] at h
  simp only [lsT,lsL,zZx]
  rw [zLI d _ x h.1,zC1 d s l h.2]
end
mutual
theorem zP3 : ∀ x : Ins,RtI x → zBa x ≤ (zTS x).length
 | .mk o a b l m,h => by
  simp only [RtI] at h
  obtain ⟨⟨-,-,-,-,-,hk⟩,hl,hm⟩ := h
  have e1 := zHC l hl
  have e2 := zHC m hm
  simp only [zTS,zBa]
  split
  ·simp only [zYZ,zY3,zY4]; omega
  ·split
   ·simp only [zYZ,zY3,zY4]; omega
   ·rename_i h8 h9
    rcases hk with hk | hk | ⟨rfl,rfl⟩
    ·exact absurd hk h8
    ·exact absurd hk h9
    ·simp [zL]
theorem zHC : ∀ l : List Ins,RtL l → zL l ≤ (lsL l).length
 | [],_ => zZm _
 | x :: l,h => by
  simp only [RtL] at h
  have e1 := zP3 x h.1
  have e2 := zHC l h.2
  simp only [lsL,zL,zY3]; omega
end
theorem zKI : ∀ (n : Nat) (u : Wd) (l : List Ins) (L : List Ln),(u = zEe ∨ u = zEt ∨ u = wDo) → RtL l → zL l < n → zAL n u (lsL l ++ [u] :: L) = some (l,L)
 | 0,_,_,_,_,_,h => absurd h (Nat.not_lt_zero _)
 | n + 1,u,[],L,_,_,_ => by simp [lsL,zAL]
 | n + 1,u,.mk o a b x y :: l,L,hu,h,hc => by
  simp only [RtL,RtI] at h
  obtain ⟨⟨⟨h0,h1,hn,ha,hb,hk⟩,hx,hy⟩,hl⟩ := h
  simp only [zL,zBa] at hc
  obtain ⟨-,-,-,k1,k2,k3⟩ := zKy o.toNat (by omega)
  have hne : ¬ (zCe o a b).headD [] = u := by
   have e1 : (zCe o a b).headD [] = opsW.getD o.toNat [] := rfl
   rw [e1]
   rcases hu with rfl | rfl | rfl
   ·exact k1
   ·exact k2
   ·exact k3
  have hhd := zLP h0 h1 hn ha hb
  have hrest := fun u' hu' l' L' hl' hc' => zKI n u' l' L' hu' hl' hc'
  have ho : ((o.toNat : Nat) : Int) = o := by omega
  simp only [lsL,zTS,zY9]
  rw [zAL,if_neg hne,hhd]
  simp only
  by_cases h8 : o = 18
  ·rw [if_pos h8,if_pos (by omega)]
   simp only [zZx,zY9,zZk]
   rw [hrest zEt (.inr (.inl rfl)) x _ hx (by omega)]
   simp only
   rw [hrest zEe (.inl rfl) y _ hy (by omega)]
   simp only
   rw [hrest u hu l _ hl (by omega),zZt,ho]
  ·by_cases h9 : o = 19
   ·rw [if_neg h8,if_pos h9,if_neg (by omega),if_pos (by omega)]
    simp only [zZx,zY9,zZk]
    rw [hrest wDo (.inr (.inr rfl)) y _ hy (by omega)]
    simp only
    rw [hrest zEe (.inl rfl) x _ hx (by omega)]
    simp only
    rw [hrest u hu l _ hl (by omega),zZt,ho]
   ·rw [if_neg h8,if_neg h9,if_neg (by omega),if_neg (by omega)]
    simp only [zZk]
    rcases hk with hk | hk | ⟨rfl,rfl⟩
    ·exact absurd hk h8
    ·exact absurd hk h9
    ·rw [hrest u hu l _ hl (by omega),zZt,ho]
structure RtP (q : Pr) : Prop where
 nm : zEC q.name = true
 nums : ∀ n ∈ zEx q,NR n
 body : RtL q.body
def prL (q : Pr) : List Ln := zDi q :: (lsL q.body ++ [[zEe]])
def zHW : List Pr → List Ln
 | [] => []
 | q :: l => prL q ++ zHW l
theorem zPH {q : Pr} (h : RtP q) : ∀ w ∈ zDi q,zMi w := by
 intro w hw
 rcases zZr.1 hw with rfl | hw
 ·unfold zMi; decide
 ·rcases zZr.1 hw with rfl | hw
  ·exact zSr h.nm
  ·obtain ⟨n,hn,rfl⟩ := zZK.1 hw
   exact (zHI (h.nums n hn)).1
theorem zF3 : ∀ {ps : List Pr},(∀ q ∈ ps,RtP q) → zA9 (zBZ ps) = zHW ps
 | [],_ => zLH
 | q :: l,h => by
  have hq := h q (by simp)
  simp only [zBZ,zHW,prT,prL,zZx,zY9,zZk]
  rw [zA5 (zPH hq) (List.cons_ne_nil _ _),zC1 1 _ _ hq.body,zA5 (zNP (.inl rfl)) (List.cons_ne_nil _ _),zF3 (ps := l) fun x hx => h x (zZN _ hx)]
theorem zM9 {q : Pr} (h : RtP q) : zQP (zDi q) = some { q with body := [] } := by
 have e1 : (zDi q).drop 2 = (zEx q).map Lib.itoa := rfl
 have e2 : (zDi q).getD 1 [] = q.name := rfl
 have e3 : (zDi q).headD [] = zEs := rfl
 have e4 : 5 ≤ (zDi q).length := by simp [zDi,zEx]
 rw [zQP,if_pos ⟨e3,e4⟩,e1,zEW h.nums,zZt,e2]
 rfl
theorem zGK : ∀ {ps : List Pr} (n : Nat),(∀ q ∈ ps,RtP q) → ps.length ≤ n → zCC n (zHW ps) = some ps
 | [],n,_,_ => by cases n <;> rfl
 | q :: l,0,_,h => absurd h (by simp)
 | q :: l,n + 1,h,hn => by
  have hq := h q (by simp)
  have hc := zHC _ hq.body
  have ih := zGK (ps := l) n (fun x hx => h x (zZN _ hx)) (by simpa using hn)
  have e : zHW (q :: l) = zDi q :: (lsL q.body ++ [zEe] :: zHW l) := by simp [zHW,prL]
  rw [e,zCC,zM9 hq]
  simp only
  rw [zKI _ _ _ _ (.inl rfl) hq.body (by simp only [zY3,zYZ]; omega)]
  simp only
  rw [ih,zZt]
theorem zI6 : ∀ ps : List Pr,ps.length ≤ (zHW ps).length
 | [] => zZa _
 | q :: l => by
  have := zI6 l
  simp only [zHW,prL,zY3,zYZ]; omega
theorem zJC {ps : List Pr} (h : ∀ q ∈ ps,RtP q) (hv : zBR ps = true) : zA8 (zBZ ps) = (ps,0) := by
 rw [zA8,zF3 h,zGK _ h (zI6 ps)]
 simp only [hv,if_true]
theorem zN8 {ps : List Pr} {k : Nat} {slots o a b : Int} {l m : List Ins} (hs : slots ≤ 1024) (h : zW slots o a b (l.isEmpty && m.isEmpty)) (hk : o = 20 → 0 ≤ a ∧ a ≤ 1024) :
  0 ≤ o ∧ o ≤ 22 ∧ (∀ n ∈ zBh o a b,NR n) ∧ (zBh o a b).getD 0 0 = a ∧ (zBh o a b).getD 1 0 = b ∧ (o = 18 ∨ o = 19 ∨ (l = [] ∧ m = [])) := by
 obtain ⟨h0,h1,h2,h3,h4,h5,h6,h7⟩ := h
 have hk2 : o = 18 ∨ o = 19 ∨ (l = [] ∧ m = []) := by
  rcases h2 with h | h | h
  ·exact .inl h
  ·exact .inr (.inl h)
  ·simp only [zYX,zzav] at h; exact .inr (.inr h)
 have key : zCE o.toNat = 1 ∧ (o = 0 ∨ o = 1 ∨ o = 2 ∨ o = 20) ∨ zCE o.toNat = 2 ∧ (o = 3 ∨ o = 4) ∨ zCE o.toNat = 0 ∧ 5 ≤ o ∧ ¬ o = 20 := by
  unfold zCE
  split
  ·left; exact ⟨rfl,by omega⟩
  ·split
   ·right; left; exact ⟨rfl,by omega⟩
   ·right; right; exact ⟨rfl,by omega,by omega⟩
 refine ⟨h0,h1,?_,?_,?_,hk2⟩ <;> unfold zBh <;> (try unfold NR) <;> rcases key with ⟨e,hk'⟩ | ⟨e,hk'⟩ | ⟨e,hk1,hk3⟩ <;> rw [e]
 ·intro n hn
  simp at hn; subst hn
  rcases hk' with hk' | hk' | hk' | hk'
  ·have := h3 hk'; omega
  ·have := h4 (.inl hk'); omega
  ·have := h4 (.inr hk'); omega
  ·have := hk hk'; omega
 ·intro n hn
  have := h5 hk'
  simp at hn
  rcases hn with rfl | rfl <;> omega
 ·intro n hn; simp at hn
 ·rfl
 ·rfl
 ·exact (h7 ⟨hk1,hk3⟩).1.symm
 ·rcases hk' with hk' | hk' | hk' | hk'
  ·exact (h3 hk').2.2.symm
  ·exact (h4 (.inl hk')).2.2.symm
  ·exact (h4 (.inr hk')).2.2.symm
  ·exact (h6 hk').symm
 ·rfl
 ·exact (h7 ⟨hk1,hk3⟩).2.symm
mutual
theorem zSW {ps : List Pr} {k : Nat} (hs : (ps.getD k default).slots ≤ 1024) (hk : k ≤ 8) : ∀ (x : Ins) (out : Bool) (h h' : Int),zCA ps k x out h = some h' → RtI x
 | .mk o a b l m,out,h,h',he => by
  simp only [zCA] at he
  split at he
  ·rename_i hf
   have main : (o = 20 → 0 ≤ a ∧ a ≤ 1024) → RtL l ∧ RtL m → RtI (.mk o a b l m) := fun h1 h2 => by
    simp only [RtI]; exact ⟨zN8 (ps := ps) (k := k) hs hf h1,h2⟩
   split at he
   ·rename_i h8
    refine main (fun h => by omega) ?_
    split at he
    ·split at he
     ·rename_i e e' q1 q2
      exact ⟨zE5 hs hk l _ _ _ q1,zE5 hs hk m _ _ _ q2⟩
     ·simp at he
    ·simp at he
   ·split at he
    ·rename_i h9
     refine main (fun h => by omega) ?_
     split at he
     ·rename_i hh
      exact ⟨zE5 hs hk l _ _ _ hh.2.2.2,zE5 hs hk m _ _ _ hh.2.2.1⟩
     ·simp at he
    ·rename_i h8 h9
     have hlm : l = [] ∧ m = [] := by
      rcases hf.2.2.1 with h | h | h
      ·exact absurd h h8
      ·exact absurd h h9
      ·simpa using h
     refine main (fun h20 => ?_) (by rw [hlm.1,hlm.2]; simp [RtL])
     simp [zFC,h20] at he
     obtain ⟨⟨q1,q2⟩,-⟩ := he
     exact ⟨q1,by omega⟩
  ·simp at he
theorem zE5 {ps : List Pr} {k : Nat} (hs : (ps.getD k default).slots ≤ 1024) (hk : k ≤ 8) : ∀ (l : List Ins) (out : Bool) (h h' : Int),zDu ps k l out h = some h' → RtL l
 | [],_,_,_,_ => by simp [RtL]
 | x :: l,out,h,h',he => by
  simp only [zDu] at he
  split at he
  ·rename_i h1 q1
   simp only [RtL]
   exact ⟨zSW hs hk x _ _ _ q1,zE5 hs hk l _ _ _ he⟩
  ·simp at he
end
theorem zO2 {ps : List Pr} (h : zDt ps) : ∀ q ∈ ps,RtP q := by
 intro q hq
 obtain ⟨k,hk,rfl⟩ := List.getElem_of_mem hq
 have e : ps.getD k default = ps[k] := by simp [List.getD,hk]
 obtain ⟨⟨n1,-⟩,⟨p1,p2,p3,p4,p5,p6,p7,p8⟩,-,-,he⟩ := h.2 k hk
 have hb := zE5 p3 (by have := h.1; omega) _ _ _ _ he
 rw [e] at *
 refine ⟨n1,fun n hn => ?_,hb⟩
 simp only [zEx,zZr] at hn
 unfold NR
 rcases hn with rfl | rfl | rfl | hn
 ·omega
 ·omega
 ·omega
 ·have := p8 n hn; omega
mutual
theorem zUn : ∀ x : Ins,RtI x → FOk NR x
 | .mk o a b l m,h => by
  simp only [RtI] at h
  obtain ⟨⟨h0,h1,h2,-⟩,hl,hm⟩ := h
  simp only [FOk]
  exact ⟨⟨h0,h1,h2⟩,zHs l hl,zHs m hm⟩
theorem zHs : ∀ l : List Ins,RtL l → zOQ NR l
 | [],_ => by simp [zOQ]
 | x :: l,h => by
  simp only [RtL] at h
  simp only [zOQ]
  exact ⟨zUn x h.1,zHs l h.2⟩
end
theorem zEY : ∀ {l : List Int},(∀ n ∈ l,NR n) → zBQ (l.map Lib.itoa) ≤ 11 * l.length
 | [],_ => by simp [zBQ]
 | n :: l,h => by
  have h1 := (zHI (h n (by simp))).2
  have h2 := zEY (l := l) fun x hx => h x (zZN _ hx)
  simp only [zZG,zBQ,zYZ]; omega
theorem zP5 {o a b : Int} (h0 : 0 ≤ o) (h1 : o ≤ 22) (hn : ∀ n ∈ zBh o a b,NR n) : zBQ (zCe o a b) ≤ 31 := by
 have e1 := (zKy o.toNat (by omega)).2.1
 have e2 := zEY hn
 have e3 := zDY o a b
 have e4 := zFG o.toNat
 simp only [zCe,zBQ]; omega
mutual
theorem zYw : ∀ (x : Ins) (d D : Nat),RtI x → d + zCN x ≤ D → (zMh d x).length ≤ zBa x * (6 * D + 60)
 | .mk o a b l m,d,D,h,hd => by
  simp only [RtI] at h
  obtain ⟨⟨h0,h1,hn,-,-,hk⟩,hl,hm⟩ := h
  simp only [zCN] at hd
  have e1 := zCw d (zCe o a b)
  have e2 := zP5 h0 h1 hn
  have e3 := zWW l (d + 1) D hl (by omega)
  have e4 := zWW m (d + 1) D hm (by omega)
  have k1 := zCw d [zEe]
  have k2 := zCw d [zEt]
  have k3 := zCw d [wDo]
  have n1 : zBQ [zEe] = 4 := rfl
  have n2 : zBQ [zEt] = 5 := rfl
  have n3 : zBQ [wDo] = 3 := rfl
  simp only [zBa,zZO,Nat.one_mul,zMh,zY3]
  split
  ·simp only [zY3]; omega
  ·split
   ·simp only [zY3]; omega
   ·simp only [zY4]; omega
theorem zWW : ∀ (l : List Ins) (d D : Nat),RtL l → d + zAE l ≤ D → (lsT d l).length ≤ zL l * (6 * D + 60)
 | [],_,_,_,_ => by simp [lsT]
 | x :: l,d,D,h,hd => by
  simp only [RtL] at h
  simp only [zAE] at hd
  have e1 := zYw x d D h.1 (by omega)
  have e2 := zWW l d D h.2 (by omega)
  simp only [zL,zZO,lsT,zY3]; omega
end
theorem zSg {q : Pr} (h : RtP q) (hn : q.name.length ≤ 60) (ho : q.outs.length ≤ 200) (hl : zAE q.body ≤ 256) : (prT q).length ≤ zL q.body * 1602 + 3000 := by
 have e1 := zCw 0 (zDi q)
 have e2 := zWW q.body 1 257 h.body (by omega)
 have e3 := zCw 0 [zEe]
 have n1 : zBQ [zEe] = 4 := rfl
 have n2 := zEY h.nums
 have n3 : (zEx q).length = q.outs.length + 3 := by simp [zEx]
 have n4 : zBQ (zDi q) = 5 + (q.name.length + 1 + zBQ ((zEx q).map Lib.itoa)) := rfl
 simp only [prT,zY3]; omega
theorem zI5 : ∀ {ps : List Pr},(∀ q ∈ ps,RtP q ∧ q.name.length ≤ 60 ∧ q.outs.length ≤ 200 ∧ zAE q.body ≤ 256) → (zBZ ps).length ≤ zAO ps * 1602 + ps.length * 3000
 | [],_ => by simp [zBZ]
 | q :: l,h => by
  obtain ⟨h1,h2,h3,h4⟩ := h q (by simp)
  have e1 := zSg h1 h2 h3 h4
  have e2 := zI5 (ps := l) fun x hx => h x (zZN _ hx)
  simp only [zBZ,zAO,zZO,zY3,zYZ]; omega
theorem zPs {ps : List Pr} (hv : zBR ps = true) (hn : ∀ q ∈ ps,q.name.length ≤ 60 ∧ q.outs.length ≤ 200) (hc : zAO ps ≤ 500) :
  (zBZ ps).length ≤ 1000000 ∧ (∀ q ∈ ps,FmP NR q) ∧ zA8 (zBZ ps) = (ps,0) := by
 have hp := zFm.1 hv
 have hr := zO2 hp
 have hpc : ∀ q ∈ ps,zL q.body ≤ zAO ps := by
  intro q hq
  obtain ⟨k,hk,rfl⟩ := List.getElem_of_mem hq
  have e : ps.getD k default = ps[k] := by simp [List.getD,hk]
  have h1 := zCW hk
  have h2 := zEU ps (k + 1)
  rw [e] at h1; omega
 have hl : ∀ q ∈ ps,zAE q.body ≤ 256 := by
  intro q hq
  obtain ⟨k,hk,rfl⟩ := List.getElem_of_mem hq
  have e : ps.getD k default = ps[k] := by simp [List.getD,hk]
  obtain ⟨-,-,-,h,-⟩ := hp.2 k hk
  rw [e] at h; exact h
 refine ⟨?_,fun q hq => ⟨?_,?_,(hr q hq).nums,zHs _ (hr q hq).body,?_⟩,zJC hr hv⟩
 ·have h1 := zI5 (ps := ps) fun q hq => ⟨hr q hq,(hn q hq).1,(hn q hq).2,hl q hq⟩
  have h2 := hp.1
  have h3 : zAO ps * 1602 ≤ 500 * 1602 := zZB _ hc
  omega
 ·have := (hn q hq).1; omega
 ·have := (hn q hq).2; omega
 ·have := hpc q hq; omega
theorem zKQ {α : Type} [Inhabited α] {l : List α} {i : Nat} (h : i < l.length) : l.drop i = l.getD i default :: l.drop (i + 1) := by
 rw [zZV h]; simp [List.getD,zZe h]
def zEL (w : Wd) : Wd := if w.head? = some 45 then w.tail else w
theorem zXv (s : Wd) (H : zA) : ACall Tryz.prog 56 [str s,str [45]] H fun x H' => x = str (zEL s) ∧ H' = H := by
 refine ⟨⟨_,Tryz.func56,by kernel_rfl,by kernel_rfl⟩,fun X ρ w vs hrel hargs => ?_⟩
 obtain ⟨a,b,rfl,ha,hb⟩ := zFs hargs
 have ha := zDz ha
 have hb := zDz hb
 subst ha
 subst hb
 refine (Tryz.strings_TrimPrefix (mkS s) (mkS [45]) w).mono ?_
 rintro e w' ⟨rfl,rfl⟩
 refine ⟨_,_,H,ρ,rfl,⟨rfl,rfl⟩,hrel,?_,Fut.refl _ _ _⟩
 have : Lib.trimPrefix s [45] = zEL s := by
  cases s with
  | nil => rfl
  | cons c s =>
   have h1 : Lib.hasPrefix (c :: s) [45] = decide (c = 45) := by
    unfold Lib.hasPrefix
    simp only [List.isPrefixOf,zzbl]
    by_cases h : c = 45
    ·subst h; rfl
    ·rw [zzad h]; exact beq_false_of_ne fun e => h e.symm
   unfold Lib.trimPrefix zEL
   rw [h1]
   by_cases h : c = 45
   ·subst h; rfl
   ·rw [zzad h,if_neg (by decide),if_neg (fun e => h (by simpa using e))]
 rw [← this]
 exact .v _ _
def zSM (xs : Ln) (w : Wd) : Int := match xs.findIdx? fun x => decide (x = w) with | some k => (k : Int) | none => -1
theorem zYy (xs : Ln) (w : Wd) (hx : xs.length ≤ 1048576) (H : zA) : ACall Tryz.prog 58 [.sl 1 (xs.map sR),str w] H fun x H' => x = int (zSM xs w) ∧ H' = H := by
 refine ACall.drop (R := fun x => x = int (zSM xs w)) ?_
 refine enter Tryz.func58 L58_ok (zY0 rfl) ?_
 repeat' (simp -implicitDefEqProofs (disch := omega) only [L58,zYV,push_cast,↓reduceIte,reduceCtorEq,Nat.reduceAdd,Int.reduceNeg])
 refine zAd (fun (i : Nat) e' G => e' 0 = .sl 1 (xs.map sR) ∧ e' 1 = str w ∧ e' 7 = int xs.length ∧ e' 8 = int i ∧ i ≤ xs.length ∧ (∀ k,k < i → ¬ xs.getD k [] = w) ∧ G = H) (fun i => xs.length - i) 0 ?_ ?_
 ·exact ⟨rfl,rfl,rfl,rfl,zZm _,fun k hk => by omega,rfl⟩
 rintro i e' G ⟨g0,g1,g7,g8,hi,hne,rfl⟩
 by_cases hlt : i < xs.length
 ·have hrow : (xs.map sR).getD i [] = sR (xs.getD i []) := zN hlt
  by_cases he : w = xs.getD i []
  ·have hf : xs.findIdx? (fun x => decide (x = w)) = some i := by
    rw [zZ6]
    refine ⟨hlt,by rw [he]; simp [List.getD,zZe hlt],fun k hk => ?_⟩
    have := hne k hk
    simpa [List.getD,zZe (Nat.lt_trans hk hlt)] using this
   have hfx : zSM xs w = i := by unfold zSM; rw [hf]
   rw [hfx]
   repeat' (first | refine zY1 (by omega) ?_ | simp -implicitDefEqProofs (disch := omega) only [g0,g1,g7,g8,hrow,sR,zYV,← he,zS,push_cast,↓reduceIte,Nat.reduceEqDiff,reduceCtorEq,Nat.reduceAdd,Nat.reduceLeDiff,Int.reduceNeg])
   all_goals exact ⟨_,(zZA _).symm⟩
  ·repeat' (first | refine zY1 (by omega) ?_ | simp -implicitDefEqProofs (disch := omega) only [g0,g1,g7,g8,hrow,sR,zYV,he,zS,push_cast,↓reduceIte,Nat.reduceEqDiff,reduceCtorEq,Nat.reduceAdd,Nat.reduceLeDiff,Int.reduceNeg])
   exact .mk (i + 1) ⟨g0,g1,g7,rfl,hlt,fun k hk => by
    by_cases h : k = i
    ·subst h; exact fun e => he e.symm
    ·exact hne k (by omega),rfl⟩ (by omega)
 ·have hf : xs.findIdx? (fun x => decide (x = w)) = none := by
   rw [zzaQ]
   intro x hx
   obtain ⟨k,hk,rfl⟩ := zZY.1 hx
   have := hne k (by omega)
   simpa [List.getD,zZe hk] using this
  have hfx : zSM xs w = -1 := by unfold zSM; rw [hf]
  rw [hfx]
  repeat' (simp -implicitDefEqProofs (disch := omega) only [g7,g8,zAQ,push_cast,↓reduceIte,Int.reduceNeg])
  all_goals exact ⟨_,(zZA _).symm⟩
theorem zIF (l : Ln) (hl : l.length ≤ 1048576) (hw : ∀ w ∈ l,w.length ≤ 1048576) (H : zA) : ACallX Tryz.prog 26 [.sl 1 (l.map sR)] H
  (fun x H' => ∃ ns,zCa l = some ns ∧ x = .os H.length l.length 0 l.length ∧ H' = H ++ [.arr l.length 1 (ns.map iR)]) fun z H' => zCa l = none ∧ z = zCF ∧ ∃ junk,H' = H ++ junk := by
 refine zG2 Tryz.func26 L26n_ok (zY0 rfl) ?_
 repeat' (simp -implicitDefEqProofs (disch := omega) only [L26n,zYV,push_cast,↓reduceIte,reduceCtorEq,Nat.reduceAdd,Nat.reduceLT])
 refine zAd (fun (st : Nat × List Int) e' G => e' 9 = .sl 1 (l.map sR) ∧ e' 10 = int l.length ∧ e' 3 = .os H.length st.1 0 st.1 ∧ e' 11 = int st.1 ∧ st.1 ≤ l.length ∧ zCa (l.take st.1) = some st.2 ∧ st.2.length = st.1 ∧ G = H ++ [.arr st.1 1 (st.2.map iR)]) (fun st => l.length - st.1) (0,[]) ?_ ?_
 ·exact ⟨rfl,rfl,rfl,rfl,zZm _,rfl,rfl,rfl⟩
 rintro ⟨j,ns⟩ e' G ⟨g9,g10,g3,g11,hj,hns,hnl,rfl⟩
 simp only at g3 g11 hj hns hnl
 by_cases hlt : j < l.length
 ·have hmem := hw _ (zAt hlt)
  have hts := zBf (l := l) (j := j) hlt
  have happ := zIE (l.take j) (l.getD j default)
  rw [← hts,hns] at happ
  have hrow : (l.map sR).getD j [] = sR (l.getD j default) := zN hlt
  generalize l.getD j default = w at *
  have cT := fun H => zXv w H
  have cN := fun H => zVl (zEL w) H (by have : (zEL w).length ≤ w.length := (by unfold zEL; split <;> simp); omega)
  have hn0 : zOW w = if zE0 (zEL w) = true then some (if zEL w = w then (zGv 0 (zEL w) : Int) else -(zGv 0 (zEL w) : Int)) else none := by
   unfold zOW zEL
   cases w with
   | nil => simp
   | cons c w => by_cases hc : c = 45 <;> simp [hc]
  cases hi : zE0 (zEL w) with
  | false =>
   rw [hi] at hn0
   rw [zHz (by simp [hi])] at cN
   have hno : zCa l = none := by
    rw [← zZ7 (j + 1) l]
    exact zGu _ _ (by rw [happ,hn0]; rfl)
   repeat' (first | refine zY1 (by omega) ?_ | refine zC (cT _) ?_ | refine zC (cN _) ?_ | refine zI (zAG _) ?_ | simp -implicitDefEqProofs (disch := omega) only [g9,g10,g11,hrow,sR,zYV,zS,push_cast,↓reduceIte,Nat.reduceEqDiff,Nat.reduceAdd,Nat.reduceLeDiff,Nat.reduceLT])
   exact ⟨_,rfl⟩
  | true =>
   rw [hi,if_pos rfl] at hn0
   have hlt2 := zSp hi
   rw [zKA hi] at cN
   have hfin : ∀ n,List.take j (ns.map iR) ++ [iR n] = (ns ++ [n]).map iR := fun n => by
    rw [zZu (by simp; omega)]; simp
   have hrl : (ns.map iR).length = j := by simp; omega
   by_cases ht : zEL w = w
   ·rw [if_pos ht] at hn0
    rw [ht] at cT cN hn0
    repeat' (first | refine zY1 (by omega) ?_ | refine zC (cT _) ?_ | refine zC (cN _) ?_ | refine zD (zAo _) ?_ | simp -implicitDefEqProofs (disch := omega) only [g3,g9,g10,g11,hrow,sR,zYV,hrl,zS,push_cast,↓reduceIte,Nat.reduceEqDiff,reduceCtorEq,Nat.reduceAdd,Nat.reduceLeDiff,Nat.reduceLT,zYW])
    exact .mk (j + 1,ns ++ [_]) ⟨g9,g10,rfl,rfl,hlt,by rw [happ,hn0],by simp; omega,congrArg (fun z => H ++ [HO.arr (j + 1) 1 z]) (hfin _)⟩ (by simp only; omega)
   ·rw [if_neg ht] at hn0
    repeat' (first | refine zY1 (by omega) ?_ | refine zC (cT _) ?_ | refine zC (cN _) ?_ | refine zD (zAo _) ?_ | simp -implicitDefEqProofs (disch := omega) only [g3,g9,g10,g11,hrow,sR,zYV,ht,hrl,zS,push_cast,↓reduceIte,Nat.reduceEqDiff,reduceCtorEq,Nat.reduceAdd,Nat.reduceLeDiff,Nat.reduceLT,zYW])
    exact .mk (j + 1,ns ++ [_]) ⟨g9,g10,rfl,rfl,hlt,by rw [happ,hn0]; simp only [Int.zero_sub],by simp; omega,congrArg (fun z => H ++ [HO.arr (j + 1) 1 z]) (hfin _)⟩ (by simp only; omega)
 ·have hjl : j = l.length := by omega
  subst hjl
  have hnn : zCa l = some ns := by rw [← hns,zZu (by omega)]
  repeat' (simp -implicitDefEqProofs (disch := omega) only [g3,g10,g11,zAQ,push_cast,↓reduceIte,Nat.reduceEqDiff])
  exact ⟨ns,hnn,rfl⟩
def rdB (L : List Ln) (j v a : Nat) : HO := .box [.os j v a (L.length - a)]
def lsO (L : List Ln) (v : Nat) : HO := .arr v 1 (L.map lnR)
theorem zMR (L : List Ln) (hL : L.length ≤ 1048577) (v a r j : Nat) (ha : a < L.length) (G : zA) (hr : G[r]? = some (rdB L j v a)) (hj : G[j]? = some (lsO L v)) : ACall Tryz.prog 24 [.ptr r 0 0] G fun x H' => x = .sl 1 ((L.getD a default).map sR) ∧ H' = G.set r (rdB L j v (a + 1)) := by
 refine enter Tryz.func24 L24_ok (zY0 rfl) ?_
 have hrow : (L.map lnR).getD a [] = lnR (L.getD a default) := zN ha
 have hrl := (zYU.1 hr).1
 have hne : ¬ r = j := fun e => by rw [e,hj] at hr; cases hr
 obtain ⟨k,hk⟩ : ∃ k,L.length - a = k := ⟨_,rfl⟩
 have h2 : L.length - (a + 1) = k - 1 := by omega
 have h3 : 1 ≤ k := by omega
 have h4 : a + k ≤ L.length := by omega
 unfold rdB at hr
 unfold lsO at hj
 unfold rdB
 rw [hk] at hr
 rw [h2]
 repeat' (first | refine zY1 (by omega) ?_ | simp -implicitDefEqProofs (disch := omega) only [L24,hr,hj,hrow,lnR,zYV,zZJ,splice,zAx,push_cast,↓reduceIte,Nat.reduceEqDiff,reduceCtorEq,Nat.reduceAdd,Nat.reduceLeDiff,Int.reduceToNat,Int.reduceLE,zYW])
 all_goals exact Int.le_refl _
theorem zSc (L : List Ln) (hL : L.length ≤ 1048577) (v a : Nat) (ha : a < L.length) (J : zA) : ACall Tryz.prog 24 [.ptr 0 0 0] (rdB L 1 v a :: lsO L v :: J) fun x H' => x = .sl 1 ((L.getD a default).map sR) ∧ H' = rdB L 1 v (a + 1) :: lsO L v :: J :=
 zMR L hL v a 0 1 ha _ rfl rfl
theorem zSb (L : List Ln) (hL : L.length ≤ 1048577) (v : Nat) (J : zA) : ACall Tryz.prog 24 [.ptr 0 0 0] (rdB L 1 v L.length :: lsO L v :: J) fun x H' => x = zAI ∧ H' = rdB L 1 v L.length :: lsO L v :: J := by
 refine enter Tryz.func24 L24_ok (zY0 rfl) ?_
 have h2 : L.length - L.length = 0 := by omega
 unfold rdB lsO
 rw [h2]
 repeat' (simp -implicitDefEqProofs (disch := omega) only [L24,zY6,zY7,zYZ,zY4,push_cast,↓reduceIte,reduceCtorEq,Nat.reduceAdd,Nat.reduceLeDiff])
def lcR (L : List Ln) (v a m : Nat) (u : Wd) (j : Nat) (x : AV) (o1 o2 : HO) : Prop := ∃ l b,zAL m u (L.drop a) = some (l,L.drop b) ∧ x = .sl 5 (l.map zAp) ∧ o1 = rdB L j v b ∧ o2 = lsO L v ∧ a < b ∧ b ≤ L.length
def lcZ (L : List Ln) (v a m : Nat) (u : Wd) (j : Nat) (z : Value) (o1 o2 : HO) : Prop := zAL m u (L.drop a) = none ∧ z = zCF ∧ (∃ b,o1 = rdB L j v b) ∧ o2 = lsO L v
theorem zVt {L : List Ln} {v a m : Nat} {u : Wd} (h : ACallX Tryz.prog 27 [.ptr 0 0 0,str u] [rdB L 1 v a,lsO L v] (fun x H' => ∃ o1 o2 junk,H' = o1 :: o2 :: junk ∧ lcR L v a m u 1 x o1 o2) fun z H' => ∃ o1 o2 junk,H' = o1 :: o2 :: junk ∧ lcZ L v a m u 1 z o1 o2)
  (G : zA) (r j : Nat) (hne : r ≠ j) (hr : G[r]? = some (rdB L j v a)) (hj : G[j]? = some (lsO L v)) :
  ACallX Tryz.prog 27 [.ptr r 0 0,str u] G (fun x G' => ∃ o1 o2,G' = (G.set r o1).set j o2 ∧ lcR L v a m u j x o1 o2) fun z G' => ∃ o1 o2,G' = (G.set r o1).set j o2 ∧ lcZ L v a m u j z o1 o2 := by
 have hls : ∀ n,(lsO L v).lv n = true := fun n => zZb.2 fun x hx => by obtain ⟨l,_,rfl⟩ := zZK.1 hx; rfl
 have hrn : ∀ π,(lsO L v).ren π = lsO L v := fun π => HO.ren0 π (hls 0)
 have := ACallX.ren (H := [rdB L 1 v a,lsO L v]) (R := fun x H1 => ∃ o1 o2,H1 = [o1,o2] ∧ lcR L v a m u 1 x o1 o2) (Z := fun z H1 => ∃ o1 o2,H1 = [o1,o2] ∧ lcZ L v a m u 1 z o1 o2)
  (h.mono (fun x H' ⟨o1,o2,junk,h1,h2⟩ => ⟨[o1,o2],junk,h1,⟨o1,o2,rfl,h2⟩,rfl,by obtain ⟨l,b,h3,h4,rfl,rfl,h5⟩ := h2; simp [hls]; rfl,by obtain ⟨l,b,h3,rfl,h5⟩ := h2; rfl⟩)
   fun z H' ⟨o1,o2,junk,h1,h2⟩ => ⟨[o1,o2],junk,h1,⟨o1,o2,rfl,h2⟩,rfl,by obtain ⟨h3,h4,⟨b,rfl⟩,rfl⟩ := h2; simp [hls]; rfl⟩)
  (by simp [hls]; rfl) rfl (G := G) (fun i => if i = 0 then r else j) (fun a b ha hb e => by
   simp at ha hb
   match a,b,ha,hb with
   | 0,0,_,_ => rfl
   | 1,1,_,_ => rfl
   | 0,1,_,_ => exact absurd e hne
   | 1,0,_,_ => exact absurd e.symm hne) (fun i o ho => by
   match i,ho with
   | 0,ho => simp at ho; subst ho; exact hr
   | 1,ho => simp at ho; subst ho; rw [hrn]; exact hj
   | i + 2,ho => simp at ho)
 refine this.mono (fun y G' ⟨x,H1,⟨o1,o2,e0,l,b,h3,h4,h6,h7,h5⟩,e1,e2⟩ => ⟨rdB L j v b,lsO L v,?_,l,b,h3,by rw [e1,h4]; rfl,rfl,rfl,h5⟩) fun z G' ⟨H1,⟨o1,o2,e0,h3,h4,⟨b,h6⟩,h7⟩,e2⟩ => ⟨rdB L j v b,lsO L v,?_,h3,h4,⟨b,rfl⟩,rfl⟩
 ·rw [e2,e0,h6,h7]; simp only [zGt]; rw [hrn]; rfl
 ·rw [e2,e0,h6,h7]; simp only [zGt]; rw [hrn]; rfl
def LcI (L : List Ln) (m : Nat) (u : Wd) (v a0 : Nat) (st : Nat × Nat × List Ins) (e' : Env) (G : zA) : Prop :=
 e' 0 = .ptr 0 0 0 ∧ e' 1 = str u ∧ e' 5 = .os 2 st.2.2.length 0 st.2.2.length ∧ a0 ≤ st.1 ∧ st.1 ≤ L.length ∧ st.2.1 < m ∧ L.length - st.1 < m - st.2.1 ∧ zAL m u (L.drop a0) = (zAL (m - st.2.1) u (L.drop st.1)).map (fun p => (st.2.2 ++ p.1,p.2)) ∧ (∃ J,G = rdB L 1 v st.1 :: lsO L v :: .arr st.2.2.length 5 (st.2.2.map zAp) :: J) ∧ st.2.2.length ≤ st.1
theorem LcI.nx {L : List Ln} {m a0 a k a' v : Nat} {u : Wd} {out : List Ins} {X : Ins} {row : List AV} {e' : Env} {J : zA} (h0 : a0 ≤ a) (h1 : out.length ≤ a) (h2 : a < a') (h3 : a' ≤ L.length) (h4 : L.length - a' < m - (k + 1))
  (g0 : e' 0 = .ptr 0 0 0) (g1 : e' 1 = str u) (g6 : e' 5 = .os 2 (out.length + 1) 0 (out.length + 1)) (hl : zAL m u (L.drop a0) = (zAL (m - (k + 1)) u (L.drop a')).map fun p => (out ++ [X] ++ p.1,p.2)) (hr : row = zAp X) :
  Nx (LcI L m u v a0) (fun st => L.length - st.1) (a,k,out) e' (rdB L 1 v a' :: lsO L v :: .arr (out.length + 1) 5 (out.map zAp ++ [row]) :: J) := by
 have e : (out ++ [X]).length = out.length + 1 := by simp
 refine .mk (a',k + 1,out ++ [X]) ⟨g0,g1,by rw [e]; exact g6,by simp only; omega,h3,by simp only; omega,h4,hl,⟨J,by rw [e,hr]; simp⟩,?_⟩ (by simp only; omega)
 show (out ++ [X]).length ≤ a'
 omega
set_option maxHeartbeats 8000000 in
theorem zVs (L : List Ln) (hL : LsOk L) (v : Nat) : ∀ (m : Nat) (u : Wd) (a : Nat),opF u = none → L.length - a < m → a ≤ L.length → ∀ (G : zA) (r j : Nat),r ≠ j → G[r]? = some (rdB L j v a) → G[j]? = some (lsO L v) →
  ACallX Tryz.prog 27 [.ptr r 0 0,str u] G (fun x G' => ∃ o1 o2,G' = (G.set r o1).set j o2 ∧ lcR L v a m u j x o1 o2) fun z G' => ∃ o1 o2,G' = (G.set r o1).set j o2 ∧ lcZ L v a m u j z o1 o2 := by
 intro m
 induction m using Nat.strongRecOn with
 | ind m ih =>
 intro u a0 hu hm ha
 refine zVt ?_
 refine zG2 Tryz.func27 L27n_ok (zY0 rfl) ?_
 repeat' (simp -implicitDefEqProofs (disch := omega) only [L27n,zY9,zZk,zYZ,zY4,push_cast,Nat.reduceAdd,Nat.reduceLT])
 refine zAd (LcI L m u v a0) (fun st => L.length - st.1) (a0,0,[]) ?_ ?_
 ·exact ⟨rfl,rfl,rfl,zZa _,ha,Nat.lt_of_le_of_lt (zZm _) hm,hm,by simp,⟨[],rfl⟩,zZm _⟩
 rintro ⟨a,k,out⟩ e' G ⟨g0,g1,g5,q0,q1,q2,q3,law,⟨J,rfl⟩,q7⟩
 simp only at g5 q0 q1 q2 q3 law q7
 have hlen := hL.len
 obtain ⟨n,hn⟩ : ∃ n,m - k = n + 1 := ⟨m - k - 1,by omega⟩
 have hbadL : ∀ (J' : zA) (b : Nat),zAL m u (L.drop a0) = none → ∃ o1 o2 junk,rdB L 1 v b :: lsO L v :: J' = o1 :: o2 :: junk ∧ lcZ L v a0 m u 1 zCF o1 o2 := fun J' b h => ⟨_,_,J',rfl,h,rfl,⟨b,rfl⟩,rfl⟩
 by_cases hlt : a < L.length
 rotate_left
 ·have e : a = L.length := by omega
  subst e
  have hno : zAL m u (L.drop a0) = none := by rw [law,hn,zzbr]; rfl
  repeat' (first | refine zC (zSb L hL.len v _) ?_ | refine zI (zAG _) ?_ | simp -implicitDefEqProofs (disch := omega) only [g0,zY9,zZk,push_cast,Int.reduceLT])
  all_goals exact hbadL _ _ hno
 have hmem := zAt hlt
 obtain ⟨w1,w2⟩ := hL.wd _ hmem
 have wne := hL.ne _ hmem
 rw [zKQ hlt] at law
 have cX := fun J => zSc L hL.len v a hlt J
 generalize L.getD a default = l at *
 have hl0 := List.length_pos_iff.2 wne
 have hw0 : (l.map sR).getD 0 [] = sR (l.getD 0 default) := zN hl0
 rw [hn,zAL] at law
 have hh0 : l.headD [] = l.getD 0 default := by cases l <;> rfl
 rw [hh0] at law
 by_cases h2 : l.getD 0 default = u
 ·rw [if_pos h2] at law
  by_cases h1 : l.length = 1
  ·rw [if_pos h1] at law
   repeat' (first | refine zD (zAo _) ?_ | refine zBN (cX _) ?_ | simp -implicitDefEqProofs (disch := omega) only [g0,g1,g5,zY9,zZk,zY6,zY7,zZg,zZf,zYZ,zY4,zYV,hw0,sR,h2,h1,push_cast,↓reduceIte,Nat.reduceEqDiff,Nat.reduceAdd,Nat.reduceLeDiff,Int.reduceToNat,Int.reduceLT,Int.reduceLE,Int.reduceAdd])
   exact ⟨⟨by omega,zBA zSF _⟩,_,_,_,rfl,out,a + 1,by rw [law]; simp,rfl,rfl,rfl,by omega,hlt⟩
  ·rw [if_neg h1] at law
   repeat' (first | refine zY1 (by omega) ?_ | refine zD (zAo _) ?_ | refine zI (zAG _) ?_ | refine zBN (cX _) ?_ | simp -implicitDefEqProofs (disch := omega) only [g0,g1,zY9,zZk,zYZ,zY4,zYV,hw0,sR,h2,zS,zAx,push_cast,↓reduceIte,Nat.reduceEqDiff,Nat.reduceAdd,Nat.reduceLeDiff,Int.reduceToNat,Int.reduceLE])
   exact hbadL _ _ law
 rw [if_neg h2] at law
 have hfx : zSM opsW (l.getD 0 default) = match opF (l.getD 0 default) with | some k => (k : Int) | none => -1 := rfl
 have cF := fun H => zYy opsW (l.getD 0 default) (by decide) H
 have cW : ∀ H,ACall Tryz.prog 38 [] H fun x H' => x = .sl 1 (opsW.map sR) ∧ H' = H := zMl
 have htl : l.tail = l.drop 1 := List.drop_one.symm
 cases hop : opF (l.getD 0 default) with
 | none =>
  rw [hop] at hfx
  simp only at hfx
  rw [hfx] at cF
  have hno : zAL m u (L.drop a0) = none := by rw [law]; unfold zIP; rw [hh0,hop]; rfl
  repeat' (first | refine zY1 (by omega) ?_ | refine zQ (cW _) rfl ?_ | refine zQ (cF _) rfl ?_ | refine zD (zAo _) ?_ | refine zI (zAG _) ?_ | refine zBN (cX _) ?_ | simp -implicitDefEqProofs (disch := omega) only [g0,g1,zY9,zZk,zYZ,zY4,zYV,hw0,sR,h2,zS,push_cast,↓reduceIte,Nat.reduceEqDiff,Nat.reduceAdd,Nat.reduceLeDiff,Int.reduceToNat,Int.reduceLE,Int.reduceNeg])
  all_goals exact hbadL _ _ hno
 | some op =>
  rw [hop] at hfx
  simp only at hfx
  rw [hfx] at cF
  obtain ⟨hop1,hop2⟩ := zPO hop
  have cO := fun H => zGN op H
  have hA2 : zCE op ≤ 2 := by unfold zCE; split <;> (try split) <;> omega
  by_cases hla : l.length = 1 + zCE op
  rotate_left
  ·have hno : zAL m u (L.drop a0) = none := by
    rw [law]; unfold zIP; rw [hh0,hop]
    simp only
    rw [htl]
    cases hnum : zCa (l.drop 1) with
    | none => rfl
    | some ns =>
     have := zDD hnum
     simp only [zzai] at this
     simp only
     rw [if_neg (by omega)]; rfl
   repeat' (first | refine zY1 (by omega) ?_ | refine zC (cO _) ?_ | refine zQ (cW _) rfl ?_ | refine zQ (cF _) rfl ?_ | refine zD (zAo _) ?_ | refine zI (zAG _) ?_ | refine zBN (cX _) ?_ | simp -implicitDefEqProofs (disch := omega) only [g0,g1,zY9,zZk,zYZ,zY4,zYV,hw0,sR,h2,zS,zAj,zAx,push_cast,↓reduceIte,Nat.reduceEqDiff,Nat.reduceAdd,Nat.reduceLeDiff,Int.reduceToNat,Int.reduceLE])
   all_goals exact hbadL _ _ hno
  have hdp : List.drop 1 (l.map sR) = (l.drop 1).map sR := List.map_drop.symm
  have hdl : (l.drop 1).length ≤ 1048576 := by simp; omega
  have hdw : ∀ w ∈ l.drop 1,w.length ≤ 1048576 := fun w hw => w2 w (zzaa hw)
  have hts : List.take (l.length - 1) ((l.drop 1).map sR) = (l.drop 1).map sR := zZu (by simp)
  repeat' (first | refine zY1 (by omega) ?_ | refine zC (cO _) ?_ | refine zQ (cW _) rfl ?_ | refine zQ (cF _) rfl ?_ | refine zD (zAo _) ?_ | refine zBN (cX _) ?_ | simp -implicitDefEqProofs (disch := omega) only [g0,g1,zY9,zZk,zYZ,zY4,zYV,hw0,sR,h2,hdp,hts,zS,zAj,zAz,push_cast,↓reduceIte,Nat.reduceEqDiff,Nat.reduceAdd,Nat.reduceLeDiff,Int.reduceToNat,Int.reduceLE])
  refine zF (zIF (l.drop 1) hdl hdw _) ?_ ?_
  rotate_left
  ·rintro z H' ⟨hnum,rfl,junk,rfl⟩
   have hno : zAL m u (L.drop a0) = none := by rw [law]; unfold zIP; rw [hh0,hop,htl,hnum]; rfl
   repeat' (simp -implicitDefEqProofs (disch := omega) only [zY9,push_cast])
   all_goals exact hbadL _ _ hno
  rintro x H' ⟨ns,hnum,rfl,rfl⟩
  have hnl := zDD hnum
  have hargs : ns.length = zCE op := by simp only [zzai] at hnl; omega
  have hhead : zIP l = some (op,ns.getD 0 0,ns.getD 1 0) := by unfold zIP; rw [hh0,hop]; simp only; rw [htl,hnum]; simp only; rw [if_pos hargs]
  rw [hhead] at law
  simp only at law
  by_cases h18 : op = 18
  ·subst h18
   have hA : zCE 18 = 0 := rfl
   rw [hA] at hargs
   have hns : ns = [] := zZh.1 hargs
   subst hns
   rw [← hnl]
   rw [if_pos rfl] at law
   simp only [List.getD_nil] at law
   repeat' (simp -implicitDefEqProofs (disch := omega) only [g0,zY9,zZk,zY6,zY7,zZg,zZf,zYZ,zY4,zY3,zzaC,zzbm,zzaE,zzam,push_cast,↓reduceIte,Nat.reduceEqDiff,reduceCtorEq,Nat.reduceAdd,Nat.reduceMul,Nat.reduceLeDiff,Nat.reduceLT,Int.reduceToNat,Int.reduceLT,Int.reduceLE,Int.reduceAdd,zYW])
   refine zF (ih n (by omega) zEt (a + 1) (by decide) (by omega) (by omega) _ 0 1 (by decide) rfl rfl) ?_ ?_
   rotate_left
   ·rintro z H' ⟨o1,o2,rfl,hn1,rfl,⟨b,rfl⟩,rfl⟩
    have hno : zAL m u (L.drop a0) = none := by rw [law,hn1]; rfl
    repeat' (simp -implicitDefEqProofs (disch := omega) only [zZg,zZf,push_cast])
    all_goals exact hbadL _ _ hno
   rintro x H' ⟨o1,o2,rfl,l1,b,hs1,rfl,rfl,rfl,hb1,hb2⟩
   rw [hs1] at law
   simp only at law
   repeat' (simp -implicitDefEqProofs (disch := omega) only [g0,zY9,zZk,zY6,zY7,zZg,zZf,zYZ,zY4,push_cast,↓reduceIte,Nat.reduceEqDiff,reduceCtorEq,Nat.reduceAdd,Nat.reduceLeDiff,zYW])
   refine zF (ih n (by omega) zEe b (by decide) (by omega) hb2 _ 0 1 (by decide) rfl rfl) ?_ ?_
   rotate_left
   ·rintro z H' ⟨o1,o2,rfl,hn1,rfl,⟨b,rfl⟩,rfl⟩
    have hno : zAL m u (L.drop a0) = none := by rw [law,hn1]; rfl
    repeat' (simp -implicitDefEqProofs (disch := omega) only [zZg,zZf,push_cast])
    all_goals exact hbadL _ _ hno
   rintro x H' ⟨o1,o2,rfl,l2,c,hs2,rfl,rfl,rfl,hc1,hc2⟩
   rw [hs2] at law
   simp only at law
   rw [Option.map_map] at law
   have law2 : zAL m u (L.drop a0) = (zAL (m - (k + 1)) u (L.drop c)).map fun p => (out ++ [Ins.mk 18 0 0 l1 l2] ++ p.1,p.2) := by
    rw [law,show m - (k + 1) = n by omega]; congr 1; funext p; simp
   repeat' (first | refine zY1 (by omega) ?_ | simp -implicitDefEqProofs (disch := omega) only [g5,zY9,zZk,zY6,zY7,zZg,zZf,zYZ,zY4,zYV,push_cast,↓reduceIte,Nat.reduceEqDiff,reduceCtorEq,Nat.reduceAdd,Nat.reduceLeDiff,Nat.reduceLT,zYW])
   refine LcI.nx q0 q7 (by omega) hc2 (by omega) ?_ ?_ ?_ law2 (by simp [zAp,zAc])
   ·exact g0
   ·exact g1
   ·rfl
  by_cases h19 : op = 19
  ·subst h19
   have hA : zCE 19 = 0 := rfl
   rw [hA] at hargs
   have hns : ns = [] := zZh.1 hargs
   subst hns
   rw [← hnl]
   rw [if_neg (by decide)] at law
   rw [if_pos rfl] at law
   simp only [List.getD_nil] at law
   repeat' (simp -implicitDefEqProofs (disch := omega) only [g0,zY9,zZk,zY6,zY7,zZg,zZf,zYZ,zY4,zY3,zzaC,zzbm,zzaE,zzam,push_cast,↓reduceIte,Nat.reduceEqDiff,reduceCtorEq,Nat.reduceAdd,Nat.reduceMul,Nat.reduceLeDiff,Nat.reduceLT,Int.reduceToNat,Int.reduceLT,Int.reduceLE,Int.reduceEq,Int.reduceAdd,zYW])
   refine zF (ih n (by omega) wDo (a + 1) (by decide) (by omega) (by omega) _ 0 1 (by decide) rfl rfl) ?_ ?_
   rotate_left
   ·rintro z H' ⟨o1,o2,rfl,hn1,rfl,⟨b,rfl⟩,rfl⟩
    have hno : zAL m u (L.drop a0) = none := by rw [law,hn1]; rfl
    repeat' (simp -implicitDefEqProofs (disch := omega) only [zZg,zZf,push_cast])
    all_goals exact hbadL _ _ hno
   rintro x H' ⟨o1,o2,rfl,l1,b,hs1,rfl,rfl,rfl,hb1,hb2⟩
   rw [hs1] at law
   simp only at law
   repeat' (simp -implicitDefEqProofs (disch := omega) only [g0,zY9,zZk,zY6,zY7,zZg,zZf,zYZ,zY4,push_cast,↓reduceIte,Nat.reduceEqDiff,reduceCtorEq,Nat.reduceAdd,Nat.reduceLeDiff,zYW])
   refine zF (ih n (by omega) zEe b (by decide) (by omega) hb2 _ 0 1 (by decide) rfl rfl) ?_ ?_
   rotate_left
   ·rintro z H' ⟨o1,o2,rfl,hn1,rfl,⟨b,rfl⟩,rfl⟩
    have hno : zAL m u (L.drop a0) = none := by rw [law,hn1]; rfl
    repeat' (simp -implicitDefEqProofs (disch := omega) only [zZg,zZf,push_cast])
    all_goals exact hbadL _ _ hno
   rintro x H' ⟨o1,o2,rfl,l2,c,hs2,rfl,rfl,rfl,hc1,hc2⟩
   rw [hs2] at law
   simp only at law
   rw [Option.map_map] at law
   have law2 : zAL m u (L.drop a0) = (zAL (m - (k + 1)) u (L.drop c)).map fun p => (out ++ [Ins.mk 19 0 0 l2 l1] ++ p.1,p.2) := by
    rw [law,show m - (k + 1) = n by omega]; congr 1; funext p; simp
   repeat' (first | refine zY1 (by omega) ?_ | simp -implicitDefEqProofs (disch := omega) only [g5,zY9,zZk,zY6,zY7,zZg,zZf,zYZ,zY4,zYV,push_cast,↓reduceIte,Nat.reduceEqDiff,reduceCtorEq,Nat.reduceAdd,Nat.reduceLeDiff,Nat.reduceLT,zYW])
   refine LcI.nx q0 q7 (by omega) hc2 (by omega) ?_ ?_ ?_ law2 (by simp [zAp,zAc])
   ·exact g0
   ·exact g1
   ·rfl
  rw [if_neg h18,if_neg h19,Option.map_map] at law
  have law2 : zAL m u (L.drop a0) = (zAL (m - (k + 1)) u (L.drop (a + 1))).map fun p => (out ++ [.mk op (ns.getD 0 0) (ns.getD 1 0) [] []] ++ p.1,p.2) := by
   rw [law,show m - (k + 1) = n by omega]; congr 1; funext p; simp
  rw [← hnl]
  rcases ns with _ | ⟨x,_ | ⟨y,_ | ⟨z,t⟩⟩⟩ <;> try (simp only [zYZ] at hargs; omega)
  all_goals
   simp only [zzaE,zzam,List.getD_nil] at law2
   repeat' (first | refine zY1 (by omega) ?_ | simp -implicitDefEqProofs (disch := omega) only [g5,zY9,zZk,zY6,zY7,zZg,zZf,zYZ,zY4,zY3,zYV,zZG,zzaC,iR,zzaS,zzay,zzbm,zzaE,zzam,zAx,push_cast,↓reduceIte,Nat.reduceEqDiff,reduceCtorEq,Nat.reduceAdd,Nat.reduceMul,Nat.reduceLeDiff,Nat.reduceLT,Int.reduceToNat,Int.reduceLT,Int.reduceLE,Int.reduceAdd,zYW])
   refine LcI.nx q0 q7 (zzbo _) hlt (by omega) ?_ ?_ ?_ law2 (by simp [zAp,zAc])
   ·exact g0
   ·exact g1
   ·rfl
theorem zNY (s : Wd) (c : UInt8) (H : zA) : ACall Tryz.prog 112 [str s,str [c]] H fun x H' => x = int (Lib.indexByte s c) ∧ H' = H := by
 refine ⟨⟨_,Tryz.func112,by kernel_rfl,by kernel_rfl⟩,fun X ρ w vs hrel hargs => ?_⟩
 obtain ⟨a,b,rfl,ha,hb⟩ := zFs hargs
 have ha := zDz ha
 have hb := zDz hb
 subst ha
 subst hb
 refine (Tryz.strings_Index_one (mkS s) c w).mono ?_
 rintro e w' ⟨rfl,rfl⟩
 exact ⟨_,_,H,ρ,rfl,⟨rfl,rfl⟩,hrel,.v _ _,Fut.refl _ _ _⟩
theorem zIm (s : Wd) (c : UInt8) (H : zA) : ACall Tryz.prog 23 [str s,str [c]] H fun x H' => x = .fn (.func 110) [] [.ptr (H.length + 1) 0 0,.ptr H.length 0 0,.ptr (H.length + 2) 0 0] ∧ H' = H ++ [.box [str s],.box [str [c]],.box [int 0]] := by
 have h2 : ACall Tryz.prog 55 [str s,str [c],int 0] H fun x H' => x = .fn (.func 110) [] [.ptr (H.length + 1) 0 0,.ptr H.length 0 0,.ptr (H.length + 2) 0 0] ∧ H' = H ++ [.box [str s],.box [str [c]],.box [int 0]] := by
  refine enter Tryz.func55 L55_ok (zY0 rfl) ?_
  repeat' (simp -implicitDefEqProofs (disch := omega) only [L55,push_cast,↓reduceIte,Nat.reduceEqDiff,reduceCtorEq,Nat.reduceAdd,zYW])
 refine enter Tryz.func23 L23_ok (zY0 rfl) ?_
 repeat' (first | refine zBN (h2) ?_ | simp -implicitDefEqProofs (disch := omega) only [L23,push_cast,↓reduceIte,Nat.reduceEqDiff,reduceCtorEq,Nat.reduceAdd])
theorem idxB : ∀ (s : Wd) (c : UInt8),(Lib.indexByte s c = -1 ∧ c ∉ s) ∨ ∃ w t,s = w ++ c :: t ∧ c ∉ w ∧ Lib.indexByte s c = w.length
 | [],c => .inl ⟨rfl,by simp⟩
 | b :: s,c => by
  by_cases h : b = c
  ·subst h; exact .inr ⟨[],s,rfl,by simp,by simp [Lib.indexByte]⟩
  ·have hb : (b == c) = false := beq_false_of_ne h
   rcases idxB s c with ⟨h1,h2⟩ | ⟨w,t,rfl,h2,h3⟩
   ·exact .inl ⟨by simp [Lib.indexByte,hb,h1],by simp [h2]; exact fun e => h e.symm⟩
   ·refine .inr ⟨b :: w,t,rfl,by simp [h2]; exact fun e => h e.symm,?_⟩
    unfold Lib.indexByte
    rw [hb,h3]
    have : ((w.length : Int) == -1) = false := beq_false_of_ne (by omega)
    rw [this]; simp
theorem zQF (c : UInt8) (l bs bp bv N : Nat) (J : List Wd → Wd → zA → Prop) (hl : bs ≠ bp ∧ bs ≠ bv ∧ bp ≠ bv) (h1 : ∀ ps t G,J ps t G → G[bs]? = some (.box [str t]) ∧ G[bp]? = some (.box [str [c]]) ∧ G[bv]? = some (.box [int 0]))
  (h2 : ∀ ps t t' G,J ps t G → J ps t' (G.set bs (.box [str t']))) (h3 : ∀ ps p t G,ps.length < N → p.length ≤ 1048576 → J ps t G → AYield Tryz.prog l [str p] G fun x G' => x = bool true ∧ J (ps ++ [p]) t G') (ps : List Wd) (s : Wd) (hs : s.length ≤ 1048576) (hN : (ps ++ spB c s).length ≤ N) (G : zA) (hG : J ps s G) :
  ACall Tryz.prog 110 [.v (.func (.yield l) #[] #[]),.ptr bp 0 0,.ptr bs 0 0,.ptr bv 0 0] G fun _ G' => ∃ t,J (ps ++ spB c s) t G' := by
 refine enter Tryz.func110 L110_ok (zY0 rfl) ?_
 obtain ⟨g1,g2,g3⟩ := h1 _ _ _ hG
 repeat' (simp -implicitDefEqProofs (disch := omega) only [L110,g2,push_cast,↓reduceIte,reduceCtorEq,Nat.reduceAdd,Nat.reduceLeDiff,Int.reduceEq,Int.reduceAdd])
 refine zAd (fun (st : List Wd × Wd) e' G' => e' 0 = .v (.func (.yield l) #[] #[]) ∧ e' 1 = .ptr bp 0 0 ∧ e' 2 = .ptr bs 0 0 ∧ e' 3 = .ptr bv 0 0 ∧ J st.1 st.2 G' ∧ st.1 ++ spB c st.2 = ps ++ spB c s ∧ st.2.length ≤ s.length) (fun st => st.2.length) (ps,s) ?_ ?_
 ·exact ⟨rfl,rfl,rfl,rfl,hG,rfl,zZa _⟩
 clear g1 g2 g3
 rintro ⟨qs,t⟩ e' G' ⟨f0,f1,f2,f3,hJ,hsp,hle⟩
 simp only at hJ hsp hle
 obtain ⟨g1,g2,g3⟩ := h1 _ _ _ hJ
 have hbs := (zYU.1 g1).1
 have cI := fun H => zNY t c H
 have hqN : qs.length < N := by
  rw [← hsp,zY3] at hN
  have := List.length_pos_iff.2 (zMB c t)
  omega
 rcases idxB t c with ⟨hi,hn⟩ | ⟨w,t',rfl,hn,hi⟩
 ·rw [hi] at cI
  repeat' (first | refine zC (cI _) ?_ | simp -implicitDefEqProofs (disch := omega) only [f0,f1,f2,g1,g2,push_cast,↓reduceIte,Nat.reduceEqDiff,reduceCtorEq,Nat.reduceAdd,Nat.reduceLeDiff,Int.reduceLT,Int.reduceNeg])
  refine zHc (h3 qs t t _ hqN (by omega) hJ) ?_
  rintro y H' ⟨rfl,hJ2⟩
  repeat' (simp -implicitDefEqProofs (disch := omega) only [push_cast,Int.reduceNeg])
  exact ⟨by simp [zAA],t,by rw [← hsp,zHp hn]; exact hJ2⟩
 ·rw [hi] at cI
  rw [zFr hn] at hsp
  have hle2 : w.length + (t'.length + 1) ≤ s.length := by simpa using hle
  have htk : List.take w.length (w ++ c :: t') = w := zzbu rfl
  repeat' (first | refine zY1 (by omega) ?_ | refine zC (cI _) ?_ | simp -implicitDefEqProofs (disch := omega) only [f0,f1,f2,f3,g1,g2,g3,Int.add_zero,zZ2,zzaK,htk,zAQ,push_cast,↓reduceIte,Nat.reduceEqDiff,reduceCtorEq,Nat.reduceAdd,Nat.reduceLeDiff,Int.reduceToNat,Int.reduceLE])
  refine zHc (h3 qs w _ _ hqN (by omega) hJ) ?_
  rintro y H' ⟨rfl,hJ2⟩
  obtain ⟨g1,g2,g3⟩ := h1 _ _ _ hJ2
  repeat' (first | refine zY1 (by omega) ?_ | simp -implicitDefEqProofs (disch := omega) only [f1,f2,g1,g2,zY3,zYZ,push_cast,↓reduceIte,Nat.reduceEqDiff,Nat.reduceAdd,Nat.reduceLeDiff,Int.reduceAdd,zYW])
  refine .mk (qs ++ [w],t') ⟨f0,f1,f2,f3,?_,by rw [← hsp]; simp,by simp only; omega⟩ (by simp only [zY3,zYZ]; omega)
  have hdr : List.take (((w.length : Int) + (t'.length + 1)).toNat - (w.length + 1)) (List.drop (w.length + 1) (w ++ c :: t')) = t' := by
   rw [List.drop_append,zzaI (by omega),show w.length + 1 - w.length = 1 by omega]
   exact zZu (by simp; omega)
  rw [hdr]
  exact h2 _ _ _ _ hJ2
end Go.Proofs.YtbibhcmcjldhdaaGreatDoor
namespace Go.Ax
open Go Go.RowKit
set_option linter.unusedSimpArgs false
set_option linter.unusedVariables false
section
variable {P : Program} {w w0 w1 : World} {X : Nat → Prop} {ρ ρ0 ρ1 : Nat → Loc} {H H1 : zA} {e e1 : Env} {a a1 : Act} {n n0 : Nat}
def zXK : Option Nat → zA → Prop
 | none,_ => True
 | some l0,H => ∃ (r : Nat) (lr : Go.Loop) (e : Env) (st : zRp),H[r]? = some (HO.lp l0 lr e st)
def zEb (P : Program) : Option Nat → LCode → Env → zA → (Out → Env → zA → Prop) → Prop
 | rd,.seq a b,e,H,K => zEb P rd a e H fun o e' H' => match o with | .normal => zEb P rd b e' H' K | o => K o e' H'
 | rd,.block id c,e,H,K => zEb P rd c e H fun o e' H' => match o with | .exit j => if j = id then K .normal e' H' else K (.exit j) e' H' | o => K o e' H'
 | rd,.range g ps la lb,e,H,K => zXK rd H ∧ match ev e g with
  | .fn (.func k) first caps => ∀ (l : Nat) (lr : Go.Loop),
    (∀ (args : List AV) (H1 : zA) (r : Nat) (R : AV → zA → Prop),args.length = ps.length → H1[r]? = some (.lp l lr e .ready) →
     (awp P la (upL e ps args) H1 fun o e1 H2 => match o with
      | .normal => H2[r]? = some (.lp l lr e .ready) ∧ zEb P (some l) lb e1 (H2.set r (.lp l lr e .busy)) (zQG l lr e r R)
      | _ => False) → AYield P l args H1 R) →
    ACall P k (first ++ [.v (.func (.yield l) #[] #[])] ++ caps) (H ++ [.lp l lr e .ready]) fun _ H' => ∃ st,H'[H.length]? = some (.lp l lr e st) ∧ zLC st fun o => K o e (H'.set H.length .dead)
  | _ => False
 | _,c,e,H,K => awp P c e H K
theorem zOD : ∀ (c : LCode) {rd : Option Nat} {e : Env} {H : zA} {K K' : Out → Env → zA → Prop},zEb P rd c e H K → (∀ o e' H',K o e' H' → K' o e' H') → zEb P rd c e H K' := by
 intro c
 induction c with
 | seq a b iha ihb =>
  intro rd e H K K' h hK
  refine iha h fun o e' H' hh => ?_
  cases o with
  | normal => exact ihb hh hK
  | _ => exact hK _ _ _ hh
 | block id c ih =>
  intro rd e H K K' h hK
  refine ih h fun o e' H' hh => ?_
  cases o with
  | exit j =>
   simp only at hh ⊢
   split
   ·rename_i hj; rw [if_pos hj] at hh; exact hK _ _ _ hh
   ·rename_i hj; rw [if_neg hj] at hh; exact hK _ _ _ hh
  | _ => exact hK _ _ _ hh
 | range g ps la lb _ _ =>
  intro rd e H K K' h hK
  simp only [zEb] at h ⊢
  refine ⟨h.1,?_⟩
  have h := h.2
  split at h
  ·intro l lr hy
   exact (h l lr hy).mono fun x H' ⟨st,h1,h2⟩ => ⟨st,h1,zGS h2 fun o => hK _ _ _⟩
  ·exact h.elim
 | _ => intro rd e H K K' h hK; exact zDr h hK
theorem zOC : ∀ (c : LCode) {rd : Option Nat} {e : Env} {H : zA} {K : Out → Env → zA → Prop},nr c = true → awp P c e H K → zEb P rd c e H K := by
 intro c
 induction c with
 | seq a b iha ihb =>
  intro rd e H K hn h
  simp only [nr,zYX] at hn
  refine zOD a (iha hn.1 h) fun o e' H' hh => ?_
  cases o with
  | normal => exact ihb hn.2 hh
  | _ => exact hh
 | block id c ih =>
  intro rd e H K hn h
  simp only [nr] at hn
  exact ih hn h
 | range g ps la lb _ _ => intro rd e H K hn; simp [nr] at hn
 | _ => intro rd e H K hn h; exact h
theorem zS9 : ∀ (c : LCode) {rd : Option Nat} {e : Env} {H : zA} {K : Out → Env → zA → Prop},nr c = true → zEb P rd c e H K → awp P c e H K := by
 intro c
 induction c with
 | seq a b iha ihb =>
  intro rd e H K hn h
  simp only [nr,zYX] at hn
  have h2 := iha (K := fun o e' H' => match o with | .normal => zEb P rd b e' H' K | o => K o e' H') hn.1 h
  show awp P a e H (fun o e' H' => match o with | .normal => awp P b e' H' K | o => K o e' H')
  refine zDr h2 fun o e' H' hh => ?_
  cases o with
  | normal => exact ihb hn.2 hh
  | _ => exact hh
 | block id c ih =>
  intro rd e H K hn h
  simp only [nr] at hn
  exact ih hn h
 | range g ps la lb _ _ => intro rd e H K hn; simp [nr] at hn
 | _ => intro rd e H K hn h; exact h
theorem zYp {hs : List Hn} {c : Code} (hc : zFk P n hs c = (match zEq P n hs c with | some lc => if nr lc = true then some lc else none | none => none)) {B : DB} {rd : Option Nat} {m0 : Nat} {lc : LCode} {K : Out → Env → zA → Prop} {Q : Exit → Act → World → Prop} (hl : zFk P n hs c = some lc) (h : zEb P rd lc e H K) (hst : St B X w0 ρ0 n0 n e H a w) (hQ : ∀ o e' H' a' w',K o e' H' → St B X w0 ρ0 n0 n e' H' a' w' → Q (zUR o) a' w') : c.wpIn (WR rd) m0 P Q a w := by
 rw [hc] at hl
 cases hlc : zEq P n hs c with
 | none => rw [hlc] at hl; cases hl
 | some l =>
  rw [hlc] at hl
  simp only at hl
  split at hl
  ·rename_i hn
   cases hl
   exact zBY c hlc (.inr hn) (zS9 _ hn h) hst hQ
  ·cases hl
theorem zJ2 {hs : List Hn} : ∀ (c : Code) {B : DB} {X : Nat → Prop} {w0 : World} {ρ0 : Nat → Loc} {n0 : Nat} {rd : Option Nat} {m0 : Nat} {lc : LCode} {e : Env} {H : zA} {a : Act} {w : World} {K : Out → Env → zA → Prop} {Q : Exit → Act → World → Prop},zFk P n hs c = some lc → B.ok → zEb P rd lc e H K → St B X w0 ρ0 n0 n e H a w →
  (∀ o e' H' a' w',K o e' H' → St B X w0 ρ0 n0 n e' H' a' w' → Q (zUR o) a' w') → c.wpIn (WR rd) m0 P Q a w := by
 intro c
 induction c with
 | seq x y ihx ihy =>
  intro B X w0 ρ0 n0 rd m0 lc e H a w K Q hl hB h hst hQ
  simp only [zFk] at hl
  split at hl
  ·rename_i la lb h1 h2
   simp only [zYT] at hl
   subst hl
   refine wpIn_seq (ihx h1 hB h hst fun o e' H' a' w' hk hs' => ?_)
   cases o with
   | normal => exact ihy h2 hB hk hs' hQ
   | exit id => exact hQ (.exit id) _ _ _ _ hk hs'
   | ret => exact hQ .ret _ _ _ _ hk hs'
   | pan v => exact hQ (.pan v) _ _ _ _ hk hs'
  ·cases hl
 | block id c ih =>
  intro B X w0 ρ0 n0 rd m0 lc e H a w K Q hl hB h hst hQ
  simp only [zFk] at hl
  obtain ⟨lb,h1,rfl⟩ := zAe hl
  refine wpIn_block (ih h1 hB h hst fun o e' H' a' w' hk hs' => ?_)
  cases o with
  | normal => exact hQ .normal _ _ _ _ hk hs'
  | exit j =>
   simp only at hk
   simp only [zUR,Exit.inBlock]
   split
   ·rename_i hj; rw [if_pos hj] at hk; exact hQ .normal _ _ _ _ hk hs'
   ·rename_i hj; rw [if_neg hj] at hk; exact hQ (.exit j) _ _ _ _ hk hs'
  | ret => exact hQ .ret _ _ _ _ hk hs'
  | pan v => exact hQ (.pan v) _ _ _ _ hk hs'
 | rangeFunc g ps asg bdy iha ihb =>
  intro B X w0 ρ0 n0 rd m0 lc e H a w K Q hl hB h hst hQ
  simp only [zFk] at hl
  split at hl
  ·rename_i g' la lb hg ha hb
   split at hl
   ·rename_i hc
    simp only [zYX,zZb,zY5] at hc
    obtain ⟨nra,hps⟩ := hc
    simp only [zYT] at hl
    subst hl
    simp only [zEb] at h
    obtain ⟨hrd,h⟩ := h
    obtain ⟨hn,ρ,hrel,he,hf,hm⟩ := hst
    have rf := zV he hg
    split at h
    ·rename_i k first caps hev
     rw [hev] at rf
     generalize hfe : a.eval g = fv at rf
     cases rf with
     | fn _ _ _ _ fs us h1 h2 h3 h4 =>
      refine wpIn_rangeFunc fun fn _ => ?_
      have hY : ∀ (l : Nat) (lr : Go.Loop),(lr.state = .ready ∧ lr.pending = none) → (lr.tmps = a.tmps ∧ lr.params = ps) → lr.assign = asg → lr.body = bdy → ∀ (args : List AV) (H1 : zA) (r : Nat) (R : AV → zA → Prop),args.length = ps.toList.length → H1[r]? = some (.lp l lr e .ready) →
        (awp P la (upL e ps.toList args) H1 fun o e1 H2 => match o with
         | .normal => H2[r]? = some (.lp l lr e .ready) ∧ zEb P (some l) lb e1 (H2.set r (.lp l lr e .busy)) (zQG l lr e r R)
         | _ => False) → AYield P l args H1 R := by
       intro l lr hl12 hl34 l5 l6 args H1 r R hal hr1 hrun X' ρ' w' vs hrel' hargs'
       obtain ⟨l1,l2⟩ := hl12
       obtain ⟨l3,l4⟩ := hl34
       obtain ⟨_,_,q3,q4⟩ := hrel'.objs r _ hr1
       have q3' : w'.heap[l]? = some (.loop lr) := q3
       refine ⟨lr.fn,_,lr.assign,lr.body,run_yield q3' (by rw [← hargs'.1,hal,l4]; simp),roundIn_of_wpIn trivial ?_⟩
       rw [l5,l6,l3,l4,← zzaG,Array.toList_zip]
       obtain ⟨u1,u2⟩ := zJo (w := w') (M := Mut X' ρ' H1.length) (ρ := ρ') (k := H1.length) (N := n) (e := e) (tmps := a.tmps) ps.toList args vs.toList (by simpa using hargs'.1) hal hn (fun p hp => hps p hp)
        (fun t ht => q4 t _ (by rw [l3]; simp [zZq,hn,ht])) (fun i x u hx hu => hargs'.2 i x u hx (by simpa using hu))
       refine zBY (B := ⟨[],True⟩) (X := X') (w0 := w') (ρ0 := ρ') (n0 := H1.length) (rd := some l) asg ha (.inr nra) hrun ⟨u1,ρ',hrel',u2,Fut.refl _ _ _,Mk.nil⟩ ?_
       intro o e1 H2 a1 w1' hk hs1
       cases o with
       | normal =>
        obtain ⟨hr2,hk2⟩ := hk
        obtain ⟨s1,ρ2,s2,s3,s4,s5⟩ := hs1
        have q5 : w1'.heap[l]? = some (.loop lr) := (s2.objs r _ hr2).2.2.1
        obtain ⟨ρ3,t2,t3⟩ := s2.setLp .busy hr2
        refine ⟨_,run_beginRound q5 l1,ihb (B := ⟨[],True⟩) (X := X') (w0 := w') (ρ0 := ρ') (n0 := H1.length) (rd := some l) hb trivial hk2 ⟨s1,ρ3,t2,fun t ht => (s3 t ht).nextN t3,s4.trans t3,s5.fut t3⟩ ?_⟩
        intro o e2 H3 a2 w2' hk3 hs3
        obtain ⟨hr3,hR⟩ := hk3
        obtain ⟨_,ρ4,v2,_,v4,_⟩ := hs3
        have q6 : w2'.heap[l]? = some (.loop (zCk lr .busy)) := (v2.objs r _ hr3).2.2.1
        cases o with
        | normal =>
         obtain ⟨ρ5,x2,x3⟩ := v2.setLp .ready hr3
         have hrec : ({ zCk lr .busy with state := if (none : Option Code).isNone then LoopState.ready else .done,pending := none } : Go.Loop) = zCk lr .ready := by
          cases lr; simp only at l1 l2; subst l1; subst l2; rfl
         refine ⟨_,_,run_endRound none q6,?_⟩
         rw [hrec]
         exact ⟨_,bool true,_,ρ5,rfl,hR,x2,.v _ _,v4.trans x3⟩
        | exit id =>
         obtain ⟨ρ5,x2,x3⟩ := v2.setLp (.done (some id)) hr3
         exact ⟨_,_,run_endRound (some (.exit id)) q6,_,bool false,_,ρ5,rfl,hR,x2,.v _ _,v4.trans x3⟩
        | ret =>
         obtain ⟨ρ5,x2,x3⟩ := v2.setLp (.done none) hr3
         exact ⟨_,_,run_endRound (some .ret) q6,_,bool false,_,ρ5,rfl,hR,x2,.v _ _,v4.trans x3⟩
        | pan v => exact hR.elim
       | exit id => exact hk.elim
       | ret => exact hk.elim
       | pan v => exact hk.elim
      have go : ∀ (l : Nat) (lr : Go.Loop) (ms : List Deferred) (w1 : World) (ρ1 : Nat → Loc),(lr.state = .ready ∧ lr.pending = none) → (lr.tmps = a.tmps ∧ lr.params = ps) → lr.assign = asg → lr.body = bdy →
        (Instr.enterLoop fn a.tmps ps asg bdy (WR rd).round).run P w = .ok (l,ms) w1 → HRel w1 X ρ1 (H ++ [HO.lp l lr e .ready]) → Fut w ρ H.length w1 ρ1 (H ++ [HO.lp l lr e .ready]).length → Mk B w0 w1 ρ1 (H ++ [HO.lp l lr e .ready]).length (ms ++ a.defers) →
        ∃ (l : Nat) (zKC : List Deferred) (w₁ : World) (d : Deferred) (w₁' : World) (f : FuncId) (args : Array Value) (w₂ : World),
         (Instr.enterLoop fn a.tmps ps asg bdy (WR rd).round).run P w = .ok (l,zKC) w₁ ∧ (resolve a.eval (rangeCall g l) 0).run P w₁ = .ok d w₁' ∧ (∀ f',Target.leads P w₁' d.target d.args = some f' → (WR rd).fn f') ∧
         (invoke d.target d.args).run P w₁' = .ok (.enter f args) w₂ ∧ ((WR rd).depth.isSome = true → 1 ≤ m0) ∧ CallsIn (WR rd) (m0 - 1) P f args w₂ (rangePost (WR rd) m0 P l Q { a with defers := zKC ++ a.defers }) := by
       intro l lr ms w1 ρ1 hl12 hl34 l5 l6 hent p2 hfw hmk
       obtain ⟨⟨fn',hfn,hbody,hname⟩,hcall⟩ := h l lr (hY l lr hl12 hl34 l5 l6)
       obtain ⟨l1,l2⟩ := hl12
       refine ⟨l,ms,w1,{ target := .fn (.func k) us,args := fs ++ #[.func (.yield l) #[] #[]] },w1,k,fs ++ #[.func (.yield l) #[] #[]] ++ us,w1,hent,?_,?_,?_,zEr,?_⟩
       ·simp only [resolve,hfe,Deferred.ofValue,Sem.run_bind,Sem.run_pure,Result.andThen_ok]
        simp [Act.eval]
       ·intro f' _; trivial
       ·simp only [Sem.run_bind,Sem.run_pure,Result.andThen_ok,invoke,callFunc,run_program,hfn,hname,zZn,if_false,hbody]
       ·refine zD3 ((hcall X ρ1 w1 _ p2 ⟨by simp [h1,h2]; omega,?_⟩).mono ?_)
        ·intro i x u hx hu
         rw [zZx,zZC] at hx
         rw [zzaH,zZD] at hu
         by_cases hi : i < first.length
         ·rw [if_pos hi] at hx
          rw [if_pos (by omega)] at hu
          exact (h3 i x u hx hu).nextN hfw
         ·rw [if_neg hi,zZC] at hx
          rw [if_neg (by omega),zZD] at hu
          by_cases hj : i - first.length < 1
          ·rw [if_pos (by simpa using hj)] at hx
           rw [if_pos (by simp; omega)] at hu
           have e1 : i - first.length = 0 := by omega
           have e2 : i - fs.size = 0 := by omega
           rw [e1] at hx
           rw [e2] at hu
           simp at hx hu
           subst hx; subst hu
           exact .v _ _
          ·rw [if_neg (by simpa using hj)] at hx
           rw [if_neg (by simp; omega)] at hu
           simp only [zYZ,zY4,zzbk] at hx hu
           exact (h4 (i - first.length - 1) x u hx (by rw [← h1] at hu; exact hu)).nextN hfw
        ·rintro en w3 ⟨v,x,H',ρ',rfl,⟨st,hst1,hout⟩,g1,g2,g3⟩
         have q7 : w3.heap[l]? = some (.loop (zCk lr st)) := (g1.objs _ _ hst1).2.2.1
         obtain ⟨ρ4,g4,g5⟩ := g1.setDead (.loop { zCk lr st with state := .exhausted }) hst1
         have hfut := hfw.trans (g3.trans g5)
         have hSt : St B X w0 ρ0 n0 n e (H'.set H.length .dead) { a with defers := ms ++ a.defers } (w3.putObj l (.loop { zCk lr st with state := .exhausted })) :=
          ⟨hn,ρ4,g4,fun t ht => (he t ht).nextN hfut,hf.trans hfut,hmk.fut (g3.trans g5)⟩
         cases st with
         | ready => exact ⟨_,_,run_endLoop q7 (by show lr.state ≠ _; rw [l1]; simp),by show (match lr.pending with | none => _ | some c => _); rw [l2]; exact hQ .normal _ _ _ _ hout hSt⟩
         | busy => exact hout.elim
         | done o =>
          cases o with
          | none => exact ⟨_,_,run_endLoop q7 (by simp [zCk]),wpIn_ret (hQ .ret _ _ _ _ hout hSt)⟩
          | some id => exact ⟨_,_,run_endLoop q7 (by simp [zCk]),wpIn_exit (hQ (.exit id) _ _ _ _ hout hSt)⟩
      cases rd with
      | some l0 =>
       obtain ⟨r0,lr0,e00,st0,hr0⟩ := hrd
       have hl0 : w.heap[l0]? = some (.loop (zCk lr0 st0)) := (hrel.objs r0 _ hr0).2.2.1
       obtain ⟨lr,hlr⟩ : ∃ lr : Go.Loop,lr = { state := .ready,pending := none,fn,tmps := a.tmps,params := ps,assign := asg,body := bdy,defers := (zCk lr0 st0).defers } := ⟨_,rfl⟩
       have l3 : lr.tmps = a.tmps := by subst hlr; rfl
       obtain ⟨ρ1,p1,p2,p3⟩ := hrel.push (w' := w.alloc (.loop lr)) { blk := some (w.heap.size,0) } (.lp w.heap.size lr e .ready) (Same.alloc _ _) (fun b o hbl => by simp at hbl; obtain ⟨rfl,_⟩ := hbl; simp) (zAN _ _)
        (fun ρ' hf' hl' => ⟨rfl,rfl,World.alloc_heap_new w (.loop lr),fun t u hu => by
         rw [l3] at hu
         have htl : t < n := by rw [← hn]; exact (zY8.1 hu).1
         have := he t htl
         rw [show a.tmps.getD t undef = u by simp [zZq,hu]] at this
         exact this.nextN hf'⟩)
       exact go w.heap.size lr [] _ ρ1 (by subst hlr; exact ⟨rfl,rfl⟩) (by subst hlr; exact ⟨rfl,rfl⟩) (by subst hlr; rfl) (by subst hlr; rfl) (by rw [hlr]; exact run_enterLoop_inner hl0 _ _ _ _ _) p2 p3 (by rw [zZk]; exact hm.fut p3)
      | none =>
       obtain ⟨lr,hlr⟩ : ∃ lr : Go.Loop,lr = { state := .ready,pending := none,fn,tmps := a.tmps,params := ps,assign := asg,body := bdy,defers := w.heap.size } := ⟨_,rfl⟩
       have l3 : lr.tmps = a.tmps := by subst hlr; rfl
       obtain ⟨w1,hw1⟩ : ∃ w1,(w.alloc (.deferred (some []))).alloc (.loop lr) = w1 := ⟨_,rfl⟩
       obtain ⟨a1,a2⟩ := hrel.more (Same.alloc w (.deferred (some []))) (zAN w _)
       obtain ⟨ρ1,p1,p2,p3⟩ := a1.push (w' := w1) { blk := some (w.heap.size + 1,0) } (.lp (w.heap.size + 1) lr e .ready) (by rw [← hw1]; exact Same.alloc _ _) (fun b o hbl => by simp at hbl; obtain ⟨rfl,_⟩ := hbl; rw [← hw1]; simp) (by rw [← hw1]; exact zAN _ _)
        (fun ρ' hf' hl' => ⟨rfl,rfl,by rw [← hw1]; have := World.alloc_heap_new (w.alloc (.deferred (some []))) (.loop lr); rwa [World.size_alloc] at this,fun t u hu => by
         rw [l3] at hu
         have htl : t < n := by rw [← hn]; exact (zY8.1 hu).1
         have := he t htl
         rw [show a.tmps.getD t undef = u by simp [zZq,hu]] at this
         exact (this.nextN a2).nextN hf'⟩)
       have hfw := a2.trans p3
       have hD1 : w1.heap[w.heap.size]? = some (.deferred (some [])) := by rw [← hw1]; exact (Below.heap_alloc _ _ _ (by simp)).trans (World.alloc_heap_new w _)
       have hDs : w.heap.size < w1.heap.size := by rw [← hw1]; simp; omega
       have hDo : ¬ Own ρ1 (H ++ [HO.lp (w.heap.size + 1) lr e .ready]).length w.heap.size := by
        rintro ⟨r,o,hr,hbl⟩
        by_cases hrl : r = H.length
        ·subst hrl; rw [p1] at hbl; simp at hbl
        ·have hr' : r < H.length := by simp at hr; omega
         rcases p3.loc r hr' with h' | h'
         ·rw [h'] at hbl
          have := (hrel.lt r _ _ hr' hbl).1
          omega
         ·rcases p3.own _ ⟨r,o,hr,hbl⟩ with ⟨r',o',hr2,hbl2⟩ | h'
          ·have := (hrel.lt r' _ _ hr2 hbl2).1; omega
          ·rw [World.size_alloc] at h'; omega
       have hmk : Mk B w0 w1 ρ1 (H ++ [HO.lp (w.heap.size + 1) lr e .ready]).length (zKC w.heap.size :: a.defers) := by
        obtain ⟨ds,d1,d0,d2,d3⟩ := hm.fut hfw
        obtain ⟨ds',d1',d0',d2',d3'⟩ := hm
        have hdd : ds = ds' := by
         rw [d1] at d1'
         replace d1' := zzbn d1'
         clear d2 d3 d2' d3' d1 d0 d0'
         induction ds generalizing ds' with
         | nil => cases ds' with
          | nil => rfl
          | cons _ _ => simp at d1'
         | cons D ds ih => cases ds' with
          | nil => simp at d1'
          | cons D' ds' => simp [zKC] at d1'; rw [d1'.1,ih ds' (by simpa [zKC] using d1'.2)]
        subst hdd
        refine ⟨w.heap.size :: ds,by rw [zZG,zY9,d1],.inl hB,zzaU.2 ⟨fun hin => ?_,d2⟩,fun D hD => ?_⟩
        ·have := (d3' _ hin).2.1; omega
        ·rcases zZr.1 hD with rfl | hD
         ·exact ⟨hf.size,hDs,hDo,hD1⟩
         ·exact d3 D hD
       exact go (w.heap.size + 1) lr [zKC w.heap.size] w1 ρ1 (by subst hlr; exact ⟨rfl,rfl⟩) (by subst hlr; exact ⟨rfl,rfl⟩) (by subst hlr; rfl) (by subst hlr; rfl) (by rw [← hw1,hlr]; exact run_enterLoop_outer _ _ _ _ _) p2 hfw hmk
    ·exact h.elim
   ·cases hl
  ·cases hl
 | _ => intro B X w0 ρ0 n0 rd m0 lc e H a w K Q hl hB h hst hQ; exact zYp rfl hl h hst hQ
def zRq (P : Program) (res : List RV) (R : AV → zA → Prop) : LD → Env → zA → Prop
 | .seq a b,e,H => zU P [.code a] (fun o e' H' => o = .normal ∧ zRq P res R b e' H') .normal e H
 | .cut los f args body,e,H => zU P [.ops los] (fun o e1 H1 => o = .normal ∧ ∃ k first caps,ev e1 f = .fn (.func k) first caps ∧ zFl P k ∧ zEb P none body e1 H1 (zEw P res R k (first ++ args.map (ev e1) ++ caps))) .normal e H
@[push_cast] theorem zV6 (res : List RV) (R : AV → zA → Prop) (a : LCode) (b : LD) : zRq P res R (.seq a b) e H = zU P [.code a] (fun o e' H' => o = .normal ∧ zRq P res R b e' H') .normal e H := rfl
@[push_cast] theorem zV7 (res : List RV) (R : AV → zA → Prop) (los : List LO) (f : LX) (args : List LX) (body : LCode) : zRq P res R (.cut los f args body) e H = zU P [.ops los] (fun o e1 H1 => o = .normal ∧ ∃ k first caps,ev e1 f = .fn (.func k) first caps ∧ zFl P k ∧ zEb P none body e1 H1 (zEw P res R k (first ++ args.map (ev e1) ++ caps))) .normal e H := rfl
theorem zJN {fn : Func} {hs : List Hn} {rs : List RV} {R : AV → zA → Prop} (hr : zEj P n fn.results.toList = some rs) : ∀ (c : Code) (ld : LD) (e : Env) (H : zA) (a : Act) (w : World),zPV P n hs c = some ld → zRq P rs R ld e H → St ⟨[],True⟩ X w0 ρ0 n0 n e H a w →
  c.wpIn (WR none) 0 P (bodyPostM Fence.wide 0 P fn fun en w' => ∃ v x H' ρ',en = .returned v ∧ R x H' ∧ HRel w' X ρ' H' ∧ Rep w' (Mut X ρ' H'.length) ρ' H'.length x v ∧ Fut w0 ρ0 n0 w' ρ' H'.length) a w := by
 intro c
 induction c with
 | seq x y ihx ihy =>
  intro ld e H a w hl h hst
  unfold zPV at hl
  split at hl
  ·rename_i p hp
   obtain ⟨los,f,args⟩ := p
   cases hb : zFk P n hs y with
   | none => rw [hb] at hl; cases hl
   | some body =>
    rw [hb,zZt,zYT] at hl
    subst hl
    unfold zQm at hp
    split at hp
    ·rename_i id ops
     have h : zAi P los e H fun e1 H1 => (Out.normal = .normal ∧ ∃ k first caps,ev e1 f = .fn (.func k) first caps ∧ zFl P k ∧ zEb P none body e1 H1 (zEw P rs R k (first ++ args.map (ev e1) ++ caps))) := h
     have h : zAi P los e H fun e1 H1 => ∃ k first caps,ev e1 f = .fn (.func k) first caps ∧ zFl P k ∧ (fun k dargs e1 H1 => zEb P none body e1 H1 (zEw P rs R k dargs)) k (first ++ args.map (ev e1) ++ caps) e1 H1 := zBl h fun _ _ hh => hh.2
     refine wpIn_seq (wpIn_region_list (zEV (K := fun k dargs e1 H1 => zEb P none body e1 H1 (zEw P rs R k dargs)) (fun k dargs e1 H1 a1 w1 ρ1 d vs hK hn1 hrel1 he1 hf1 hmk1 hrl1 htar hinv => ?_) ops.toList los f args e H a w hp h hst))
     refine zJ2 (B := ⟨d :: a1.defers,True⟩) (X := X) (w0 := w1) (ρ0 := ρ1) (n0 := H1.length) (rd := none) (m0 := 0) (H := H1) (e := e1) y hb trivial hK ⟨hn1,ρ1,hrel1,he1,Fut.refl _ _ _,Mk.nil⟩ ?_
     intro o e' H' a' w' hk hst'
     obtain ⟨hn,ρ',g1,g2,g3,ds,d1,_,d2,d3⟩ := hst'
     obtain ⟨f1,f2,f3⟩ := zDW ds d2 (fun D hD => ⟨(d3 D hD).1,(d3 D hD).2.2.2⟩) g1 g2 g3
     obtain ⟨fv,cap,htar⟩ := htar
     have go : ∀ m : Option Value,(zQx P k dargs m H' fun H'' => (zAA e' H'' rs).ok ∧ R (zAA e' H'' rs).x H'') → LeavesInM Fence.wide 0 P fn a'.tmps (fun en w' => ∃ v x H' ρ',en = .returned v ∧ R x H' ∧ HRel w' X ρ' H' ∧ Rep w' (Mut X ρ' H'.length) ρ' H'.length x v ∧ Fut w0 ρ0 n0 w' ρ' H'.length) a'.defers (zQ3 m) w' := by
      intro m hd
      rw [d1]
      refine zBj (by cases m <;> simp [zQ3]) ds w' d2 (fun D hD => (d3 D hD).2.2.2) ⟨by cases m <;> simp [zQ3],.inr ⟨fun hh => (by cases hh),fv,cap,k,vs,htar,hinv _,fun _ _ => trivial,?_⟩⟩
      refine (hd X ρ' _ vs f1 (hrl1.nextN f3)).mono ?_
      rintro en u' w'' ⟨v,H'',ρ'',rfl,rfl,⟨hok,hR⟩,q1,q2⟩
      have hm1 : Mk ⟨[],True⟩ w0 w'' ρ'' H''.length a1.defers := (hmk1.fut f3).fut q2
      obtain ⟨ds1,c1,_,c2,c3⟩ := hm1
      have he2 : ER w'' X ρ'' H'' n e' a' := fun t ht => (f2 t ht).nextN q2
      obtain ⟨p1,p2,p3⟩ := zDW (w0 := w0) ds1 c2 (fun D hD => ⟨(c3 D hD).1,(c3 D hD).2.2.2⟩) q1 he2 ((hf1.trans f3).trans q2)
      show LeavesInM Fence.wide 0 P fn a'.tmps _ a1.defers (settle (zCi m)) w''
      rw [zFa,c1]
      obtain ⟨_,v2,k3,k4⟩ := zDU hr p1 p2 hok
      exact zBj (by simp) ds1 w'' c2 (fun D hD => (c3 D hD).2.2.2) ⟨v2,k3,v2,_,H'',ρ'',rfl,hR,p1,k4,p3⟩
     cases o with
     | normal => exact go none hk
     | exit id => exact hk.elim
     | ret => exact go none hk
     | pan z => exact go (some z) hk
    ·cases hp
  ·split at hl
   ·rename_i la lb h1 h2
    simp only [zYT] at hl
    subst hl
    refine wpIn_seq (zBY x h1 (.inl ⟨rfl,trivial⟩) (h : awp P la e H _) hst fun o e' H' a' w' hk hs' => ?_)
    obtain ⟨rfl,hk⟩ := hk
    exact ihy lb e' H' a' w' h2 hk hs'
   ·cases hl
 | _ => intro ld e H a w hl; cases hl
theorem zSV {k : FuncId} {fn : Func} {hs : List Hn} {L : zT3} {args : List AV} {R : AV → zA → Prop} (hf : P.funcs[k]? = some fn) (hl : zJM P fn hs = some L) (ha : args.length ≤ L.n)
  (h : zRq P L.res R L.body (zC6 args 0) H) : ACall P k args H R := by
 unfold zJM at hl
 cases hb : fn.body with
 | none => simp [hb] at hl
 | some c =>
  cases hr : zEj P fn.ntmps fn.results.toList with
  | none => simp [hb,hr] at hl
  | some rs =>
   simp only [hb,hr] at hl
   split at hl
   ·rename_i b hc
    split at hl
    ·rename_i hcond
     simp only [zYT] at hl
     subst hl
     refine ⟨⟨fn,hf,by simp [hb],hcond.2⟩,fun X ρ w vs hrel hargs => (callsIn_wide (n := 0)).1 (callsIn_of_wp_marks hf hb trivial ?_)⟩
     have hvs : vs.size ≤ fn.ntmps := by rw [← hargs.1]; exact ha
     refine zJN (X := X) (w0 := w) (ρ0 := ρ) (n0 := H.length) hr c b (zC6 args 0) H _ w hc h ⟨by simp; omega,ρ,hrel,fun t ht => ?_,Fut.refl _ _ _,Mk.nil⟩
     rw [zDN,if_pos (zZm _),zzaK]
     by_cases htl : t < vs.size
     ·have hx : args[t]? = some (args[t]'(by rw [hargs.1]; exact htl)) := by simp
      rw [hx,zZR]
      refine hargs.2 t _ _ hx ?_
      simp [zZq,zZD,htl]
     ·rw [zZZ (by rw [hargs.1]; omega)]
      exact .any _ _
    ·cases hl
   ·cases hl
theorem zFF {rd : Option Nat} {a b : LCode} {K : Out → Env → zA → Prop} (hn : nr a = true) (h : zU P [.code a] (fun o e' H' => match o with | .normal => zEb P rd b e' H' K | o => K o e' H') .normal e H) : zEb P rd (.seq a b) e H K :=
 zOC a hn (K := fun o e' H' => match o with | .normal => zEb P rd b e' H' K | o => K o e' H') h
theorem zGm {rd : Option Nat} {a : LCode} {K : Out → Env → zA → Prop} (hn : nr a = true) (h : zU P [.code a] K .normal e H) : zEb P rd a e H K := zOC a hn h
def zOM (P : Program) (l : Nat) (lr : Go.Loop) (e : Env) (ps : List Nat) (la lb : LCode) : Prop :=
 ∀ (args : List AV) (H1 : zA) (r : Nat) (R : AV → zA → Prop),args.length = ps.length → H1[r]? = some (.lp l lr e .ready) →
  zU P [.code la] (fun o e1 H2 => o = .normal ∧ H2[r]? = some (.lp l lr e .ready) ∧ zEb P (some l) lb e1 (H2.set r (.lp l lr e .busy)) (zQG l lr e r R)) .normal (upL e ps args) H1 → AYield P l args H1 R
theorem zMb {rd : Option Nat} {g : LX} {ps : List Nat} {la lb : LCode} {f : FuncId} {first caps : List AV} {K : Out → Env → zA → Prop} (hrd : zXK rd H) (hg : ev e g = .fn (.func f) first caps)
  (h : ∀ l lr,zOM P l lr e ps la lb → ACall P f (first ++ [.v (.func (.yield l) #[] #[])] ++ caps) (H ++ [.lp l lr e .ready]) fun _ H' => ∃ st,H'[H.length]? = some (.lp l lr e st) ∧ zLC st fun o => K o e (H'.set H.length .dead)) :
  zEb P rd (.range g ps la lb) e H K := by
 simp only [zEb,hg]
 refine ⟨hrd,fun l lr hy => h l lr fun args H1 r R hal hr hrun => hy args H1 r R hal hr ?_⟩
 refine zDr (hrun : awp P la _ H1 _) fun o e1 H2 hh => ?_
 obtain ⟨rfl,h1,h2⟩ := hh
 exact ⟨h1,h2⟩
theorem zGl {rd : Option Nat} {g : LX} {ps : List Nat} {la lb : LCode} {f : FuncId} {first caps : List AV} {K : Out → Env → zA → Prop} (hrd : zXK rd H) (hg : ev e g = .fn (.func f) first caps)
  (h : ∀ E0 : Env,(∀ t,E0 t = e t) → ∀ l lr,zOM P l lr E0 ps la lb → ACall P f (first ++ [.v (.func (.yield l) #[] #[])] ++ caps) (H ++ [.lp l lr E0 .ready]) fun _ H' => ∃ st,H'[H.length]? = some (.lp l lr E0 st) ∧ zLC st fun o => K o E0 (H'.set H.length .dead)) :
  zEb P rd (.range g ps la lb) e H K := zMb hrd hg (h e fun _ => rfl)
theorem zI9 {rd : Option Nat} {a b : LCode} {K : Out → Env → zA → Prop} (h : zEb P rd a e H fun o e' H' => match o with | .normal => zEb P rd b e' H' K | o => K o e' H') : zEb P rd (.seq a b) e H K := h
theorem zDs {rd : Option Nat} {id : Nat} {c : LCode} {K : Out → Env → zA → Prop} (h : zEb P rd c e H fun o e' H' => match o with | .exit j => if j = id then K .normal e' H' else K (.exit j) e' H' | o => K o e' H') : zEb P rd (.block id c) e H K := h
end
end Go.Ax
namespace Go.Proofs.YtbibhcmcjldhdaaGreatDoor
open Go Go.Ax Go.RowKit
set_option maxRecDepth 100000
set_option linter.unusedSimpArgs false
set_option linter.unusedVariables false
set_option maxHeartbeats 4000000
theorem zNe (H : zA) (r q : Nat) : zQx Tryz.prog 22 [.ptr r 0 0,.ptr q 0 0] none H fun H' => H' = H := by
 refine zFB Tryz.func22 L22_ok (zY0 rfl) ?_
 repeat' (simp -implicitDefEqProofs (disch := omega) only [L22,push_cast,↓reduceIte,Nat.reduceEqDiff,reduceCtorEq,Nat.reduceAdd])
theorem zNd (c : AV) (e : Int) (J : zA) : zQx Tryz.prog 22 [.ptr 0 0 0,.ptr 1 0 0] (some zCF) (.box [c] :: .box [int e] :: J) fun H' => ∃ J',H' = .box [zAI] :: .box [int 3] :: J' := by
 refine zFB Tryz.func22 L22_ok (zY0 rfl) ?_
 repeat' (simp -implicitDefEqProofs (disch := omega) only [L22,zY9,zZk,zY6,zY7,zZg,zZf,zYZ,zY4,splice,push_cast,↓reduceIte,Nat.reduceEqDiff,reduceCtorEq,Nat.reduceAdd,Nat.reduceLeDiff,Nat.reduceLT,zYW])
 exact ⟨_,rfl⟩
abbrev PaR (s : Wd) (x : AV) (H' : zA) : Prop := (∃ c,x = .tup [.agg [c],int (zA8 s).2] ∧ (c = zAU (zA8 s).1 ∨ (zA8 s).1 = [] ∧ c = zAI)) ∧ x.cl = true ∧ ∃ rest,H' = [] ++ rest
theorem zPL {s : Wd} {c : AV} {k : Int} {J : zA} {e : Env} (h2 : e 2 = .ptr 0 0 0) (h3 : e 3 = .ptr 1 0 0) (hn : zA8 s = ([],3)) :
  zEw Tryz.prog L10p.res (PaR s) 22 [.ptr 0 0 0,.ptr 1 0 0] (.pan zCF) e (.box [c] :: .box [int k] :: J) := by
 intro X ρ w vs hr hv
 refine (zNd c k J X ρ w vs hr hv).mono ?_
 rintro en u' w' ⟨v,H',ρ',h1,h2',⟨J',rfl⟩,h4,h5⟩
 refine ⟨v,_,ρ',h1,h2',?_,h4,h5⟩
 refine ⟨?_,⟨zAI,?_,.inr ⟨by rw [hn],rfl⟩⟩,?_,_,rfl⟩
 ·simp [L10p,zAA,zCH,h2,h3,rLoad,rLoadO,isVer,Res.also,isBox]
 ·rw [hn]; simp [L10p,zAA,zCH,h2,h3,rLoad,rLoadO,isVer,Res.also,isBox,cellsV]
 ·simp [L10p,zAA,zCH,h2,h3,rLoad,rLoadO,isVer,Res.also,isBox,cellsV,AV.cl,clL]
theorem zLy {s : Wd} {c : AV} {k : Int} {J : zA} {e : Env} (h2 : e 2 = .ptr 0 0 0) (h3 : e 3 = .ptr 1 0 0) (hk : (zA8 s).2 = k) (hc : c = zAU (zA8 s).1 ∨ (zA8 s).1 = [] ∧ c = zAI) :
  zEw Tryz.prog L10p.res (PaR s) 22 [.ptr 0 0 0,.ptr 1 0 0] .ret e (.box [c] :: .box [int k] :: J) := by
 intro X ρ w vs hr hv
 refine (zNe _ 0 1 X ρ w vs hr hv).mono ?_
 rintro en u' w' ⟨v,H',ρ',h1,h2',rfl,h4,h5⟩
 refine ⟨v,_,ρ',h1,h2',?_,h4,h5⟩
 have hcl : c.cl = true := by
  rcases hc with rfl | ⟨_,rfl⟩ <;> rfl
 refine ⟨?_,⟨c,?_,hc⟩,?_,_,rfl⟩
 ·simp [L10p,zAA,zCH,h2,h3,rLoad,rLoadO,isVer,Res.also,isBox]
 ·rw [hk]; simp [L10p,zAA,zCH,h2,h3,rLoad,rLoadO,isVer,Res.also,isBox,cellsV]
 ·simp [L10p,zAA,zCH,h2,h3,rLoad,rLoadO,isVer,Res.also,isBox,cellsV,AV.cl,clL,hcl]
def RS (sz : Nat) (f : Nat → Nat) (c : AV) (K : zA) (rows : List (List AV)) : Prop := (rows = [] ∧ c = zAI) ∨ ∃ j v,c = .os (f j) v 0 rows.length ∧ K[j]? = some (.arr v sz rows)
theorem RS.app {sz : Nat} {f : Nat → Nat} {c : AV} {K : zA} {rows : List (List AV)} (h : RS sz f c K rows) (L : zA) : RS sz f c (K ++ L) rows :=
 h.imp id fun ⟨j,v,h1,h2⟩ => ⟨j,v,h1,by rw [zY2 (zYU.1 h2).1]; exact h2⟩
section
variable {α : Type} (H l : List α) (y : α)
theorem ga1 : (H ++ l)[H.length + 1]? = l[1]? := zA6 H l 1
theorem ga2 : (H ++ l)[H.length + 1 + 1]? = l[2]? := zA6 H l 2
theorem ga3 : (H ++ l)[H.length + 1 + 1 + 1]? = l[3]? := zA6 H l 3
theorem ga4 : (H ++ l)[H.length + 1 + 1 + 1 + 1]? = l[4]? := zA6 H l 4
theorem sa1 : (H ++ l).set (H.length + 1) y = H ++ l.set 1 y := zEQ H l 1 y
theorem sa4 : (H ++ l).set (H.length + 1 + 1 + 1 + 1) y = H ++ l.set 4 y := zEQ H l 4 y
end
def PcI (L : List Ln) (v jj : Nat) (st : Nat × Nat × List Pr) (e' : Env) (G : zA) : Prop :=
 e' 2 = .ptr 0 0 0 ∧ e' 3 = .ptr 1 0 0 ∧ e' 4 = .ptr 3 0 0 ∧ st.1 ≤ L.length ∧ L.length - st.1 ≤ st.2.1 ∧ zCC L.length L = (zCC st.2.1 (L.drop st.1)).map (st.2.2 ++ ·) ∧
 (∃ c T,G = .box [c] :: .box [int 0] :: rdB L (jj + 1 + 1 + 1 + 1) v st.1 :: .box [.ptr 2 0 0] :: T ∧ T[jj]? = some (lsO L v) ∧ RS 6 (fun j => j + 1 + 1 + 1 + 1) c T (st.2.2.map prR)) ∧ st.2.2.length ≤ st.1
set_option maxHeartbeats 8000000 in
theorem zSi (s : Wd) (hs1 : s.length ≤ 1000000) (H : zA) : ACall Tryz.prog 10 [str s] H fun x H' => x = .tup [.agg [zAU (zA8 s).1],int (zA8 s).2] ∧ H' = H := by
 have hs0 : s.length ≤ 1048576 := by omega
 refine APure.frame (x := .tup [.agg [zAU (zA8 s).1],int (zA8 s).2]) ?_ rfl H
 have main : ACall Tryz.prog 10 [str s] [] fun x H' => (∃ c,x = .tup [.agg [c],int (zA8 s).2] ∧ (c = zAU (zA8 s).1 ∨ (zA8 s).1 = [] ∧ c = zAI)) ∧ H' = [] := by
  refine ACall.drop (R := fun x => ∃ c,x = .tup [.agg [c],int (zA8 s).2] ∧ (c = zAU (zA8 s).1 ∨ (zA8 s).1 = [] ∧ c = zAI)) ?_
  refine zSV Tryz.func10 L10p_ok (zY0 rfl) ?_
  show zRq _ L10p.res (PaR s) _ _ _
  generalize hres : L10p.res = res
  repeat' (first | simp -implicitDefEqProofs (disch := omega) only [L10p,zY9,zZk,zYZ,zY4,zS,zAQ,push_cast,↓reduceIte,Nat.reduceEqDiff,reduceCtorEq,Nat.reduceAdd,zYW] | split)
  ·rename_i h; omega
  refine ⟨_,_,_,rfl,⟨_,Tryz.func22,by kernel_rfl,by kernel_rfl⟩,?_⟩
  refine zFF rfl ?_
  repeat' (simp -implicitDefEqProofs (disch := omega) only [zY9,zZk,zY6,zY7,zZg,zZf,zYZ,zY4,push_cast,↓reduceIte,Nat.reduceEqDiff,Nat.reduceAdd,Nat.reduceLeDiff,zYW])
  refine zI9 (zFF rfl ?_)
  repeat' (first | refine zBN (zIm s 10 _) ?_ | simp -implicitDefEqProofs (disch := omega) only [zY9,zZk,zYZ,zY4,push_cast,↓reduceIte,reduceCtorEq,Nat.reduceAdd])
  refine zDs (zGl trivial rfl ?_)
  intro E0 hE l lr hy
  have e0 : E0 0 = str s := hE 0
  have e2 : E0 2 = .ptr 0 0 0 := hE 2
  have e3 : E0 3 = .ptr 1 0 0 := hE 3
  have e4 : E0 4 = .ptr 3 0 0 := hE 4
  clear hE
  let J1 : List Wd → Wd → zA → Prop := fun ps t G => ∃ c K,G = .box [zAI] :: .box [int 0] :: .box [c] :: .box [.ptr 2 0 0] :: .box [str t] :: .box [str [10]] :: .box [int 0] :: .lp l lr E0 .ready :: K ∧ RS 1 (fun j => j + 1 + 1 + 1 + 1 + 1 + 1 + 1 + 1) c K (((ps.map zEd).filter ne).map lnR)
  refine (zQF 10 l _ _ _ (s.length + 1) J1 (by decide) ?_ ?_ ?_ [] s hs0 (zEO 10 s) _ ⟨zAI,[],rfl,.inl ⟨rfl,rfl⟩⟩).mono ?_
  ·rintro ps t G ⟨c,K,rfl,h⟩
   exact ⟨rfl,rfl,rfl⟩
  ·rintro ps t t' G ⟨c,K,rfl,h⟩
   exact ⟨c,K,rfl,h⟩
  ·rintro ps p t G hpN hpl ⟨c,K,rfl,hRS⟩
   refine hy [str p] _ 7 _ rfl rfl ?_
   repeat' (simp -implicitDefEqProofs (disch := omega) only [zY6,zY7,zZg,zZf,push_cast])
   refine zDs (zFF rfl ?_)
   repeat' (simp -implicitDefEqProofs (disch := omega) only [zY9,zYZ,push_cast,zYW])
   refine zI9 (zFF rfl ?_)
   repeat' (first | refine zBN (zIm p 32 _) ?_ | simp -implicitDefEqProofs (disch := omega) only [zY9,zZk,zYZ,zY4,zY3,push_cast,↓reduceIte,Nat.reduceEqDiff,Nat.reduceAdd])
   refine zDs (zGl ⟨7,lr,E0,.busy,rfl⟩ rfl ?_)
   intro E1 hE l2 lr2 hy2
   have f2 : E1 2 = .ptr 0 0 0 := (hE 2).trans e2
   have f3 : E1 3 = .ptr 1 0 0 := (hE 3).trans e3
   have f4 : E1 4 = .ptr 3 0 0 := (hE 4).trans e4
   have f6 := hE 6
   simp only [up] at f6
   clear hE
   let J2 : List Wd → Wd → zA → Prop := fun qs t2 G => ∃ c2 K2,G = .box [zAI] :: .box [int 0] :: .box [c] :: .box [.ptr 2 0 0] :: .box [str t] :: .box [str [10]] :: .box [int 0] :: .lp l lr E0 .busy :: (K ++ (.box [c2] :: .box [str t2] :: .box [str [32]] :: .box [int 0] :: .lp l2 lr2 E1 .ready :: K2)) ∧ RS 1 (fun j => K.length + (j + 1 + 1 + 1 + 1 + 1) + 1 + 1 + 1 + 1 + 1 + 1 + 1 + 1) c2 K2 ((qs.filter ne).map sR)
   refine (zQF 32 l2 _ _ _ (p.length + 1) J2 ?_ ?_ ?_ ?_ [] p hpl (zEO 32 p) _ ?_).mono ?_
   ·exact ⟨by omega,by omega,by omega⟩
   ·rintro qs t2 G ⟨c2,K2,rfl,h⟩
    simp only [zY9,zZk,zY6,zY7,zZg,zZf,zYZ,zY4,zY3,zDl,ga1,ga2,ga3]
    exact ⟨trivial,trivial,trivial⟩
   ·rintro qs t2 t3 G ⟨c2,K2,rfl,h⟩
    refine ⟨c2,K2,?_,h⟩
    simp only [zY9,zZk,zY6,zY7,zZg,zZf,zYZ,zY4,zY3,sa1]
   ·rintro qs q t2 G hqN hql ⟨c2,K2,rfl,hRS2⟩
    have hlk : (K ++ (HO.box [c2] :: .box [str t2] :: .box [str [32]] :: .box [int 0] :: .lp l2 lr2 E1 .ready :: K2))[K.length + 4]? = some (.lp l2 lr2 E1 .ready) := zA6 K _ 4
    refine hy2 [str q] _ (K.length + 1 + 1 + 1 + 1 + 1 + 1 + 1 + 1 + 1 + 1 + 1 + 1) _ rfl hlk ?_
    repeat' (simp -implicitDefEqProofs (disch := omega) only [zY6,zY7,zZg,zZf,ga4,sa4,push_cast])
    refine zDs (zGm rfl ?_)
    by_cases hq : q = []
    ·subst hq
     repeat' (simp -implicitDefEqProofs (disch := omega) only [zY6,zY7,zZg,zZf,ga4,sa4,push_cast,↓reduceIte])
     refine ⟨c2,K2,rfl,?_⟩
     rw [List.filter_append,show List.filter ne [([] : Wd)] = [] from rfl,zZA]
     exact hRS2
    ·have hfq : (qs ++ [q]).filter ne = qs.filter ne ++ [q] := by
      rw [List.filter_append,zZ0 (zGP.2 hq)]; rfl
     have hlq : (qs.filter ne).length ≤ 1048577 := by
      have := List.length_filter_le ne qs
      omega
     rcases hRS2 with ⟨hz,rfl⟩ | ⟨j2,v2,rfl,hK2⟩
     ·repeat' (simp -implicitDefEqProofs (disch := omega) only [zY9,zZk,zY6,zY7,zZg,zZf,zYZ,zY4,zY3,ga4,sa4,f6,zDl,zEP,hq,push_cast,↓reduceIte,Nat.reduceEqDiff,reduceCtorEq,Nat.reduceAdd,Nat.reduceMul,Nat.reduceLeDiff,Nat.reduceLT,zYW])
      have hz' : qs.filter ne = [] := List.map_eq_nil_iff.1 hz
      refine ⟨_,_,rfl,.inr ⟨K2.length,0,?_,?_⟩⟩
      ·rw [hfq,hz']; rfl
      ·rw [hfq,hz']; simp [sR]
     ·have hj2 := (zYU.1 hK2).1
      repeat' (first | refine zY1 (by omega) ?_ | simp -implicitDefEqProofs (disch := omega) only [zY9,zZk,zY6,zY7,zZg,zZf,zYZ,zY4,ga4,sa4,f6,zDl,zEP,zA6,zEQ,hq,hK2,zYV,push_cast,↓reduceIte,Nat.reduceEqDiff,reduceCtorEq,Nat.reduceAdd,Nat.reduceLeDiff,Nat.reduceLT,zYW])
      refine ⟨_,_,rfl,.inr ⟨j2,v2 + 1,?_,?_⟩⟩
      ·rw [hfq,zYV,zY3]; rfl
      ·rw [hfq,zZs hj2]; simp [sR]
   ·refine ⟨zAI,[],?_,.inl ⟨rfl,rfl⟩⟩
    simp
   rintro x H' ⟨t2,c2,K2,rfl,hRS2⟩
   refine ⟨.ready,?_,?_⟩
   ·simp only [zY9,zZk,zY6,zY7,zZg,zZf,zYZ,zY4,zY3]
    exact zA6 K _ 4
   refine zGm rfl ?_
   rw [show List.filter ne ([] ++ spB 32 p) = zEd p from rfl] at hRS2
   rcases hRS2 with ⟨hz,rfl⟩ | ⟨j2,v2,rfl,hK2⟩
   ·have hwd : zEd p = [] := List.map_eq_nil_iff.1 hz
    repeat' (simp -implicitDefEqProofs (disch := omega) only [zY6,zY7,zZg,zZf,zYZ,zY4,zY3,sa4,f6,zDl,zEP,push_cast,↓reduceIte,Nat.reduceEqDiff,Nat.reduceAdd,Nat.reduceLeDiff,Int.reduceLT])
    refine ⟨c,_,rfl,?_⟩
    rw [zzaA,List.filter_append,zZG,zzaC,hwd,show List.filter ne [([] : Ln)] = [] from rfl,zZA]
    exact hRS.app _
   ·have hK2' : K2[j2]? = some (.arr v2 1 ((zEd p).map sR)) := hK2
    have hcw : zHa ((zEd p).map sR) = true := zBA (fun _ => rfl) _
    have htw : List.take (zEd p).length ((zEd p).map sR) = (zEd p).map sR := zZu (by simp)
    have hwb : (zEd p).length ≤ 1048577 := by
     have h1 := zEO 32 p
     have h2 := List.length_filter_le ne (spB 32 p)
     unfold zEd; omega
    by_cases hwn : (zEd p).length = 0
    ·have hwd : zEd p = [] := zZh.1 hwn
     repeat' (first | refine zY1 (by omega) ?_ | simp -implicitDefEqProofs (disch := omega) only [zY6,zY7,zZg,zZf,zYZ,zY4,zY3,sa4,f6,zDl,zEP,zA6,zEQ,hK2',zYV,hcw,htw,zAQ,push_cast,↓reduceIte,Nat.reduceEqDiff,Nat.reduceAdd,Nat.reduceLeDiff])
     refine ⟨c,_,rfl,?_⟩
     rw [zzaA,List.filter_append,zZG,zzaC,hwd,show List.filter ne [([] : Ln)] = [] from rfl,zZA]
     exact hRS.app _
    have hln : ((ps.map zEd).filter ne).length ≤ 1048577 := by
     have := List.length_filter_le ne (ps.map zEd)
     rw [zYV] at this
     omega
    have hfp : ((ps ++ [p]).map zEd).filter ne = (ps.map zEd).filter ne ++ [zEd p] := by
     rw [zzaA,List.filter_append,zZG,zzaC,zZ0 (zGP.2 fun h => hwn (by rw [h]; rfl))]; rfl
    rcases hRS with ⟨hz,rfl⟩ | ⟨j1,v1,rfl,hK1⟩
    ·repeat' (first | refine zY1 (by omega) ?_ | simp -implicitDefEqProofs (disch := omega) only [zY9,zZk,zY6,zY7,zZg,zZf,zYZ,zY4,zY3,sa4,f4,f6,zDl,zEP,zA6,zEQ,hK2',zYV,hcw,htw,zS,push_cast,↓reduceIte,Nat.reduceEqDiff,reduceCtorEq,Nat.reduceAdd,Nat.reduceMul,Nat.reduceLeDiff,Nat.reduceLT,zYW])
     have hz' : (ps.map zEd).filter ne = [] := List.map_eq_nil_iff.1 hz
     refine ⟨_,_,rfl,.inr ⟨K.length + (K2.length + 1 + 1 + 1 + 1 + 1),0,?_,?_⟩⟩
     ·rw [hfp,hz']; rfl
     ·rw [hfp,hz',zA6]; simp [lnR]
    ·have hj1 := (zYU.1 hK1).1
     repeat' (first | refine zY1 (by omega) ?_ | simp -implicitDefEqProofs (disch := omega) only [zY9,zZk,zY6,zY7,zZg,zZf,zYZ,zY4,zY3,sa4,f4,f6,zDl,zEP,zA6,zEQ,zB,zK,hK2',hK1,zYV,hcw,htw,zS,push_cast,↓reduceIte,Nat.reduceEqDiff,reduceCtorEq,Nat.reduceAdd,Nat.reduceLeDiff,Nat.reduceLT,zYW])
     refine ⟨_,_,rfl,.inr ⟨j1,v1 + 1,?_,?_⟩⟩
     ·rw [hfp,zYV,zY3]; rfl
     ·rw [hfp,zY2 (by rw [zZc]; exact hj1),zZs hj1]; simp [lnR]
  ·rintro x H' ⟨t,c,K,rfl,hRS⟩
   refine ⟨.ready,rfl,?_⟩
   refine zGm rfl ?_
   rw [show List.filter ne (List.map zEd ([] ++ spB 10 s)) = zA9 s from rfl] at hRS
   have hLs : LsOk (zA9 s) := ⟨by have := zGV s; omega,fun l hl => zNL hl,fun l hl => ⟨by have := (zEZ hl).1; omega,fun w hw => by have := (zEZ hl).2 w hw; omega⟩⟩
   have hpf : zA8 s = match zCC (zA9 s).length (zA9 s) with | none => ([],3) | some ps => if zBR ps = true then (ps,0) else ([],1) := rfl
   have hcl : (zA9 s).length ≤ s.length + 1 := zGV s
   have hmem : ∀ l ∈ zA9 s,l.length ≤ s.length + 1 ∧ ∀ w ∈ l,w.length ≤ s.length := fun l hl => zEZ hl
   generalize hL : zA9 s = L at *
   rcases hRS with ⟨hz,rfl⟩ | ⟨j,v,rfl,hK⟩
   ·have hz' : L = [] := List.map_eq_nil_iff.1 hz
    subst hz'
    have cV := fun H => zCt [] ⟨by decide,by decide,fun q hq => by cases hq⟩ H
    have hpf : zA8 s = if zBR [] = true then ([],0) else ([],1) := hpf
    repeat' (simp -implicitDefEqProofs (disch := omega) only [zZg,zZf,zYZ,zY4,push_cast,Nat.reduceAdd])
    refine zAd (fun (_ : Unit) e' G => e' 2 = .ptr 0 0 0 ∧ e' 3 = .ptr 1 0 0 ∧ e' 4 = .ptr 3 0 0 ∧ ∃ T,G = .box [zAI] :: .box [int 0] :: .box [zAI] :: .box [.ptr 2 0 0] :: T) (fun _ => 0) () ?_ ?_
    ·exact ⟨e2,e3,e4,_,rfl⟩
    clear e2 e3 e4
    rintro _ e' G ⟨e2,e3,e4,T,rfl⟩
    subst hres
    cases hv : zBR [] with
    | false =>
     rw [hv] at cV hpf
     rw [if_neg (by decide)] at hpf
     repeat' (first | refine zC (cV _) ?_ | simp -implicitDefEqProofs (disch := omega) only [e2,e3,e4,zY9,zZk,zY6,zY7,zZg,zZf,zYZ,zY4,push_cast,↓reduceIte,Nat.reduceEqDiff,Nat.reduceAdd,Nat.reduceLeDiff,Int.reduceLT,zYW])
     refine zLy ?_ ?_ (by rw [hpf]) (.inr ⟨by rw [hpf],rfl⟩)
     ·first | exact e2 | rfl
     ·exact e3
    | true =>
     rw [hv] at cV hpf
     rw [if_pos rfl] at hpf
     repeat' (first | refine zC (cV _) ?_ | simp -implicitDefEqProofs (disch := omega) only [e2,e3,e4,zY9,zZk,zY6,zY7,zZg,zZf,zYZ,zY4,push_cast,↓reduceIte,Nat.reduceEqDiff,Nat.reduceAdd,Nat.reduceLeDiff,Int.reduceLT,zYW])
     refine zLy ?_ ?_ (by rw [hpf]) (.inl (by rw [hpf]; rfl))
     ·first | exact e2 | rfl
     ·exact e3
   repeat' (simp -implicitDefEqProofs (disch := omega) only [zZg,zZf,zYZ,zY4,push_cast,Nat.reduceAdd])
   refine zAd (PcI L v (j + 1 + 1 + 1 + 1)) (fun st => L.length - st.1) (0,L.length,[]) ?_ ?_
   ·exact ⟨e2,e3,e4,zZm _,zZa _,by simp,⟨zAI,.box [str t] :: .box [str [10]] :: .box [int 0] :: .dead :: K,by simp [rdB],hK,.inl ⟨rfl,rfl⟩⟩,zZm _⟩
   clear e2 e3 e4
   rintro ⟨a,n,ps⟩ e' G ⟨e2,e3,e4,q1,q2,law,⟨c,T,rfl,hT,hRS⟩,q3⟩
   simp only at q1 q2 law hRS q3
   have hrdB : rdB L (j + 1 + 1 + 1 + 1 + 1 + 1 + 1 + 1) v a = .box [.os (j + 1 + 1 + 1 + 1 + 1 + 1 + 1 + 1) v a (L.length - a)] := rfl
   have hT4 : T[j + 4]? = some (lsO L v) := hT
   have hlsO : lsO L v = .arr v 1 (L.map lnR) := rfl
   by_cases hlt : a < L.length
   rotate_left
   ·have hno : a = L.length := by omega
    subst hno
    have hps : zCC L.length L = some ps := by
     rw [law,zzbr]; cases n <;> simp [zCC]
    obtain ⟨hc1,hc2⟩ := zIx _ _ _ hps
    have hsm : zCU ps := ⟨by omega,by omega,fun q hq => by
     obtain ⟨⟨l,h1,h2,h3⟩,h4⟩ := hc2 q hq
     have := hmem l h1
     exact ⟨zZ3 (this.2 _ h2) hs0,by omega,by omega⟩⟩
    have cV := fun H => zCt ps hsm H
    rw [hps] at hpf
    simp only at hpf
    have hcl6 : zHa (ps.map prR) = true := zBA zSf _
    have h0 : L.length - L.length = 0 := by omega
    rw [h0] at hrdB
    subst hres
    cases hv : zBR ps with
    | false =>
     rw [hv] at cV hpf
     rw [if_neg (by decide)] at hpf
     rcases hRS with ⟨hz,rfl⟩ | ⟨j1,v1,rfl,hK1⟩
     ·have hz' : ps = [] := List.map_eq_nil_iff.1 hz
      subst hz'
      repeat' (first | refine zC (cV _) ?_ | simp -implicitDefEqProofs (disch := omega) only [e2,e3,e4,zY9,zZk,zY6,zY7,zZg,zZf,zYZ,zY4,hrdB,hT4,hlsO,push_cast,↓reduceIte,Nat.reduceEqDiff,Nat.reduceAdd,Nat.reduceLeDiff,Int.reduceLT,zYW])
      refine zLy ?_ ?_ (by rw [hpf]) (.inr ⟨by rw [hpf],rfl⟩)
      ·first | exact e2 | rfl
      ·exact e3
     ·repeat' (first | refine zY1 (by omega) ?_ | refine zC (cV _) ?_ | simp -implicitDefEqProofs (disch := omega) only [e2,e3,e4,zY9,zZk,zY6,zY7,zZg,zZf,zYZ,zY4,hrdB,hT4,hlsO,hK1,hcl6,zYV,push_cast,↓reduceIte,Nat.reduceEqDiff,Nat.reduceAdd,Nat.reduceLeDiff,Int.reduceLT,zYW])
      refine zLy ?_ ?_ (by rw [hpf]) (.inr ⟨by rw [hpf],rfl⟩)
      ·first | exact e2 | rfl
      ·exact e3
    | true =>
     rw [hv] at cV hpf
     rw [if_pos rfl] at hpf
     rcases hRS with ⟨hz,rfl⟩ | ⟨j1,v1,rfl,hK1⟩
     ·have hz' : ps = [] := List.map_eq_nil_iff.1 hz
      subst hz'
      repeat' (first | refine zC (cV _) ?_ | simp -implicitDefEqProofs (disch := omega) only [e2,e3,e4,zY9,zZk,zY6,zY7,zZg,zZf,zYZ,zY4,hrdB,hT4,hlsO,push_cast,↓reduceIte,Nat.reduceEqDiff,Nat.reduceAdd,Nat.reduceLeDiff,Int.reduceLT,zYW])
      refine zLy ?_ ?_ (by rw [hpf]) (.inl (by rw [hpf]; rfl))
      ·first | exact e2 | rfl
      ·exact e3
     ·repeat' (first | refine zY1 (by omega) ?_ | refine zC (cV _) ?_ | simp -implicitDefEqProofs (disch := omega) only [e2,e3,e4,zY9,zZk,zY6,zY7,zZg,zZf,zYZ,zY4,hrdB,hT4,hlsO,hK1,hcl6,zYV,push_cast,↓reduceIte,Nat.reduceEqDiff,Nat.reduceAdd,Nat.reduceLeDiff,Int.reduceLT,zYW])
      refine zLy ?_ ?_ (by rw [hpf]) (.inl (by rw [hpf]))
      ·first | exact e2 | rfl
      ·exact e3
   have cN := zMR L (by omega) v a 2 (j + 1 + 1 + 1 + 1 + 1 + 1 + 1 + 1) hlt (.box [c] :: .box [int 0] :: rdB L (j + 1 + 1 + 1 + 1 + 1 + 1 + 1 + 1) v a :: .box [.ptr 2 0 0] :: T) rfl hT
   obtain ⟨w1,w2⟩ := hmem _ (zAt hlt)
   have wne := hLs.ne _ (zAt hlt)
   obtain ⟨n,rfl⟩ : ∃ n',n = n' + 1 := ⟨n - 1,by omega⟩
   rw [zKQ hlt,zCC] at law
   generalize L.getD a default = l at *
   have hl0 := List.length_pos_iff.2 wne
   have hw0 : (l.map sR).getD 0 [] = sR (l.getD 0 default) := zN hl0
   have hh0 : l.headD [] = l.getD 0 default := by cases l <;> rfl
   have hbad : zCC L.length L = none → zA8 s = ([],3) := fun h => by rw [hpf,h]
   by_cases h6 : l.getD 0 default = [112,114,111,99]
   rotate_left
   ·have hno : zCC L.length L = none := by
     rw [law]; unfold zQP; rw [if_neg fun h => h6 (hh0 ▸ h.1)]; rfl
    repeat' (first | refine zY1 (by omega) ?_ | refine zI (zAG _) ?_ | refine zBN (cN) ?_ | simp -implicitDefEqProofs (disch := omega) only [e4,zY9,zZk,zY6,zY7,zZg,zZf,zYZ,zY4,hrdB,hT4,hlsO,hw0,sR,h6,zYV,zS,push_cast,↓reduceIte,Nat.reduceEqDiff,Nat.reduceAdd,Nat.reduceLeDiff,Int.reduceToNat,Int.reduceLE])
    subst hres
    refine zPL ?_ ?_ (hbad hno)
    ·exact e2
    ·exact e3
   by_cases h5 : 5 ≤ l.length
   rotate_left
   ·have hno : zCC L.length L = none := by
     rw [law]; unfold zQP; rw [if_neg fun h => h5 h.2]; rfl
    repeat' (first | refine zY1 (by omega) ?_ | refine zI (zAG _) ?_ | refine zBN (cN) ?_ | simp -implicitDefEqProofs (disch := omega) only [e4,zY9,zZk,zY6,zY7,zZg,zZf,zYZ,zY4,hrdB,hT4,hlsO,hw0,sR,h6,zYV,zS,zAK,push_cast,↓reduceIte,Nat.reduceEqDiff,Nat.reduceAdd,Nat.reduceLeDiff,Int.reduceToNat,Int.reduceLE])
    subst hres
    refine zPL ?_ ?_ (hbad hno)
    ·exact e2
    ·exact e3
   have hdp : List.drop 2 (l.map sR) = (l.drop 2).map sR := List.map_drop.symm
   have hts : List.take (l.length - 2) ((l.drop 2).map sR) = (l.drop 2).map sR := zZu (by simp)
   have hdl : (l.drop 2).length ≤ 1048576 := by simp; omega
   have hdw : ∀ w ∈ l.drop 2,w.length ≤ 1048576 := fun w hw => zZ3 (w2 w (zzaa hw)) hs0
   have h1w : (l.map sR).getD 1 [] = sR (l.getD 1 default) := zN (by omega)
   have hpr : zQP l = (zCa (l.drop 2)).map fun ns => ⟨l.getD 1 [],ns.getD 0 0,ns.getD 1 0,ns.getD 2 0,ns.drop 3,[]⟩ := by
    unfold zQP; rw [if_pos ⟨by rw [hh0]; exact h6,h5⟩]
   rw [hpr] at law
   repeat' (first | refine zY1 (by omega) ?_ | refine zD (zAo _) ?_ | refine zBN (cN) ?_ | simp -implicitDefEqProofs (disch := omega) only [e4,zY9,zZk,zY6,zY7,zZg,zZf,zYZ,zY4,hrdB,hT4,hlsO,hw0,sR,h6,hdp,hts,zYV,zS,zAj,push_cast,↓reduceIte,Nat.reduceEqDiff,Nat.reduceAdd,Nat.reduceLeDiff,Int.reduceToNat,Int.reduceLE])
   refine zF (zIF (l.drop 2) hdl hdw _) ?_ ?_
   rotate_left
   ·rintro z H' ⟨hnum,rfl,junk,rfl⟩
    have hno : zCC L.length L = none := by rw [law,hnum]; rfl
    repeat' (simp -implicitDefEqProofs (disch := omega) only [zY9,push_cast])
    subst hres
    refine zPL ?_ ?_ (hbad hno)
    ·exact e2
    ·exact e3
   rintro x H' ⟨ns,hnum,rfl,rfl⟩
   have hnl := zDD hnum
   simp only [zzai] at hnl
   rw [hnum] at law
   simp only [zZt] at law
   have n0 : (ns.map iR).getD 0 [] = iR (ns.getD 0 default) := zN (by omega)
   have n1 : (ns.map iR).getD 1 [] = iR (ns.getD 1 default) := zN (by omega)
   have n2 : (ns.map iR).getD 2 [] = iR (ns.getD 2 default) := zN (by omega)
   have hld : (l.drop 2).length = ns.length := by simp; omega
   have h3t : List.take (ns.length - 3) (List.drop 3 (ns.map iR)) = (ns.drop 3).map iR := by rw [← List.map_drop]; exact zZu (by simp)
   have h3l : (ns.drop 3).length = ns.length - 3 := zzai
   have h3b : ns.length ≤ 1048577 := by omega
   have h3c : zHa ((ns.drop 3).map iR) = true := zBA (fun _ => rfl) _
   have h3f : List.take (ns.length - 3) ((ns.drop 3).map iR) = (ns.drop 3).map iR := zZu (by simp)
   have h33 : 3 + (ns.length - 3) ≤ ns.length := by omega
   have hTl : T[j + 1 + 1 + 1 + 1]? = some (lsO L v) := hT
   have hjT := (zYU.1 hTl).1
   rw [hld]
   repeat' (first | refine zY1 (by omega) ?_ | simp -implicitDefEqProofs (disch := omega) only [e4,zY9,zZk,zY6,zY7,zZg,zZf,zYZ,zY4,zY3,h1w,n0,n1,n2,iR,sR,zDl,ga1,sa1,zYV,h3t,h3l,h33,push_cast,↓reduceIte,Nat.reduceEqDiff,Nat.reduceAdd,Nat.reduceLeDiff,Nat.reduceLT,Int.reduceToNat,Int.reduceLE,zYW])
   have hTa : ∀ X,(T ++ X)[j + 1 + 1 + 1 + 1]? = some (lsO L v) := fun X => by rw [zY2 hjT]; exact hTl
   have hTs : ∀ X o,(T ++ X).set (j + 1 + 1 + 1 + 1) o = T.set (j + 1 + 1 + 1 + 1) o ++ X := fun X o => zzat _ _ hjT
   have hTs0 : T.set (j + 1 + 1 + 1 + 1) (lsO L v) = T := by
    apply zzaB
    intro i
    by_cases hi : i = j + 1 + 1 + 1 + 1
    ·rw [hi,zZs hjT,hTl]
    ·rw [zZj fun e => hi e.symm]
   refine zF (zVs L hLs v ((L.drop (a + 1)).length + 1) zEe (a + 1) (by decide) (by simp) (by omega) _ 2 (j + 1 + 1 + 1 + 1 + 1 + 1 + 1 + 1) (by omega) rfl (hTa _)) ?_ ?_
   rotate_left
   ·rintro z H' ⟨o1,o2,rfl,hn1,rfl,⟨b,rfl⟩,rfl⟩
    have hno : zCC L.length L = none := by rw [law,hn1]; rfl
    repeat' (simp -implicitDefEqProofs (disch := omega) only [zZg,zZf,hTs,hTs0,push_cast])
    subst hres
    refine zPL ?_ ?_ (hbad hno)
    ·exact e2
    ·exact e3
   rintro x H' ⟨o1,o2,rfl,bd,b,hs1,rfl,rfl,rfl,hb1,hb2⟩
   rw [hs1] at law
   simp only at law
   obtain ⟨q,hq⟩ : ∃ q : Pr,q = ⟨l.getD 1 [],ns.getD 0 0,ns.getD 1 0,ns.getD 2 0,ns.drop 3,bd⟩ := ⟨_,rfl⟩
   have law2 : zCC L.length L = (zCC n (L.drop b)).map (ps ++ [q] ++ ·) := by
    rw [law,Option.map_map,hq]; congr 1; funext x; simp
   have hrw : [str (l.getD 1 default),int (ns.getD 0 default),int (ns.getD 1 default),int (ns.getD 2 default),AV.sl 1 ((ns.drop 3).map iR),.sl 5 (bd.map zAp)] = prR q := by rw [hq]; rfl
   have hpb : ps.length ≤ 1048577 := by omega
   have hnx : ∀ (eE : Env) (T' : zA) (c' : AV),eE 2 = .ptr 0 0 0 → eE 3 = .ptr 1 0 0 → eE 4 = .ptr 3 0 0 → T'[j + 1 + 1 + 1 + 1]? = some (lsO L v) → RS 6 (fun j => j + 1 + 1 + 1 + 1) c' T' ((ps ++ [q]).map prR) →
     Nx (PcI L v (j + 1 + 1 + 1 + 1)) (fun st => L.length - st.1) (a,n + 1,ps) eE (.box [c'] :: .box [int 0] :: rdB L (j + 1 + 1 + 1 + 1 + 1 + 1 + 1 + 1) v b :: .box [.ptr 2 0 0] :: T') := fun eE T' c' h1 h2 h3 h4 h5 =>
    .mk (b,n,ps ++ [q]) ⟨h1,h2,h3,hb2,by simp only; omega,law2,⟨c',T',rfl,h4,h5⟩,by simp only [zY3,zYZ,zY4]; omega⟩ (by simp only; omega)
   rcases hRS with ⟨hz,rfl⟩ | ⟨j1,v1,rfl,hK1⟩
   ·have hz' : ps = [] := List.map_eq_nil_iff.1 hz
    repeat' (first | refine zY1 ⟨by omega,zBA (fun _ => rfl) _⟩ ?_ | simp -implicitDefEqProofs (disch := omega) only [e2,zY9,zZk,zY6,zY7,zZg,zZf,zYZ,zY4,zY3,hTs,hTs0,h3f,h3l,zYV,push_cast,↓reduceIte,Nat.reduceEqDiff,reduceCtorEq,Nat.reduceAdd,Nat.reduceMul,Nat.reduceLeDiff,Nat.reduceLT,zYW])
    refine hnx _ _ _ ?_ ?_ ?_ (hTa _) (.inr ⟨T.length + 3,0,?_,?_⟩)
    ·exact e2
    ·exact e3
    ·exact e4
    ·rw [hz']; rfl
    ·rw [zA6,hz',hrw]; rfl
   ·have hj1 := (zYU.1 hK1).1
    repeat' (first | refine zY1 (by omega) ?_ | refine zY1 ⟨by omega,zBA (fun _ => rfl) _⟩ ?_ | simp -implicitDefEqProofs (disch := omega) only [e2,zY9,zZk,zY6,zY7,zZg,zZf,zYZ,zY4,hTs,hTs0,h3f,h3l,zYV,zB,zK,hK1,push_cast,↓reduceIte,Nat.reduceEqDiff,reduceCtorEq,Nat.reduceAdd,Nat.reduceLeDiff,Nat.reduceLT,zYW])
    have hne : ¬ j1 = j + 1 + 1 + 1 + 1 := fun e => by
     rw [e,hTl] at hK1
     unfold lsO at hK1
     cases hK1
    refine hnx _ _ _ ?_ ?_ ?_ ?_ (.inr ⟨j1,v1 + 1,?_,?_⟩)
    ·exact e2
    ·exact e3
    ·exact e4
    ·rw [zY2 (by rw [zZc]; exact hjT),zZj hne]; exact hTl
    ·rw [zYV,zY3]; rfl
    ·rw [zY2 (by rw [zZc]; exact hj1),zZs hj1,hrw]; simp
 refine main.resTo fun x H' h => ?_
 obtain ⟨⟨c,rfl,hc⟩,rfl⟩ := h
 refine ⟨.tup [.agg [zAU (zA8 s).1],int (zA8 s).2],zTe (AV.Le.agg rfl fun i x y hx hy => ?_) (AV.Le.refl _),rfl,rfl⟩
 cases i with
 | zero =>
  cases hx; cases hy
  rcases hc with rfl | ⟨h1,rfl⟩
  ·exact AV.Le.refl _
  ·rw [h1]; exact AV.Le.nil 6
 | succ i => simp at hx
theorem zP1 (l : List Int) (hl : l.length ≤ 1048576) (H : zA) : zBm 31 [.sl 1 (l.map iR),.sl 1 (l.map iR)] H (bool true) := by
 refine ACall.drop (R := fun x => x = bool true) ?_
 refine enter Tryz.func31 L31_ok (zY0 rfl) ?_
 repeat' (simp -implicitDefEqProofs (disch := omega) only [L31,zYV,push_cast,↓reduceIte,Nat.reduceEqDiff,reduceCtorEq,Nat.reduceAdd])
 refine zAd (fun (i : Nat) e' G => e' 0 = .sl 1 (l.map iR) ∧ e' 1 = .sl 1 (l.map iR) ∧ e' 5 = int i ∧ i ≤ l.length ∧ G = H) (fun i => l.length - i) 0 ?_ ?_
 ·exact ⟨rfl,rfl,rfl,zZm _,rfl⟩
 rintro i e' G ⟨g0,g1,g5,hi,rfl⟩
 by_cases hlt : i < l.length
 ·have hrow : (l.map iR).getD i [] = iR (l.getD i default) := zN hlt
  repeat' (first | refine zY1 (by omega) ?_ | simp -implicitDefEqProofs (disch := omega) only [g0,g1,g5,hrow,iR,zYV,zS,push_cast,↓reduceIte,Nat.reduceEqDiff,reduceCtorEq,Nat.reduceAdd,Nat.reduceLeDiff])
  exact .mk (i + 1) ⟨g0,g1,rfl,hlt,rfl⟩ (by omega)
 ·repeat' (simp -implicitDefEqProofs (disch := omega) only [g0,g5,zYV,zAQ,push_cast,↓reduceIte,Nat.reduceEqDiff,reduceCtorEq])
  exact ⟨_,(zZA _).symm⟩
theorem zPW : ∀ (n : Nat) (l : List Ins),zL l ≤ n → n ≤ 1048576 → ∀ H : zA,zBm 32 [.sl 5 (l.map zAp),.sl 5 (l.map zAp)] H (bool true) := by
 intro n
 induction n using Nat.strongRecOn with
 | ind n ih =>
 intro l hl hn H
 have hll := zM l
 refine ACall.drop (R := fun x => x = bool true) ?_
 refine enter Tryz.func32 L32_ok (zY0 rfl) ?_
 repeat' (simp -implicitDefEqProofs (disch := omega) only [L32,zYV,push_cast,↓reduceIte,Nat.reduceEqDiff,reduceCtorEq,Nat.reduceAdd])
 refine zAd (fun (i : Nat) e' G => e' 0 = .sl 5 (l.map zAp) ∧ e' 1 = .sl 5 (l.map zAp) ∧ e' 5 = int i ∧ i ≤ l.length ∧ G = H) (fun i => l.length - i) 0 ?_ ?_
 ·exact ⟨rfl,rfl,rfl,zZm _,rfl⟩
 rintro i e' G ⟨g0,g1,g5,hi,rfl⟩
 by_cases hlt : i < l.length
 ·have hrow : (l.map zAp).getD i [] = zAp (l.getD i default) := zN hlt
  have hic : zBa (l.getD i default) ≤ zL l := zC4 (zAt hlt)
  rw [zHK] at hrow
  generalize l.getD i default = x at *
  have c1 := fun H => ih (zL x.body) (by cases x; simp only [zBa,Ins.body] at *; omega) x.body (zZa _) (by cases x; simp only [zBa,Ins.body] at *; omega) H
  have c2 := fun H => ih (zL x.els) (by cases x; simp only [zBa,Ins.els] at *; omega) x.els (zZa _) (by cases x; simp only [zBa,Ins.els] at *; omega) H
  repeat' (first | refine zY1 (by omega) ?_ | refine zQ (c1 _) rfl ?_ | refine zQ (c2 _) rfl ?_ | simp -implicitDefEqProofs (disch := omega) only [g0,g1,g5,hrow,zYV,zzaR,zzal,zzaZ,zS,push_cast,↓reduceIte,Nat.reduceEqDiff,reduceCtorEq,Nat.reduceAdd,Nat.reduceLeDiff])
  exact .mk (i + 1) ⟨g0,g1,rfl,hlt,rfl⟩ (by omega)
 ·repeat' (simp -implicitDefEqProofs (disch := omega) only [g0,g5,zYV,zAQ,push_cast,↓reduceIte,Nat.reduceEqDiff,reduceCtorEq])
  exact ⟨_,(zZA _).symm⟩
theorem zQn (ps : List Pr) (hs : zCU ps) (H : zA) : zBm 12 [.agg [zAU ps],.agg [zAU ps]] H (bool true) := by
 obtain ⟨hs1,hs2,hs3⟩ := hs
 refine APure.frame (x := bool true) ?_ rfl H
 refine ACall.drop (R := fun x => x = bool true) ?_
 refine enter Tryz.func12 L12_ok (zY0 rfl) ?_
 repeat' (simp -implicitDefEqProofs (disch := omega) only [L12,zY9,zZk,zY6,zY7,zYZ,zY4,zYV,zBE,push_cast,↓reduceIte,Nat.reduceEqDiff,reduceCtorEq,Nat.reduceAdd,Nat.reduceLeDiff,zYW])
 refine zAd (fun (i : Nat) e' G => e' 2 = .ptr 0 0 0 ∧ e' 3 = .ptr 1 0 0 ∧ e' 5 = int i ∧ i ≤ ps.length ∧ ∃ J,G = .box [zAU ps] :: .box [zAU ps] :: J) (fun i => ps.length - i) 0 ?_ ?_
 ·exact ⟨rfl,rfl,rfl,zZm _,_,rfl⟩
 rintro i e' G ⟨g2,g3,g5,hi,J,rfl⟩
 by_cases hlt : i < ps.length
 ·have hrow : (ps.map prR).getD i [] = prR (ps.getD i default) := zN hlt
  obtain ⟨m1,m2,m3⟩ := hs3 _ (zAt hlt)
  generalize ps.getD i default = q at *
  have c1 := fun H => zP1 q.outs m2 H
  have c2 := fun H => zPW (zL q.body) q.body (zZa _) m3 H
  repeat' (first | refine zY1 (by omega) ?_ | refine zC (c1 _) ?_ | refine zC (c2 _) ?_ | simp -implicitDefEqProofs (disch := omega) only [g2,g3,g5,hrow,prR,zY9,zZk,zY6,zY7,zZf,zYZ,zY4,zY3,zDl,ga1,zYV,zBE,zzaR,zzal,zzaZ,splice,zS,push_cast,↓reduceIte,Nat.reduceEqDiff,Nat.reduceAdd,Nat.reduceLeDiff,zYW])
  exact .mk (i + 1) ⟨g2,g3,rfl,hlt,_,rfl⟩ (by omega)
 ·repeat' (simp -implicitDefEqProofs (disch := omega) only [g2,g5,zY6,zYZ,zY4,zYV,zAQ,push_cast,↓reduceIte,Nat.reduceEqDiff,Nat.reduceAdd,Nat.reduceLeDiff])
  exact ⟨_,rfl⟩
end Go.Proofs.YtbibhcmcjldhdaaGreatDoor
namespace Go.Ax
open Go
set_option linter.unusedSimpArgs false
set_option linter.unusedVariables false
inductive Tr (α : Type) where
 | leaf
 | node (v : α) (l r : Tr α)
def Tr.getN {α : Type} (v : α) (gl gr : Nat → α) (i : Nat) : α := Nat.casesOn (motive := fun _ => α) i v fun n => cond (Nat.beq (Nat.mod n 2) 0) (gl (Nat.div n 2)) (gr (Nat.div n 2))
noncomputable def Tr.get {α : Type} (d : α) (t : Tr α) : Nat → α := Tr.rec (motive := fun _ => Nat → α) (fun _ => d) (fun v _ _ gl gr => Tr.getN v gl gr) t
def Tr.set {α : Type} (d x : α) : Nat → Nat → Tr α → Tr α
 | 0,_,t => t
 | f + 1,i,.leaf => Nat.casesOn i (.node x .leaf .leaf) fun n => cond (Nat.beq (Nat.mod n 2) 0) (.node d (set d x f (Nat.div n 2) .leaf) .leaf) (.node d .leaf (set d x f (Nat.div n 2) .leaf))
 | f + 1,i,.node v l r => Nat.casesOn i (.node x l r) fun n => cond (Nat.beq (Nat.mod n 2) 0) (.node v (set d x f (Nat.div n 2) l) r) (.node v l (set d x f (Nat.div n 2) r))
def Tr.setL {α β : Type} (d x : α) (ih : Nat → Tr α → (Tr α → β) → β) (i : Nat) (k : Tr α → β) : β :=
 Nat.casesOn (motive := fun _ => β) i (k (.node x .leaf .leaf)) fun n => cond (Nat.beq (Nat.mod n 2) 0) (ih (Nat.div n 2) .leaf fun l => k (.node d l .leaf)) (ih (Nat.div n 2) .leaf fun r => k (.node d .leaf r))
def Tr.setN {α β : Type} (x : α) (ih : Nat → Tr α → (Tr α → β) → β) (i : Nat) (k : Tr α → β) (v : α) (l r : Tr α) : β :=
 Nat.casesOn (motive := fun _ => β) i (k (.node x l r)) fun n => cond (Nat.beq (Nat.mod n 2) 0) (ih (Nat.div n 2) l fun l => k (.node v l r)) (ih (Nat.div n 2) r fun r => k (.node v l r))
def Tr.setS {α β : Type} (d x : α) (ih : Nat → Tr α → (Tr α → β) → β) (i : Nat) (t : Tr α) (k : Tr α → β) : β :=
 Tr.casesOn (motive := fun _ => β) t (Tr.setL d x ih i k) fun v l r => Tr.setN x ih i k v l r
noncomputable def Tr.setK {α β : Type} (d x : α) (f : Nat) : Nat → Tr α → (Tr α → β) → β :=
 Nat.rec (motive := fun _ => Nat → Tr α → (Tr α → β) → β) (fun _ t k => k t) (fun _ ih => Tr.setS d x ih) f
theorem Tr.setK_eq {α β : Type} (d x : α) : ∀ (f i : Nat) (t : Tr α) (k : Tr α → β),Tr.setK d x f i t k = k (t.set d x f i)
 | 0,i,t,k => by cases t <;> rfl
 | f + 1,0,.leaf,k => rfl
 | f + 1,0,.node v l r,k => rfl
 | f + 1,n + 1,.leaf,k => by
  show cond (Nat.beq (Nat.mod n 2) 0) (Tr.setK d x f (Nat.div n 2) .leaf fun l => k (.node d l .leaf)) (Tr.setK d x f (Nat.div n 2) .leaf fun r => k (.node d .leaf r)) = _
  simp only [set]
  cases Nat.beq (Nat.mod n 2) 0 <;> simp [setK_eq d x f]
 | f + 1,n + 1,.node v l r,k => by
  show cond (Nat.beq (Nat.mod n 2) 0) (Tr.setK d x f (Nat.div n 2) l fun l => k (.node v l r)) (Tr.setK d x f (Nat.div n 2) r fun r => k (.node v l r)) = _
  simp only [set]
  cases Nat.beq (Nat.mod n 2) 0 <;> simp [setK_eq d x f]
theorem Tr.get_leaf {α : Type} (d : α) (i : Nat) : (Tr.leaf : Tr α).get d i = d := rfl
theorem Tr.get_z {α : Type} (d v : α) (l r : Tr α) : (Tr.node v l r).get d 0 = v := rfl
theorem Tr.get_s {α : Type} (d v : α) (l r : Tr α) (n : Nat) : (Tr.node v l r).get d (n + 1) = if n % 2 = 0 then l.get d (n / 2) else r.get d (n / 2) := by
 show cond (Nat.beq (n % 2) 0) _ _ = _
 by_cases h : n % 2 = 0
 ·rw [if_pos h,h]; rfl
 ·rw [if_neg h,show n % 2 = 1 by omega]; rfl
theorem Tr.set_s {α : Type} (d x v : α) (f n : Nat) (l r : Tr α) : (Tr.node v l r).set d x (f + 1) (n + 1) = if n % 2 = 0 then .node v (l.set d x f (n / 2)) r else .node v l (r.set d x f (n / 2)) := by
 show cond (Nat.beq (n % 2) 0) _ _ = _
 by_cases h : n % 2 = 0
 ·rw [if_pos h,h]; rfl
 ·rw [if_neg h,show n % 2 = 1 by omega]; rfl
theorem Tr.set_l {α : Type} (d x : α) (f n : Nat) : (Tr.leaf : Tr α).set d x (f + 1) (n + 1) = if n % 2 = 0 then .node d ((Tr.leaf : Tr α).set d x f (n / 2)) .leaf else .node d .leaf ((Tr.leaf : Tr α).set d x f (n / 2)) := by
 show cond (Nat.beq (n % 2) 0) _ _ = _
 by_cases h : n % 2 = 0
 ·rw [if_pos h,h]; rfl
 ·rw [if_neg h,show n % 2 = 1 by omega]; rfl
theorem Tr.get_set {α : Type} (d x : α) : ∀ (f i : Nat) (t : Tr α) (j : Nat),i < 2 ^ f - 1 → (t.set d x f i).get d j = if j = i then x else t.get d j
 | 0,i,t,j,h => by simp at h
 | f + 1,0,.leaf,j,h => by
  show (Tr.node x .leaf .leaf).get d j = _
  cases j with
  | zero => rfl
  | succ j => rw [get_s,get_leaf]; simp [get_leaf]
 | f + 1,0,.node v l r,j,h => by
  show (Tr.node x l r).get d j = _
  cases j with
  | zero => rfl
  | succ j => rw [get_s,get_s]; simp
 | f + 1,n + 1,.leaf,j,h => by
  have hp : 2 ^ (f + 1) = 2 * 2 ^ f := by rw [zzbd]; omega
  have hn : n / 2 < 2 ^ f - 1 := by omega
  rw [set_l]
  cases j with
  | zero => split <;> simp [get_z,get_leaf]
  | succ j =>
   have e : (j = n) ↔ (j % 2 = n % 2 ∧ j / 2 = n / 2) := by omega
   by_cases hn2 : n % 2 = 0
   ·rw [if_pos hn2,get_s]
    by_cases hj2 : j % 2 = 0
    ·rw [if_pos hj2,get_set d x f _ _ _ hn]; simp [get_leaf,e,hj2,hn2]
    ·rw [if_neg hj2]; simp [get_leaf,e,hj2,hn2]
   ·rw [if_neg hn2,get_s]
    by_cases hj2 : j % 2 = 0
    ·rw [if_pos hj2]; have : ¬ 0 = n % 2 := fun h => hn2 h.symm
     simp [get_leaf,e,hj2,this]
    ·rw [if_neg hj2,get_set d x f _ _ _ hn]
     have e2 : j % 2 = n % 2 := by omega
     simp [get_leaf,e,e2]
 | f + 1,n + 1,.node v l r,j,h => by
  have hp : 2 ^ (f + 1) = 2 * 2 ^ f := by rw [zzbd]; omega
  have hn : n / 2 < 2 ^ f - 1 := by omega
  rw [set_s]
  cases j with
  | zero => split <;> simp [get_z]
  | succ j =>
   have e : (j = n) ↔ (j % 2 = n % 2 ∧ j / 2 = n / 2) := by omega
   rw [get_s]
   by_cases hn2 : n % 2 = 0
   ·rw [if_pos hn2,get_s]
    by_cases hj2 : j % 2 = 0
    ·rw [if_pos hj2,if_pos hj2,get_set d x f _ _ _ hn]; simp [e,hj2,hn2]
    ·rw [if_neg hj2,if_neg hj2]; simp [e,hj2,hn2]
   ·rw [if_neg hn2,get_s]
    by_cases hj2 : j % 2 = 0
    ·rw [if_pos hj2,if_pos hj2]; have : ¬ 0 = n % 2 := fun h => hn2 h.symm
     simp [e,hj2,this]
    ·rw [if_neg hj2,if_neg hj2,get_set d x f _ _ _ hn]
     have e2 : j % 2 = n % 2 := by omega
     simp [e,e2]
end Go.Ax
