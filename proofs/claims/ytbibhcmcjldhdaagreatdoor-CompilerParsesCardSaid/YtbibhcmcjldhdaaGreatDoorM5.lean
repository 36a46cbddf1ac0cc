/- Parts,merged by a program (wip/tools/merge2.py): Cp8 Cp9 Cp6 Mc10 Mc10a Mc10b Mc10c Mc10d Mc10e Mc10f Mc10g Mc11 Mc12 Ax41 Cp10 Cp11 Ax31 Ax32. -/
import Derived.Test.YtbibhcmcjldhdaaGreatDoorM4
import Derived.RangeFuncNested
namespace Go.Proofs.YtbibhcmcjldhdaaGreatDoor
open Go Go.Ax Go.RowKit
set_option maxRecDepth 100000
set_option linter.unusedSimpArgs false
set_option linter.unusedVariables false
set_option maxHeartbeats 4000000
def rdB (L : List Ln) (j v a : Nat) : HO := .box [.os j v a (L.length - a)]
def lsO (L : List Ln) (v : Nat) : HO := .arr v 1 (L.map lnR)
theorem zMz (L : List Ln) (hL : L.length <= 1048577) (v a r j : Nat) (ha : a < L.length) (G : zB) (hr : G[r]? = some (rdB L j v a)) (hj : G[j]? = some (lsO L v)) : ACall Tryz.prog 24 [.ptr r 0 0] G fun x H' => x = .sl 1 ((L.getD a default).map sR)/\H' = G.set r (rdB L j v (a + 1)) := by
 refine enter Tryz.func24 L24_ok (zYu rfl) ?_
 have hrow : (L.map lnR).getD a [] = lnR (L.getD a default) := zL ha
 have hrl := (zYr.1 hr).1
 have hne : ¬ r = j := fun e => by rw [e,hj] at hr; cases hr
 obtain ⟨k,hk⟩ : ∃ k,L.length - a = k := ⟨_,rfl⟩
 have h2 : L.length - (a + 1) = k - 1 := by omega
 have h3 : 1 <= k := by omega
 have h4 : a + k <= L.length := by omega
 unfold rdB at hr
 unfold lsO at hj
 unfold rdB
 rw [hk] at hr
 rw [h2]
 repeat' (first | refine zYt (by omega) ?_ | simp -implicitDefEqProofs (disch := omega) only [L24,hr,hj,hrow,lnR,zYo,zZg,splice,zU,push_cast,simprocAttr,↓reduceIte,zYp])
 all_goals exact Int.le_refl _
theorem zRO (L : List Ln) (hL : L.length <= 1048577) (v a : Nat) (ha : a < L.length) (J : zB) : ACall Tryz.prog 24 [.ptr 0 0 0] (rdB L 1 v a :: lsO L v :: J) fun x H' => x = .sl 1 ((L.getD a default).map sR)/\H' = rdB L 1 v (a + 1) :: lsO L v :: J :=
 zMz L hL v a 0 1 ha _ rfl rfl
theorem zRN (L : List Ln) (hL : L.length <= 1048577) (v : Nat) (J : zB) : ACall Tryz.prog 24 [.ptr 0 0 0] (rdB L 1 v L.length :: lsO L v :: J) fun x H' => x = zAl/\H' = rdB L 1 v L.length :: lsO L v :: J := by
 refine enter Tryz.func24 L24_ok (zYu rfl) ?_
 have h2 : L.length - L.length = 0 := by omega
 unfold rdB lsO
 rw [h2]
 repeat' (simp -implicitDefEqProofs (disch := omega) only [L24,zYv,zYx,zYs,zYw,push_cast,simprocAttr,↓reduceIte])
def lcR (L : List Ln) (v a m : Nat) (u : Wd) (j : Nat) (x : AV) (o1 o2 : HO) : Prop := ∃ l b,zAj m u (L.drop a) = some (l,L.drop b)/\x = .sl 5 (l.map zAq)/\o1 = rdB L j v b/\o2 = lsO L v/\a < b/\b <= L.length
def lcZ (L : List Ln) (v a m : Nat) (u : Wd) (j : Nat) (z : Value) (o1 o2 : HO) : Prop := zAj m u (L.drop a) = none/\z = zCD/\(∃ b,o1 = rdB L j v b)/\o2 = lsO L v
theorem zU3 {L : List Ln} {v a m : Nat} {u : Wd} (h : ACallX Tryz.prog 27 [.ptr 0 0 0,str u] [rdB L 1 v a,lsO L v] (fun x H' => ∃ o1 o2 junk,H' = o1 :: o2 :: junk/\lcR L v a m u 1 x o1 o2) fun z H' => ∃ o1 o2 junk,H' = o1 :: o2 :: junk/\lcZ L v a m u 1 z o1 o2)
  (G : zB) (r j : Nat) (hne : r ≠ j) (hr : G[r]? = some (rdB L j v a)) (hj : G[j]? = some (lsO L v)) :
  ACallX Tryz.prog 27 [.ptr r 0 0,str u] G (fun x G' => ∃ o1 o2,G' = (G.set r o1).set j o2/\lcR L v a m u j x o1 o2) fun z G' => ∃ o1 o2,G' = (G.set r o1).set j o2/\lcZ L v a m u j z o1 o2 := by
 have hls : ∀ n,(lsO L v).lv n = true := fun n => zYR.2 fun x hx => by obtain ⟨l,_,rfl⟩ := zZl.1 hx; rfl
 have hrn : ∀ π,(lsO L v).ren π = lsO L v := fun π => HO.ren0 π (hls 0)
 have := ACallX.ren (H := [rdB L 1 v a,lsO L v]) (R := fun x H1 => ∃ o1 o2,H1 = [o1,o2]/\lcR L v a m u 1 x o1 o2) (Z := fun z H1 => ∃ o1 o2,H1 = [o1,o2]/\lcZ L v a m u 1 z o1 o2)
  (h.mono (fun x H' ⟨o1,o2,junk,h1,h2⟩ => ⟨[o1,o2],junk,h1,⟨o1,o2,rfl,h2⟩,rfl,by obtain ⟨l,b,h3,h4,rfl,rfl,h5⟩ := h2; simp [hls]; rfl,by obtain ⟨l,b,h3,rfl,h5⟩ := h2; rfl⟩)
   fun z H' ⟨o1,o2,junk,h1,h2⟩ => ⟨[o1,o2],junk,h1,⟨o1,o2,rfl,h2⟩,rfl,by obtain ⟨h3,h4,⟨b,rfl⟩,rfl⟩ := h2; simp [hls]; rfl⟩)
  (by simp [hls]; rfl) rfl (G := G) (fun i => if i = 0 then r else j) (fun a b ha hb e => by
   simp at ha hb
   match a,b,ha,hb with
   | 0,0,_,_ => rfl
   | 1,1,_,_ => rfl
   | 0,1,_,_ => exact absurd e hne
   | 1,0,_,_ => exact absurd e.symm hne) (fun i o ho => by
   match i,ho with
   | 0,ho => simp at ho; subst ho; exact hr
   | 1,ho => simp at ho; subst ho; rw [hrn]; exact hj
   | i + 2,ho => simp at ho)
 refine this.mono (fun y G' ⟨x,H1,⟨o1,o2,e0,l,b,h3,h4,h6,h7,h5⟩,e1,e2⟩ => ⟨rdB L j v b,lsO L v,?_,l,b,h3,by rw [e1,h4]; rfl,rfl,rfl,h5⟩) fun z G' ⟨H1,⟨o1,o2,e0,h3,h4,⟨b,h6⟩,h7⟩,e2⟩ => ⟨rdB L j v b,lsO L v,?_,h3,h4,⟨b,rfl⟩,rfl⟩
 ·rw [e2,e0,h6,h7]; simp only [zGt]; rw [hrn]; rfl
 ·rw [e2,e0,h6,h7]; simp only [zGt]; rw [hrn]; rfl
def LcI (L : List Ln) (m : Nat) (u : Wd) (v a0 : Nat) (st : Nat × Nat × List Ins) (e' : Env) (G : zB) : Prop :=
 e' 0 = .ptr 0 0 0/\e' 1 = str u/\e' 5 = .os 2 st.2.2.length 0 st.2.2.length/\a0 <= st.1/\st.1 <= L.length/\st.2.1 < m/\L.length - st.1 < m - st.2.1/\zAj m u (L.drop a0) = (zAj (m - st.2.1) u (L.drop st.1)).map (fun p => (st.2.2 ++ p.1,p.2))/\(∃ J,G = rdB L 1 v st.1 :: lsO L v :: .arr st.2.2.length 5 (st.2.2.map zAq) :: J)/\st.2.2.length <= st.1
theorem LcI.nx {L : List Ln} {m a0 a k a' v : Nat} {u : Wd} {out : List Ins} {X : Ins} {row : List AV} {e' : Env} {J : zB} (h0 : a0 <= a) (h1 : out.length <= a) (h2 : a < a') (h3 : a' <= L.length) (h4 : L.length - a' < m - (k + 1))
  (g0 : e' 0 = .ptr 0 0 0) (g1 : e' 1 = str u) (g6 : e' 5 = .os 2 (out.length + 1) 0 (out.length + 1)) (hl : zAj m u (L.drop a0) = (zAj (m - (k + 1)) u (L.drop a')).map fun p => (out ++ [X] ++ p.1,p.2)) (hr : row = zAq X) :
  Nx (LcI L m u v a0) (fun st => L.length - st.1) (a,k,out) e' (rdB L 1 v a' :: lsO L v :: .arr (out.length + 1) 5 (out.map zAq ++ [row]) :: J) := by
 have e : (out ++ [X]).length = out.length + 1 := by simp
 refine .mk (a',k + 1,out ++ [X]) ⟨g0,g1,by rw [e]; exact g6,by simp only; omega,h3,by simp only; omega,h4,hl,⟨J,by rw [e,hr]; simp⟩,?_⟩ (by simp only; omega)
 show (out ++ [X]).length <= a'
 omega
set_option maxHeartbeats 8000000 in
theorem zU2 (L : List Ln) (hL : zWQ L) (v : Nat) : ∀ (m : Nat) (u : Wd) (a : Nat),opF u = none->L.length - a < m->a <= L.length->∀ (G : zB) (r j : Nat),r ≠ j->G[r]? = some (rdB L j v a)->G[j]? = some (lsO L v) ->
  ACallX Tryz.prog 27 [.ptr r 0 0,str u] G (fun x G' => ∃ o1 o2,G' = (G.set r o1).set j o2/\lcR L v a m u j x o1 o2) fun z G' => ∃ o1 o2,G' = (G.set r o1).set j o2/\lcZ L v a m u j z o1 o2 := by
 intro m
 induction m using Nat.strongRecOn with
 | ind m ih =>
 intro u a0 hu hm ha
 refine zU3 ?_
 refine zGZ Tryz.func27 L27n_ok (zYu rfl) ?_
 repeat' (simp -implicitDefEqProofs (disch := omega) only [L27n,zYB,zYG,zYs,zYw,push_cast,simprocAttr])
 refine zW (LcI L m u v a0) (fun st => L.length - st.1) (a0,0,[]) ?_ ?_
 ·exact ⟨rfl,rfl,rfl,zYH _,ha,zzaJ (zYO _) hm,hm,by simp,⟨[],rfl⟩,zYO _⟩
 rintro ⟨a,k,out⟩ e' G ⟨g0,g1,g5,q0,q1,q2,q3,law,⟨J,rfl⟩,q7⟩
 simp only at g5 q0 q1 q2 q3 law q7
 have hlen := hL.len
 obtain ⟨n,hn⟩ : ∃ n,m - k = n + 1 := ⟨m - k - 1,by omega⟩
 have hbadL : ∀ (J' : zB) (b : Nat),zAj m u (L.drop a0) = none->∃ o1 o2 junk,rdB L 1 v b :: lsO L v :: J' = o1 :: o2 :: junk/\lcZ L v a0 m u 1 zCD o1 o2 := fun J' b h => ⟨_,_,J',rfl,h,rfl,⟨b,rfl⟩,rfl⟩
 by_cases hlt : a < L.length
 rotate_left
 ·have e : a = L.length := by omega
  subst e
  have hno : zAj m u (L.drop a0) = none := by rw [law,hn,zZ6]; rfl
  repeat' (first | refine zA (zRN L hL.len v _) ?_ | refine zK (zAO _) ?_ | simp -implicitDefEqProofs (disch := omega) only [g0,zYB,zYG,push_cast,Int.reduceLT])
  all_goals exact hbadL _ _ hno
 have hmem := zAf hlt
 obtain ⟨w1,w2⟩ := hL.wd _ hmem
 have wne := hL.ne _ hmem
 rw [zKz hlt] at law
 have cX := fun J => zRO L hL.len v a hlt J
 generalize L.getD a default = l at *
 have hl0 := List.length_pos_iff.2 wne
 have hw0 : (l.map sR).getD 0 [] = sR (l.getD 0 default) := zL hl0
 rw [hn,zAj] at law
 have hh0 : l.headD [] = l.getD 0 default := by cases l <;> rfl
 rw [hh0] at law
 by_cases h2 : l.getD 0 default = u
 ·rw [if_pos h2] at law
  by_cases h1 : l.length = 1
  ·rw [if_pos h1] at law
   repeat' (first | refine zD (zAy _) ?_ | refine zAZ (cX _) ?_ | simp -implicitDefEqProofs (disch := omega) only [g0,g1,g5,zYB,zYG,zYv,zYx,zYE,zYC,zYs,zYw,zYo,hw0,sR,h2,h1,push_cast,simprocAttr,↓reduceIte])
   exact ⟨⟨by omega,zAM zND _⟩,_,_,_,rfl,out,a + 1,by rw [law]; simp,rfl,rfl,rfl,by omega,hlt⟩
  ·rw [if_neg h1] at law
   repeat' (first | refine zYt (by omega) ?_ | refine zD (zAy _) ?_ | refine zK (zAO _) ?_ | refine zAZ (cX _) ?_ | simp -implicitDefEqProofs (disch := omega) only [g0,g1,zYB,zYG,zYs,zYw,zYo,hw0,sR,h2,zI,zU,push_cast,simprocAttr,↓reduceIte])
   exact hbadL _ _ law
 rw [if_neg h2] at law
 have hfx : zSl opsW (l.getD 0 default) = match opF (l.getD 0 default) with | some k => (k : Int) | none => -1 := rfl
 have cF := fun H => zX5 opsW (l.getD 0 default) (by decide) H
 have cW : ∀ H,ACall Tryz.prog 38 [] H fun x H' => x = .sl 1 (opsW.map sR)/\H' = H := zL1
 have htl : l.tail = l.drop 1 := List.drop_one.symm
 cases hop : opF (l.getD 0 default) with
 | none =>
  rw [hop] at hfx
  simp only at hfx
  rw [hfx] at cF
  have hno : zAj m u (L.drop a0) = none := by rw [law]; unfold zF7; rw [hh0,hop]; rfl
  repeat' (first | refine zYt (by omega) ?_ | refine zF (cW _) rfl ?_ | refine zF (cF _) rfl ?_ | refine zD (zAy _) ?_ | refine zK (zAO _) ?_ | refine zAZ (cX _) ?_ | simp -implicitDefEqProofs (disch := omega) only [g0,g1,zYB,zYG,zYs,zYw,zYo,hw0,sR,h2,zI,push_cast,simprocAttr,↓reduceIte])
  all_goals exact hbadL _ _ hno
 | some op =>
  rw [hop] at hfx
  simp only at hfx
  rw [hfx] at cF
  obtain ⟨hop1,hop2⟩ := zHu hop
  have cO := fun H => zGJ op H
  have hA2 : zCl op <= 2 := by unfold zCl; split <;> (try split) <;> omega
  by_cases hla : l.length = 1 + zCl op
  rotate_left
  ·have hno : zAj m u (L.drop a0) = none := by
    rw [law]; unfold zF7; rw [hh0,hop]
    simp only
    rw [htl]
    cases hnum : zBj (l.drop 1) with
    | none => rfl
    | some ns =>
     have := zCu hnum
     simp only [zZB] at this
     simp only
     rw [if_neg (by omega)]; rfl
   repeat' (first | refine zYt (by omega) ?_ | refine zA (cO _) ?_ | refine zF (cW _) rfl ?_ | refine zF (cF _) rfl ?_ | refine zD (zAy _) ?_ | refine zK (zAO _) ?_ | refine zAZ (cX _) ?_ | simp -implicitDefEqProofs (disch := omega) only [g0,g1,zYB,zYG,zYs,zYw,zYo,hw0,sR,h2,zI,zAg,zU,push_cast,simprocAttr,↓reduceIte])
   all_goals exact hbadL _ _ hno
  have hdp : List.drop 1 (l.map sR) = (l.drop 1).map sR := zzau.symm
  have hdl : (l.drop 1).length <= 1048576 := by simp; omega
  have hdw : ∀ w ∈ l.drop 1,w.length <= 1048576 := fun w hw => w2 w (zZx hw)
  have hts : List.take (l.length - 1) ((l.drop 1).map sR) = (l.drop 1).map sR := zYN (by simp)
  repeat' (first | refine zYt (by omega) ?_ | refine zA (cO _) ?_ | refine zF (cW _) rfl ?_ | refine zF (cF _) rfl ?_ | refine zD (zAy _) ?_ | refine zAZ (cX _) ?_ | simp -implicitDefEqProofs (disch := omega) only [g0,g1,zYB,zYG,zYs,zYw,zYo,hw0,sR,h2,hdp,hts,zI,zAg,zZ,push_cast,simprocAttr,↓reduceIte])
  refine zG (zIq (l.drop 1) hdl hdw _) ?_ ?_
  rotate_left
  ·rintro z H' ⟨hnum,rfl,junk,rfl⟩
   have hno : zAj m u (L.drop a0) = none := by rw [law]; unfold zF7; rw [hh0,hop,htl,hnum]; rfl
   repeat' (simp -implicitDefEqProofs (disch := omega) only [zYB,push_cast])
   all_goals exact hbadL _ _ hno
  rintro x H' ⟨ns,hnum,rfl,rfl⟩
  have hnl := zCu hnum
  have hargs : ns.length = zCl op := by simp only [zZB] at hnl; omega
  have hhead : zF7 l = some (op,ns.getD 0 0,ns.getD 1 0) := by unfold zF7; rw [hh0,hop]; simp only; rw [htl,hnum]; simp only; rw [if_pos hargs]
  rw [hhead] at law
  simp only at law
  by_cases h18 : op = 18
  ·subst h18
   have hA : zCl 18 = 0 := rfl
   rw [hA] at hargs
   have hns : ns = [] := zYQ.1 hargs
   subst hns
   rw [<- hnl]
   rw [if_pos rfl] at law
   simp only [List.getD_nil] at law
   repeat' (simp -implicitDefEqProofs (disch := omega) only [g0,zYB,zYG,zYv,zYx,zYE,zYC,zYs,zYw,zYF,zZQ,zzat,zZF,zZw,push_cast,simprocAttr,↓reduceIte,zYp])
   refine zG (ih n (by omega) zHg (a + 1) (by decide) (by omega) (by omega) _ 0 1 (by decide) rfl rfl) ?_ ?_
   rotate_left
   ·rintro z H' ⟨o1,o2,rfl,hn1,rfl,⟨b,rfl⟩,rfl⟩
    have hno : zAj m u (L.drop a0) = none := by rw [law,hn1]; rfl
    repeat' (simp -implicitDefEqProofs (disch := omega) only [zYE,zYC,push_cast])
    all_goals exact hbadL _ _ hno
   rintro x H' ⟨o1,o2,rfl,l1,b,hs1,rfl,rfl,rfl,hb1,hb2⟩
   rw [hs1] at law
   simp only at law
   repeat' (simp -implicitDefEqProofs (disch := omega) only [g0,zYB,zYG,zYv,zYx,zYE,zYC,zYs,zYw,push_cast,simprocAttr,↓reduceIte,zYp])
   refine zG (ih n (by omega) zER b (by decide) (by omega) hb2 _ 0 1 (by decide) rfl rfl) ?_ ?_
   rotate_left
   ·rintro z H' ⟨o1,o2,rfl,hn1,rfl,⟨b,rfl⟩,rfl⟩
    have hno : zAj m u (L.drop a0) = none := by rw [law,hn1]; rfl
    repeat' (simp -implicitDefEqProofs (disch := omega) only [zYE,zYC,push_cast])
    all_goals exact hbadL _ _ hno
   rintro x H' ⟨o1,o2,rfl,l2,c,hs2,rfl,rfl,rfl,hc1,hc2⟩
   rw [hs2] at law
   simp only at law
   rw [Option.map_map] at law
   have law2 : zAj m u (L.drop a0) = (zAj (m - (k + 1)) u (L.drop c)).map fun p => (out ++ [Ins.mk 18 0 0 l1 l2] ++ p.1,p.2) := by
    rw [law,show m - (k + 1) = n by omega]; congr 1; funext p; simp
   repeat' (first | refine zYt (by omega) ?_ | simp -implicitDefEqProofs (disch := omega) only [g5,zYB,zYG,zYv,zYx,zYE,zYC,zYs,zYw,zYo,push_cast,simprocAttr,↓reduceIte,zYp])
   refine LcI.nx q0 q7 (by omega) hc2 (by omega) ?_ ?_ ?_ law2 (by simp [zAq,zAh])
   ·exact g0
   ·exact g1
   ·rfl
  by_cases h19 : op = 19
  ·subst h19
   have hA : zCl 19 = 0 := rfl
   rw [hA] at hargs
   have hns : ns = [] := zYQ.1 hargs
   subst hns
   rw [<- hnl]
   rw [if_neg (by decide)] at law
   rw [if_pos rfl] at law
   simp only [List.getD_nil] at law
   repeat' (simp -implicitDefEqProofs (disch := omega) only [g0,zYB,zYG,zYv,zYx,zYE,zYC,zYs,zYw,zYF,zZQ,zzat,zZF,zZw,push_cast,simprocAttr,↓reduceIte,zYp])
   refine zG (ih n (by omega) wDo (a + 1) (by decide) (by omega) (by omega) _ 0 1 (by decide) rfl rfl) ?_ ?_
   rotate_left
   ·rintro z H' ⟨o1,o2,rfl,hn1,rfl,⟨b,rfl⟩,rfl⟩
    have hno : zAj m u (L.drop a0) = none := by rw [law,hn1]; rfl
    repeat' (simp -implicitDefEqProofs (disch := omega) only [zYE,zYC,push_cast])
    all_goals exact hbadL _ _ hno
   rintro x H' ⟨o1,o2,rfl,l1,b,hs1,rfl,rfl,rfl,hb1,hb2⟩
   rw [hs1] at law
   simp only at law
   repeat' (simp -implicitDefEqProofs (disch := omega) only [g0,zYB,zYG,zYv,zYx,zYE,zYC,zYs,zYw,push_cast,simprocAttr,↓reduceIte,zYp])
   refine zG (ih n (by omega) zER b (by decide) (by omega) hb2 _ 0 1 (by decide) rfl rfl) ?_ ?_
   rotate_left
   ·rintro z H' ⟨o1,o2,rfl,hn1,rfl,⟨b,rfl⟩,rfl⟩
    have hno : zAj m u (L.drop a0) = none := by rw [law,hn1]; rfl
    repeat' (simp -implicitDefEqProofs (disch := omega) only [zYE,zYC,push_cast])
    all_goals exact hbadL _ _ hno
   rintro x H' ⟨o1,o2,rfl,l2,c,hs2,rfl,rfl,rfl,hc1,hc2⟩
   rw [hs2] at law
   simp only at law
   rw [Option.map_map] at law
   have law2 : zAj m u (L.drop a0) = (zAj (m - (k + 1)) u (L.drop c)).map fun p => (out ++ [Ins.mk 19 0 0 l2 l1] ++ p.1,p.2) := by
    rw [law,show m - (k + 1) = n by omega]; congr 1; funext p; simp
   repeat' (first | refine zYt (by omega) ?_ | simp -implicitDefEqProofs (disch := omega) only [g5,zYB,zYG,zYv,zYx,zYE,zYC,zYs,zYw,zYo,push_cast,simprocAttr,↓reduceIte,zYp])
   refine LcI.nx q0 q7 (by omega) hc2 (by omega) ?_ ?_ ?_ law2 (by simp [zAq,zAh])
   ·exact g0
   ·exact g1
   ·rfl
  rw [if_neg h18,if_neg h19,Option.map_map] at law
  have law2 : zAj m u (L.drop a0) = (zAj (m - (k + 1)) u (L.drop (a + 1))).map fun p => (out ++ [.mk op (ns.getD 0 0) (ns.getD 1 0) [] []] ++ p.1,p.2) := by
   rw [law,show m - (k + 1) = n by omega]; congr 1; funext p; simp
  rw [<- hnl]
  rcases ns with _ | ⟨x,_ | ⟨y,_ | ⟨z,t⟩⟩⟩ <;> try (simp only [zYs] at hargs; omega)
  all_goals
   simp only [zZF,zZw,List.getD_nil] at law2
   repeat' (first | refine zYt (by omega) ?_ | simp -implicitDefEqProofs (disch := omega) only [g5,zYB,zYG,zYv,zYx,zYE,zYC,zYs,zYw,zYF,zYo,zZA,zZQ,iR,zzaf,zZ8,zzat,zZF,zZw,zU,push_cast,simprocAttr,↓reduceIte,zYp])
   refine LcI.nx q0 q7 (zzao _) hlt (by omega) ?_ ?_ ?_ law2 (by simp [zAq,zAh])
   ·exact g0
   ·exact g1
   ·rfl
theorem zNF (s : Wd) (c : UInt8) (H : zB) : ACall Tryz.prog 112 [str s,str [c]] H fun x H' => x = int (Lib.indexByte s c)/\H' = H := by
 refine ⟨⟨_,Tryz.func112,by kernel_rfl,by kernel_rfl⟩,fun X ρ w vs hrel hargs => ?_⟩
 obtain ⟨a,b,rfl,ha,hb⟩ := zFr hargs
 have ha := zEg ha
 have hb := zEg hb
 subst ha
 subst hb
 refine (Tryz.strings_Index_one (mkS s) c w).mono ?_
 rintro e w' ⟨rfl,rfl⟩
 exact ⟨_,_,H,ρ,rfl,⟨rfl,rfl⟩,hrel,.v _ _,Fut.refl _ _ _⟩
theorem zIa (s : Wd) (c : UInt8) (H : zB) : ACall Tryz.prog 23 [str s,str [c]] H fun x H' => x = .fn (.func 110) [] [.ptr (H.length + 1) 0 0,.ptr H.length 0 0,.ptr (H.length + 2) 0 0]/\H' = H ++ [.box [str s],.box [str [c]],.box [int 0]] := by
 have h2 : ACall Tryz.prog 55 [str s,str [c],int 0] H fun x H' => x = .fn (.func 110) [] [.ptr (H.length + 1) 0 0,.ptr H.length 0 0,.ptr (H.length + 2) 0 0]/\H' = H ++ [.box [str s],.box [str [c]],.box [int 0]] := by
  refine enter Tryz.func55 L55_ok (zYu rfl) ?_
  repeat' (simp -implicitDefEqProofs (disch := omega) only [L55,push_cast,simprocAttr,↓reduceIte,zYp])
 refine enter Tryz.func23 L23_ok (zYu rfl) ?_
 repeat' (first | refine zAZ (h2) ?_ | simp -implicitDefEqProofs (disch := omega) only [L23,push_cast,simprocAttr,↓reduceIte])
theorem idxB : ∀ (s : Wd) (c : UInt8),(Lib.indexByte s c = -1/\c ∉ s)\/∃ w t,s = w ++ c :: t/\c ∉ w/\Lib.indexByte s c = w.length
 | [],c => .inl ⟨rfl,by simp⟩
 | b :: s,c => by
  by_cases h : b = c
  ·subst h; exact .inr ⟨[],s,rfl,by simp,by simp [Lib.indexByte]⟩
  ·have hb : (b == c) = false := beq_false_of_ne h
   rcases idxB s c with ⟨h1,h2⟩ | ⟨w,t,rfl,h2,h3⟩
   ·exact .inl ⟨by simp [Lib.indexByte,hb,h1],by simp [h2]; exact fun e => h e.symm⟩
   ·refine .inr ⟨b :: w,t,rfl,by simp [h2]; exact fun e => h e.symm,?_⟩
    unfold Lib.indexByte
    rw [hb,h3]
    have : ((w.length : Int) == -1) = false := beq_false_of_ne (by omega)
    rw [this]; simp
theorem zQg (c : UInt8) (l bs bp bv N : Nat) (J : List Wd->Wd->zB->Prop) (hl : bs ≠ bp/\bs ≠ bv/\bp ≠ bv) (h1 : ∀ ps t G,J ps t G->G[bs]? = some (.box [str t])/\G[bp]? = some (.box [str [c]])/\G[bv]? = some (.box [int 0]))
  (h2 : ∀ ps t t' G,J ps t G->J ps t' (G.set bs (.box [str t']))) (h3 : ∀ ps p t G,ps.length < N->p.length <= 1048576->J ps t G->AYield Tryz.prog l [str p] G fun x G' => x = bool true/\J (ps ++ [p]) t G') (ps : List Wd) (s : Wd) (hs : s.length <= 1048576) (hN : (ps ++ spB c s).length <= N) (G : zB) (hG : J ps s G) :
  ACall Tryz.prog 110 [.v (.func (.yield l) #[] #[]),.ptr bp 0 0,.ptr bs 0 0,.ptr bv 0 0] G fun _ G' => ∃ t,J (ps ++ spB c s) t G' := by
 refine enter Tryz.func110 L110_ok (zYu rfl) ?_
 obtain ⟨g1,g2,g3⟩ := h1 _ _ _ hG
 repeat' (simp -implicitDefEqProofs (disch := omega) only [L110,g2,push_cast,simprocAttr,↓reduceIte])
 refine zW (fun (st : List Wd × Wd) e' G' => e' 0 = .v (.func (.yield l) #[] #[])/\e' 1 = .ptr bp 0 0/\e' 2 = .ptr bs 0 0/\e' 3 = .ptr bv 0 0/\J st.1 st.2 G'/\st.1 ++ spB c st.2 = ps ++ spB c s/\st.2.length <= s.length) (fun st => st.2.length) (ps,s) ?_ ?_
 ·exact ⟨rfl,rfl,rfl,rfl,hG,rfl,zYH _⟩
 clear g1 g2 g3
 rintro ⟨qs,t⟩ e' G' ⟨f0,f1,f2,f3,hJ,hsp,hle⟩
 simp only at hJ hsp hle
 obtain ⟨g1,g2,g3⟩ := h1 _ _ _ hJ
 have hbs := (zYr.1 g1).1
 have cI := fun H => zNF t c H
 have hqN : qs.length < N := by
  rw [<- hsp,zYF] at hN
  have := List.length_pos_iff.2 (zMk c t)
  omega
 rcases idxB t c with ⟨hi,hn⟩ | ⟨w,t',rfl,hn,hi⟩
 ·rw [hi] at cI
  repeat' (first | refine zA (cI _) ?_ | simp -implicitDefEqProofs (disch := omega) only [f0,f1,f2,g1,g2,push_cast,simprocAttr,↓reduceIte])
  refine zG8 (h3 qs t t _ hqN (by omega) hJ) ?_
  rintro y H' ⟨rfl,hJ2⟩
  repeat' (simp -implicitDefEqProofs (disch := omega) only [push_cast,Int.reduceNeg])
  exact ⟨by simp [zAH],t,by rw [<- hsp,zFq hn]; exact hJ2⟩
 ·rw [hi] at cI
  rw [zHm hn] at hsp
  have hle2 : w.length + (t'.length + 1) <= s.length := by simpa using hle
  have htk : List.take w.length (w ++ c :: t') = w := zzaV rfl
  repeat' (first | refine zYt (by omega) ?_ | refine zA (cI _) ?_ | simp -implicitDefEqProofs (disch := omega) only [f0,f1,f2,f3,g1,g2,g3,Int.add_zero,zZy,zzal,htk,zT,push_cast,simprocAttr,↓reduceIte])
  refine zG8 (h3 qs w _ _ hqN (by omega) hJ) ?_
  rintro y H' ⟨rfl,hJ2⟩
  obtain ⟨g1,g2,g3⟩ := h1 _ _ _ hJ2
  repeat' (first | refine zYt (by omega) ?_ | simp -implicitDefEqProofs (disch := omega) only [f1,f2,g1,g2,zYF,zYs,push_cast,simprocAttr,↓reduceIte,zYp])
  refine .mk (qs ++ [w],t') ⟨f0,f1,f2,f3,?_,by rw [<- hsp]; simp,by simp only; omega⟩ (by simp only [zYF,zYs]; omega)
  have hdr : List.take (((w.length : Int) + (t'.length + 1)).toNat - (w.length + 1)) (List.drop (w.length + 1) (w ++ c :: t')) = t' := by
   rw [List.drop_append,zZ5 (by omega),show w.length + 1 - w.length = 1 by omega]
   exact zYN (by simp; omega)
  rw [hdr]
  exact h2 _ _ _ _ hJ2
theorem zOx {x y a b : AV} (h : AV.Le x y) (h2 : AV.Le a b) : AV.Le (.tup [x,a]) (.tup [y,b]) := fun w M ρ n v hv => by
 cases hv with
 | tup _ _ us hl' hr =>
  refine .tup _ _ _ hl' fun i z u hz hu => ?_
  match i,hz with
  | 0,hz => cases hz; exact h _ _ _ _ _ (hr 0 x u rfl hu)
  | 1,hz => cases hz; exact h2 _ _ _ _ _ (hr 1 a u rfl hu)
noncomputable def zAB (s : Wd) : List Pr × Int := match zBC (zAY s).length (zAY s) with
 | none => ([],3)
 | some ps => if zBM ps = true then (ps,0) else ([],1)
def CS (c : AV) (J : zB) (ps : List Pr) : Prop := (ps = []/\c = zAl)\/∃ j v,c = .os (j + 3) v 0 ps.length/\J[j]? = some (.arr v 6 (ps.map prR))
theorem zMR (q : Pr) : clL (prR q) = true := by simp [prR,clL,AV.cl]
theorem zC1 : ∀ (n : Nat) (u : Wd) (L : List Ln) (p : List Ins × List Ln),zAj n u L = some p->zQ p.1 + p.2.length < L.length
 | 0,_,_,_,h => by simp [zAj] at h
 | _ + 1,_,[],_,h => by simp [zAj] at h
 | n + 1,u,l :: L,p,h => by
  rw [zAj] at h
  split at h
  ·split at h
   ·cases h; simp [zQ]
   ·cases h
  split at h
  ·cases h
  have key : ∀ (M : List Ln) (y : Ins),zBo y + M.length <= L.length + 1->(zAj n u M).map (fun r => (y :: r.1,r.2)) = some p->zQ p.1 + p.2.length < (l :: L).length := by
   intro M y hM h
   cases hx : zAj n u M with
   | none => rw [hx] at h; cases h
   | some r =>
    rw [hx] at h
    have := zC1 n u M r hx
    simp only [zYZ,zYq] at h
    subst h
    simp only [zQ,zYs] at *; omega
  split at h
  ·split at h
   ·cases h
   rename_i h1
   split at h
   ·cases h
   rename_i h2
   have := zC1 _ _ _ _ h1
   have := zC1 _ _ _ _ h2
   exact key _ _ (by simp only [zBo] at *; omega) h
  split at h
  ·split at h
   ·cases h
   rename_i h1
   split at h
   ·cases h
   rename_i h2
   have := zC1 _ _ _ _ h1
   have := zC1 _ _ _ _ h2
   exact key _ _ (by simp only [zBo] at *; omega) h
  ·exact key _ _ (by simp only [zBo,zQ]; omega) h
theorem zC0 : ∀ (n : Nat) (u : Wd) (L : List Ln) (p : List Ins × List Ln),zAj n u L = some p->∀ x ∈ p.2,x ∈ L
 | 0,_,_,_,h => by simp [zAj] at h
 | _ + 1,_,[],_,h => by simp [zAj] at h
 | n + 1,u,l :: L,p,h => by
  rw [zAj] at h
  split at h
  ·split at h
   ·cases h; exact fun x hx => zZZ _ hx
   ·cases h
  split at h
  ·cases h
  have key : ∀ (M : List Ln) (y : Ins),(∀ x ∈ M,x ∈ L)->(zAj n u M).map (fun r => (y :: r.1,r.2)) = some p->∀ x ∈ p.2,x ∈ l :: L := by
   intro M y hM h x hx
   cases hy : zAj n u M with
   | none => rw [hy] at h; cases h
   | some r =>
    rw [hy] at h
    simp only [zYZ,zYq] at h
    subst h
    exact zZZ _ (hM _ (zC0 n u M r hy x hx))
  split at h
  ·split at h
   ·cases h
   rename_i h1
   split at h
   ·cases h
   rename_i h2
   exact key _ _ (fun x hx => zC0 _ _ _ _ h1 x (zC0 _ _ _ _ h2 x hx)) h
  split at h
  ·split at h
   ·cases h
   rename_i h1
   split at h
   ·cases h
   rename_i h2
   exact key _ _ (fun x hx => zC0 _ _ _ _ h1 x (zC0 _ _ _ _ h2 x hx)) h
  ·exact key _ _ (fun x hx => hx) h
theorem zEB : ∀ (n : Nat) (L : List Ln) (ps : List Pr),zBC n L = some ps->ps.length + zA7 ps <= L.length/\∀ q ∈ ps,(∃ l ∈ L,q.name ∈ l/\q.outs.length <= l.length)/\zQ q.body <= L.length
 | n,[],ps,h => by cases n <;> simp only [zBC,zYq] at h <;> subst h <;> exact ⟨zYH _,fun q hq => by cases hq⟩
 | 0,l :: L,ps,h => by simp [zBC] at h
 | n + 1,l :: L,ps,h => by
  rw [zBC] at h
  split at h
  ·cases h
  rename_i q hq
  split at h
  ·cases h
  rename_i b L1 hb
  cases hx : zBC n L1 with
  | none => rw [hx] at h; cases h
  | some qs =>
   rw [hx] at h
   simp only [zYZ,zYq] at h
   subst h
   obtain ⟨i1,i2⟩ := zEB n L1 qs hx
   have hc := zC1 _ _ _ _ hb
   have hsub : ∀ x ∈ L1,x ∈ l :: L := fun x hx => zZZ _ (zC0 _ _ _ _ hb x hx)
   unfold zOC at hq
   split at hq
   ·rename_i hw
    cases hn : zBj (l.drop 2) with
    | none => rw [hn] at hq; cases hq
    | some ns =>
     rw [hn] at hq
     simp only [zYZ,zYq] at hq
     subst hq
     have hnl := zCu hn
     refine ⟨by simp only [zYs,zA7] at *; omega,fun q hq => ?_⟩
     rcases zY5.1 hq with rfl | hq
     ·refine ⟨⟨l,by simp,?_,?_⟩,by simp only [zYs] at *; omega⟩
      ·have : 1 < l.length := by omega
       simp only [zYI,zYK this,zZj]
       exact zzaq this
      ·simp only [zZB] at *; omega
     ·obtain ⟨⟨l',h1,h2,h3⟩,h4⟩ := i2 q hq
      exact ⟨⟨l',hsub _ h1,h2,h3⟩,by simp only [zYs] at *; omega⟩
   ·cases hq
theorem zSi {α : Type} [Inhabited α] {l : List α} {i : Nat} (h : i < l.length) : l.drop i = l.getD i default :: l.drop (i + 1) := by
 rw [zY4 h]; simp [List.getD,zYK h]
def PrI (L : List Ln) (st : Nat × Nat × List Pr) (e' : Env) (G : zB) : Prop :=
 e' 2 = .ptr 0 0 0/\e' 4 = .ptr 1 0 0/\e' 5 = .ptr 2 0 0/\st.1 <= L.length/\L.length - st.1 <= st.2.1/\zBC L.length L = (zBC st.2.1 (L.drop st.1)).map (st.2.2 ++ ·)/\(∃ c J,G = .box [zAl] :: rdO L st.1 :: .box [c] :: J/\CS c J st.2.2)/\st.2.2.length <= st.1
set_option maxHeartbeats 8000000 in
theorem zRS (s : Wd) (hs0 : s.length <= 65536) (H : zB) : ACall Tryz.prog 11 [str s] H fun x H' => x = .tup [.agg [zAU (zAB s).1],int (zAB s).2]/\H' = H := by
 have hs : s.length <= 1048576 := by omega
 refine APure.frame (x := .tup [.agg [zAU (zAB s).1],int (zAB s).2]) ?_ rfl H
 have main : ACall Tryz.prog 11 [str s] [] fun x H' => (∃ c,x = .tup [.agg [c],int (zAB s).2]/\(c = zAU (zAB s).1\/(zAB s).1 = []/\c = zAl))/\H' = [] := by
  refine ACall.drop (R := fun x => ∃ c,x = .tup [.agg [c],int (zAB s).2]/\(c = zAU (zAB s).1\/(zAB s).1 = []/\c = zAl)) ?_
  refine enter Tryz.func11 L11p_ok (zYu rfl) ?_
  have hLs : zWQ (zAY s) := ⟨by have := zC2 s; omega,fun l hl => zIz hl,fun l hl => ⟨by have := (zBZ hl).1; omega,fun w hw => by have := (zBZ hl).2 w hw; omega⟩⟩
  have cL := fun H => zR3 s hs H
  have hpf : zAB s = match zBC (zAY s).length (zAY s) with | none => ([],3) | some ps => if zBM ps = true then (ps,0) else ([],1) := rfl
  have hcl : (zAY s).length <= s.length + 1 := zC2 s
  generalize hL : zAY s = L at *
  repeat' (first | refine zA (cL _) ?_ | simp -implicitDefEqProofs (disch := omega) only [L11p,zYB,zYG,zYv,zYx,zYE,zYC,zYs,zYw,zT,push_cast,simprocAttr,↓reduceIte,zYp])
  have fin : zBC L.length L = none->∃ c',AV.tup [.agg [zAl],int 3] = .tup [.agg [c'],int (zAB s).2]/\(c' = zAU (zAB s).1\/(zAB s).1 = []/\c' = zAl) := fun h => by
   rw [hpf,h]; exact ⟨zAl,rfl,.inr ⟨rfl,rfl⟩⟩
  refine zW (PrI L) (fun st => L.length - st.1) (0,L.length,[]) ?_ ?_
  ·exact ⟨rfl,rfl,rfl,zYO _,zYH _,by simp,⟨zAl,[],rfl,.inl ⟨rfl,rfl⟩⟩,zYO _⟩
  rintro ⟨a,n,ps⟩ e' G ⟨g2,g4,g5,q1,q2,law,⟨c,J,rfl,hc⟩,q3⟩
  simp only at q1 q2 law hc q3
  by_cases hlt : a < L.length
  ·obtain ⟨w1,w2⟩ := hLs.wd _ (zAf hlt)
   have wne := hLs.ne _ (zAf hlt)
   obtain ⟨n,rfl⟩ : ∃ n',n = n' + 1 := ⟨n - 1,by omega⟩
   rw [zSi hlt,zBC] at law
   have hrow : (L.map lnR).getD a [] = lnR (L.getD a default) := zL hlt
   generalize L.getD a default = l at *
   have hl0 := List.length_pos_iff.2 wne
   have hw0 : (l.map sR).getD 0 [] = sR (l.getD 0 default) := zL hl0
   have hh0 : l.headD [] = l.getD 0 default := by cases l <;> rfl
   have hlen := hLs.len
   by_cases h5 : l.length < 5
   ·have hno : zBC L.length L = none := by
     rw [law]; unfold zOC; rw [if_neg (by omega)]; rfl
    repeat' (first | refine zYt (by omega) ?_ | simp -implicitDefEqProofs (disch := omega) only [g2,g4,zYB,zYG,zYv,zYx,zYE,zYC,zYs,zYw,hrow,lnR,zYo,zI,push_cast,simprocAttr,↓reduceIte,zYp])
    all_goals exact ⟨fin hno,_,rfl⟩
   by_cases h6 : l.getD 0 default = zEx
   rotate_left
   ·have hno : zBC L.length L = none := by
     rw [law]; unfold zOC; rw [if_neg fun h => h6 (hh0 ▸ h.1)]; rfl
    have h6n : ¬ l.getD 0 default = [112,114,111,99] := h6
    repeat' (first | refine zYt (by omega) ?_ | simp -implicitDefEqProofs (disch := omega) only [g2,g4,zYB,zYG,zYv,zYx,zYE,zYC,zYs,zYw,hrow,lnR,zYo,hw0,sR,h6n,zI,zT,push_cast,simprocAttr,↓reduceIte,zYp])
    all_goals exact ⟨fin hno,_,rfl⟩
   have hdp : List.drop 2 (l.map sR) = (l.drop 2).map sR := zzau.symm
   have hts : List.take (l.length - 2) ((l.drop 2).map sR) = (l.drop 2).map sR := zYN (by simp)
   have hdl : (l.drop 2).length <= 1048576 := by simp; omega
   have hdw : ∀ w ∈ l.drop 2,w.length <= 1048576 := fun w hw => w2 w (zZx hw)
   have cN := fun H => zIp (l.drop 2) hdl hdw H
   have h1w : (l.map sR).getD 1 [] = sR (l.getD 1 default) := zL (by omega)
   have cI := zU0 L hLs ((L.drop (a + 1)).length + 1) zER (a + 1) (by decide) (by simp) (by omega)
   have hpr : zOC l = (zBj (l.drop 2)).map fun ns => ⟨l.getD 1 [],ns.getD 0 0,ns.getD 1 0,ns.getD 2 0,ns.drop 3,[]⟩ := by
    unfold zOC; rw [if_pos ⟨by rw [hh0]; exact h6,by omega⟩]
   rw [hpr] at law
   unfold zEE at cN
   have h6' : l.getD 0 default = [112,114,111,99] := h6
   cases hn : zBj (l.drop 2) with
   | none =>
    rw [hn] at cN law
    repeat' (first | refine zYt (by omega) ?_ | refine zA (cN _) ?_ | simp -implicitDefEqProofs (disch := omega) only [g4,zYB,zYG,zYv,zYx,zYE,zYC,zYs,zYw,hrow,lnR,zYo,hw0,sR,h6',hdp,hts,zI,zT,push_cast,simprocAttr,↓reduceIte,zYp])
    refine zAb (cI _ 1 rfl) ?_
    rintro x H1 ⟨b,rfl,rfl,hb1,hb2,hb3⟩
    cases o1 : zAj ((L.drop (a + 1)).length + 1) zER (L.drop (a + 1)) with
    | none =>
     repeat' (simp -implicitDefEqProofs (disch := omega) only [g2,zYB,zYG,zYv,zYE,zYC,zYs,zYw,zIv,push_cast,simprocAttr,↓reduceIte,zYp])
     all_goals exact ⟨fin (by rw [law]; rfl),_,rfl⟩
    | some r1 =>
     repeat' (simp -implicitDefEqProofs (disch := omega) only [g2,zYB,zYG,zYv,zYE,zYC,zYs,zYw,zHy,push_cast,simprocAttr,↓reduceIte,zYp])
     all_goals exact ⟨fin (by rw [law]; rfl),_,rfl⟩
   | some ns =>
    rw [hn] at cN law
    have hnl := zCu hn
    simp only [zZB] at hnl
    repeat' (first | refine zYt (by omega) ?_ | refine zA (cN _) ?_ | simp -implicitDefEqProofs (disch := omega) only [g4,zYB,zYG,zYv,zYx,zYE,zYC,zYs,zYw,hrow,lnR,zYo,hw0,sR,h6',hdp,hts,zI,zT,push_cast,simprocAttr,↓reduceIte,zYp])
    refine zAb (cI _ 1 rfl) ?_
    rintro x H1 ⟨b,rfl,rfl,hb1,hb2,hb3⟩
    cases o1 : zAj ((L.drop (a + 1)).length + 1) zER (L.drop (a + 1)) with
    | none =>
     repeat' (simp -implicitDefEqProofs (disch := omega) only [g2,zYB,zYG,zYv,zYE,zYC,zYs,zYw,zIv,push_cast,simprocAttr,↓reduceIte,zYp])
     all_goals exact ⟨fin (by rw [law]; simp only [zYZ]; rw [o1]; rfl),_,rfl⟩
    | some r1 =>
     have hr1 := hb3 r1 o1
     have n0 : (ns.map iR).getD 0 [] = iR (ns.getD 0 default) := zL (by omega)
     have n1 : (ns.map iR).getD 1 [] = iR (ns.getD 1 default) := zL (by omega)
     have n2 : (ns.map iR).getD 2 [] = iR (ns.getD 2 default) := zL (by omega)
     obtain ⟨bd,L1⟩ := r1
     simp only at hr1
     subst hr1
     have law2 : zBC L.length L = (zBC n (L.drop b)).map (ps ++ [⟨l.getD 1 [],ns.getD 0 0,ns.getD 1 0,ns.getD 2 0,ns.drop 3,bd⟩] ++ ·) := by
      rw [law]; simp only [zYZ]; rw [o1]; simp only
      rw [Option.map_map]; congr 1; funext x; simp
     have hb4 : a < b := hb1
     have hrw : [str (l.getD 1 default),int (ns.getD 0 default),int (ns.getD 1 default),int (ns.getD 2 default),AV.sl 1 (List.take (ns.length - 3) (List.drop 3 (ns.map iR))),.sl 5 (bd.map zAq)] = prR ⟨l.getD 1 [],ns.getD 0 0,ns.getD 1 0,ns.getD 2 0,ns.drop 3,bd⟩ := by
      rw [<- zzau,zYN (by simp)]; rfl
     have hnx : ∀ (e2 : Env) (J' : zB) (c' : AV),e2 2 = .ptr 0 0 0->e2 4 = .ptr 1 0 0->e2 5 = .ptr 2 0 0->CS c' J' (ps ++ [⟨l.getD 1 [],ns.getD 0 0,ns.getD 1 0,ns.getD 2 0,ns.drop 3,bd⟩]) ->
       Nx (PrI L) (fun st => L.length - st.1) (a,n + 1,ps) e2 (.box [zAl] :: rdO L b :: .box [c'] :: J') := fun e2 J' c' h1 h2 h3 h4 =>
      .mk (b,n,ps ++ [⟨l.getD 1 [],ns.getD 0 0,ns.getD 1 0,ns.getD 2 0,ns.drop 3,bd⟩]) ⟨h1,h2,h3,hb2,by simp only; omega,law2,⟨c',J',rfl,h4⟩,by simp only [zYF,zYs,zYw]; omega⟩ (by simp only; omega)
     rcases hc with ⟨rfl,rfl⟩ | ⟨j,v,rfl,hJ⟩
     ·repeat' (first | refine zYt (by omega) ?_ | simp -implicitDefEqProofs (disch := omega) only [g5,zYB,zYG,zYv,zYx,zYE,zYC,zYs,zYw,zHy,h1w,n0,n1,n2,sR,iR,zYo,push_cast,simprocAttr,↓reduceIte,zYp])
      refine hnx _ _ _ g2 g4 g5 (.inr ⟨J.length,0,rfl,?_⟩)
      rw [hrw]; simp
     ·have hjl := (zYr.1 hJ).1
      repeat' (first | refine zYt (by omega) ?_ | simp -implicitDefEqProofs (disch := omega) only [g5,zYB,zYG,zYv,zYx,zYE,zYC,zYs,zYw,zHy,h1w,n0,n1,n2,sR,iR,zYo,hJ,push_cast,simprocAttr,↓reduceIte,zYp])
      refine hnx _ _ _ g2 g4 g5 (.inr ⟨j,v + 1,by simp,?_⟩)
      rw [hrw,zYU hjl]; simp
  ·have hno : a = L.length := by omega
   subst hno
   have hps : zBC L.length L = some ps := by
    rw [law,zZ6]; cases n <;> simp [zBC]
   obtain ⟨hc1,hc2⟩ := zEB _ _ _ hps
   have hsm : zDY ps := ⟨by omega,by omega,fun q hq => by
    obtain ⟨⟨l,h1,h2,h3⟩,h4⟩ := hc2 q hq
    have := zBZ (s := s) (hL ▸ h1)
    exact ⟨zZL (this.2 _ h2) hs,by omega,by omega⟩⟩
   have cV := fun H => zLQ ps hsm H
   rw [hps] at hpf
   simp only at hpf
   have hcl6 : zFj (ps.map prR) = true := zAM zMR _
   cases hv : zBM ps with
   | false =>
    rw [hv] at cV hpf
    rcases hc with ⟨rfl,rfl⟩ | ⟨j,v,rfl,hJ⟩
    ·repeat' (first | refine zA (cV _) ?_ | simp -implicitDefEqProofs (disch := omega) only [g2,g4,g5,zYB,zYG,zYv,zYx,zYE,zYC,zYs,zYw,zT,push_cast,simprocAttr,↓reduceIte,zYp])
     exact ⟨by rw [hpf]; exact ⟨zAl,rfl,.inr ⟨rfl,rfl⟩⟩,_,rfl⟩
    ·repeat' (first | refine zYt (by omega) ?_ | refine zA (cV _) ?_ | simp -implicitDefEqProofs (disch := omega) only [g2,g4,g5,zYB,zYG,zYv,zYx,zYE,zYC,zYs,zYw,hJ,hcl6,zYo,zT,push_cast,simprocAttr,↓reduceIte,zYp])
     exact ⟨by rw [hpf]; exact ⟨zAl,rfl,.inr ⟨rfl,rfl⟩⟩,_,rfl⟩
   | true => 
    rw [hv] at cV hpf
    rcases hc with ⟨rfl,rfl⟩ | ⟨j,v,rfl,hJ⟩
    ·repeat' (first | refine zA (cV _) ?_ | simp -implicitDefEqProofs (disch := omega) only [g2,g4,g5,zYB,zYG,zYv,zYx,zYE,zYC,zYs,zYw,zT,push_cast,simprocAttr,↓reduceIte,zYp])
     exact ⟨by rw [hpf]; exact ⟨_,rfl,.inl rfl⟩,_,rfl⟩
    ·repeat' (first | refine zYt (by omega) ?_ | refine zA (cV _) ?_ | simp -implicitDefEqProofs (disch := omega) only [g2,g4,g5,zYB,zYG,zYv,zYx,zYE,zYC,zYs,zYw,hJ,hcl6,zYo,zT,push_cast,simprocAttr,↓reduceIte,zYp])
     exact ⟨by rw [hpf]; exact ⟨_,rfl,.inl rfl⟩,_,rfl⟩
 refine main.resTo fun x H' h => ?_
 obtain ⟨⟨c,rfl,hc⟩,rfl⟩ := h
 refine ⟨.tup [.agg [zAU (zAB s).1],int (zAB s).2],zOx (AV.Le.agg rfl fun i x y hx hy => ?_) (AV.Le.refl _),rfl,rfl⟩
 cases i with
 | zero =>
  cases hx; cases hy
  rcases hc with rfl | ⟨h1,rfl⟩
  ·exact AV.Le.refl _
  ·rw [h1]; exact AV.Le.nil 6
 | succ i => simp at hx
end Go.Proofs.YtbibhcmcjldhdaaGreatDoor
namespace Go.Proofs.YtbibhcmcjldhdaaGreatDoor
open Go Go.Ax
set_option maxRecDepth 100000
set_option linter.unusedSimpArgs false
set_option linter.unusedVariables false
set_option maxHeartbeats 4000000
def MT (b : Bool) (H H' : zB) : Prop := b = true/\H' = H
def MF (b : Bool) (z : Value) (H H' : zB) : Prop := b = false/\z = zCD/\H' = H
def NT (h n c : Int) (a : Nat) (G G' : zB) : Prop := (n <= h/\h + c <= 1024)/\G' = G.set a (.box [int (h + c)])
def NF (h n c : Int) (a : Nat) (z : Value) (G G' : zB) : Prop := z = zCD/\¬ (n <= h/\h + c <= 1024)/\(G' = G\/G' = G.set a (.box [int (h + c)]))
theorem zCZ (b : Bool) (H : zB) : ACallX Tryz.prog 25 [bool b] H (fun x H' => MT b H H') fun z H' => MF b z H H' := zNd b H
theorem zCb (h n c : Int) (hh : 0 <= h/\h <= 1024) (hc : -2048 <= c/\c <= 2048) (a : Nat) (G : zB) (hg : G[a]? = some (.box [int h])) :
  ACallX Tryz.prog 73 [int n,int c,.ptr a 0 0] G (fun _ G' => NT h n c a G G') fun z G' => NF h n c a z G G' := zGu h n c hh hc a G hg
theorem zA9 {ps : List Pr} {k : Nat} {o a : Int} {out : Bool} {h : Int} : (o = 0\/o = 1->zCB ps k o a out h = chg h 0 1)/\(o = 2\/o = 22->zCB ps k o a out h = chg h 1 (-1))/\(o = 3\/o = 16\/o = 17->zCB ps k o a out h = chg h 1 0)/\(o = 4->zCB ps k o a out h = chg h 2 (-2))/\(5 <= o/\o <= 15->zCB ps k o a out h = chg h 2 (-1)) := by
 unfold zCB
 refine ⟨fun ho => ?_,fun ho => ?_,fun ho => ?_,fun ho => ?_,fun ho => ?_⟩ <;> repeat (first | rw [if_pos (by omega)] | rw [if_neg (by omega)])
def zJR (ps : List Pr) (k : Nat) (l : List Ins) (out : Bool) (level c : Int) (r : Nat) (G : zB) (o : Int) : Prop := ∀ (j : Nat) (h : Int) (e' : Env) (G' : zB) (a b : Int) (bd el : List Ins),j < l.length->l.getD j default = .mk o a b bd el->zQ l <= 1048576->zX6 ps k bd->zX6 ps k el->r < G.length->0 <= c->1 <= level->level <= 256->EfI ps k l out level c r G j h e' G' ->
 zAa Tryz.prog [.code (L46.body.sub [1,1,1,1,1,1,0,1,0,0]),.lp (Nx (fun (st : Nat × Int) e' H' => EfI ps k l out level c r G st.1 st.2 e' H') (fun st => l.length - st.1) (j,h)),.blk 0,.code (L46.body.sub [1,1,1,1,1,1,1])] (zLd L46.res (fun x G' => ∃ e,x = int e/\zCf ps k l out 0 = some e/\c + zQ l <= 32768/\level + zAK l <= 257/\Fr1 r G G'/\G'[r]? = some (.box [zAU ps,int k,int (c + zQ l)])) fun z G' => z = zCD/\¬ zDN ps k l out level c/\Fr1 r G G') .normal e' G'
set_option maxHeartbeats 8000000 in
theorem zXd (ps : List Pr) (k : Nat) (hk : k < ps.length) (hps : ps.length <= 1048576) (hp : zCU ps k) (hh : zCA (ps.getD k default)) (l : List Ins) (out : Bool) (level c : Int) (r : Nat) (G : zB) : zJR ps k l out level c r G 0 := by
 intro j h e' G' a b bd el hlt hx hs hbd hel hrl hc0 hl0 hl1 ⟨e0,e2,e3,e9,e10,e11,e12,e42,e43,e44,gr,g9,g10,fr,gl,hj,hhh,cc,lv,ef⟩
 have hrow : (l.map zAq).getD j [] = [int 0,int a,int b,.sl 5 (bd.map zAq),.sl 5 (el.map zAq)] := by
  rw [zL hlt,hx]; simp [zAq,zAh]
 have hrl' := zYT hrl fr.1
 have hb := zAs l (j + 1)
 have hb2 := zAI l (j + 1)
 have hsn := zAm hlt
 have hsl := zAF hlt
 rw [hx] at hsn hsl
 simp only [zBo,zCV] at hsn hsl
 have hbl := zN bd
 have hell := zN el
 have hbv := zAe bd
 have helv := zAe el
 obtain ⟨q1,q2,q3,q4,q5,q6,q7,q8⟩ := hh
 have ef0 := ef
 rw [zAQ ps k hlt,hx] at ef
 have fA : ∀ B b,Fr1 r G (G'.set r B ++ [b]) := fun B b => (fr.trans (Fr1.set B)).trans (Fr1.app _)
 have fB : ∀ B b X,Fr1 r G ((G'.set r B).set (G.length + 1) X ++ [b]) := fun B b X => ((fr.trans (Fr1.set B)).set' (i := G.length + 1) (by omega) X).trans (Fr1.app _)
 have hng : ((∀ h',¬ zCC ps k (.mk 0 a b bd el) out h = some h')\/32768 < c + zQ (l.take j) + zBo (.mk 0 a b bd el)\/257 < level + zCV (.mk 0 a b bd el))->¬ zDN ps k l out level c := zBf hlt hx ef0
 have hSr : ∀ B b,(G'.set r B ++ [b])[r]? = some B := fun B b => by rw [zC (by simpa using hrl'),zJ hrl']
 have hS9 : ∀ B b,(G'.set r B ++ [b])[G.length]? = some (.box (prR (ps.getD k default))) := fun B b => by rw [zC (by rw [zYP]; omega),zH (by omega)]; exact g9
 have hS10 : ∀ B b,(G'.set r B ++ [b])[G.length + 1]? = some (.box [int h]) := fun B b => by rw [zC (by rw [zYP]; omega),zH (by omega)]; exact g10
 have hSx : ∀ B b,(G'.set r B ++ [b])[G'.length]? = some b := fun B b => by rw [zYz (by simp)]; simp
 have hTx : ∀ B b X,((G'.set r B).set (G.length + 1) X ++ [b])[G'.length]? = some b := fun B b X => by rw [zYz (by simp)]; simp
 have hln := zN l
 have he : zCB ps k 0 a out h = chg h 0 1 := zA9.1 (by omega)
 have hes := fun h' => zBw (ps := ps) (k := k) (o := 0) (a := a) (b := b) (bd := bd) (el := el) (out := out) (h := h) (h' := h') (by omega) (by omega) he
 by_cases hcn : c + zQ (l.take j) + 1 <= 32768
 ·cases hI : zCC ps k (.mk 0 a b bd el) out h with
  | some h' =>
   obtain ⟨hf,f1,f2,rfl⟩ := (hes h').1 hI
   rw [hI] at ef
   have hf' := hf
   unfold zS at hf
   rw [zAw,zYy] at hf
   have hem : bd.length = 0/\el.length = 0 := by omega
   have hz : zQ bd = 0/\zQ el = 0/\zAK bd = 0/\zAK el = 0 := by
    rw [zYQ.1 hem.1,zYQ.1 hem.2]; exact ⟨rfl,rfl,rfl,rfl⟩
   have hd1 : 0 <= a/\a < (ps.getD k default).slots->decide (0 <= a/\a < (ps.getD k default).slots) = true := fun hh => zY3 hh
   have hd2 : 0 <= a + b - 1/\a + b - 1 < (ps.getD k default).slots->decide (0 <= a + b - 1/\a + b - 1 < (ps.getD k default).slots) = true := fun hh => zY3 hh
   repeat' (first | refine zYt (by omega) ?_ | refine zD (zAy _) ?_ | simp -implicitDefEqProofs (disch := omega) only [e0,e11,e42,e43,e44,gr,hrow,zC,zO,splice,zYo,zAz,hSr,hSx,L46,LCode.sub,zI,zAg,push_cast,simprocAttr,↓reduceIte,zYp])
   refine zG (zGu h 0 1 hhh (by omega) _ _ (hS10 _ _)) ?_ ?_
   ·rintro _ _ ⟨-,rfl⟩
    repeat' (first | refine zD (zAy _) ?_ | simp -implicitDefEqProofs (disch := omega) only [e44,zY,zYo,hTx,zZ,push_cast,simprocAttr,↓reduceIte])
    exact .mk (j + 1,h + 1) ⟨e0,e2,e3,e9,e10,e11,e12,e42,e43,rfl,by rw [zC (by simp; omega),zH (by omega),zJ hrl',hsn]; simp only [hz,zZg,zY0]; push_cast; rw [zZP],by rw [zC (by simp; omega),zH (by omega),zH (by omega)]; exact g9,by rw [zC (by simp; omega),zJ (by simp; omega)],fB _ _ _,by simp; omega,hlt,by dsimp only; omega,by dsimp only; rw [hsn]; omega,by dsimp only; rw [hsl]; omega,ef⟩ (by dsimp only; omega)
   ·rintro _ _ ⟨-,hn,-⟩
    exact absurd ⟨f1,f2⟩ hn
  | none =>
   have hn : ¬ (zS (ps.getD k default).slots 0 a b (bd.isEmpty && el.isEmpty)/\0 <= h/\h + 1 <= 1024) := fun hh => by rw [(hes _).2 ⟨hh.1,hh.2.1,hh.2.2,rfl⟩] at hI; cases hI
   have ng := hng (.inl fun h' hh => by rw [hI] at hh; cases hh)
   unfold zS at hn
   rw [zAw,zYy] at hn
   repeat' (first | intro y0 H2 h0; obtain ⟨hb,rfl⟩ : MT _ _ H2 := h0; (try (exfalso; contradiction)); (try simp only [zYy] at hb) | intro z0 H2 h0; obtain ⟨hb,rfl,rfl⟩ : MF _ z0 _ H2 := h0; clear hb | intro y0 H2 h0; obtain ⟨hb,rfl⟩ : NT _ _ _ _ _ H2 := h0 | intro z0 H2 h0; obtain ⟨rfl,hb,rfl | rfl⟩ : NF _ _ _ _ z0 _ H2 := h0 | refine zYt (by omega) ?_ | refine zG (zCZ _ _) ?_ ?_ | refine zG (zCb h 0 1 hhh (by omega) _ _ (hS10 _ _)) ?_ ?_ | simp -implicitDefEqProofs (disch := omega) only [e0,e11,e42,e43,e44,gr,hrow,zC,zO,zY,splice,zYo,zAz,hSr,hSx,hTx,L46,LCode.sub,zI,zAg,zAG,zZ,zU,push_cast,simprocAttr,↓reduceIte,zYp] | split)
   all_goals first | exact fA _ _ | exact fB _ _ _ | exact ⟨ng,fA _ _⟩ | exact ⟨rfl,ng,fA _ _⟩ | exact ⟨ng,fB _ _ _⟩ | exact ⟨rfl,ng,fB _ _ _⟩ | (exfalso; refine hn ⟨⟨?_,?_,?_,?_,?_,?_,?_,?_⟩,?_,?_⟩ <;> first | omega | (intro h1; omega))
 ·repeat' (first | refine zYt (by omega) ?_ | refine zK (zAO _) ?_ | simp -implicitDefEqProofs (disch := omega) only [e0,e42,e43,e44,gr,hrow,zC,zO,splice,zYo,zAz,hSr,L46,LCode.sub,zI,zAG,push_cast,simprocAttr,↓reduceIte,zYp])
  exact ⟨hng (.inr (.inl (by simp only [zBo]; omega))),fA _ _⟩
set_option maxHeartbeats 8000000 in
theorem zXc (ps : List Pr) (k : Nat) (hk : k < ps.length) (hps : ps.length <= 1048576) (hp : zCU ps k) (hh : zCA (ps.getD k default)) (l : List Ins) (out : Bool) (level c : Int) (r : Nat) (G : zB) : zJR ps k l out level c r G 1 := by
 intro j h e' G' a b bd el hlt hx hs hbd hel hrl hc0 hl0 hl1 ⟨e0,e2,e3,e9,e10,e11,e12,e42,e43,e44,gr,g9,g10,fr,gl,hj,hhh,cc,lv,ef⟩
 have hrow : (l.map zAq).getD j [] = [int 1,int a,int b,.sl 5 (bd.map zAq),.sl 5 (el.map zAq)] := by
  rw [zL hlt,hx]; simp [zAq,zAh]
 have hrl' := zYT hrl fr.1
 have hb := zAs l (j + 1)
 have hb2 := zAI l (j + 1)
 have hsn := zAm hlt
 have hsl := zAF hlt
 rw [hx] at hsn hsl
 simp only [zBo,zCV] at hsn hsl
 have hbl := zN bd
 have hell := zN el
 have hbv := zAe bd
 have helv := zAe el
 obtain ⟨q1,q2,q3,q4,q5,q6,q7,q8⟩ := hh
 have ef0 := ef
 rw [zAQ ps k hlt,hx] at ef
 have fA : ∀ B b,Fr1 r G (G'.set r B ++ [b]) := fun B b => (fr.trans (Fr1.set B)).trans (Fr1.app _)
 have fB : ∀ B b X,Fr1 r G ((G'.set r B).set (G.length + 1) X ++ [b]) := fun B b X => ((fr.trans (Fr1.set B)).set' (i := G.length + 1) (by omega) X).trans (Fr1.app _)
 have hng : ((∀ h',¬ zCC ps k (.mk 1 a b bd el) out h = some h')\/32768 < c + zQ (l.take j) + zBo (.mk 1 a b bd el)\/257 < level + zCV (.mk 1 a b bd el))->¬ zDN ps k l out level c := zBf hlt hx ef0
 have hSr : ∀ B b,(G'.set r B ++ [b])[r]? = some B := fun B b => by rw [zC (by simpa using hrl'),zJ hrl']
 have hS9 : ∀ B b,(G'.set r B ++ [b])[G.length]? = some (.box (prR (ps.getD k default))) := fun B b => by rw [zC (by rw [zYP]; omega),zH (by omega)]; exact g9
 have hS10 : ∀ B b,(G'.set r B ++ [b])[G.length + 1]? = some (.box [int h]) := fun B b => by rw [zC (by rw [zYP]; omega),zH (by omega)]; exact g10
 have hSx : ∀ B b,(G'.set r B ++ [b])[G'.length]? = some b := fun B b => by rw [zYz (by simp)]; simp
 have hTx : ∀ B b X,((G'.set r B).set (G.length + 1) X ++ [b])[G'.length]? = some b := fun B b X => by rw [zYz (by simp)]; simp
 have hln := zN l
 have he : zCB ps k 1 a out h = chg h 0 1 := zA9.1 (by omega)
 have hes := fun h' => zBw (ps := ps) (k := k) (o := 1) (a := a) (b := b) (bd := bd) (el := el) (out := out) (h := h) (h' := h') (by omega) (by omega) he
 by_cases hcn : c + zQ (l.take j) + 1 <= 32768
 ·cases hI : zCC ps k (.mk 1 a b bd el) out h with
  | some h' =>
   obtain ⟨hf,f1,f2,rfl⟩ := (hes h').1 hI
   rw [hI] at ef
   have hf' := hf
   unfold zS at hf
   rw [zAw,zYy] at hf
   have hem : bd.length = 0/\el.length = 0 := by omega
   have hz : zQ bd = 0/\zQ el = 0/\zAK bd = 0/\zAK el = 0 := by
    rw [zYQ.1 hem.1,zYQ.1 hem.2]; exact ⟨rfl,rfl,rfl,rfl⟩
   have hd1 : 0 <= a/\a < (ps.getD k default).slots->decide (0 <= a/\a < (ps.getD k default).slots) = true := fun hh => zY3 hh
   have hd2 : 0 <= a + b - 1/\a + b - 1 < (ps.getD k default).slots->decide (0 <= a + b - 1/\a + b - 1 < (ps.getD k default).slots) = true := fun hh => zY3 hh
   have hd := hd1 (by omega)
   repeat' (first | refine zYt (by omega) ?_ | refine zD (zAy _) ?_ | refine zD (zCk a (ps.getD k default) G.length _ (hS9 _ _)) ?_ | simp -implicitDefEqProofs (disch := omega) only [e0,e11,e12,e42,e43,e44,gr,hrow,zC,zO,splice,zYo,zAz,hSr,hSx,L46,LCode.sub,hd,zI,zAg,push_cast,simprocAttr,↓reduceIte,zYp])
   refine zG (zGu h 0 1 hhh (by omega) _ _ (hS10 _ _)) ?_ ?_
   ·rintro _ _ ⟨-,rfl⟩
    repeat' (first | refine zD (zAy _) ?_ | simp -implicitDefEqProofs (disch := omega) only [e44,zY,zYo,hTx,zZ,push_cast,simprocAttr,↓reduceIte])
    exact .mk (j + 1,h + 1) ⟨e0,e2,e3,e9,e10,e11,e12,e42,e43,rfl,by rw [zC (by simp; omega),zH (by omega),zJ hrl',hsn]; simp only [hz,zZg,zY0]; push_cast; rw [zZP],by rw [zC (by simp; omega),zH (by omega),zH (by omega)]; exact g9,by rw [zC (by simp; omega),zJ (by simp; omega)],fB _ _ _,by simp; omega,hlt,by dsimp only; omega,by dsimp only; rw [hsn]; omega,by dsimp only; rw [hsl]; omega,ef⟩ (by dsimp only; omega)
   ·rintro _ _ ⟨-,hn,-⟩
    exact absurd ⟨f1,f2⟩ hn
  | none =>
   have hn : ¬ (zS (ps.getD k default).slots 1 a b (bd.isEmpty && el.isEmpty)/\0 <= h/\h + 1 <= 1024) := fun hh => by rw [(hes _).2 ⟨hh.1,hh.2.1,hh.2.2,rfl⟩] at hI; cases hI
   have ng := hng (.inl fun h' hh => by rw [hI] at hh; cases hh)
   unfold zS at hn
   rw [zAw,zYy] at hn
   repeat' (first | intro y0 H2 h0; obtain ⟨hb,rfl⟩ : MT _ _ H2 := h0; (try (exfalso; contradiction)); (try simp only [zYy] at hb) | intro z0 H2 h0; obtain ⟨hb,rfl,rfl⟩ : MF _ z0 _ H2 := h0; clear hb | intro y0 H2 h0; obtain ⟨hb,rfl⟩ : NT _ _ _ _ _ H2 := h0 | intro z0 H2 h0; obtain ⟨rfl,hb,rfl | rfl⟩ : NF _ _ _ _ z0 _ H2 := h0 | refine zYt (by omega) ?_ | refine zD (zCk a (ps.getD k default) G.length _ (hS9 _ _)) ?_ | refine zG (zCZ _ _) ?_ ?_ | refine zG (zCb h 0 1 hhh (by omega) _ _ (hS10 _ _)) ?_ ?_ | simp -implicitDefEqProofs (disch := omega) only [e0,e11,e12,e42,e43,e44,gr,hrow,zC,zO,zY,splice,zYo,zAz,hSr,hSx,hTx,L46,LCode.sub,zI,zAg,zZ,zU,push_cast,simprocAttr,↓reduceIte,zYp] | split)
   all_goals first | exact fA _ _ | exact fB _ _ _ | exact ⟨ng,fA _ _⟩ | exact ⟨rfl,ng,fA _ _⟩ | exact ⟨ng,fB _ _ _⟩ | exact ⟨rfl,ng,fB _ _ _⟩ | (exfalso; refine hn ⟨⟨?_,?_,?_,?_,?_,?_,?_,?_⟩,?_,?_⟩ <;> first | omega | (intro h1; omega))
 ·repeat' (first | refine zYt (by omega) ?_ | refine zK (zAO _) ?_ | simp -implicitDefEqProofs (disch := omega) only [e0,e42,e43,e44,gr,hrow,zC,zO,splice,zYo,zAz,hSr,L46,LCode.sub,zI,zAG,push_cast,simprocAttr,↓reduceIte,zYp])
  exact ⟨hng (.inr (.inl (by simp only [zBo]; omega))),fA _ _⟩
set_option maxHeartbeats 8000000 in
theorem zXb (ps : List Pr) (k : Nat) (hk : k < ps.length) (hps : ps.length <= 1048576) (hp : zCU ps k) (hh : zCA (ps.getD k default)) (l : List Ins) (out : Bool) (level c : Int) (r : Nat) (G : zB) : zJR ps k l out level c r G 2 := by
 intro j h e' G' a b bd el hlt hx hs hbd hel hrl hc0 hl0 hl1 ⟨e0,e2,e3,e9,e10,e11,e12,e42,e43,e44,gr,g9,g10,fr,gl,hj,hhh,cc,lv,ef⟩
 have hrow : (l.map zAq).getD j [] = [int 2,int a,int b,.sl 5 (bd.map zAq),.sl 5 (el.map zAq)] := by
  rw [zL hlt,hx]; simp [zAq,zAh]
 have hrl' := zYT hrl fr.1
 have hb := zAs l (j + 1)
 have hb2 := zAI l (j + 1)
 have hsn := zAm hlt
 have hsl := zAF hlt
 rw [hx] at hsn hsl
 simp only [zBo,zCV] at hsn hsl
 have hbl := zN bd
 have hell := zN el
 have hbv := zAe bd
 have helv := zAe el
 obtain ⟨q1,q2,q3,q4,q5,q6,q7,q8⟩ := hh
 have ef0 := ef
 rw [zAQ ps k hlt,hx] at ef
 have fA : ∀ B b,Fr1 r G (G'.set r B ++ [b]) := fun B b => (fr.trans (Fr1.set B)).trans (Fr1.app _)
 have fB : ∀ B b X,Fr1 r G ((G'.set r B).set (G.length + 1) X ++ [b]) := fun B b X => ((fr.trans (Fr1.set B)).set' (i := G.length + 1) (by omega) X).trans (Fr1.app _)
 have hng : ((∀ h',¬ zCC ps k (.mk 2 a b bd el) out h = some h')\/32768 < c + zQ (l.take j) + zBo (.mk 2 a b bd el)\/257 < level + zCV (.mk 2 a b bd el))->¬ zDN ps k l out level c := zBf hlt hx ef0
 have hSr : ∀ B b,(G'.set r B ++ [b])[r]? = some B := fun B b => by rw [zC (by simpa using hrl'),zJ hrl']
 have hS9 : ∀ B b,(G'.set r B ++ [b])[G.length]? = some (.box (prR (ps.getD k default))) := fun B b => by rw [zC (by rw [zYP]; omega),zH (by omega)]; exact g9
 have hS10 : ∀ B b,(G'.set r B ++ [b])[G.length + 1]? = some (.box [int h]) := fun B b => by rw [zC (by rw [zYP]; omega),zH (by omega)]; exact g10
 have hSx : ∀ B b,(G'.set r B ++ [b])[G'.length]? = some b := fun B b => by rw [zYz (by simp)]; simp
 have hTx : ∀ B b X,((G'.set r B).set (G.length + 1) X ++ [b])[G'.length]? = some b := fun B b X => by rw [zYz (by simp)]; simp
 have hln := zN l
 have he : zCB ps k 2 a out h = chg h 1 (-1) := zA9.2.1 (by omega)
 have hes := fun h' => zBw (ps := ps) (k := k) (o := 2) (a := a) (b := b) (bd := bd) (el := el) (out := out) (h := h) (h' := h') (by omega) (by omega) he
 by_cases hcn : c + zQ (l.take j) + 1 <= 32768
 ·cases hI : zCC ps k (.mk 2 a b bd el) out h with
  | some h' =>
   obtain ⟨hf,f1,f2,rfl⟩ := (hes h').1 hI
   rw [hI] at ef
   have hf' := hf
   unfold zS at hf
   rw [zAw,zYy] at hf
   have hem : bd.length = 0/\el.length = 0 := by omega
   have hz : zQ bd = 0/\zQ el = 0/\zAK bd = 0/\zAK el = 0 := by
    rw [zYQ.1 hem.1,zYQ.1 hem.2]; exact ⟨rfl,rfl,rfl,rfl⟩
   have hd1 : 0 <= a/\a < (ps.getD k default).slots->decide (0 <= a/\a < (ps.getD k default).slots) = true := fun hh => zY3 hh
   have hd2 : 0 <= a + b - 1/\a + b - 1 < (ps.getD k default).slots->decide (0 <= a + b - 1/\a + b - 1 < (ps.getD k default).slots) = true := fun hh => zY3 hh
   have hd := hd1 (by omega)
   repeat' (first | refine zYt (by omega) ?_ | refine zD (zAy _) ?_ | refine zD (zCk a (ps.getD k default) G.length _ (hS9 _ _)) ?_ | simp -implicitDefEqProofs (disch := omega) only [e0,e11,e12,e42,e43,e44,gr,hrow,zC,zO,splice,zYo,zAz,hSr,hSx,L46,LCode.sub,hd,zI,zAg,push_cast,simprocAttr,↓reduceIte,zYp])
   refine zG (zGu h 1 (-1) hhh (by omega) _ _ (hS10 _ _)) ?_ ?_
   ·rintro _ _ ⟨-,rfl⟩
    repeat' (first | refine zD (zAy _) ?_ | simp -implicitDefEqProofs (disch := omega) only [e44,zY,zYo,hTx,zZ,push_cast,simprocAttr,↓reduceIte])
    exact .mk (j + 1,h + (-1)) ⟨e0,e2,e3,e9,e10,e11,e12,e42,e43,rfl,by rw [zC (by simp; omega),zH (by omega),zJ hrl',hsn]; simp only [hz,zZg,zY0]; push_cast; rw [zZP],by rw [zC (by simp; omega),zH (by omega),zH (by omega)]; exact g9,by rw [zC (by simp; omega),zJ (by simp; omega)],fB _ _ _,by simp; omega,hlt,by dsimp only; omega,by dsimp only; rw [hsn]; omega,by dsimp only; rw [hsl]; omega,ef⟩ (by dsimp only; omega)
   ·rintro _ _ ⟨-,hn,-⟩
    exact absurd ⟨f1,f2⟩ hn
  | none =>
   have hn : ¬ (zS (ps.getD k default).slots 2 a b (bd.isEmpty && el.isEmpty)/\1 <= h/\h + (-1) <= 1024) := fun hh => by rw [(hes _).2 ⟨hh.1,hh.2.1,hh.2.2,rfl⟩] at hI; cases hI
   have ng := hng (.inl fun h' hh => by rw [hI] at hh; cases hh)
   unfold zS at hn
   rw [zAw,zYy] at hn
   repeat' (first | intro y0 H2 h0; obtain ⟨hb,rfl⟩ : MT _ _ H2 := h0; (try (exfalso; contradiction)); (try simp only [zYy] at hb) | intro z0 H2 h0; obtain ⟨hb,rfl,rfl⟩ : MF _ z0 _ H2 := h0; clear hb | intro y0 H2 h0; obtain ⟨hb,rfl⟩ : NT _ _ _ _ _ H2 := h0 | intro z0 H2 h0; obtain ⟨rfl,hb,rfl | rfl⟩ : NF _ _ _ _ z0 _ H2 := h0 | refine zYt (by omega) ?_ | refine zD (zCk a (ps.getD k default) G.length _ (hS9 _ _)) ?_ | refine zG (zCZ _ _) ?_ ?_ | refine zG (zCb h 1 (-1) hhh (by omega) _ _ (hS10 _ _)) ?_ ?_ | simp -implicitDefEqProofs (disch := omega) only [e0,e11,e12,e42,e43,e44,gr,hrow,zC,zO,zY,splice,zYo,zAz,hSr,hSx,hTx,L46,LCode.sub,zI,zAg,zZ,zU,push_cast,simprocAttr,↓reduceIte,zYp] | split)
   all_goals first | exact fA _ _ | exact fB _ _ _ | exact ⟨ng,fA _ _⟩ | exact ⟨rfl,ng,fA _ _⟩ | exact ⟨ng,fB _ _ _⟩ | exact ⟨rfl,ng,fB _ _ _⟩ | (exfalso; refine hn ⟨⟨?_,?_,?_,?_,?_,?_,?_,?_⟩,?_,?_⟩ <;> first | omega | (intro h1; omega))
 ·repeat' (first | refine zYt (by omega) ?_ | refine zK (zAO _) ?_ | simp -implicitDefEqProofs (disch := omega) only [e0,e42,e43,e44,gr,hrow,zC,zO,splice,zYo,zAz,hSr,L46,LCode.sub,zI,zAG,push_cast,simprocAttr,↓reduceIte,zYp])
  exact ⟨hng (.inr (.inl (by simp only [zBo]; omega))),fA _ _⟩
set_option maxHeartbeats 8000000 in
theorem zTY (ps : List Pr) (k : Nat) (hk : k < ps.length) (hps : ps.length <= 1048576) (hp : zCU ps k) (hh : zCA (ps.getD k default)) (l : List Ins) (out : Bool) (level c : Int) (r : Nat) (G : zB) : zJR ps k l out level c r G 22 := by
 intro j h e' G' a b bd el hlt hx hs hbd hel hrl hc0 hl0 hl1 ⟨e0,e2,e3,e9,e10,e11,e12,e42,e43,e44,gr,g9,g10,fr,gl,hj,hhh,cc,lv,ef⟩
 have hrow : (l.map zAq).getD j [] = [int 22,int a,int b,.sl 5 (bd.map zAq),.sl 5 (el.map zAq)] := by
  rw [zL hlt,hx]; simp [zAq,zAh]
 have hrl' := zYT hrl fr.1
 have hb := zAs l (j + 1)
 have hb2 := zAI l (j + 1)
 have hsn := zAm hlt
 have hsl := zAF hlt
 rw [hx] at hsn hsl
 simp only [zBo,zCV] at hsn hsl
 have hbl := zN bd
 have hell := zN el
 have hbv := zAe bd
 have helv := zAe el
 obtain ⟨q1,q2,q3,q4,q5,q6,q7,q8⟩ := hh
 have ef0 := ef
 rw [zAQ ps k hlt,hx] at ef
 have fA : ∀ B b,Fr1 r G (G'.set r B ++ [b]) := fun B b => (fr.trans (Fr1.set B)).trans (Fr1.app _)
 have fB : ∀ B b X,Fr1 r G ((G'.set r B).set (G.length + 1) X ++ [b]) := fun B b X => ((fr.trans (Fr1.set B)).set' (i := G.length + 1) (by omega) X).trans (Fr1.app _)
 have hng : ((∀ h',¬ zCC ps k (.mk 22 a b bd el) out h = some h')\/32768 < c + zQ (l.take j) + zBo (.mk 22 a b bd el)\/257 < level + zCV (.mk 22 a b bd el))->¬ zDN ps k l out level c := zBf hlt hx ef0
 have hSr : ∀ B b,(G'.set r B ++ [b])[r]? = some B := fun B b => by rw [zC (by simpa using hrl'),zJ hrl']
 have hS9 : ∀ B b,(G'.set r B ++ [b])[G.length]? = some (.box (prR (ps.getD k default))) := fun B b => by rw [zC (by rw [zYP]; omega),zH (by omega)]; exact g9
 have hS10 : ∀ B b,(G'.set r B ++ [b])[G.length + 1]? = some (.box [int h]) := fun B b => by rw [zC (by rw [zYP]; omega),zH (by omega)]; exact g10
 have hSx : ∀ B b,(G'.set r B ++ [b])[G'.length]? = some b := fun B b => by rw [zYz (by simp)]; simp
 have hTx : ∀ B b X,((G'.set r B).set (G.length + 1) X ++ [b])[G'.length]? = some b := fun B b X => by rw [zYz (by simp)]; simp
 have hln := zN l
 have he : zCB ps k 22 a out h = chg h 1 (-1) := zA9.2.1 (by omega)
 have hes := fun h' => zBw (ps := ps) (k := k) (o := 22) (a := a) (b := b) (bd := bd) (el := el) (out := out) (h := h) (h' := h') (by omega) (by omega) he
 by_cases hcn : c + zQ (l.take j) + 1 <= 32768
 ·cases hI : zCC ps k (.mk 22 a b bd el) out h with
  | some h' =>
   obtain ⟨hf,f1,f2,rfl⟩ := (hes h').1 hI
   rw [hI] at ef
   have hf' := hf
   unfold zS at hf
   rw [zAw,zYy] at hf
   have hem : bd.length = 0/\el.length = 0 := by omega
   have hz : zQ bd = 0/\zQ el = 0/\zAK bd = 0/\zAK el = 0 := by
    rw [zYQ.1 hem.1,zYQ.1 hem.2]; exact ⟨rfl,rfl,rfl,rfl⟩
   have hd1 : 0 <= a/\a < (ps.getD k default).slots->decide (0 <= a/\a < (ps.getD k default).slots) = true := fun hh => zY3 hh
   have hd2 : 0 <= a + b - 1/\a + b - 1 < (ps.getD k default).slots->decide (0 <= a + b - 1/\a + b - 1 < (ps.getD k default).slots) = true := fun hh => zY3 hh
   repeat' (first | refine zYt (by omega) ?_ | refine zD (zAy _) ?_ | simp -implicitDefEqProofs (disch := omega) only [e0,e11,e42,e43,e44,gr,hrow,zC,zO,splice,zYo,zAz,hSr,hSx,L46,LCode.sub,zI,zAg,push_cast,simprocAttr,↓reduceIte,zYp])
   refine zG (zGu h 1 (-1) hhh (by omega) _ _ (hS10 _ _)) ?_ ?_
   ·rintro _ _ ⟨-,rfl⟩
    repeat' (first | refine zD (zAy _) ?_ | simp -implicitDefEqProofs (disch := omega) only [e44,zY,zYo,hTx,zZ,push_cast,simprocAttr,↓reduceIte])
    exact .mk (j + 1,h + (-1)) ⟨e0,e2,e3,e9,e10,e11,e12,e42,e43,rfl,by rw [zC (by simp; omega),zH (by omega),zJ hrl',hsn]; simp only [hz,zZg,zY0]; push_cast; rw [zZP],by rw [zC (by simp; omega),zH (by omega),zH (by omega)]; exact g9,by rw [zC (by simp; omega),zJ (by simp; omega)],fB _ _ _,by simp; omega,hlt,by dsimp only; omega,by dsimp only; rw [hsn]; omega,by dsimp only; rw [hsl]; omega,ef⟩ (by dsimp only; omega)
   ·rintro _ _ ⟨-,hn,-⟩
    exact absurd ⟨f1,f2⟩ hn
  | none =>
   have hn : ¬ (zS (ps.getD k default).slots 22 a b (bd.isEmpty && el.isEmpty)/\1 <= h/\h + (-1) <= 1024) := fun hh => by rw [(hes _).2 ⟨hh.1,hh.2.1,hh.2.2,rfl⟩] at hI; cases hI
   have ng := hng (.inl fun h' hh => by rw [hI] at hh; cases hh)
   unfold zS at hn
   rw [zAw,zYy] at hn
   repeat' (first | intro y0 H2 h0; obtain ⟨hb,rfl⟩ : MT _ _ H2 := h0; (try (exfalso; contradiction)); (try simp only [] at hb) | intro z0 H2 h0; obtain ⟨hb,rfl,rfl⟩ : MF _ z0 _ H2 := h0; clear hb | intro y0 H2 h0; obtain ⟨hb,rfl⟩ : NT _ _ _ _ _ H2 := h0 | intro z0 H2 h0; obtain ⟨rfl,hb,rfl | rfl⟩ : NF _ _ _ _ z0 _ H2 := h0 | refine zYt (by omega) ?_ | refine zG (zCZ _ _) ?_ ?_ | refine zG (zCb h 1 (-1) hhh (by omega) _ _ (hS10 _ _)) ?_ ?_ | simp -implicitDefEqProofs (disch := omega) only [e0,e11,e42,e43,e44,gr,hrow,zC,zO,zY,splice,zYo,zAz,hSr,hSx,hTx,L46,LCode.sub,zI,zAg,zZ,zU,push_cast,simprocAttr,↓reduceIte,zYp] | split)
   all_goals first | exact fA _ _ | exact fB _ _ _ | exact ⟨ng,fA _ _⟩ | exact ⟨rfl,ng,fA _ _⟩ | exact ⟨ng,fB _ _ _⟩ | exact ⟨rfl,ng,fB _ _ _⟩ | (exfalso; refine hn ⟨⟨?_,?_,?_,?_,?_,?_,?_,?_⟩,?_,?_⟩ <;> first | omega | (intro h1; omega))
 ·repeat' (first | refine zYt (by omega) ?_ | refine zK (zAO _) ?_ | simp -implicitDefEqProofs (disch := omega) only [e0,e42,e43,e44,gr,hrow,zC,zO,splice,zYo,zAz,hSr,L46,LCode.sub,zI,zAG,push_cast,simprocAttr,↓reduceIte,zYp])
  exact ⟨hng (.inr (.inl (by simp only [zBo]; omega))),fA _ _⟩
set_option maxHeartbeats 8000000 in
theorem zXa (ps : List Pr) (k : Nat) (hk : k < ps.length) (hps : ps.length <= 1048576) (hp : zCU ps k) (hh : zCA (ps.getD k default)) (l : List Ins) (out : Bool) (level c : Int) (r : Nat) (G : zB) : zJR ps k l out level c r G 3 := by
 intro j h e' G' a b bd el hlt hx hs hbd hel hrl hc0 hl0 hl1 ⟨e0,e2,e3,e9,e10,e11,e12,e42,e43,e44,gr,g9,g10,fr,gl,hj,hhh,cc,lv,ef⟩
 have hrow : (l.map zAq).getD j [] = [int 3,int a,int b,.sl 5 (bd.map zAq),.sl 5 (el.map zAq)] := by
  rw [zL hlt,hx]; simp [zAq,zAh]
 have hrl' := zYT hrl fr.1
 have hb := zAs l (j + 1)
 have hb2 := zAI l (j + 1)
 have hsn := zAm hlt
 have hsl := zAF hlt
 rw [hx] at hsn hsl
 simp only [zBo,zCV] at hsn hsl
 have hbl := zN bd
 have hell := zN el
 have hbv := zAe bd
 have helv := zAe el
 obtain ⟨q1,q2,q3,q4,q5,q6,q7,q8⟩ := hh
 have ef0 := ef
 rw [zAQ ps k hlt,hx] at ef
 have fA : ∀ B b,Fr1 r G (G'.set r B ++ [b]) := fun B b => (fr.trans (Fr1.set B)).trans (Fr1.app _)
 have fB : ∀ B b X,Fr1 r G ((G'.set r B).set (G.length + 1) X ++ [b]) := fun B b X => ((fr.trans (Fr1.set B)).set' (i := G.length + 1) (by omega) X).trans (Fr1.app _)
 have hng : ((∀ h',¬ zCC ps k (.mk 3 a b bd el) out h = some h')\/32768 < c + zQ (l.take j) + zBo (.mk 3 a b bd el)\/257 < level + zCV (.mk 3 a b bd el))->¬ zDN ps k l out level c := zBf hlt hx ef0
 have hSr : ∀ B b,(G'.set r B ++ [b])[r]? = some B := fun B b => by rw [zC (by simpa using hrl'),zJ hrl']
 have hS9 : ∀ B b,(G'.set r B ++ [b])[G.length]? = some (.box (prR (ps.getD k default))) := fun B b => by rw [zC (by rw [zYP]; omega),zH (by omega)]; exact g9
 have hS10 : ∀ B b,(G'.set r B ++ [b])[G.length + 1]? = some (.box [int h]) := fun B b => by rw [zC (by rw [zYP]; omega),zH (by omega)]; exact g10
 have hSx : ∀ B b,(G'.set r B ++ [b])[G'.length]? = some b := fun B b => by rw [zYz (by simp)]; simp
 have hTx : ∀ B b X,((G'.set r B).set (G.length + 1) X ++ [b])[G'.length]? = some b := fun B b X => by rw [zYz (by simp)]; simp
 have hln := zN l
 have he : zCB ps k 3 a out h = chg h 1 0 := zA9.2.2.1 (by omega)
 have hes := fun h' => zBw (ps := ps) (k := k) (o := 3) (a := a) (b := b) (bd := bd) (el := el) (out := out) (h := h) (h' := h') (by omega) (by omega) he
 by_cases hcn : c + zQ (l.take j) + 1 <= 32768
 ·cases hI : zCC ps k (.mk 3 a b bd el) out h with
  | some h' =>
   obtain ⟨hf,f1,f2,rfl⟩ := (hes h').1 hI
   rw [hI] at ef
   have hf' := hf
   unfold zS at hf
   rw [zAw,zYy] at hf
   have hem : bd.length = 0/\el.length = 0 := by omega
   have hz : zQ bd = 0/\zQ el = 0/\zAK bd = 0/\zAK el = 0 := by
    rw [zYQ.1 hem.1,zYQ.1 hem.2]; exact ⟨rfl,rfl,rfl,rfl⟩
   have hd1 : 0 <= a/\a < (ps.getD k default).slots->decide (0 <= a/\a < (ps.getD k default).slots) = true := fun hh => zY3 hh
   have hd2 : 0 <= a + b - 1/\a + b - 1 < (ps.getD k default).slots->decide (0 <= a + b - 1/\a + b - 1 < (ps.getD k default).slots) = true := fun hh => zY3 hh
   have hd := hd1 (by omega)
   have hd' := hd2 (by omega)
   repeat' (first | refine zYt (by omega) ?_ | refine zD (zAy _) ?_ | refine zD (zCk a (ps.getD k default) G.length _ (hS9 _ _)) ?_ | refine zD (zCk (a + b - 1) (ps.getD k default) G.length _ (hS9 _ _)) ?_ | simp -implicitDefEqProofs (disch := omega) only [e0,e9,e11,e12,e42,e43,e44,gr,hrow,zC,zO,splice,zBO,zR,zYo,zAz,hSr,hS9,hSx,L46,LCode.sub,hd,hd',zI,zAg,push_cast,simprocAttr,↓reduceIte,zYp])
   refine zG (zGu h 1 0 hhh (by omega) _ _ (hS10 _ _)) ?_ ?_
   ·rintro _ _ ⟨-,rfl⟩
    repeat' (first | refine zD (zAy _) ?_ | simp -implicitDefEqProofs (disch := omega) only [e44,zY,zYo,hTx,zZ,push_cast,simprocAttr,↓reduceIte])
    exact .mk (j + 1,h + 0) ⟨e0,e2,e3,e9,e10,e11,e12,e42,e43,rfl,by rw [zC (by simp; omega),zH (by omega),zJ hrl',hsn]; simp only [hz,zZg,zY0]; push_cast; rw [zZP],by rw [zC (by simp; omega),zH (by omega),zH (by omega)]; exact g9,by rw [zC (by simp; omega),zJ (by simp; omega)],fB _ _ _,by simp; omega,hlt,by dsimp only; omega,by dsimp only; rw [hsn]; omega,by dsimp only; rw [hsl]; omega,ef⟩ (by dsimp only; omega)
   ·rintro _ _ ⟨-,hn,-⟩
    exact absurd ⟨f1,f2⟩ hn
  | none =>
   have hn : ¬ (zS (ps.getD k default).slots 3 a b (bd.isEmpty && el.isEmpty)/\1 <= h/\h + 0 <= 1024) := fun hh => by rw [(hes _).2 ⟨hh.1,hh.2.1,hh.2.2,rfl⟩] at hI; cases hI
   have ng := hng (.inl fun h' hh => by rw [hI] at hh; cases hh)
   unfold zS at hn
   rw [zAw,zYy] at hn
   repeat' (first | intro y0 H2 h0; obtain ⟨hb,rfl⟩ : MT _ _ H2 := h0; (try (exfalso; contradiction)); (try simp only [zYy] at hb) | intro z0 H2 h0; obtain ⟨hb,rfl,rfl⟩ : MF _ z0 _ H2 := h0; clear hb | intro y0 H2 h0; obtain ⟨hb,rfl⟩ : NT _ _ _ _ _ H2 := h0 | intro z0 H2 h0; obtain ⟨rfl,hb,rfl | rfl⟩ : NF _ _ _ _ z0 _ H2 := h0 | refine zYt (by omega) ?_ | refine zD (zCk a (ps.getD k default) G.length _ (hS9 _ _)) ?_ | refine zD (zCk (a + b - 1) (ps.getD k default) G.length _ (hS9 _ _)) ?_ | refine zG (zCZ _ _) ?_ ?_ | refine zG (zCb h 1 0 hhh (by omega) _ _ (hS10 _ _)) ?_ ?_ | simp -implicitDefEqProofs (disch := omega) only [e0,e9,e11,e12,e42,e43,e44,gr,hrow,zC,zO,zY,splice,zBO,zR,zYo,zAz,hSr,hS9,hSx,hTx,L46,LCode.sub,zI,zAg,zAG,zZ,zU,push_cast,simprocAttr,↓reduceIte,zYp] | split)
   all_goals first | exact fA _ _ | exact fB _ _ _ | exact ⟨ng,fA _ _⟩ | exact ⟨rfl,ng,fA _ _⟩ | exact ⟨ng,fB _ _ _⟩ | exact ⟨rfl,ng,fB _ _ _⟩ | (exfalso; refine hn ⟨⟨?_,?_,?_,?_,?_,?_,?_,?_⟩,?_,?_⟩ <;> first | omega | (intro h1; omega))
 ·repeat' (first | refine zYt (by omega) ?_ | refine zK (zAO _) ?_ | simp -implicitDefEqProofs (disch := omega) only [e0,e42,e43,e44,gr,hrow,zC,zO,splice,zYo,zAz,hSr,L46,LCode.sub,zI,zAG,push_cast,simprocAttr,↓reduceIte,zYp])
  exact ⟨hng (.inr (.inl (by simp only [zBo]; omega))),fA _ _⟩
set_option maxHeartbeats 8000000 in
theorem zW9 (ps : List Pr) (k : Nat) (hk : k < ps.length) (hps : ps.length <= 1048576) (hp : zCU ps k) (hh : zCA (ps.getD k default)) (l : List Ins) (out : Bool) (level c : Int) (r : Nat) (G : zB) : zJR ps k l out level c r G 4 := by
 intro j h e' G' a b bd el hlt hx hs hbd hel hrl hc0 hl0 hl1 ⟨e0,e2,e3,e9,e10,e11,e12,e42,e43,e44,gr,g9,g10,fr,gl,hj,hhh,cc,lv,ef⟩
 have hrow : (l.map zAq).getD j [] = [int 4,int a,int b,.sl 5 (bd.map zAq),.sl 5 (el.map zAq)] := by
  rw [zL hlt,hx]; simp [zAq,zAh]
 have hrl' := zYT hrl fr.1
 have hb := zAs l (j + 1)
 have hb2 := zAI l (j + 1)
 have hsn := zAm hlt
 have hsl := zAF hlt
 rw [hx] at hsn hsl
 simp only [zBo,zCV] at hsn hsl
 have hbl := zN bd
 have hell := zN el
 have hbv := zAe bd
 have helv := zAe el
 obtain ⟨q1,q2,q3,q4,q5,q6,q7,q8⟩ := hh
 have ef0 := ef
 rw [zAQ ps k hlt,hx] at ef
 have fA : ∀ B b,Fr1 r G (G'.set r B ++ [b]) := fun B b => (fr.trans (Fr1.set B)).trans (Fr1.app _)
 have fB : ∀ B b X,Fr1 r G ((G'.set r B).set (G.length + 1) X ++ [b]) := fun B b X => ((fr.trans (Fr1.set B)).set' (i := G.length + 1) (by omega) X).trans (Fr1.app _)
 have hng : ((∀ h',¬ zCC ps k (.mk 4 a b bd el) out h = some h')\/32768 < c + zQ (l.take j) + zBo (.mk 4 a b bd el)\/257 < level + zCV (.mk 4 a b bd el))->¬ zDN ps k l out level c := zBf hlt hx ef0
 have hSr : ∀ B b,(G'.set r B ++ [b])[r]? = some B := fun B b => by rw [zC (by simpa using hrl'),zJ hrl']
 have hS9 : ∀ B b,(G'.set r B ++ [b])[G.length]? = some (.box (prR (ps.getD k default))) := fun B b => by rw [zC (by rw [zYP]; omega),zH (by omega)]; exact g9
 have hS10 : ∀ B b,(G'.set r B ++ [b])[G.length + 1]? = some (.box [int h]) := fun B b => by rw [zC (by rw [zYP]; omega),zH (by omega)]; exact g10
 have hSx : ∀ B b,(G'.set r B ++ [b])[G'.length]? = some b := fun B b => by rw [zYz (by simp)]; simp
 have hTx : ∀ B b X,((G'.set r B).set (G.length + 1) X ++ [b])[G'.length]? = some b := fun B b X => by rw [zYz (by simp)]; simp
 have hln := zN l
 have he : zCB ps k 4 a out h = chg h 2 (-2) := zA9.2.2.2.1 (by omega)
 have hes := fun h' => zBw (ps := ps) (k := k) (o := 4) (a := a) (b := b) (bd := bd) (el := el) (out := out) (h := h) (h' := h') (by omega) (by omega) he
 by_cases hcn : c + zQ (l.take j) + 1 <= 32768
 ·cases hI : zCC ps k (.mk 4 a b bd el) out h with
  | some h' =>
   obtain ⟨hf,f1,f2,rfl⟩ := (hes h').1 hI
   rw [hI] at ef
   have hf' := hf
   unfold zS at hf
   rw [zAw,zYy] at hf
   have hem : bd.length = 0/\el.length = 0 := by omega
   have hz : zQ bd = 0/\zQ el = 0/\zAK bd = 0/\zAK el = 0 := by
    rw [zYQ.1 hem.1,zYQ.1 hem.2]; exact ⟨rfl,rfl,rfl,rfl⟩
   have hd1 : 0 <= a/\a < (ps.getD k default).slots->decide (0 <= a/\a < (ps.getD k default).slots) = true := fun hh => zY3 hh
   have hd2 : 0 <= a + b - 1/\a + b - 1 < (ps.getD k default).slots->decide (0 <= a + b - 1/\a + b - 1 < (ps.getD k default).slots) = true := fun hh => zY3 hh
   have hd := hd1 (by omega)
   have hd' := hd2 (by omega)
   repeat' (first | refine zYt (by omega) ?_ | refine zD (zAy _) ?_ | refine zD (zCk a (ps.getD k default) G.length _ (hS9 _ _)) ?_ | refine zD (zCk (a + b - 1) (ps.getD k default) G.length _ (hS9 _ _)) ?_ | simp -implicitDefEqProofs (disch := omega) only [e0,e9,e11,e12,e42,e43,e44,gr,hrow,zC,zO,splice,zBO,zR,zYo,zAz,hSr,hS9,hSx,L46,LCode.sub,hd,hd',zI,zAg,push_cast,simprocAttr,↓reduceIte,zYp])
   refine zG (zGu h 2 (-2) hhh (by omega) _ _ (hS10 _ _)) ?_ ?_
   ·rintro _ _ ⟨-,rfl⟩
    repeat' (first | refine zD (zAy _) ?_ | simp -implicitDefEqProofs (disch := omega) only [e44,zY,zYo,hTx,zZ,push_cast,simprocAttr,↓reduceIte])
    exact .mk (j + 1,h + (-2)) ⟨e0,e2,e3,e9,e10,e11,e12,e42,e43,rfl,by rw [zC (by simp; omega),zH (by omega),zJ hrl',hsn]; simp only [hz,zZg,zY0]; push_cast; rw [zZP],by rw [zC (by simp; omega),zH (by omega),zH (by omega)]; exact g9,by rw [zC (by simp; omega),zJ (by simp; omega)],fB _ _ _,by simp; omega,hlt,by dsimp only; omega,by dsimp only; rw [hsn]; omega,by dsimp only; rw [hsl]; omega,ef⟩ (by dsimp only; omega)
   ·rintro _ _ ⟨-,hn,-⟩
    exact absurd ⟨f1,f2⟩ hn
  | none =>
   have hn : ¬ (zS (ps.getD k default).slots 4 a b (bd.isEmpty && el.isEmpty)/\2 <= h/\h + (-2) <= 1024) := fun hh => by rw [(hes _).2 ⟨hh.1,hh.2.1,hh.2.2,rfl⟩] at hI; cases hI
   have ng := hng (.inl fun h' hh => by rw [hI] at hh; cases hh)
   unfold zS at hn
   rw [zAw,zYy] at hn
   repeat' (first | intro y0 H2 h0; obtain ⟨hb,rfl⟩ : MT _ _ H2 := h0; (try (exfalso; contradiction)); (try simp only [zYy] at hb) | intro z0 H2 h0; obtain ⟨hb,rfl,rfl⟩ : MF _ z0 _ H2 := h0; clear hb | intro y0 H2 h0; obtain ⟨hb,rfl⟩ : NT _ _ _ _ _ H2 := h0 | intro z0 H2 h0; obtain ⟨rfl,hb,rfl | rfl⟩ : NF _ _ _ _ z0 _ H2 := h0 | refine zYt (by omega) ?_ | refine zD (zCk a (ps.getD k default) G.length _ (hS9 _ _)) ?_ | refine zD (zCk (a + b - 1) (ps.getD k default) G.length _ (hS9 _ _)) ?_ | refine zG (zCZ _ _) ?_ ?_ | refine zG (zCb h 2 (-2) hhh (by omega) _ _ (hS10 _ _)) ?_ ?_ | simp -implicitDefEqProofs (disch := omega) only [e0,e9,e11,e12,e42,e43,e44,gr,hrow,zC,zO,zY,splice,zBO,zR,zYo,zAz,hSr,hS9,hSx,hTx,L46,LCode.sub,zI,zAg,zAG,zZ,zU,push_cast,simprocAttr,↓reduceIte,zYp] | split)
   all_goals first | exact fA _ _ | exact fB _ _ _ | exact ⟨ng,fA _ _⟩ | exact ⟨rfl,ng,fA _ _⟩ | exact ⟨ng,fB _ _ _⟩ | exact ⟨rfl,ng,fB _ _ _⟩ | (exfalso; refine hn ⟨⟨?_,?_,?_,?_,?_,?_,?_,?_⟩,?_,?_⟩ <;> first | omega | (intro h1; omega))
 ·repeat' (first | refine zYt (by omega) ?_ | refine zK (zAO _) ?_ | simp -implicitDefEqProofs (disch := omega) only [e0,e42,e43,e44,gr,hrow,zC,zO,splice,zYo,zAz,hSr,L46,LCode.sub,zI,zAG,push_cast,simprocAttr,↓reduceIte,zYp])
  exact ⟨hng (.inr (.inl (by simp only [zBo]; omega))),fA _ _⟩
set_option maxHeartbeats 8000000 in
theorem zT4 (ps : List Pr) (k : Nat) (hk : k < ps.length) (hps : ps.length <= 1048576) (hp : zCU ps k) (hh : zCA (ps.getD k default)) (l : List Ins) (out : Bool) (level c : Int) (r : Nat) (G : zB) : zJR ps k l out level c r G 16 := by
 intro j h e' G' a b bd el hlt hx hs hbd hel hrl hc0 hl0 hl1 ⟨e0,e2,e3,e9,e10,e11,e12,e42,e43,e44,gr,g9,g10,fr,gl,hj,hhh,cc,lv,ef⟩;have hrow : (l.map zAq).getD j [] = [int 16,int a,int b,.sl 5 (bd.map zAq),.sl 5 (el.map zAq)] := by
  rw [zL hlt,hx]; simp [zAq,zAh]
 have hrl' := zYT hrl fr.1;have hb := zAs l (j + 1);have hb2 := zAI l (j + 1);have hsn := zAm hlt;have hsl := zAF hlt;rw [hx] at hsn hsl;simp only [zBo,zCV] at hsn hsl;have hbl := zN bd;have hell := zN el;have hbv := zAe bd;have helv := zAe el;obtain ⟨q1,q2,q3,q4,q5,q6,q7,q8⟩ := hh;have ef0 := ef;rw [zAQ ps k hlt,hx] at ef;have fA : ∀ B b,Fr1 r G (G'.set r B ++ [b]) := fun B b => (fr.trans (Fr1.set B)).trans (Fr1.app _);have fB : ∀ B b X,Fr1 r G ((G'.set r B).set (G.length + 1) X ++ [b]) := fun B b X => ((fr.trans (Fr1.set B)).set' (i := G.length + 1) (by omega) X).trans (Fr1.app _);have hng : ((∀ h',¬ zCC ps k (.mk 16 a b bd el) out h = some h')\/32768 < c + zQ (l.take j) + zBo (.mk 16 a b bd el)\/257 < level + zCV (.mk 16 a b bd el))->¬ zDN ps k l out level c := zBf hlt hx ef0;have hSr : ∀ B b,(G'.set r B ++ [b])[r]? = some B := fun B b => by rw [zC (by simpa using hrl'),zJ hrl']
 have hS9 : ∀ B b,(G'.set r B ++ [b])[G.length]? = some (.box (prR (ps.getD k default))) := fun B b => by rw [zC (by rw [zYP]; omega),zH (by omega)]; exact g9
 have hS10 : ∀ B b,(G'.set r B ++ [b])[G.length + 1]? = some (.box [int h]) := fun B b => by rw [zC (by rw [zYP]; omega),zH (by omega)]; exact g10
 have hSx : ∀ B b,(G'.set r B ++ [b])[G'.length]? = some b := fun B b => by rw [zYz (by simp)]; simp
 have hTx : ∀ B b X,((G'.set r B).set (G.length + 1) X ++ [b])[G'.length]? = some b := fun B b X => by rw [zYz (by simp)]; simp
 have hln := zN l;have he : zCB ps k 16 a out h = chg h 1 0 := zA9.2.2.1 (by omega);have hes := fun h' => zBw (ps := ps) (k := k) (o := 16) (a := a) (b := b) (bd := bd) (el := el) (out := out) (h := h) (h' := h') (by omega) (by omega) he;by_cases hcn : c + zQ (l.take j) + 1 <= 32768
 ·cases hI : zCC ps k (.mk 16 a b bd el) out h with
  | some h' =>
   obtain ⟨hf,f1,f2,rfl⟩ := (hes h').1 hI;rw [hI] at ef;have hf' := hf;unfold zS at hf;rw [zAw,zYy] at hf;have hem : bd.length = 0/\el.length = 0 := by omega
   have hz : zQ bd = 0/\zQ el = 0/\zAK bd = 0/\zAK el = 0 := by
    rw [zYQ.1 hem.1,zYQ.1 hem.2]; exact ⟨rfl,rfl,rfl,rfl⟩
   have hd1 : 0 <= a/\a < (ps.getD k default).slots->decide (0 <= a/\a < (ps.getD k default).slots) = true := fun hh => zY3 hh;have hd2 : 0 <= a + b - 1/\a + b - 1 < (ps.getD k default).slots->decide (0 <= a + b - 1/\a + b - 1 < (ps.getD k default).slots) = true := fun hh => zY3 hh
   repeat' (first | refine zYt (by omega) ?_ | refine zD (zAy _) ?_ | simp -implicitDefEqProofs (disch := omega) only [e0,e11,e42,e43,e44,gr,hrow,zC,zO,splice,zYo,zAz,hSr,hSx,L46,LCode.sub,zI,zAg,push_cast,simprocAttr,↓reduceIte,zYp])
   refine zG (zGu h 1 0 hhh (by omega) _ _ (hS10 _ _)) ?_ ?_
   ·rintro _ _ ⟨-,rfl⟩
    repeat' (first | refine zD (zAy _) ?_ | simp -implicitDefEqProofs (disch := omega) only [e44,zY,zYo,hTx,zZ,push_cast,simprocAttr,↓reduceIte])
    exact .mk (j + 1,h + 0) ⟨e0,e2,e3,e9,e10,e11,e12,e42,e43,rfl,by rw [zC (by simp; omega),zH (by omega),zJ hrl',hsn]; simp only [hz,zZg,zY0]; push_cast; rw [zZP],by rw [zC (by simp; omega),zH (by omega),zH (by omega)]; exact g9,by rw [zC (by simp; omega),zJ (by simp; omega)],fB _ _ _,by simp; omega,hlt,by dsimp only; omega,by dsimp only; rw [hsn]; omega,by dsimp only; rw [hsl]; omega,ef⟩ (by dsimp only; omega)
   ·rintro _ _ ⟨-,hn,-⟩;exact absurd ⟨f1,f2⟩ hn
  | none =>
   have hn : ¬ (zS (ps.getD k default).slots 16 a b (bd.isEmpty && el.isEmpty)/\1 <= h/\h + 0 <= 1024) := fun hh => by rw [(hes _).2 ⟨hh.1,hh.2.1,hh.2.2,rfl⟩] at hI; cases hI
   have ng := hng (.inl fun h' hh => by rw [hI] at hh; cases hh);unfold zS at hn;rw [zAw,zYy] at hn
   repeat' (first | intro y0 H2 h0; obtain ⟨hb,rfl⟩ : MT _ _ H2 := h0; (try (exfalso; contradiction)); (try simp only [] at hb) | intro z0 H2 h0; obtain ⟨hb,rfl,rfl⟩ : MF _ z0 _ H2 := h0; clear hb | intro y0 H2 h0; obtain ⟨hb,rfl⟩ : NT _ _ _ _ _ H2 := h0 | intro z0 H2 h0; obtain ⟨rfl,hb,rfl | rfl⟩ : NF _ _ _ _ z0 _ H2 := h0 | refine zYt (by omega) ?_ | refine zG (zCZ _ _) ?_ ?_ | refine zG (zCb h 1 0 hhh (by omega) _ _ (hS10 _ _)) ?_ ?_ | simp -implicitDefEqProofs (disch := omega) only [e0,e11,e42,e43,e44,gr,hrow,zC,zO,zY,splice,zYo,zAz,hSr,hSx,hTx,L46,LCode.sub,zI,zAg,zZ,zU,push_cast,simprocAttr,↓reduceIte,zYp] | split)
   all_goals first | exact fA _ _ | exact fB _ _ _ | exact ⟨ng,fA _ _⟩ | exact ⟨rfl,ng,fA _ _⟩ | exact ⟨ng,fB _ _ _⟩ | exact ⟨rfl,ng,fB _ _ _⟩ | (exfalso; refine hn ⟨⟨?_,?_,?_,?_,?_,?_,?_,?_⟩,?_,?_⟩ <;> first | omega | (intro h1; omega))
 ·repeat' (first | refine zYt (by omega) ?_ | refine zK (zAO _) ?_ | simp -implicitDefEqProofs (disch := omega) only [e0,e42,e43,e44,gr,hrow,zC,zO,splice,zYo,zAz,hSr,L46,LCode.sub,zI,zAG,push_cast,simprocAttr,↓reduceIte,zYp])
  exact ⟨hng (.inr (.inl (by simp only [zBo]; omega))),fA _ _⟩
set_option maxHeartbeats 8000000 in
theorem zT3 (ps : List Pr) (k : Nat) (hk : k < ps.length) (hps : ps.length <= 1048576) (hp : zCU ps k) (hh : zCA (ps.getD k default)) (l : List Ins) (out : Bool) (level c : Int) (r : Nat) (G : zB) : zJR ps k l out level c r G 17 := by
 intro j h e' G' a b bd el hlt hx hs hbd hel hrl hc0 hl0 hl1 ⟨e0,e2,e3,e9,e10,e11,e12,e42,e43,e44,gr,g9,g10,fr,gl,hj,hhh,cc,lv,ef⟩;have hrow : (l.map zAq).getD j [] = [int 17,int a,int b,.sl 5 (bd.map zAq),.sl 5 (el.map zAq)] := by
  rw [zL hlt,hx]; simp [zAq,zAh]
 have hrl' := zYT hrl fr.1;have hb := zAs l (j + 1);have hb2 := zAI l (j + 1);have hsn := zAm hlt;have hsl := zAF hlt;rw [hx] at hsn hsl;simp only [zBo,zCV] at hsn hsl;have hbl := zN bd;have hell := zN el;have hbv := zAe bd;have helv := zAe el;obtain ⟨q1,q2,q3,q4,q5,q6,q7,q8⟩ := hh;have ef0 := ef;rw [zAQ ps k hlt,hx] at ef;have fA : ∀ B b,Fr1 r G (G'.set r B ++ [b]) := fun B b => (fr.trans (Fr1.set B)).trans (Fr1.app _);have fB : ∀ B b X,Fr1 r G ((G'.set r B).set (G.length + 1) X ++ [b]) := fun B b X => ((fr.trans (Fr1.set B)).set' (i := G.length + 1) (by omega) X).trans (Fr1.app _);have hng : ((∀ h',¬ zCC ps k (.mk 17 a b bd el) out h = some h')\/32768 < c + zQ (l.take j) + zBo (.mk 17 a b bd el)\/257 < level + zCV (.mk 17 a b bd el))->¬ zDN ps k l out level c := zBf hlt hx ef0;have hSr : ∀ B b,(G'.set r B ++ [b])[r]? = some B := fun B b => by rw [zC (by simpa using hrl'),zJ hrl']
 have hS9 : ∀ B b,(G'.set r B ++ [b])[G.length]? = some (.box (prR (ps.getD k default))) := fun B b => by rw [zC (by rw [zYP]; omega),zH (by omega)]; exact g9
 have hS10 : ∀ B b,(G'.set r B ++ [b])[G.length + 1]? = some (.box [int h]) := fun B b => by rw [zC (by rw [zYP]; omega),zH (by omega)]; exact g10
 have hSx : ∀ B b,(G'.set r B ++ [b])[G'.length]? = some b := fun B b => by rw [zYz (by simp)]; simp
 have hTx : ∀ B b X,((G'.set r B).set (G.length + 1) X ++ [b])[G'.length]? = some b := fun B b X => by rw [zYz (by simp)]; simp
 have hln := zN l;have he : zCB ps k 17 a out h = chg h 1 0 := zA9.2.2.1 (by omega);have hes := fun h' => zBw (ps := ps) (k := k) (o := 17) (a := a) (b := b) (bd := bd) (el := el) (out := out) (h := h) (h' := h') (by omega) (by omega) he;by_cases hcn : c + zQ (l.take j) + 1 <= 32768
 ·cases hI : zCC ps k (.mk 17 a b bd el) out h with
  | some h' =>
   obtain ⟨hf,f1,f2,rfl⟩ := (hes h').1 hI;rw [hI] at ef;have hf' := hf;unfold zS at hf;rw [zAw,zYy] at hf;have hem : bd.length = 0/\el.length = 0 := by omega
   have hz : zQ bd = 0/\zQ el = 0/\zAK bd = 0/\zAK el = 0 := by
    rw [zYQ.1 hem.1,zYQ.1 hem.2]; exact ⟨rfl,rfl,rfl,rfl⟩
   have hd1 : 0 <= a/\a < (ps.getD k default).slots->decide (0 <= a/\a < (ps.getD k default).slots) = true := fun hh => zY3 hh;have hd2 : 0 <= a + b - 1/\a + b - 1 < (ps.getD k default).slots->decide (0 <= a + b - 1/\a + b - 1 < (ps.getD k default).slots) = true := fun hh => zY3 hh
   repeat' (first | refine zYt (by omega) ?_ | refine zD (zAy _) ?_ | simp -implicitDefEqProofs (disch := omega) only [e0,e11,e42,e43,e44,gr,hrow,zC,zO,splice,zYo,zAz,hSr,hSx,L46,LCode.sub,zI,zAg,push_cast,simprocAttr,↓reduceIte,zYp])
   refine zG (zGu h 1 0 hhh (by omega) _ _ (hS10 _ _)) ?_ ?_
   ·rintro _ _ ⟨-,rfl⟩
    repeat' (first | refine zD (zAy _) ?_ | simp -implicitDefEqProofs (disch := omega) only [e44,zY,zYo,hTx,zZ,push_cast,simprocAttr,↓reduceIte])
    exact .mk (j + 1,h + 0) ⟨e0,e2,e3,e9,e10,e11,e12,e42,e43,rfl,by rw [zC (by simp; omega),zH (by omega),zJ hrl',hsn]; simp only [hz,zZg,zY0]; push_cast; rw [zZP],by rw [zC (by simp; omega),zH (by omega),zH (by omega)]; exact g9,by rw [zC (by simp; omega),zJ (by simp; omega)],fB _ _ _,by simp; omega,hlt,by dsimp only; omega,by dsimp only; rw [hsn]; omega,by dsimp only; rw [hsl]; omega,ef⟩ (by dsimp only; omega)
   ·rintro _ _ ⟨-,hn,-⟩;exact absurd ⟨f1,f2⟩ hn
  | none =>
   have hn : ¬ (zS (ps.getD k default).slots 17 a b (bd.isEmpty && el.isEmpty)/\1 <= h/\h + 0 <= 1024) := fun hh => by rw [(hes _).2 ⟨hh.1,hh.2.1,hh.2.2,rfl⟩] at hI; cases hI
   have ng := hng (.inl fun h' hh => by rw [hI] at hh; cases hh);unfold zS at hn;rw [zAw,zYy] at hn
   repeat' (first | intro y0 H2 h0; obtain ⟨hb,rfl⟩ : MT _ _ H2 := h0; (try (exfalso; contradiction)); (try simp only [] at hb) | intro z0 H2 h0; obtain ⟨hb,rfl,rfl⟩ : MF _ z0 _ H2 := h0; clear hb | intro y0 H2 h0; obtain ⟨hb,rfl⟩ : NT _ _ _ _ _ H2 := h0 | intro z0 H2 h0; obtain ⟨rfl,hb,rfl | rfl⟩ : NF _ _ _ _ z0 _ H2 := h0 | refine zYt (by omega) ?_ | refine zG (zCZ _ _) ?_ ?_ | refine zG (zCb h 1 0 hhh (by omega) _ _ (hS10 _ _)) ?_ ?_ | simp -implicitDefEqProofs (disch := omega) only [e0,e11,e42,e43,e44,gr,hrow,zC,zO,zY,splice,zYo,zAz,hSr,hSx,hTx,L46,LCode.sub,zI,zAg,zZ,zU,push_cast,simprocAttr,↓reduceIte,zYp] | split)
   all_goals first | exact fA _ _ | exact fB _ _ _ | exact ⟨ng,fA _ _⟩ | exact ⟨rfl,ng,fA _ _⟩ | exact ⟨ng,fB _ _ _⟩ | exact ⟨rfl,ng,fB _ _ _⟩ | (exfalso; refine hn ⟨⟨?_,?_,?_,?_,?_,?_,?_,?_⟩,?_,?_⟩ <;> first | omega | (intro h1; omega))
 ·repeat' (first | refine zYt (by omega) ?_ | refine zK (zAO _) ?_ | simp -implicitDefEqProofs (disch := omega) only [e0,e42,e43,e44,gr,hrow,zC,zO,splice,zYo,zAz,hSr,L46,LCode.sub,zI,zAG,push_cast,simprocAttr,↓reduceIte,zYp])
  exact ⟨hng (.inr (.inl (by simp only [zBo]; omega))),fA _ _⟩
set_option maxHeartbeats 8000000 in
theorem zRC (ps : List Pr) (k : Nat) (hk : k < ps.length) (hps : ps.length <= 1048576) (hp : zCU ps k) (hh : zCA (ps.getD k default)) (l : List Ins) (out : Bool) (level c : Int) (r : Nat) (G : zB) (o : Int) (ho : 5 <= o/\o <= 15) : zJR ps k l out level c r G o := by
 intro j h e' G' a b bd el hlt hx hs hbd hel hrl hc0 hl0 hl1 ⟨e0,e2,e3,e9,e10,e11,e12,e42,e43,e44,gr,g9,g10,fr,gl,hj,hhh,cc,lv,ef⟩;have hrow : (l.map zAq).getD j [] = [int o,int a,int b,.sl 5 (bd.map zAq),.sl 5 (el.map zAq)] := by
  rw [zL hlt,hx]; simp [zAq,zAh]
 have hrl' := zYT hrl fr.1;have hb := zAs l (j + 1);have hb2 := zAI l (j + 1);have hsn := zAm hlt;have hsl := zAF hlt;rw [hx] at hsn hsl;simp only [zBo,zCV] at hsn hsl;have hbl := zN bd;have hell := zN el;have hbv := zAe bd;have helv := zAe el;obtain ⟨q1,q2,q3,q4,q5,q6,q7,q8⟩ := hh;have ef0 := ef;rw [zAQ ps k hlt,hx] at ef;have fA : ∀ B b,Fr1 r G (G'.set r B ++ [b]) := fun B b => (fr.trans (Fr1.set B)).trans (Fr1.app _);have fB : ∀ B b X,Fr1 r G ((G'.set r B).set (G.length + 1) X ++ [b]) := fun B b X => ((fr.trans (Fr1.set B)).set' (i := G.length + 1) (by omega) X).trans (Fr1.app _);have hng : ((∀ h',¬ zCC ps k (.mk o a b bd el) out h = some h')\/32768 < c + zQ (l.take j) + zBo (.mk o a b bd el)\/257 < level + zCV (.mk o a b bd el))->¬ zDN ps k l out level c := zBf hlt hx ef0;have hSr : ∀ B b,(G'.set r B ++ [b])[r]? = some B := fun B b => by rw [zC (by simpa using hrl'),zJ hrl']
 have hS9 : ∀ B b,(G'.set r B ++ [b])[G.length]? = some (.box (prR (ps.getD k default))) := fun B b => by rw [zC (by rw [zYP]; omega),zH (by omega)]; exact g9
 have hS10 : ∀ B b,(G'.set r B ++ [b])[G.length + 1]? = some (.box [int h]) := fun B b => by rw [zC (by rw [zYP]; omega),zH (by omega)]; exact g10
 have hSx : ∀ B b,(G'.set r B ++ [b])[G'.length]? = some b := fun B b => by rw [zYz (by simp)]; simp
 have hTx : ∀ B b X,((G'.set r B).set (G.length + 1) X ++ [b])[G'.length]? = some b := fun B b X => by rw [zYz (by simp)]; simp
 have hln := zN l;have he : zCB ps k o a out h = chg h 2 (-1) := zA9.2.2.2.2 ho;have hes := fun h' => zBw (ps := ps) (k := k) (o := o) (a := a) (b := b) (bd := bd) (el := el) (out := out) (h := h) (h' := h') (by omega) (by omega) he;by_cases hcn : c + zQ (l.take j) + 1 <= 32768
 ·cases hI : zCC ps k (.mk o a b bd el) out h with
  | some h' =>
   obtain ⟨hf,f1,f2,rfl⟩ := (hes h').1 hI;rw [hI] at ef;have hf' := hf;unfold zS at hf;rw [zAw,zYy] at hf;have hem : bd.length = 0/\el.length = 0 := by omega
   have hz : zQ bd = 0/\zQ el = 0/\zAK bd = 0/\zAK el = 0 := by
    rw [zYQ.1 hem.1,zYQ.1 hem.2]; exact ⟨rfl,rfl,rfl,rfl⟩
   have hd1 : 0 <= a/\a < (ps.getD k default).slots->decide (0 <= a/\a < (ps.getD k default).slots) = true := fun hh => zY3 hh;have hd2 : 0 <= a + b - 1/\a + b - 1 < (ps.getD k default).slots->decide (0 <= a + b - 1/\a + b - 1 < (ps.getD k default).slots) = true := fun hh => zY3 hh
   repeat' (first | refine zYt (by omega) ?_ | refine zD (zAy _) ?_ | simp -implicitDefEqProofs (disch := omega) only [e0,e11,e42,e43,e44,gr,hrow,zC,zO,splice,zYo,zAz,hSr,hSx,L46,LCode.sub,zI,zAg,zU,push_cast,simprocAttr,↓reduceIte,zYp])
   refine zG (zGu h 2 (-1) hhh (by omega) _ _ (hS10 _ _)) ?_ ?_
   ·rintro _ _ ⟨-,rfl⟩
    repeat' (first | refine zD (zAy _) ?_ | simp -implicitDefEqProofs (disch := omega) only [e44,zY,zYo,hTx,zZ,push_cast,simprocAttr,↓reduceIte])
    exact .mk (j + 1,h + (-1)) ⟨e0,e2,e3,e9,e10,e11,e12,e42,e43,rfl,by rw [zC (by simp; omega),zH (by omega),zJ hrl',hsn]; simp only [hz,zZg,zY0]; push_cast; rw [zZP],by rw [zC (by simp; omega),zH (by omega),zH (by omega)]; exact g9,by rw [zC (by simp; omega),zJ (by simp; omega)],fB _ _ _,by simp; omega,hlt,by dsimp only; omega,by dsimp only; rw [hsn]; omega,by dsimp only; rw [hsl]; omega,ef⟩ (by dsimp only; omega)
   ·rintro _ _ ⟨-,hn,-⟩;exact absurd ⟨f1,f2⟩ hn
  | none =>
   have hn : ¬ (zS (ps.getD k default).slots o a b (bd.isEmpty && el.isEmpty)/\2 <= h/\h + (-1) <= 1024) := fun hh => by rw [(hes _).2 ⟨hh.1,hh.2.1,hh.2.2,rfl⟩] at hI; cases hI
   have ng := hng (.inl fun h' hh => by rw [hI] at hh; cases hh);unfold zS at hn;rw [zAw,zYy] at hn
   repeat' (first | intro y0 H2 h0; obtain ⟨hb,rfl⟩ : MT _ _ H2 := h0; (try (exfalso; contradiction)); (try simp only [] at hb) | intro z0 H2 h0; obtain ⟨hb,rfl,rfl⟩ : MF _ z0 _ H2 := h0; clear hb | intro y0 H2 h0; obtain ⟨hb,rfl⟩ : NT _ _ _ _ _ H2 := h0 | intro z0 H2 h0; obtain ⟨rfl,hb,rfl | rfl⟩ : NF _ _ _ _ z0 _ H2 := h0 | refine zYt (by omega) ?_ | refine zG (zCZ _ _) ?_ ?_ | refine zG (zCb h 2 (-1) hhh (by omega) _ _ (hS10 _ _)) ?_ ?_ | simp -implicitDefEqProofs (disch := omega) only [e0,e11,e42,e43,e44,gr,hrow,zC,zO,zY,splice,zYo,zAz,hSr,hSx,hTx,L46,LCode.sub,zI,zAg,zZ,zU,push_cast,simprocAttr,↓reduceIte,zYp] | split)
   all_goals first | exact fA _ _ | exact fB _ _ _ | exact ⟨ng,fA _ _⟩ | exact ⟨rfl,ng,fA _ _⟩ | exact ⟨ng,fB _ _ _⟩ | exact ⟨rfl,ng,fB _ _ _⟩ | (exfalso; refine hn ⟨⟨?_,?_,?_,?_,?_,?_,?_,?_⟩,?_,?_⟩ <;> first | omega | (intro h1; omega))
 ·repeat' (first | refine zYt (by omega) ?_ | refine zK (zAO _) ?_ | simp -implicitDefEqProofs (disch := omega) only [e0,e42,e43,e44,gr,hrow,zC,zO,splice,zYo,zAz,hSr,L46,LCode.sub,zI,zAG,push_cast,simprocAttr,↓reduceIte,zYp])
  exact ⟨hng (.inr (.inl (by simp only [zBo]; omega))),fA _ _⟩
set_option maxHeartbeats 8000000 in
theorem zRD (ps : List Pr) (k : Nat) (hk : k < ps.length) (hps : ps.length <= 1048576) (hp : zCU ps k) (hh : zCA (ps.getD k default)) (l : List Ins) (out : Bool) (level c : Int) (r : Nat) (G : zB) (o : Int) (ho : o < 0\/22 < o) : zJR ps k l out level c r G o := by
 intro j h e' G' a b bd el hlt hx hs hbd hel hrl hc0 hl0 hl1 ⟨e0,e2,e3,e9,e10,e11,e12,e42,e43,e44,gr,g9,g10,fr,gl,hj,hhh,cc,lv,ef⟩
 have hrow : (l.map zAq).getD j [] = [int o,int a,int b,.sl 5 (bd.map zAq),.sl 5 (el.map zAq)] := by
  rw [zL hlt,hx]; simp [zAq,zAh]
 have hrl' := zYT hrl fr.1
 have hb := zAs l (j + 1)
 have hb2 := zAI l (j + 1)
 have hsn := zAm hlt
 have hsl := zAF hlt
 rw [hx] at hsn hsl
 simp only [zBo,zCV] at hsn hsl
 have hbl := zN bd
 have hell := zN el
 have hbv := zAe bd
 have helv := zAe el
 obtain ⟨q1,q2,q3,q4,q5,q6,q7,q8⟩ := hh
 have ef0 := ef
 rw [zAQ ps k hlt,hx] at ef
 have fA : ∀ B b,Fr1 r G (G'.set r B ++ [b]) := fun B b => (fr.trans (Fr1.set B)).trans (Fr1.app _)
 have fB : ∀ B b X,Fr1 r G ((G'.set r B).set (G.length + 1) X ++ [b]) := fun B b X => ((fr.trans (Fr1.set B)).set' (i := G.length + 1) (by omega) X).trans (Fr1.app _)
 have hng : ((∀ h',¬ zCC ps k (.mk o a b bd el) out h = some h')\/32768 < c + zQ (l.take j) + zBo (.mk o a b bd el)\/257 < level + zCV (.mk o a b bd el))->¬ zDN ps k l out level c := zBf hlt hx ef0
 have hSr : ∀ B b,(G'.set r B ++ [b])[r]? = some B := fun B b => by rw [zC (by simpa using hrl'),zJ hrl']
 have hS9 : ∀ B b,(G'.set r B ++ [b])[G.length]? = some (.box (prR (ps.getD k default))) := fun B b => by rw [zC (by rw [zYP]; omega),zH (by omega)]; exact g9
 have hS10 : ∀ B b,(G'.set r B ++ [b])[G.length + 1]? = some (.box [int h]) := fun B b => by rw [zC (by rw [zYP]; omega),zH (by omega)]; exact g10
 have hSx : ∀ B b,(G'.set r B ++ [b])[G'.length]? = some b := fun B b => by rw [zYz (by simp)]; simp
 have hTx : ∀ B b X,((G'.set r B).set (G.length + 1) X ++ [b])[G'.length]? = some b := fun B b X => by rw [zYz (by simp)]; simp
 have hln := zN l
 have hXr : ∀ B X,(G'.set r B ++ X)[r]? = some B := fun B X => by rw [zC (by simpa using hrl'),zJ hrl']
 have hX9 : ∀ B X,(G'.set r B ++ X)[G.length]? = some (.box (prR (ps.getD k default))) := fun B X => by rw [zC (by rw [zYP]; omega),zH (by omega)]; exact g9
 have hX10 : ∀ B X,(G'.set r B ++ X)[G.length + 1]? = some (.box [int h]) := fun B X => by rw [zC (by rw [zYP]; omega),zH (by omega)]; exact g10
 have hXx : ∀ B b X,(G'.set r B ++ b :: X)[G'.length]? = some b := fun B b X => by rw [zYz (by simp)]; simp
 have hXy : ∀ B b d X,(G'.set r B ++ b :: d :: X)[G'.length + 1]? = some d := fun B b d X => by rw [zYz (by simp)]; simp
 have hYr : ∀ B Y X,((G'.set r B).set (G.length + 1) Y ++ X)[r]? = some B := fun B Y X => by rw [zC (by simpa using hrl'),zH (by omega),zJ hrl']
 have hY9 : ∀ B Y X,((G'.set r B).set (G.length + 1) Y ++ X)[G.length]? = some (.box (prR (ps.getD k default))) := fun B Y X => by rw [zC (by simp; omega),zH (by omega),zH (by omega)]; exact g9
 have hY10 : ∀ B Y X,((G'.set r B).set (G.length + 1) Y ++ X)[G.length + 1]? = some Y := fun B Y X => by rw [zC (by simp; omega),zJ (by simp; omega)]
 have hYx : ∀ B Y b X,((G'.set r B).set (G.length + 1) Y ++ b :: X)[G'.length]? = some b := fun B Y b X => by rw [zYz (by simp)]; simp
 have hXs : ∀ B b z Y,(G'.set r B ++ [b,z]).set (G'.length + 1) Y = G'.set r B ++ [b,Y] := fun B b z Y => by rw [zZV _ _ (by simp)]; simp
 have fX : ∀ B X,Fr1 r G (G'.set r B ++ X) := fun B X => (fr.trans (Fr1.set B)).trans (Fr1.app _)
 have fY : ∀ B Y X,Fr1 r G ((G'.set r B).set (G.length + 1) Y ++ X) := fun B Y X => ((fr.trans (Fr1.set B)).set' (i := G.length + 1) (by omega) Y).trans (Fr1.app _)
 by_cases hcn : c + zQ (l.take j) + 1 <= 32768
 ·have ng := hng (.inl fun h' hh => by
   simp only [zCC] at hh
   rw [if_neg (by unfold zS; omega)] at hh
   cases hh)
  rcases ho with ho | ho
  ·repeat' (first | refine zYt (by omega) ?_ | refine zD (zAy _) ?_ | refine zK (zAO _) ?_ | simp -implicitDefEqProofs (disch := omega) only [e0,e42,e43,e44,gr,hrow,zC,zO,splice,zYo,zAz,hXr,hXx,L46,LCode.sub,zI,zAg,zAG,zU,push_cast,simprocAttr,↓reduceIte,zYp])
   all_goals first | exact fX _ _ | exact ⟨ng,fX _ _⟩
  ·repeat' (first | refine zYt (by omega) ?_ | refine zD (zAy _) ?_ | refine zK (zAO _) ?_ | simp -implicitDefEqProofs (disch := omega) only [e0,e42,e43,e44,gr,hrow,zC,zO,splice,zYo,zAz,hXr,hXx,L46,LCode.sub,zI,zAg,zAG,zU,push_cast,simprocAttr,↓reduceIte,zYp])
   all_goals first | exact fX _ _ | exact ⟨ng,fX _ _⟩
 ·repeat' (first | refine zYt (by omega) ?_ | refine zK (zAO _) ?_ | simp -implicitDefEqProofs (disch := omega) only [e0,e42,e43,e44,gr,hrow,zC,zO,splice,zYo,zAz,hXr,L46,LCode.sub,zI,zAG,push_cast,simprocAttr,↓reduceIte,zYp])
  exact ⟨hng (.inr (.inl (by simp only [zBo]; omega))),fX _ _⟩
set_option maxHeartbeats 8000000 in
theorem zTZ (ps : List Pr) (k : Nat) (hk : k < ps.length) (hps : ps.length <= 1048576) (hp : zCU ps k) (hh : zCA (ps.getD k default)) (l : List Ins) (out : Bool) (level c : Int) (r : Nat) (G : zB) : zJR ps k l out level c r G 21 := by
 intro j h e' G' a b bd el hlt hx hs hbd hel hrl hc0 hl0 hl1 ⟨e0,e2,e3,e9,e10,e11,e12,e42,e43,e44,gr,g9,g10,fr,gl,hj,hhh,cc,lv,ef⟩
 have hrow : (l.map zAq).getD j [] = [int 21,int a,int b,.sl 5 (bd.map zAq),.sl 5 (el.map zAq)] := by
  rw [zL hlt,hx]; simp [zAq,zAh]
 have hrl' := zYT hrl fr.1
 have hb := zAs l (j + 1)
 have hb2 := zAI l (j + 1)
 have hsn := zAm hlt
 have hsl := zAF hlt
 rw [hx] at hsn hsl
 simp only [zBo,zCV] at hsn hsl
 have hbl := zN bd
 have hell := zN el
 have hbv := zAe bd
 have helv := zAe el
 obtain ⟨q1,q2,q3,q4,q5,q6,q7,q8⟩ := hh
 have ef0 := ef
 rw [zAQ ps k hlt,hx] at ef
 have fA : ∀ B b,Fr1 r G (G'.set r B ++ [b]) := fun B b => (fr.trans (Fr1.set B)).trans (Fr1.app _)
 have fB : ∀ B b X,Fr1 r G ((G'.set r B).set (G.length + 1) X ++ [b]) := fun B b X => ((fr.trans (Fr1.set B)).set' (i := G.length + 1) (by omega) X).trans (Fr1.app _)
 have hng : ((∀ h',¬ zCC ps k (.mk 21 a b bd el) out h = some h')\/32768 < c + zQ (l.take j) + zBo (.mk 21 a b bd el)\/257 < level + zCV (.mk 21 a b bd el))->¬ zDN ps k l out level c := zBf hlt hx ef0
 have hSr : ∀ B b,(G'.set r B ++ [b])[r]? = some B := fun B b => by rw [zC (by simpa using hrl'),zJ hrl']
 have hS9 : ∀ B b,(G'.set r B ++ [b])[G.length]? = some (.box (prR (ps.getD k default))) := fun B b => by rw [zC (by rw [zYP]; omega),zH (by omega)]; exact g9
 have hS10 : ∀ B b,(G'.set r B ++ [b])[G.length + 1]? = some (.box [int h]) := fun B b => by rw [zC (by rw [zYP]; omega),zH (by omega)]; exact g10
 have hSx : ∀ B b,(G'.set r B ++ [b])[G'.length]? = some b := fun B b => by rw [zYz (by simp)]; simp
 have hTx : ∀ B b X,((G'.set r B).set (G.length + 1) X ++ [b])[G'.length]? = some b := fun B b X => by rw [zYz (by simp)]; simp
 have hln := zN l
 have hXr : ∀ B X,(G'.set r B ++ X)[r]? = some B := fun B X => by rw [zC (by simpa using hrl'),zJ hrl']
 have hX9 : ∀ B X,(G'.set r B ++ X)[G.length]? = some (.box (prR (ps.getD k default))) := fun B X => by rw [zC (by rw [zYP]; omega),zH (by omega)]; exact g9
 have hX10 : ∀ B X,(G'.set r B ++ X)[G.length + 1]? = some (.box [int h]) := fun B X => by rw [zC (by rw [zYP]; omega),zH (by omega)]; exact g10
 have hXx : ∀ B b X,(G'.set r B ++ b :: X)[G'.length]? = some b := fun B b X => by rw [zYz (by simp)]; simp
 have hXy : ∀ B b d X,(G'.set r B ++ b :: d :: X)[G'.length + 1]? = some d := fun B b d X => by rw [zYz (by simp)]; simp
 have hYr : ∀ B Y X,((G'.set r B).set (G.length + 1) Y ++ X)[r]? = some B := fun B Y X => by rw [zC (by simpa using hrl'),zH (by omega),zJ hrl']
 have hY9 : ∀ B Y X,((G'.set r B).set (G.length + 1) Y ++ X)[G.length]? = some (.box (prR (ps.getD k default))) := fun B Y X => by rw [zC (by simp; omega),zH (by omega),zH (by omega)]; exact g9
 have hY10 : ∀ B Y X,((G'.set r B).set (G.length + 1) Y ++ X)[G.length + 1]? = some Y := fun B Y X => by rw [zC (by simp; omega),zJ (by simp; omega)]
 have hYx : ∀ B Y b X,((G'.set r B).set (G.length + 1) Y ++ b :: X)[G'.length]? = some b := fun B Y b X => by rw [zYz (by simp)]; simp
 have hXs : ∀ B b z Y,(G'.set r B ++ [b,z]).set (G'.length + 1) Y = G'.set r B ++ [b,Y] := fun B b z Y => by rw [zZV _ _ (by simp)]; simp
 have fX : ∀ B X,Fr1 r G (G'.set r B ++ X) := fun B X => (fr.trans (Fr1.set B)).trans (Fr1.app _)
 have fY : ∀ B Y X,Fr1 r G ((G'.set r B).set (G.length + 1) Y ++ X) := fun B Y X => ((fr.trans (Fr1.set B)).set' (i := G.length + 1) (by omega) Y).trans (Fr1.app _)
 by_cases hcn : c + zQ (l.take j) + 1 <= 32768
 ·cases hI : zCC ps k (.mk 21 a b bd el) out h with
  | some h' =>
   obtain ⟨hab,hem,rfl,hm,rfl⟩ := zVk.1 hI
   rw [hI] at ef
   have hz : zQ bd = 0/\zQ el = 0/\zAK bd = 0/\zAK el = 0 := by
    rw [zYQ.1 hem.1,zYQ.1 hem.2]; exact ⟨rfl,rfl,rfl,rfl⟩
   have fRT : ∀ B Y X,Fr1 r G ((G'.set r B).set (G.length + 1) Y ++ X) := fY
   by_cases hr : (ps.getD k default).res < 0
   ·have hmx : (if (ps.getD k default).res < 0 then (0 : Int) else (ps.getD k default).res) = 0 := if_pos hr
    repeat' (first | refine zYt (by omega) ?_ | refine zD (zAy _) ?_ | simp -implicitDefEqProofs (disch := omega) only [e0,e2,e9,e10,e42,e43,e44,gr,hrow,zC,zO,zY,splice,zDk,zR,zYo,zAz,hXr,hX9,hX10,hXx,hYx,L46,LCode.sub,hmx,zI,zAg,zZ,push_cast,simprocAttr,↓reduceIte,zYp])
    exact .mk (j + 1,0) ⟨e0,e2,e3,e9,e10,e11,e12,e42,e43,rfl,by rw [hYr,hsn]; simp only [hz,zZg,zY0]; push_cast; rw [zZP],hY9 _ _ _,by rw [hY10],fRT _ _ _,by simp; omega,hlt,by dsimp only; omega,by dsimp only; rw [hsn]; omega,by dsimp only; rw [hsl]; omega,ef⟩ (by dsimp only; omega)
   ·have hmx : (if (ps.getD k default).res < 0 then (0 : Int) else (ps.getD k default).res) = (ps.getD k default).res := if_neg hr
    repeat' (first | refine zYt (by omega) ?_ | refine zD (zAy _) ?_ | simp -implicitDefEqProofs (disch := omega) only [e0,e2,e9,e10,e42,e43,e44,gr,hrow,zC,zO,zY,splice,zDk,zR,zYo,zAz,hXr,hX9,hX10,hXx,hYx,L46,LCode.sub,hmx,zI,zAg,zZ,push_cast,simprocAttr,↓reduceIte,zYp])
    exact .mk (j + 1,0) ⟨e0,e2,e3,e9,e10,e11,e12,e42,e43,rfl,by rw [hYr,hsn]; simp only [hz,zZg,zY0]; push_cast; rw [zZP],hY9 _ _ _,by rw [hY10],fRT _ _ _,by simp; omega,hlt,by dsimp only; omega,by dsimp only; rw [hsn]; omega,by dsimp only; rw [hsl]; omega,ef⟩ (by dsimp only; omega)
  | none =>
   have ng := hng (.inl fun h' hh => by rw [hI] at hh; cases hh)
   have hn : ¬ ((a = 0/\b = 0)/\(bd.length = 0/\el.length = 0)/\out = true/\h = max (ps.getD k default).res 0) := fun hh => by rw [zVk.2 ⟨hh.1,hh.2.1,hh.2.2.1,hh.2.2.2,rfl⟩] at hI; cases hI
   cases out with
   | false =>
    repeat' (first | refine zYt (by omega) ?_ | refine zD (zAy _) ?_ | refine zK (zAO _) ?_ | simp -implicitDefEqProofs (disch := omega) only [e0,e2,e42,e43,e44,gr,hrow,zC,zO,splice,zYo,zAz,hXr,hXx,L46,LCode.sub,zI,zAg,push_cast,simprocAttr,↓reduceIte,zYp])
    all_goals first | exact fX _ _ | exact ⟨ng,fX _ _⟩
   | true =>
    by_cases hr : (ps.getD k default).res < 0
    ·have hmx : (if (ps.getD k default).res < 0 then (0 : Int) else (ps.getD k default).res) = 0 := if_pos hr
     repeat' (first | intro y0 H2 h0; obtain ⟨hb,rfl⟩ : MT _ _ H2 := h0; (try (exfalso; contradiction)); (try simp only [zYy] at hb) | intro z0 H2 h0; obtain ⟨hb,rfl,rfl⟩ : MF _ z0 _ H2 := h0; clear hb | refine zYt (by omega) ?_ | refine zG (zCZ _ _) ?_ ?_ | simp -implicitDefEqProofs (disch := omega) only [e0,e2,e9,e10,e42,e43,e44,gr,hrow,zC,zO,zY,splice,zDk,zR,zYo,zAz,hXr,hX9,hX10,hXx,hYx,L46,LCode.sub,hmx,zI,zAg,zZ,zU,push_cast,simprocAttr,↓reduceIte,zYp] | split)
     all_goals first | exact fX _ _ | exact fY _ _ _ | exact ⟨ng,fX _ _⟩ | exact ⟨ng,fY _ _ _⟩ | (exfalso; refine hn ⟨⟨?_,?_⟩,⟨?_,?_⟩,rfl,?_⟩ <;> omega)
    ·have hmx : (if (ps.getD k default).res < 0 then (0 : Int) else (ps.getD k default).res) = (ps.getD k default).res := if_neg hr
     repeat' (first | intro y0 H2 h0; obtain ⟨hb,rfl⟩ : MT _ _ H2 := h0; (try (exfalso; contradiction)); (try simp only [zYy] at hb) | intro z0 H2 h0; obtain ⟨hb,rfl,rfl⟩ : MF _ z0 _ H2 := h0; clear hb | refine zYt (by omega) ?_ | refine zG (zCZ _ _) ?_ ?_ | simp -implicitDefEqProofs (disch := omega) only [e0,e2,e9,e10,e42,e43,e44,gr,hrow,zC,zO,zY,splice,zDk,zR,zYo,zAz,hXr,hX9,hX10,hXx,hYx,L46,LCode.sub,hmx,zI,zAg,zZ,zU,push_cast,simprocAttr,↓reduceIte,zYp] | split)
     all_goals first | exact fX _ _ | exact fY _ _ _ | exact ⟨ng,fX _ _⟩ | exact ⟨ng,fY _ _ _⟩ | (exfalso; refine hn ⟨⟨?_,?_⟩,⟨?_,?_⟩,rfl,?_⟩ <;> omega)
 ·repeat' (first | refine zYt (by omega) ?_ | refine zK (zAO _) ?_ | simp -implicitDefEqProofs (disch := omega) only [e0,e42,e43,e44,gr,hrow,zC,zO,splice,zYo,zAz,hXr,L46,LCode.sub,zI,zAG,push_cast,simprocAttr,↓reduceIte,zYp])
  exact ⟨hng (.inr (.inl (by simp only [zBo]; omega))),fX _ _⟩
set_option maxHeartbeats 8000000 in
theorem zT0 (ps : List Pr) (k : Nat) (hk : k < ps.length) (hps : ps.length <= 1048576) (hp : zCU ps k) (hh : zCA (ps.getD k default)) (l : List Ins) (out : Bool) (level c : Int) (r : Nat) (G : zB) : zJR ps k l out level c r G 20 := by
 intro j h e' G' a b bd el hlt hx hs hbd hel hrl hc0 hl0 hl1 ⟨e0,e2,e3,e9,e10,e11,e12,e42,e43,e44,gr,g9,g10,fr,gl,hj,hhh,cc,lv,ef⟩
 have hrow : (l.map zAq).getD j [] = [int 20,int a,int b,.sl 5 (bd.map zAq),.sl 5 (el.map zAq)] := by
  rw [zL hlt,hx]; simp [zAq,zAh]
 have hrl' := zYT hrl fr.1
 have hb := zAs l (j + 1)
 have hb2 := zAI l (j + 1)
 have hsn := zAm hlt
 have hsl := zAF hlt
 rw [hx] at hsn hsl
 simp only [zBo,zCV] at hsn hsl
 have hbl := zN bd
 have hell := zN el
 have hbv := zAe bd
 have helv := zAe el
 obtain ⟨q1,q2,q3,q4,q5,q6,q7,q8⟩ := hh
 have ef0 := ef
 rw [zAQ ps k hlt,hx] at ef
 have fA : ∀ B b,Fr1 r G (G'.set r B ++ [b]) := fun B b => (fr.trans (Fr1.set B)).trans (Fr1.app _)
 have fB : ∀ B b X,Fr1 r G ((G'.set r B).set (G.length + 1) X ++ [b]) := fun B b X => ((fr.trans (Fr1.set B)).set' (i := G.length + 1) (by omega) X).trans (Fr1.app _)
 have hng : ((∀ h',¬ zCC ps k (.mk 20 a b bd el) out h = some h')\/32768 < c + zQ (l.take j) + zBo (.mk 20 a b bd el)\/257 < level + zCV (.mk 20 a b bd el))->¬ zDN ps k l out level c := zBf hlt hx ef0
 have hSr : ∀ B b,(G'.set r B ++ [b])[r]? = some B := fun B b => by rw [zC (by simpa using hrl'),zJ hrl']
 have hS9 : ∀ B b,(G'.set r B ++ [b])[G.length]? = some (.box (prR (ps.getD k default))) := fun B b => by rw [zC (by rw [zYP]; omega),zH (by omega)]; exact g9
 have hS10 : ∀ B b,(G'.set r B ++ [b])[G.length + 1]? = some (.box [int h]) := fun B b => by rw [zC (by rw [zYP]; omega),zH (by omega)]; exact g10
 have hSx : ∀ B b,(G'.set r B ++ [b])[G'.length]? = some b := fun B b => by rw [zYz (by simp)]; simp
 have hTx : ∀ B b X,((G'.set r B).set (G.length + 1) X ++ [b])[G'.length]? = some b := fun B b X => by rw [zYz (by simp)]; simp
 have hln := zN l
 have hXr : ∀ B X,(G'.set r B ++ X)[r]? = some B := fun B X => by rw [zC (by simpa using hrl'),zJ hrl']
 have hX9 : ∀ B X,(G'.set r B ++ X)[G.length]? = some (.box (prR (ps.getD k default))) := fun B X => by rw [zC (by rw [zYP]; omega),zH (by omega)]; exact g9
 have hX10 : ∀ B X,(G'.set r B ++ X)[G.length + 1]? = some (.box [int h]) := fun B X => by rw [zC (by rw [zYP]; omega),zH (by omega)]; exact g10
 have hXx : ∀ B b X,(G'.set r B ++ b :: X)[G'.length]? = some b := fun B b X => by rw [zYz (by simp)]; simp
 have hXy : ∀ B b d X,(G'.set r B ++ b :: d :: X)[G'.length + 1]? = some d := fun B b d X => by rw [zYz (by simp)]; simp
 have hYr : ∀ B Y X,((G'.set r B).set (G.length + 1) Y ++ X)[r]? = some B := fun B Y X => by rw [zC (by simpa using hrl'),zH (by omega),zJ hrl']
 have hY9 : ∀ B Y X,((G'.set r B).set (G.length + 1) Y ++ X)[G.length]? = some (.box (prR (ps.getD k default))) := fun B Y X => by rw [zC (by simp; omega),zH (by omega),zH (by omega)]; exact g9
 have hY10 : ∀ B Y X,((G'.set r B).set (G.length + 1) Y ++ X)[G.length + 1]? = some Y := fun B Y X => by rw [zC (by simp; omega),zJ (by simp; omega)]
 have hYx : ∀ B Y b X,((G'.set r B).set (G.length + 1) Y ++ b :: X)[G'.length]? = some b := fun B Y b X => by rw [zYz (by simp)]; simp
 have hXs : ∀ B b z Y,(G'.set r B ++ [b,z]).set (G'.length + 1) Y = G'.set r B ++ [b,Y] := fun B b z Y => by rw [zZV _ _ (by simp)]; simp
 have fX : ∀ B X,Fr1 r G (G'.set r B ++ X) := fun B X => (fr.trans (Fr1.set B)).trans (Fr1.app _)
 have fY : ∀ B Y X,Fr1 r G ((G'.set r B).set (G.length + 1) Y ++ X) := fun B Y X => ((fr.trans (Fr1.set B)).set' (i := G.length + 1) (by omega) Y).trans (Fr1.app _)
 by_cases hcn : c + zQ (l.take j) + 1 <= 32768
 ·have hpr1 : (prR (ps.getD a.toNat default)).drop 1 = [int (ps.getD a.toNat default).par,int (ps.getD a.toNat default).slots,int (ps.getD a.toNat default).res,.sl 1 ((ps.getD a.toNat default).outs.map iR),.sl 5 ((ps.getD a.toNat default).body.map zAq)] := rfl
  by_cases ha : 0 <= a/\a < k
  ·obtain ⟨p1,p2,p3,p4⟩ := hp a.toNat (by omega)
   have po := zHt p3 p4
   have cO := fun H => zPe (ps.getD a.toNat default) (by omega) H
   cases hI : zCC ps k (.mk 20 a b bd el) out h with
   | some h' =>
    obtain ⟨hb0,hem,_,f1,f2,rfl⟩ := zSv.1 hI
    rw [hI] at ef
    have hz : zQ bd = 0/\zQ el = 0/\zAK bd = 0/\zAK el = 0 := by
     rw [zYQ.1 hem.1,zYQ.1 hem.2]; exact ⟨rfl,rfl,rfl,rfl⟩
    repeat' (first | refine zYt (by omega) ?_ | refine zA (cO _) ?_ | refine zD (zAy _) ?_ | simp -implicitDefEqProofs (disch := omega) only [e0,e11,e42,e43,e44,gr,hrow,zC,zO,splice,zR,zYo,zAz,hXr,hXx,hXy,hXs,L46,LCode.sub,zBe,zCO,zFT,hpr1,zI,zAg,push_cast,simprocAttr,↓reduceIte,zYp])
    refine zDW (zCb h (ps.getD a.toNat default).par (zCX (ps.getD a.toNat default) - (ps.getD a.toNat default).par) hhh (by omega) _ _ (hX10 _ _)) ?_ ?_
    ·intro y0 H2 h0
     obtain ⟨-,rfl⟩ : NT _ _ _ _ _ H2 := h0
     simp -implicitDefEqProofs (disch := omega) only [zC,zO,zH,zJ,zBQ,zY,zBt,zBu,zBs,zA8,zI,zT,zAg,zAG,zZ,zU,push_cast,simprocAttr,↓reduceIte,zYp]
     repeat' (first | refine zD (zAy _) ?_ | simp -implicitDefEqProofs (disch := omega) only [e44,zYo,hYx,zZ,push_cast,simprocAttr,↓reduceIte])
     exact .mk (j + 1,h + (zCX (ps.getD a.toNat default) - (ps.getD a.toNat default).par)) ⟨e0,e2,e3,e9,e10,e11,e12,e42,e43,rfl,by rw [hYr,hsn]; simp only [hz,zZg,zY0]; push_cast; rw [zZP],hY9 _ _ _,by rw [hY10],fY _ _ _,by simp; omega,hlt,by dsimp only; omega,by dsimp only; rw [hsn]; omega,by dsimp only; rw [hsl]; omega,ef⟩ (by dsimp only; omega)
    ·intro z0 H2 h0
     obtain ⟨-,hn,-⟩ : NF _ _ _ _ z0 _ H2 := h0
     exact absurd ⟨f1,f2⟩ hn
   | none =>
    have ng := hng (.inl fun h' hh => by rw [hI] at hh; cases hh)
    have hn : ¬ (b = 0/\(bd.length = 0/\el.length = 0)/\(ps.getD a.toNat default).par <= h/\h + (zCX (ps.getD a.toNat default) - (ps.getD a.toNat default).par) <= 1024) := fun hh => by rw [zSv.2 ⟨hh.1,hh.2.1,ha,hh.2.2.1,hh.2.2.2,rfl⟩] at hI; cases hI
    repeat' (first | intro y0 H2 h0; obtain ⟨hb,rfl⟩ : MT _ _ H2 := h0; (try (exfalso; contradiction)); (try simp only [zYy] at hb) | intro z0 H2 h0; obtain ⟨hb,rfl,rfl⟩ : MF _ z0 _ H2 := h0; clear hb | intro y0 H2 h0; obtain ⟨hb,rfl⟩ : NT _ _ _ _ _ H2 := h0 | intro z0 H2 h0; obtain ⟨rfl,hb,rfl | rfl⟩ : NF _ _ _ _ z0 _ H2 := h0 | refine zYt (by omega) ?_ | refine zD (zAy _) ?_ | refine zA (cO _) ?_ | refine zG (zCZ _ _) ?_ ?_ | refine zG (zCb h (ps.getD a.toNat default).par (zCX (ps.getD a.toNat default) - (ps.getD a.toNat default).par) hhh (by omega) _ _ (hX10 _ _)) ?_ ?_ | simp -implicitDefEqProofs (disch := omega) only [e0,e11,e42,e43,e44,gr,hrow,zC,zO,zY,splice,zR,zYo,zAz,hXr,hXx,hXy,hYx,hXs,L46,LCode.sub,zBe,zCO,zFT,hpr1,zI,zAg,zZ,zU,push_cast,simprocAttr,↓reduceIte,zYp] | split)
    all_goals first | exact fX _ _ | exact fY _ _ _ | exact ⟨ng,fX _ _⟩ | exact ⟨ng,fY _ _ _⟩ | (exfalso; refine hn ⟨?_,⟨?_,?_⟩,?_,?_⟩ <;> omega)
  ·have ng := hng (.inl fun h' hh => ha (zSv.1 hh).2.2.1)
   repeat' (first | intro y0 H2 h0; obtain ⟨hb,rfl⟩ : MT _ _ H2 := h0; (try (exfalso; contradiction)); (try simp only [zYy] at hb) | intro z0 H2 h0; obtain ⟨hb,rfl,rfl⟩ : MF _ z0 _ H2 := h0; clear hb | refine zYt (by omega) ?_ | refine zD (zAy _) ?_ | refine zG (zCZ _ _) ?_ ?_ | simp -implicitDefEqProofs (disch := omega) only [e0,e42,e43,e44,gr,hrow,zC,zO,splice,zYo,zAz,hXr,hXx,L46,LCode.sub,zI,zT,zAg,zAG,push_cast,simprocAttr,↓reduceIte,zYp] | split)
   all_goals first | exact fX _ _ | exact ⟨ng,fX _ _⟩ | (exfalso; omega)
 ·repeat' (first | refine zYt (by omega) ?_ | refine zK (zAO _) ?_ | simp -implicitDefEqProofs (disch := omega) only [e0,e42,e43,e44,gr,hrow,zC,zO,splice,zYo,zAz,hXr,L46,LCode.sub,zI,zAG,push_cast,simprocAttr,↓reduceIte,zYp])
  exact ⟨hng (.inr (.inl (by simp only [zBo]; omega))),fX _ _⟩
set_option maxHeartbeats 8000000 in
theorem zT2 (ps : List Pr) (k : Nat) (hk : k < ps.length) (hps : ps.length <= 1048576) (hp : zCU ps k) (hh : zCA (ps.getD k default)) (l : List Ins) (out : Bool) (level c : Int) (r : Nat) (G : zB) : zJR ps k l out level c r G 18 := by
 intro j h e' G' a b bd el hlt hx hs hbd hel hrl hc0 hl0 hl1 ⟨e0,e2,e3,e9,e10,e11,e12,e42,e43,e44,gr,g9,g10,fr,gl,hj,hhh,cc,lv,ef⟩;have hrow : (l.map zAq).getD j [] = [int 18,int a,int b,.sl 5 (bd.map zAq),.sl 5 (el.map zAq)] := by
  rw [zL hlt,hx]; simp [zAq,zAh]
 have hrl' := zYT hrl fr.1;have hb := zAs l (j + 1);have hb2 := zAI l (j + 1);have hsn := zAm hlt;have hsl := zAF hlt;rw [hx] at hsn hsl;simp only [zBo,zCV] at hsn hsl;have hbl := zN bd;have hell := zN el;have hbv := zAe bd;have helv := zAe el;obtain ⟨q1,q2,q3,q4,q5,q6,q7,q8⟩ := hh;have ef0 := ef;rw [zAQ ps k hlt,hx] at ef;have fA : ∀ B b,Fr1 r G (G'.set r B ++ [b]) := fun B b => (fr.trans (Fr1.set B)).trans (Fr1.app _);have fB : ∀ B b X,Fr1 r G ((G'.set r B).set (G.length + 1) X ++ [b]) := fun B b X => ((fr.trans (Fr1.set B)).set' (i := G.length + 1) (by omega) X).trans (Fr1.app _);have hng : ((∀ h',¬ zCC ps k (.mk 18 a b bd el) out h = some h')\/32768 < c + zQ (l.take j) + zBo (.mk 18 a b bd el)\/257 < level + zCV (.mk 18 a b bd el))->¬ zDN ps k l out level c := zBf hlt hx ef0;have hSr : ∀ B b,(G'.set r B ++ [b])[r]? = some B := fun B b => by rw [zC (by simpa using hrl'),zJ hrl']
 have hS9 : ∀ B b,(G'.set r B ++ [b])[G.length]? = some (.box (prR (ps.getD k default))) := fun B b => by rw [zC (by rw [zYP]; omega),zH (by omega)]; exact g9
 have hS10 : ∀ B b,(G'.set r B ++ [b])[G.length + 1]? = some (.box [int h]) := fun B b => by rw [zC (by rw [zYP]; omega),zH (by omega)]; exact g10
 have hSx : ∀ B b,(G'.set r B ++ [b])[G'.length]? = some b := fun B b => by rw [zYz (by simp)]; simp
 have hTx : ∀ B b X,((G'.set r B).set (G.length + 1) X ++ [b])[G'.length]? = some b := fun B b X => by rw [zYz (by simp)]; simp
 have hln := zN l;have hXr : ∀ B X,(G'.set r B ++ X)[r]? = some B := fun B X => by rw [zC (by simpa using hrl'),zJ hrl']
 have hX9 : ∀ B X,(G'.set r B ++ X)[G.length]? = some (.box (prR (ps.getD k default))) := fun B X => by rw [zC (by rw [zYP]; omega),zH (by omega)]; exact g9
 have hX10 : ∀ B X,(G'.set r B ++ X)[G.length + 1]? = some (.box [int h]) := fun B X => by rw [zC (by rw [zYP]; omega),zH (by omega)]; exact g10
 have hXx : ∀ B b X,(G'.set r B ++ b :: X)[G'.length]? = some b := fun B b X => by rw [zYz (by simp)]; simp
 have hXy : ∀ B b d X,(G'.set r B ++ b :: d :: X)[G'.length + 1]? = some d := fun B b d X => by rw [zYz (by simp)]; simp
 have hYr : ∀ B Y X,((G'.set r B).set (G.length + 1) Y ++ X)[r]? = some B := fun B Y X => by rw [zC (by simpa using hrl'),zH (by omega),zJ hrl']
 have hY9 : ∀ B Y X,((G'.set r B).set (G.length + 1) Y ++ X)[G.length]? = some (.box (prR (ps.getD k default))) := fun B Y X => by rw [zC (by simp; omega),zH (by omega),zH (by omega)]; exact g9
 have hY10 : ∀ B Y X,((G'.set r B).set (G.length + 1) Y ++ X)[G.length + 1]? = some Y := fun B Y X => by rw [zC (by simp; omega),zJ (by simp; omega)]
 have hYx : ∀ B Y b X,((G'.set r B).set (G.length + 1) Y ++ b :: X)[G'.length]? = some b := fun B Y b X => by rw [zYz (by simp)]; simp
 have hXs : ∀ B b z Y,(G'.set r B ++ [b,z]).set (G'.length + 1) Y = G'.set r B ++ [b,Y] := fun B b z Y => by rw [zZV _ _ (by simp)]; simp
 have fX : ∀ B X,Fr1 r G (G'.set r B ++ X) := fun B X => (fr.trans (Fr1.set B)).trans (Fr1.app _);have fY : ∀ B Y X,Fr1 r G ((G'.set r B).set (G.length + 1) Y ++ X) := fun B Y X => ((fr.trans (Fr1.set B)).set' (i := G.length + 1) (by omega) Y).trans (Fr1.app _);by_cases hcn : c + zQ (l.take j) + 1 <= 32768
 ·cases out with
  | false =>
   have hio : (false && decide (h = 1)) = false := rfl;have h18 := fun h' => zCS (ps := ps) (k := k) (a := a) (b := b) (bd := bd) (el := el) (out := false) (h := h) (h' := h');have hx0 := hx
   repeat' (first | refine zYt (by omega) ?_ | refine zD (zAy _) ?_ | simp -implicitDefEqProofs (disch := omega) only [e0,e11,e42,e43,e44,gr,hrow,zC,zO,splice,zYo,zAz,hXr,hXx,L46,LCode.sub,zI,zAg,push_cast,simprocAttr,↓reduceIte,zYp])
   refine zG (zCb h 1 (-1) hhh (by omega) _ _ (hX10 _ _)) ?_ ?_
   ·intro y0 H2 h0;obtain ⟨hb1,rfl⟩ : NT _ _ _ _ _ H2 := h0;simp -implicitDefEqProofs (disch := omega) only [zC,zO,zH,zJ,zBQ,zY,zBt,zBu,zBs,zA8,zI,zT,zAg,zAG,zZ,zU,push_cast,simprocAttr,↓reduceIte,zYp]
    repeat' (simp -implicitDefEqProofs (disch := omega) only [e0,e2,e3,hYx,push_cast,simprocAttr,↓reduceIte])
    refine zG (hbd false (level + 1) (c + zQ (l.take j) + 1) _ r (hYr _ _ _) (by omega) (by omega) (by omega) (by omega)) ?_ ?_
    ·rintro y0 G2 ⟨y1,rfl,he1,hc1,hv1,hf1,hr2⟩;have rg1 := zAL hp bd _ 0 y1 (by omega) (by omega) he1;have fr2 : Fr1 r G G2 := (fY _ _ _).trans hf1;have l2 : G'.length + 1 <= G2.length := by have := hf1.1; simpa using this
     have k9 : G2[G.length]? = some (.box (prR (ps.getD k default))) := (hf1.2 _ (by simp; omega) (by omega)).trans (hY9 _ _ _);have k10 : G2[G.length + 1]? = some (.box [int (h + -1)]) := (hf1.2 _ (by simp; omega) (by omega)).trans (hY10 _ _ _);have kx : G2[G'.length]? = some (.box [int 18,int a,int b,.sl 5 (bd.map zAq),.sl 5 (el.map zAq)]) := (hf1.2 _ (by simp) (by omega)).trans (hYx _ _ _ _);clear hf1
     repeat' (simp -implicitDefEqProofs (disch := omega) only [e0,e3,kx,push_cast,simprocAttr,↓reduceIte])
     refine zG (hel false (level + 1) (c + zQ (l.take j) + 1 + zQ bd) G2 r hr2 (by omega) (by omega) (by omega) (by omega)) ?_ ?_
     ·rintro y0 G3 ⟨y2,rfl,he2,hc2,hv2,hf2,hr3⟩;have rg2 := zAL hp el _ 0 y2 (by omega) (by omega) he2;have fr3 : Fr1 r G G3 := fr2.trans hf2;have l3 : G'.length + 1 <= G3.length := zZL l2 hf2.1;have m9 : G3[G.length]? = some (.box (prR (ps.getD k default))) := (hf2.2 _ (by omega) (by omega)).trans k9;have m10 : G3[G.length + 1]? = some (.box [int (h + -1)]) := (hf2.2 _ (by omega) (by omega)).trans k10;have mx : G3[G'.length]? = some (.box [int 18,int a,int b,.sl 5 (bd.map zAq),.sl 5 (el.map zAq)]) := (hf2.2 _ (by omega) (by omega)).trans kx;clear hf2 k9 k10 kx;have fR3 : ∀ X,Fr1 r G (G3.set (G.length + 1) X) := fun X => fr3.set' (by omega) X;by_cases hy : y2 = y1
      ·subst hy
       repeat' (first | refine zD (zAy _) ?_ | simp -implicitDefEqProofs (disch := omega) only [e11,push_cast,↓reduceIte,Nat.reduceEqDiff])
       refine zG (zCb (h + -1) 0 y2 (by omega) (by omega) _ _ m10) ?_ ?_
       ·intro y0 H2 h0;obtain ⟨hb2,rfl⟩ : NT _ _ _ _ _ H2 := h0;by_cases hab : a = 0/\b = 0
        ·have hI := (h18 _).2 ⟨hab.1,hab.2,by omega,y2,by rw [hio]; exact he1,by rw [hio]; exact he2,by omega,rfl⟩;rw [hI] at ef
         repeat' (first | refine zD (zAy _) ?_ | simp -implicitDefEqProofs (disch := omega) only [e44,mx,zH,zZ,push_cast,simprocAttr,↓reduceIte])
         have hcnt : c + (zQ (l.take j) : Int) + 1 + zQ bd + zQ el = c + (zQ (l.take (j + 1)) : Nat) := by rw [hsn]; push_cast; omega
         have hyy : h + -1 + y2 = h + (y2 - 1) := by omega
         exact .mk (j + 1,h + (y2 - 1)) ⟨e0,e2,e3,e9,e10,e11,e12,e42,e43,rfl,by rw [zH (by omega),hr3,hcnt],by rw [zH (by omega)]; exact m9,by rw [zJ (by omega),hyy],fR3 _,by simp; omega,hlt,by dsimp only; omega,by dsimp only; rw [hsn]; omega,by dsimp only; rw [hsl]; omega,ef⟩ (by dsimp only; omega)
        ·have ng := hng (.inl fun h' hh => hab (by obtain ⟨g1,g2,_⟩ := zCS.1 hh; exact ⟨g1,g2⟩))
         repeat' (first | refine zYt (by omega) ?_ | refine zK (zAO _) ?_ | simp -implicitDefEqProofs (disch := omega) only [mx,zH,zZ,zU,push_cast,simprocAttr,↓reduceIte] | split)
         all_goals first | exact fR3 _ | exact ⟨ng,fR3 _⟩ | (exfalso; omega)
       ·intro z0 H2 h0;obtain ⟨rfl,hb2,hH2⟩ : NF _ _ _ _ z0 _ H2 := h0;have ng := hng (.inl fun h' hh => by
         obtain ⟨g1,g2,g3,e,g4,g5,g6,g7⟩ := zCS.1 hh;rw [hio,he1] at g4;simp only [zYq] at g4;omega)
        rcases hH2 with rfl | rfl
        ·repeat' (first | refine zYt (by omega) ?_ | simp -implicitDefEqProofs (disch := omega) only [push_cast])
         first | exact fr3 | exact ⟨ng,fr3⟩
        ·repeat' (first | refine zYt (by omega) ?_ | simp -implicitDefEqProofs (disch := omega) only [push_cast,Int.reduceNeg])
         first | exact fR3 _ | exact ⟨ng,fR3 _⟩
      ·have ng := hng (.inl fun h' hh => by
        obtain ⟨g1,g2,g3,e,g4,g5,g6,g7⟩ := zCS.1 hh;rw [hio,he1] at g4;rw [hio,he2] at g5;simp only [zYq] at g4 g5;omega)
       repeat' (first | refine zYt (by omega) ?_ | refine zK (zAO _) ?_ | simp -implicitDefEqProofs (disch := omega) only [zU,push_cast,↓reduceIte,Nat.reduceEqDiff])
       first | exact fr3 | exact ⟨ng,fr3⟩
     ·rintro z0 G3 ⟨rfl,hb2,hf2⟩;have ng := hng (by
       by_cases hg : ∃ e,zCf ps k el false 0 = some e
       ·refine .inr (zYX fun hno => hb2 ⟨hg,?_,?_⟩) <;> simp only [zBo,zCV] at hno <;> omega
       ·exact .inl fun h' hh => by
         obtain ⟨g1,g2,g3,e,g4,g5,g6,g7⟩ := zCS.1 hh;rw [hio] at g5;exact hg ⟨_,g5⟩)
      repeat' (first | refine zYt (by omega) ?_ | simp -implicitDefEqProofs (disch := omega) only [push_cast])
      first | exact fr2.trans hf2 | exact ⟨ng,fr2.trans hf2⟩
    ·rintro z0 G2 ⟨rfl,hb2,hf2⟩;have ng := hng (by
      by_cases hg : ∃ e,zCf ps k bd false 0 = some e
      ·refine .inr (zYX fun hno => hb2 ⟨hg,?_,?_⟩) <;> simp only [zBo,zCV] at hno <;> omega
      ·exact .inl fun h' hh => by
        obtain ⟨g1,g2,g3,e,g4,g5,g6,g7⟩ := zCS.1 hh;rw [hio] at g4;exact hg ⟨_,g4⟩)
     repeat' (first | refine zYt (by omega) ?_ | simp -implicitDefEqProofs (disch := omega) only [push_cast])
     first | exact (fY _ _ _).trans hf2 | exact ⟨ng,(fY _ _ _).trans hf2⟩
   ·intro z0 H2 h0;obtain ⟨rfl,hb2,hH2⟩ : NF _ _ _ _ z0 _ H2 := h0;have ng := hng (.inl fun h' hh => by
     obtain ⟨g1,g2,g3,_⟩ := zCS.1 hh;omega)
    rcases hH2 with rfl | rfl
    ·repeat' (first | refine zYt (by omega) ?_ | simp -implicitDefEqProofs (disch := omega) only [push_cast])
     first | exact fX _ _ | exact ⟨ng,fX _ _⟩
    ·simp -implicitDefEqProofs (disch := omega) only [zC,zO,zH,zJ,zBQ,zY,zBt,zBu,zBs,zA8,zI,zT,zAg,zAG,zZ,zU,push_cast,simprocAttr,↓reduceIte,zYp]
     repeat' (refine zYt (by omega) ?_)
     first | exact fY _ _ _ | exact ⟨ng,fY _ _ _⟩
  | true =>
   by_cases h1e : h = 1
   ·have hio : (true && decide (h = 1)) = true := by simp [h1e]
    have h18 := fun h' => zCS (ps := ps) (k := k) (a := a) (b := b) (bd := bd) (el := el) (out := true) (h := h) (h' := h');have hx0 := hx
    repeat' (first | refine zYt (by omega) ?_ | refine zD (zAy _) ?_ | simp -implicitDefEqProofs (disch := omega) only [e0,e11,e42,e43,e44,gr,hrow,zC,zO,splice,zYo,zAz,hXr,hXx,L46,LCode.sub,zI,zAg,push_cast,simprocAttr,↓reduceIte,zYp])
    refine zG (zCb h 1 (-1) hhh (by omega) _ _ (hX10 _ _)) ?_ ?_
    ·intro y0 H2 h0;obtain ⟨hb1,rfl⟩ : NT _ _ _ _ _ H2 := h0;simp -implicitDefEqProofs (disch := omega) only [zC,zO,zH,zJ,zBQ,zY,zBt,zBu,zBs,zA8,zI,zT,zAg,zAG,zZ,zU,push_cast,simprocAttr,↓reduceIte,zYp]
     repeat' (simp -implicitDefEqProofs (disch := omega) only [e0,e2,e3,e10,hY10,hYx,zZ,push_cast,simprocAttr,↓reduceIte])
     refine zG (hbd true (level + 1) (c + zQ (l.take j) + 1) _ r (hYr _ _ _) (by omega) (by omega) (by omega) (by omega)) ?_ ?_
     ·rintro y0 G2 ⟨y1,rfl,he1,hc1,hv1,hf1,hr2⟩;have rg1 := zAL hp bd _ 0 y1 (by omega) (by omega) he1;have fr2 : Fr1 r G G2 := (fY _ _ _).trans hf1;have l2 : G'.length + 1 <= G2.length := by have := hf1.1; simpa using this
      have k9 : G2[G.length]? = some (.box (prR (ps.getD k default))) := (hf1.2 _ (by simp; omega) (by omega)).trans (hY9 _ _ _);have k10 : G2[G.length + 1]? = some (.box [int (h + -1)]) := (hf1.2 _ (by simp; omega) (by omega)).trans (hY10 _ _ _);have kx : G2[G'.length]? = some (.box [int 18,int a,int b,.sl 5 (bd.map zAq),.sl 5 (el.map zAq)]) := (hf1.2 _ (by simp) (by omega)).trans (hYx _ _ _ _);clear hf1
      repeat' (simp -implicitDefEqProofs (disch := omega) only [e0,e3,kx,push_cast,simprocAttr,↓reduceIte])
      refine zG (hel true (level + 1) (c + zQ (l.take j) + 1 + zQ bd) G2 r hr2 (by omega) (by omega) (by omega) (by omega)) ?_ ?_
      ·rintro y0 G3 ⟨y2,rfl,he2,hc2,hv2,hf2,hr3⟩;have rg2 := zAL hp el _ 0 y2 (by omega) (by omega) he2;have fr3 : Fr1 r G G3 := fr2.trans hf2;have l3 : G'.length + 1 <= G3.length := zZL l2 hf2.1;have m9 : G3[G.length]? = some (.box (prR (ps.getD k default))) := (hf2.2 _ (by omega) (by omega)).trans k9;have m10 : G3[G.length + 1]? = some (.box [int (h + -1)]) := (hf2.2 _ (by omega) (by omega)).trans k10;have mx : G3[G'.length]? = some (.box [int 18,int a,int b,.sl 5 (bd.map zAq),.sl 5 (el.map zAq)]) := (hf2.2 _ (by omega) (by omega)).trans kx;clear hf2 k9 k10 kx;have fR3 : ∀ X,Fr1 r G (G3.set (G.length + 1) X) := fun X => fr3.set' (by omega) X;by_cases hy : y2 = y1
       ·subst hy
        repeat' (first | refine zD (zAy _) ?_ | simp -implicitDefEqProofs (disch := omega) only [e11,push_cast,simprocAttr,↓reduceIte])
        refine zG (zCb (h + -1) 0 y2 (by omega) (by omega) _ _ m10) ?_ ?_
        ·intro y0 H2 h0;obtain ⟨hb2,rfl⟩ : NT _ _ _ _ _ H2 := h0;by_cases hab : a = 0/\b = 0
         ·have hI := (h18 _).2 ⟨hab.1,hab.2,by omega,y2,by rw [hio]; exact he1,by rw [hio]; exact he2,by omega,rfl⟩;rw [hI] at ef
          repeat' (first | refine zD (zAy _) ?_ | simp -implicitDefEqProofs (disch := omega) only [e44,mx,zH,zZ,push_cast,simprocAttr,↓reduceIte])
          have hcnt : c + (zQ (l.take j) : Int) + 1 + zQ bd + zQ el = c + (zQ (l.take (j + 1)) : Nat) := by rw [hsn]; push_cast; omega
          have hyy : h + -1 + y2 = h + (y2 - 1) := by omega
          exact .mk (j + 1,h + (y2 - 1)) ⟨e0,e2,e3,e9,e10,e11,e12,e42,e43,rfl,by rw [zH (by omega),hr3,hcnt],by rw [zH (by omega)]; exact m9,by rw [zJ (by omega),hyy],fR3 _,by simp; omega,hlt,by dsimp only; omega,by dsimp only; rw [hsn]; omega,by dsimp only; rw [hsl]; omega,ef⟩ (by dsimp only; omega)
         ·have ng := hng (.inl fun h' hh => hab (by obtain ⟨g1,g2,_⟩ := zCS.1 hh; exact ⟨g1,g2⟩))
          repeat' (first | refine zYt (by omega) ?_ | refine zK (zAO _) ?_ | simp -implicitDefEqProofs (disch := omega) only [mx,zH,zZ,zU,push_cast,simprocAttr,↓reduceIte] | split)
          all_goals first | exact fR3 _ | exact ⟨ng,fR3 _⟩ | (exfalso; omega)
        ·intro z0 H2 h0;obtain ⟨rfl,hb2,hH2⟩ : NF _ _ _ _ z0 _ H2 := h0;have ng := hng (.inl fun h' hh => by
          obtain ⟨g1,g2,g3,e,g4,g5,g6,g7⟩ := zCS.1 hh;rw [hio,he1] at g4;simp only [zYq] at g4;omega)
         rcases hH2 with rfl | rfl
         ·repeat' (refine zYt (by omega) ?_)
          first | exact fr3 | exact ⟨ng,fr3⟩
         ·repeat' (refine zYt (by omega) ?_)
          first | exact fR3 _ | exact ⟨ng,fR3 _⟩
       ·have ng := hng (.inl fun h' hh => by
         obtain ⟨g1,g2,g3,e,g4,g5,g6,g7⟩ := zCS.1 hh;rw [hio,he1] at g4;rw [hio,he2] at g5;simp only [zYq] at g4 g5;omega)
        repeat' (first | refine zYt (by omega) ?_ | refine zK (zAO _) ?_ | simp -implicitDefEqProofs (disch := omega) only [zU,push_cast,simprocAttr,↓reduceIte])
        first | exact fr3 | exact ⟨ng,fr3⟩
      ·rintro z0 G3 ⟨rfl,hb2,hf2⟩;have ng := hng (by
        by_cases hg : ∃ e,zCf ps k el true 0 = some e
        ·refine .inr (zYX fun hno => hb2 ⟨hg,?_,?_⟩) <;> simp only [zBo,zCV] at hno <;> omega
        ·exact .inl fun h' hh => by
          obtain ⟨g1,g2,g3,e,g4,g5,g6,g7⟩ := zCS.1 hh;rw [hio] at g5;exact hg ⟨_,g5⟩)
       repeat' (first | refine zYt (by omega) ?_ | simp -implicitDefEqProofs (disch := omega) only [push_cast,Int.reduceNeg])
       first | exact fr2.trans hf2 | exact ⟨ng,fr2.trans hf2⟩
     ·rintro z0 G2 ⟨rfl,hb2,hf2⟩;have ng := hng (by
       by_cases hg : ∃ e,zCf ps k bd true 0 = some e
       ·refine .inr (zYX fun hno => hb2 ⟨hg,?_,?_⟩) <;> simp only [zBo,zCV] at hno <;> omega
       ·exact .inl fun h' hh => by
         obtain ⟨g1,g2,g3,e,g4,g5,g6,g7⟩ := zCS.1 hh;rw [hio] at g4;exact hg ⟨_,g4⟩)
      repeat' (first | refine zYt (by omega) ?_ | simp -implicitDefEqProofs (disch := omega) only [push_cast,Int.reduceNeg])
      first | exact (fY _ _ _).trans hf2 | exact ⟨ng,(fY _ _ _).trans hf2⟩
    ·intro z0 H2 h0;obtain ⟨rfl,hb2,hH2⟩ : NF _ _ _ _ z0 _ H2 := h0;have ng := hng (.inl fun h' hh => by
      obtain ⟨g1,g2,g3,_⟩ := zCS.1 hh;omega)
     rcases hH2 with rfl | rfl
     ·repeat' (refine zYt (by omega) ?_)
      first | exact fX _ _ | exact ⟨ng,fX _ _⟩
     ·simp -implicitDefEqProofs (disch := omega) only [zC,zO,zH,zJ,zBQ,zY,zBt,zBu,zBs,zA8,zI,zT,zAg,zAG,zZ,zU,push_cast,simprocAttr,↓reduceIte,zYp]
      repeat' (refine zYt (by omega) ?_)
      first | exact fY _ _ _ | exact ⟨ng,fY _ _ _⟩
   ·have hio : (true && decide (h = 1)) = false := by simp [h1e]
    have h18 := fun h' => zCS (ps := ps) (k := k) (a := a) (b := b) (bd := bd) (el := el) (out := true) (h := h) (h' := h');have hx0 := hx
    repeat' (first | refine zYt (by omega) ?_ | refine zD (zAy _) ?_ | simp -implicitDefEqProofs (disch := omega) only [e0,e11,e42,e43,e44,gr,hrow,zC,zO,splice,zYo,zAz,hXr,hXx,L46,LCode.sub,zI,zAg,push_cast,simprocAttr,↓reduceIte,zYp])
    refine zG (zCb h 1 (-1) hhh (by omega) _ _ (hX10 _ _)) ?_ ?_
    ·intro y0 H2 h0;obtain ⟨hb1,rfl⟩ : NT _ _ _ _ _ H2 := h0;simp -implicitDefEqProofs (disch := omega) only [zC,zO,zH,zJ,zBQ,zY,zBt,zBu,zBs,zA8,zI,zT,zAg,zAG,zZ,zU,push_cast,simprocAttr,↓reduceIte,zYp]
     repeat' (simp -implicitDefEqProofs (disch := omega) only [e0,e2,e3,e10,hY10,hYx,zU,push_cast,simprocAttr,↓reduceIte])
     refine zG (hbd false (level + 1) (c + zQ (l.take j) + 1) _ r (hYr _ _ _) (by omega) (by omega) (by omega) (by omega)) ?_ ?_
     ·rintro y0 G2 ⟨y1,rfl,he1,hc1,hv1,hf1,hr2⟩;have rg1 := zAL hp bd _ 0 y1 (by omega) (by omega) he1;have fr2 : Fr1 r G G2 := (fY _ _ _).trans hf1;have l2 : G'.length + 1 <= G2.length := by have := hf1.1; simpa using this
      have k9 : G2[G.length]? = some (.box (prR (ps.getD k default))) := (hf1.2 _ (by simp; omega) (by omega)).trans (hY9 _ _ _);have k10 : G2[G.length + 1]? = some (.box [int (h + -1)]) := (hf1.2 _ (by simp; omega) (by omega)).trans (hY10 _ _ _);have kx : G2[G'.length]? = some (.box [int 18,int a,int b,.sl 5 (bd.map zAq),.sl 5 (el.map zAq)]) := (hf1.2 _ (by simp) (by omega)).trans (hYx _ _ _ _);clear hf1
      repeat' (simp -implicitDefEqProofs (disch := omega) only [e0,e3,kx,push_cast,simprocAttr,↓reduceIte])
      refine zG (hel false (level + 1) (c + zQ (l.take j) + 1 + zQ bd) G2 r hr2 (by omega) (by omega) (by omega) (by omega)) ?_ ?_
      ·rintro y0 G3 ⟨y2,rfl,he2,hc2,hv2,hf2,hr3⟩;have rg2 := zAL hp el _ 0 y2 (by omega) (by omega) he2;have fr3 : Fr1 r G G3 := fr2.trans hf2;have l3 : G'.length + 1 <= G3.length := zZL l2 hf2.1;have m9 : G3[G.length]? = some (.box (prR (ps.getD k default))) := (hf2.2 _ (by omega) (by omega)).trans k9;have m10 : G3[G.length + 1]? = some (.box [int (h + -1)]) := (hf2.2 _ (by omega) (by omega)).trans k10;have mx : G3[G'.length]? = some (.box [int 18,int a,int b,.sl 5 (bd.map zAq),.sl 5 (el.map zAq)]) := (hf2.2 _ (by omega) (by omega)).trans kx;clear hf2 k9 k10 kx;have fR3 : ∀ X,Fr1 r G (G3.set (G.length + 1) X) := fun X => fr3.set' (by omega) X;by_cases hy : y2 = y1
       ·subst hy
        repeat' (first | refine zD (zAy _) ?_ | simp -implicitDefEqProofs (disch := omega) only [e11,push_cast,simprocAttr,↓reduceIte])
        refine zG (zCb (h + -1) 0 y2 (by omega) (by omega) _ _ m10) ?_ ?_
        ·intro y0 H2 h0;obtain ⟨hb2,rfl⟩ : NT _ _ _ _ _ H2 := h0;by_cases hab : a = 0/\b = 0
         ·have hI := (h18 _).2 ⟨hab.1,hab.2,by omega,y2,by rw [hio]; exact he1,by rw [hio]; exact he2,by omega,rfl⟩;rw [hI] at ef
          repeat' (first | refine zD (zAy _) ?_ | simp -implicitDefEqProofs (disch := omega) only [e44,mx,zH,zZ,push_cast,simprocAttr,↓reduceIte])
          have hcnt : c + (zQ (l.take j) : Int) + 1 + zQ bd + zQ el = c + (zQ (l.take (j + 1)) : Nat) := by rw [hsn]; push_cast; omega
          have hyy : h + -1 + y2 = h + (y2 - 1) := by omega
          exact .mk (j + 1,h + (y2 - 1)) ⟨e0,e2,e3,e9,e10,e11,e12,e42,e43,rfl,by rw [zH (by omega),hr3,hcnt],by rw [zH (by omega)]; exact m9,by rw [zJ (by omega),hyy],fR3 _,by simp; omega,hlt,by dsimp only; omega,by dsimp only; rw [hsn]; omega,by dsimp only; rw [hsl]; omega,ef⟩ (by dsimp only; omega)
         ·have ng := hng (.inl fun h' hh => hab (by obtain ⟨g1,g2,_⟩ := zCS.1 hh; exact ⟨g1,g2⟩))
          repeat' (first | refine zYt (by omega) ?_ | refine zK (zAO _) ?_ | simp -implicitDefEqProofs (disch := omega) only [mx,zH,zZ,zU,push_cast,simprocAttr,↓reduceIte] | split)
          all_goals first | exact fR3 _ | exact ⟨ng,fR3 _⟩ | (exfalso; omega)
        ·intro z0 H2 h0;obtain ⟨rfl,hb2,hH2⟩ : NF _ _ _ _ z0 _ H2 := h0;have ng := hng (.inl fun h' hh => by
          obtain ⟨g1,g2,g3,e,g4,g5,g6,g7⟩ := zCS.1 hh;rw [hio,he1] at g4;simp only [zYq] at g4;omega)
         rcases hH2 with rfl | rfl
         ·repeat' (first | refine zYt (by omega) ?_ | simp -implicitDefEqProofs (disch := omega) only [push_cast,Int.reduceNeg])
          first | exact fr3 | exact ⟨ng,fr3⟩
         ·repeat' (first | refine zYt (by omega) ?_ | simp -implicitDefEqProofs (disch := omega) only [push_cast,Int.reduceNeg])
          first | exact fR3 _ | exact ⟨ng,fR3 _⟩
       ·have ng := hng (.inl fun h' hh => by
         obtain ⟨g1,g2,g3,e,g4,g5,g6,g7⟩ := zCS.1 hh;rw [hio,he1] at g4;rw [hio,he2] at g5;simp only [zYq] at g4 g5;omega)
        repeat' (first | refine zYt (by omega) ?_ | refine zK (zAO _) ?_ | simp -implicitDefEqProofs (disch := omega) only [zU,push_cast,simprocAttr,↓reduceIte])
        first | exact fr3 | exact ⟨ng,fr3⟩
      ·rintro z0 G3 ⟨rfl,hb2,hf2⟩;have ng := hng (by
        by_cases hg : ∃ e,zCf ps k el false 0 = some e
        ·refine .inr (zYX fun hno => hb2 ⟨hg,?_,?_⟩) <;> simp only [zBo,zCV] at hno <;> omega
        ·exact .inl fun h' hh => by
          obtain ⟨g1,g2,g3,e,g4,g5,g6,g7⟩ := zCS.1 hh;rw [hio] at g5;exact hg ⟨_,g5⟩)
       repeat' (first | refine zYt (by omega) ?_ | simp -implicitDefEqProofs (disch := omega) only [push_cast,Int.reduceNeg])
       first | exact fr2.trans hf2 | exact ⟨ng,fr2.trans hf2⟩
     ·rintro z0 G2 ⟨rfl,hb2,hf2⟩;have ng := hng (by
       by_cases hg : ∃ e,zCf ps k bd false 0 = some e
       ·refine .inr (zYX fun hno => hb2 ⟨hg,?_,?_⟩) <;> simp only [zBo,zCV] at hno <;> omega
       ·exact .inl fun h' hh => by
         obtain ⟨g1,g2,g3,e,g4,g5,g6,g7⟩ := zCS.1 hh;rw [hio] at g4;exact hg ⟨_,g4⟩)
      repeat' (first | refine zYt (by omega) ?_ | simp -implicitDefEqProofs (disch := omega) only [push_cast,Int.reduceNeg])
      first | exact (fY _ _ _).trans hf2 | exact ⟨ng,(fY _ _ _).trans hf2⟩
    ·intro z0 H2 h0;obtain ⟨rfl,hb2,hH2⟩ : NF _ _ _ _ z0 _ H2 := h0;have ng := hng (.inl fun h' hh => by
      obtain ⟨g1,g2,g3,_⟩ := zCS.1 hh;omega)
     rcases hH2 with rfl | rfl
     ·repeat' (first | refine zYt (by omega) ?_ | simp -implicitDefEqProofs (disch := omega) only [push_cast])
      first | exact fX _ _ | exact ⟨ng,fX _ _⟩
     ·simp -implicitDefEqProofs (disch := omega) only [zC,zO,zH,zJ,zBQ,zY,zBt,zBu,zBs,zA8,zI,zT,zAg,zAG,zZ,zU,push_cast,simprocAttr,↓reduceIte,zYp]
      repeat' (refine zYt (by omega) ?_)
      first | exact fY _ _ _ | exact ⟨ng,fY _ _ _⟩
 ·repeat' (first | refine zYt (by omega) ?_ | refine zK (zAO _) ?_ | simp -implicitDefEqProofs (disch := omega) only [e0,e42,e43,e44,gr,hrow,zC,zO,splice,zYo,zAz,hXr,L46,LCode.sub,zI,zAG,push_cast,simprocAttr,↓reduceIte,zYp])
  exact ⟨hng (.inr (.inl (by simp only [zBo]; omega))),fX _ _⟩
set_option maxHeartbeats 8000000 in
theorem zT1 (ps : List Pr) (k : Nat) (hk : k < ps.length) (hps : ps.length <= 1048576) (hp : zCU ps k) (hh : zCA (ps.getD k default)) (l : List Ins) (out : Bool) (level c : Int) (r : Nat) (G : zB) : zJR ps k l out level c r G 19 := by
 intro j h e' G' a b bd el hlt hx hs hbd hel hrl hc0 hl0 hl1 ⟨e0,e2,e3,e9,e10,e11,e12,e42,e43,e44,gr,g9,g10,fr,gl,hj,hhh,cc,lv,ef⟩
 have hrow : (l.map zAq).getD j [] = [int 19,int a,int b,.sl 5 (bd.map zAq),.sl 5 (el.map zAq)] := by
  rw [zL hlt,hx]; simp [zAq,zAh]
 have hrl' := zYT hrl fr.1
 have hb := zAs l (j + 1)
 have hb2 := zAI l (j + 1)
 have hsn := zAm hlt
 have hsl := zAF hlt
 rw [hx] at hsn hsl
 simp only [zBo,zCV] at hsn hsl
 have hbl := zN bd
 have hell := zN el
 have hbv := zAe bd
 have helv := zAe el
 obtain ⟨q1,q2,q3,q4,q5,q6,q7,q8⟩ := hh
 have ef0 := ef
 rw [zAQ ps k hlt,hx] at ef
 have fA : ∀ B b,Fr1 r G (G'.set r B ++ [b]) := fun B b => (fr.trans (Fr1.set B)).trans (Fr1.app _)
 have fB : ∀ B b X,Fr1 r G ((G'.set r B).set (G.length + 1) X ++ [b]) := fun B b X => ((fr.trans (Fr1.set B)).set' (i := G.length + 1) (by omega) X).trans (Fr1.app _)
 have hng : ((∀ h',¬ zCC ps k (.mk 19 a b bd el) out h = some h')\/32768 < c + zQ (l.take j) + zBo (.mk 19 a b bd el)\/257 < level + zCV (.mk 19 a b bd el))->¬ zDN ps k l out level c := zBf hlt hx ef0
 have hSr : ∀ B b,(G'.set r B ++ [b])[r]? = some B := fun B b => by rw [zC (by simpa using hrl'),zJ hrl']
 have hS9 : ∀ B b,(G'.set r B ++ [b])[G.length]? = some (.box (prR (ps.getD k default))) := fun B b => by rw [zC (by rw [zYP]; omega),zH (by omega)]; exact g9
 have hS10 : ∀ B b,(G'.set r B ++ [b])[G.length + 1]? = some (.box [int h]) := fun B b => by rw [zC (by rw [zYP]; omega),zH (by omega)]; exact g10
 have hSx : ∀ B b,(G'.set r B ++ [b])[G'.length]? = some b := fun B b => by rw [zYz (by simp)]; simp
 have hTx : ∀ B b X,((G'.set r B).set (G.length + 1) X ++ [b])[G'.length]? = some b := fun B b X => by rw [zYz (by simp)]; simp
 have hln := zN l
 have hXr : ∀ B X,(G'.set r B ++ X)[r]? = some B := fun B X => by rw [zC (by simpa using hrl'),zJ hrl']
 have hX9 : ∀ B X,(G'.set r B ++ X)[G.length]? = some (.box (prR (ps.getD k default))) := fun B X => by rw [zC (by rw [zYP]; omega),zH (by omega)]; exact g9
 have hX10 : ∀ B X,(G'.set r B ++ X)[G.length + 1]? = some (.box [int h]) := fun B X => by rw [zC (by rw [zYP]; omega),zH (by omega)]; exact g10
 have hXx : ∀ B b X,(G'.set r B ++ b :: X)[G'.length]? = some b := fun B b X => by rw [zYz (by simp)]; simp
 have hXy : ∀ B b d X,(G'.set r B ++ b :: d :: X)[G'.length + 1]? = some d := fun B b d X => by rw [zYz (by simp)]; simp
 have hYr : ∀ B Y X,((G'.set r B).set (G.length + 1) Y ++ X)[r]? = some B := fun B Y X => by rw [zC (by simpa using hrl'),zH (by omega),zJ hrl']
 have hY9 : ∀ B Y X,((G'.set r B).set (G.length + 1) Y ++ X)[G.length]? = some (.box (prR (ps.getD k default))) := fun B Y X => by rw [zC (by simp; omega),zH (by omega),zH (by omega)]; exact g9
 have hY10 : ∀ B Y X,((G'.set r B).set (G.length + 1) Y ++ X)[G.length + 1]? = some Y := fun B Y X => by rw [zC (by simp; omega),zJ (by simp; omega)]
 have hYx : ∀ B Y b X,((G'.set r B).set (G.length + 1) Y ++ b :: X)[G'.length]? = some b := fun B Y b X => by rw [zYz (by simp)]; simp
 have hXs : ∀ B b z Y,(G'.set r B ++ [b,z]).set (G'.length + 1) Y = G'.set r B ++ [b,Y] := fun B b z Y => by rw [zZV _ _ (by simp)]; simp
 have fX : ∀ B X,Fr1 r G (G'.set r B ++ X) := fun B X => (fr.trans (Fr1.set B)).trans (Fr1.app _)
 have fY : ∀ B Y X,Fr1 r G ((G'.set r B).set (G.length + 1) Y ++ X) := fun B Y X => ((fr.trans (Fr1.set B)).set' (i := G.length + 1) (by omega) Y).trans (Fr1.app _)
 by_cases hcn : c + zQ (l.take j) + 1 <= 32768
 ·by_cases hh0 : h = 0
  ·subst hh0
   cases out with
   | false =>
    have ng := hng (.inl fun h' hh => by have := (zIO.1 hh).2.2.1; cases this)
    repeat' (first | refine zYt (by omega) ?_ | refine zD (zAy _) ?_ | refine zK (zAO _) ?_ | simp -implicitDefEqProofs (disch := omega) only [e0,e2,e10,e42,e43,e44,gr,hrow,zC,zO,splice,zYo,zAz,hXr,hX10,hXx,L46,LCode.sub,zI,zAg,push_cast,simprocAttr,↓reduceIte,zYp])
    all_goals first | exact fX _ _ | exact ⟨ng,fX _ _⟩
   | true =>
    repeat' (first | refine zYt (by omega) ?_ | refine zD (zAy _) ?_ | simp -implicitDefEqProofs (disch := omega) only [e0,e2,e3,e10,e42,e43,e44,gr,hrow,zC,zO,splice,zYo,zAz,hXr,hX10,hXx,L46,LCode.sub,zI,zAg,push_cast,simprocAttr,↓reduceIte,zYp])
    refine zDW (hbd true (level + 1) (c + zQ (l.take j) + 1) _ r (hXr _ _) (by omega) (by omega) (by omega) (by omega)) ?_ ?_
    ·rintro y0 G2 ⟨y1,rfl,he1,hc1,hv1,hf1,hr2⟩
     have fr2 : Fr1 r G G2 := (fX _ _).trans hf1
     have l2 : G'.length + 1 <= G2.length := by have := hf1.1; simpa using this
     have k9 : G2[G.length]? = some (.box (prR (ps.getD k default))) := (hf1.2 _ (by simp; omega) (by omega)).trans (hX9 _ _)
     have k10 : G2[G.length + 1]? = some (.box [int 0]) := (hf1.2 _ (by simp; omega) (by omega)).trans (hX10 _ _)
     have kx : G2[G'.length]? = some (.box [int 19,int a,int b,.sl 5 (bd.map zAq),.sl 5 (el.map zAq)]) := (hf1.2 _ (by simp) (by omega)).trans (hXx _ _ _)
     clear hf1
     by_cases hy1 : y1 = 0
     ·subst hy1
      repeat' (simp -implicitDefEqProofs (disch := omega) only [e0,e3,kx,push_cast,simprocAttr,↓reduceIte])
      refine zDW (hel false (level + 1) (c + zQ (l.take j) + 1 + zQ bd) G2 r hr2 (by omega) (by omega) (by omega) (by omega)) ?_ ?_
      ·rintro y0 G3 ⟨y2,rfl,he2,hc2,hv2,hf2,hr3⟩
       have fr3 : Fr1 r G G3 := fr2.trans hf2
       have l3 : G'.length + 1 <= G3.length := zZL l2 hf2.1
       have m9 : G3[G.length]? = some (.box (prR (ps.getD k default))) := (hf2.2 _ (by omega) (by omega)).trans k9
       have m10 : G3[G.length + 1]? = some (.box [int 0]) := (hf2.2 _ (by omega) (by omega)).trans k10
       have mx : G3[G'.length]? = some (.box [int 19,int a,int b,.sl 5 (bd.map zAq),.sl 5 (el.map zAq)]) := (hf2.2 _ (by omega) (by omega)).trans kx
       clear hf2 k9 k10 kx
       by_cases hy2 : y2 = 1
       ·subst hy2
        by_cases hab : a = 0/\b = 0
        ·have hI := (zIO (ps := ps) (k := k) (a := a) (b := b) (bd := bd) (el := el) (out := true) (h := 0) (h' := 0)).2 ⟨hab.1,hab.2,rfl,rfl,he2,he1,rfl⟩
         rw [hI] at ef
         repeat' (first | refine zD (zAy _) ?_ | simp -implicitDefEqProofs (disch := omega) only [e44,mx,zZ,push_cast,simprocAttr,↓reduceIte])
         have hcnt : c + (zQ (l.take j) : Int) + 1 + zQ bd + zQ el = c + (zQ (l.take (j + 1)) : Nat) := by rw [hsn]; push_cast; omega
         exact .mk (j + 1,0) ⟨e0,e2,e3,e9,e10,e11,e12,e42,e43,rfl,by rw [hr3,hcnt],m9,m10,fr3,by omega,hlt,by dsimp only; omega,by dsimp only; rw [hsn]; omega,by dsimp only; rw [hsl]; omega,ef⟩ (by dsimp only; omega)
        ·have ng := hng (.inl fun h' hh => hab (by obtain ⟨g1,g2,_⟩ := zIO.1 hh; exact ⟨g1,g2⟩))
         repeat' (first | refine zYt (by omega) ?_ | refine zD (zAy _) ?_ | refine zK (zAO _) ?_ | simp -implicitDefEqProofs (disch := omega) only [mx,zZ,zU,push_cast,simprocAttr,↓reduceIte] | split)
         all_goals first | exact fr3 | exact ⟨ng,fr3⟩ | (exfalso; omega)
       ·have ng := hng (.inl fun h' hh => by
         have := (zIO.1 hh).2.2.2.2.1
         rw [he2] at this
         simp only [zYq] at this
         omega)
        repeat' (first | refine zYt (by omega) ?_ | refine zK (zAO _) ?_ | simp -implicitDefEqProofs (disch := omega) only [zU,push_cast,↓reduceIte,Nat.reduceEqDiff])
        all_goals first | exact fr3 | exact ⟨ng,fr3⟩ | (exfalso; omega)
      ·rintro z0 G3 ⟨rfl,hb2,hf2⟩
       have ng := hng (by
        by_cases hg : ∃ e,zCf ps k el false 0 = some e
        ·refine .inr (zYX fun hno => hb2 ⟨hg,?_,?_⟩) <;> simp only [zBo,zCV] at hno <;> omega
        ·exact .inl fun h' hh => hg ⟨_,(zIO.1 hh).2.2.2.2.1⟩)
       repeat' (first | refine zYt (by omega) ?_ | simp -implicitDefEqProofs (disch := omega) only [push_cast])
       first | exact fr2.trans hf2 | exact ⟨ng,fr2.trans hf2⟩
     ·have ng := hng (.inl fun h' hh => by
       have := (zIO.1 hh).2.2.2.2.2.1
       rw [he1] at this
       simp only [zYq] at this
       omega)
      repeat' (first | refine zYt (by omega) ?_ | refine zK (zAO _) ?_ | simp -implicitDefEqProofs (disch := omega) only [zU,push_cast,↓reduceIte,Nat.reduceEqDiff])
      all_goals first | exact fr2 | exact ⟨ng,fr2⟩ | (exfalso; omega)
    ·rintro z0 G2 ⟨rfl,hb2,hf2⟩
     have ng := hng (by
      by_cases hg : ∃ e,zCf ps k bd true 0 = some e
      ·refine .inr (zYX fun hno => hb2 ⟨hg,?_,?_⟩) <;> simp only [zBo,zCV] at hno <;> omega
      ·exact .inl fun h' hh => hg ⟨_,(zIO.1 hh).2.2.2.2.2.1⟩)
     repeat' (first | refine zYt (by omega) ?_ | simp -implicitDefEqProofs (disch := omega) only [push_cast])
     first | exact (fX _ _).trans hf2 | exact ⟨ng,(fX _ _).trans hf2⟩
  ·have ng := hng (.inl fun h' hh => hh0 (zIO.1 hh).2.2.2.1)
   repeat' (first | refine zYt (by omega) ?_ | refine zD (zAy _) ?_ | refine zK (zAO _) ?_ | simp -implicitDefEqProofs (disch := omega) only [e0,e10,e42,e43,e44,gr,hrow,zC,zO,splice,zYo,zAz,hXr,hX10,hXx,L46,LCode.sub,zI,zAg,zU,push_cast,simprocAttr,↓reduceIte,zYp])
   all_goals first | exact fX _ _ | exact ⟨ng,fX _ _⟩
 ·repeat' (first | refine zYt (by omega) ?_ | refine zK (zAO _) ?_ | simp -implicitDefEqProofs (disch := omega) only [e0,e42,e43,e44,gr,hrow,zC,zO,splice,zYo,zAz,hXr,L46,LCode.sub,zI,zAG,push_cast,simprocAttr,↓reduceIte,zYp])
  exact ⟨hng (.inr (.inl (by simp only [zBo]; omega))),fX _ _⟩
theorem zRE (ps : List Pr) (k : Nat) (hk : k < ps.length) (hps : ps.length <= 1048576) (hp : zCU ps k) (hh : zCA (ps.getD k default)) (l : List Ins) (out : Bool) (level c : Int) (r : Nat) (G : zB) (o : Int) : zJR ps k l out level c r G o := by
 have hcase : (o < 0\/22 < o)\/(o = 0)\/(o = 1)\/(o = 2)\/(o = 22)\/(o = 3)\/(o = 16)\/(o = 17)\/(o = 4)\/(5 <= o/\o <= 15)\/o = 18\/o = 19\/o = 20\/o = 21 := by omega
 rcases hcase with hc | rfl | rfl | rfl | rfl | rfl | rfl | rfl | rfl | hc | rfl | rfl | rfl | rfl
 ·exact zRD ps k hk hps hp hh l out level c r G o hc
 ·exact zXd ps k hk hps hp hh l out level c r G
 ·exact zXc ps k hk hps hp hh l out level c r G
 ·exact zXb ps k hk hps hp hh l out level c r G
 ·exact zTY ps k hk hps hp hh l out level c r G
 ·exact zXa ps k hk hps hp hh l out level c r G
 ·exact zT4 ps k hk hps hp hh l out level c r G
 ·exact zT3 ps k hk hps hp hh l out level c r G
 ·exact zW9 ps k hk hps hp hh l out level c r G
 ·exact zRC ps k hk hps hp hh l out level c r G o hc
 ·exact zT2 ps k hk hps hp hh l out level c r G
 ·exact zT1 ps k hk hps hp hh l out level c r G
 ·exact zT0 ps k hk hps hp hh l out level c r G
 ·exact zTZ ps k hk hps hp hh l out level c r G
theorem effC (ps : List Pr) (k : Nat) (hk : k < ps.length) (hps : ps.length <= 1048576) (hp : zCU ps k) (hh : zCA (ps.getD k default)) (l : List Ins) : zQ l <= 1048576->zX6 ps k l := by
 induction l using Ins.indL with
 | h l ih =>
 intro hs out level c G r hr hc0 hc1 hl0 hl1
 have hrl := (zYr.1 hr).1
 refine zGZ Tryz.func46 L46_ok (zYu rfl) ?_
 have hln := zN l
 by_cases hlev : level <= 256
 ·repeat' (first | refine zYt (by omega) ?_ | refine zD (zAy _) ?_ | simp -implicitDefEqProofs (disch := omega) only [L46,hr,zBe,zR,zCO,zFT,splice,zYo,zAg,push_cast,↓reduceIte,Nat.reduceEqDiff,reduceCtorEq,Nat.reduceAdd,Nat.reduceLeDiff,Int.reduceNeg,zYp])
  refine zW (fun (st : Nat × Int) e' H' => EfI ps k l out level c r G st.1 st.2 e' H') (fun st => l.length - st.1) (0,0) ?_ ?_
  ·exact ⟨rfl,rfl,rfl,rfl,rfl,rfl,rfl,rfl,rfl,rfl,by rw [zC hrl,hr]; simp [zQ],by simp,by simp,Fr1.app _,by simp,zYO _,by simp,by simp [zQ]; omega,by simp [zAK]; omega,by simp⟩
  rintro ⟨j,h⟩ e' G' hI
  by_cases hlt : j < l.length
  ·have hk0 := zAf hlt
   have hx := ih _ hk0
   have hb := zAs l (j + 1)
   rw [zAm hlt,zDM] at hb
   have hx1 := hx.1 (by omega)
   have hx2 := hx.2 (by omega)
   exact zRE ps k hk hps hp hh l out level c r G (l.getD j default).op j h e' G' (l.getD j default).a (l.getD j default).b (l.getD j default).body (l.getD j default).els hlt (by cases l.getD j default; rfl) hs hx1 hx2 hrl hc0 hl0 hlev hI
  ·obtain ⟨e0,e2,e3,e9,e10,e11,e12,e42,e43,e44,gr,g9,g10,fr,gl,hj,hhh,cc,lv,ef⟩ := hI
   simp only at *
   have e : j = l.length := by omega
   subst e
   rw [zZ6] at ef
   rw [zzai] at gr cc lv
   repeat' (simp -implicitDefEqProofs (disch := omega) only [e43,e44,e10,g10,zT,push_cast,↓reduceIte,Nat.reduceEqDiff,Nat.reduceAdd,Nat.reduceLeDiff,Int.reduceNeg])
   exact ⟨h,rfl,ef,cc,lv,fr,gr⟩
 ·by_cases hl : l.length = 0
  ·have hl2 := zYQ.1 hl
   subst hl2
   have hL : (Ax.LX.c (.v (.int .i64 0))) = (Ax.LX.c (.v (.int .i64 0))) := rfl
   repeat' (first | refine zYt (by omega) ?_ | refine zD (zAy _) ?_ | simp -implicitDefEqProofs (disch := omega) only [L46,hr,zBe,zR,zCO,zFT,splice,zYo,zZQ,zYw,zAG,push_cast,↓reduceIte,Nat.reduceEqDiff,reduceCtorEq,Nat.reduceAdd,Nat.reduceLeDiff,Int.reduceNeg,zYp])
   refine zW (fun (_ : Unit) e' H' => e' 10 = .ptr (G.length + 1) 0 0/\e' 43 = int 0/\e' 44 = int 0/\H' = G ++ [.box (prR (ps.getD k default)),.box [int 0]]) (fun _ => 0) () ⟨rfl,rfl,rfl,rfl⟩ ?_
   rintro _ e' H' ⟨h10,h43,h44,rfl⟩
   repeat' (simp -implicitDefEqProofs (disch := omega) only [h10,h43,h44,push_cast,↓reduceIte,Nat.reduceEqDiff,Nat.reduceAdd,Nat.reduceLeDiff,Int.reduceLT,Int.reduceNeg])
   exact ⟨0,rfl,by simp [zCf],by simp [zQ]; omega,by simp [zAK]; omega,Fr1.app _,by rw [zC hrl,hr]; simp [zQ]⟩
  ·repeat' (first | refine zK (zAO _) ?_ | simp -implicitDefEqProofs (disch := omega) only [L46,zYo,zAG,zU,push_cast,↓reduceIte,Nat.reduceEqDiff,reduceCtorEq,Nat.reduceAdd,Int.reduceNeg])
   have h1 : 1 <= zAK l := by
    cases l with
    | nil => exact absurd rfl hl
    | cons x l => simp only [zAK]; rw [zNG]; omega
   first | exact ⟨fun hg => by have := hg.2.2; omega,Fr1.refl⟩ | exact Fr1.refl
theorem zXT (m q : Pr) (r : Nat) (H : zB) (hr : H[r]? = some (.box (prR q))) : zBd 45 [.agg (prR m),.ptr r 0 0] H (bool (decide (m.name = q.name))) := by
 refine ACall.drop (R := fun x => x = bool (decide (m.name = q.name))) ?_
 refine enter Tryz.func45 L45_ok (zYu rfl) ?_
 have hlt : r < H.length := (zYr.1 hr).1
 have hg : ∀ l,(H ++ l)[r]? = some (HO.box (prR q)) := fun l => by rw [zYD hlt]; exact hr
 repeat' (simp -implicitDefEqProofs (disch := omega) only [L45,zAz,zFT,zR,zCI,hg,push_cast,simprocAttr,↓reduceIte])
 exact ⟨_,rfl⟩
theorem zUW (l : List Pr) (q : Pr) (hl : l.length <= 1048576) (r : Nat) (H : zB) (hr : H[r]? = some (.box (prR q))) : zBd 72 [.sl 6 (l.map prR),.fn (.func 45) [] [.ptr r 0 0]] H (int (zOE (l.findIdx? fun m => decide (m.name = q.name)))) := by
 refine enter Tryz.func72 L72_ok (zYu rfl) ?_
 repeat' (simp -implicitDefEqProofs (disch := omega) only [L72,push_cast,simprocAttr,↓reduceIte])
 refine zW (fun (j : Nat) e' H' => e' 0 = .sl 6 (l.map prR)/\e' 1 = .fn (.func 45) [] [.ptr r 0 0]/\e' 7 = int l.length/\e' 8 = int j/\H = H'/\j <= l.length/\∀ i,i < j->¬ (l.getD i default).name = q.name) (fun j => l.length - j) 0 ?_ ?_
 ·exact ⟨rfl,rfl,rfl,rfl,rfl,zYO _,by simp⟩
 rintro j e' H' ⟨h0,h1,h7,h8,rfl,hj,hb⟩
 by_cases hlt : j < l.length
 ·have hc := fun m => zXT m q r H hr
  cases hin : decide ((l.getD j default).name = q.name)
  ·have hc1 := hc (l.getD j default)
   rw [hin] at hc1
   repeat' (first | refine zYt (by omega) ?_ | refine zA (hc1) ?_ | simp -implicitDefEqProofs (disch := omega) only [h0,h1,h7,h8,zBe,zR,zCO,zI,push_cast,simprocAttr,↓reduceIte])
   exact .mk (j + 1) ⟨h0,h1,h7,rfl,rfl,hlt,zBB hb (of_decide_eq_false hin)⟩ (by omega)
  ·have hc1 := hc (l.getD j default)
   rw [hin] at hc1
   repeat' (first | refine zYt (by omega) ?_ | refine zA (hc1) ?_ | simp -implicitDefEqProofs (disch := omega) only [h0,h1,h7,h8,zBe,zR,zCO,zI,push_cast,simprocAttr,↓reduceIte])
   rw [zIJ hlt hin fun i hi => zZK (hb i hi)]
   rfl
 ·rw [zIK (l := l) (p := fun m => decide (m.name = q.name)) fun i hi => zZK (hb i (by omega))]
  repeat' (simp -implicitDefEqProofs (disch := omega) only [h7,h8,zT,push_cast,↓reduceIte,Int.reduceNeg])
  rfl
theorem zUX (l : List Pr) (q : Pr) (hl : l.length <= 1048576) (r : Nat) (H : zB) (hr : H[r]? = some (.box (prR q))) : zBd 44 [.sl 6 (l.map prR),.fn (.func 45) [] [.ptr r 0 0]] H (bool (l.any fun m => decide (m.name = q.name))) := by
 refine enter Tryz.func44 L44_ok (zYu rfl) ?_
 have hi : (l.any fun m => decide (m.name = q.name)) = decide (0 <= zOE (l.findIdx? fun m => decide (m.name = q.name))) := by
  cases h : l.findIdx? fun m => decide (m.name = q.name) with
  | none =>
   rw [zzab] at h
   refine (?_ : _ = false).trans (show false = decide (0 <= zOE none) from rfl)
   rw [List.any_eq_false]
   intro x hx
   rw [h x hx]; decide
  | some i =>
   refine (?_ : _ = true).trans (zY3 (show 0 <= zOE (some i) by simp only [zOE]; omega)).symm
   rw [List.any_eq_true]
   obtain ⟨h1,h2,_⟩ := zZE.1 h
   exact ⟨_,zzaq h1,h2⟩
 rw [hi]
 have hb : -1 <= zOE (l.findIdx? fun m => decide (m.name = q.name)) := by
  cases l.findIdx? fun m => decide (m.name = q.name) <;> simp only [zOE] <;> omega
 repeat' (first | refine zA (zUW l q hl r H hr) ?_ | simp -implicitDefEqProofs (disch := omega) only [L44,push_cast,simprocAttr,↓reduceIte])
@[push_cast] theorem zV5 (m : Option Value) (d : Nat) (e : Env) : zV7 m [d] e = up e d (.v (Go.Ax.recV m)) := rfl
@[push_cast] theorem zV6 (m : Option Value) (e : Env) : zV7 m [] e = e := rfl
@[push_cast] theorem zUi : Go.Ax.recV none = .nilIface := rfl
@[push_cast] theorem zUh (z : Value) : Go.Ax.recV (some z) = z := rfl
theorem zL4 (r : Nat) (H : zB) : zP7 Tryz.prog 42 [.ptr r 0 0] none H fun H' => H' = H := by
 refine zFz Tryz.func42 L42_ok (zYu rfl) ?_
 repeat' (simp -implicitDefEqProofs (disch := omega) only [L42,push_cast,simprocAttr,↓reduceIte])
theorem zL3 (r : Nat) (H : zB) (b : Bool) (hr : H[r]? = some (.box [bool b])) : zP7 Tryz.prog 42 [.ptr r 0 0] (some zCD) H fun H' => H' = (H ++ [HO.box []]).set r (.box [bool false]) := by
 have hl := (zYr.1 hr).1
 refine zFz Tryz.func42 L42_ok (zYu rfl) ?_
 repeat' (simp -implicitDefEqProofs (disch := omega) only [L42,zC,zO,hr,splice,push_cast,simprocAttr,↓reduceIte,zYp])
structure VdI (ps : List Pr) (H : zB) (j : Nat) (own : Int) (e' : Env) (G : zB) : Prop where
 e1 : e' 1 = .ptr H.length 0 0
 e2 : e' 2 = .ptr (H.length + 1) 0 0
 e3 : e' 3 = .ptr (H.length + 2) 0 0
 e18 : e' 18 = zAU ps
 e19 : e' 19 = int ps.length
 e20 : e' 20 = int j
 fr : ∀ i,i < H.length->G[i]? = H[i]?
 gl : H.length + 3 <= G.length
 g0 : G[H.length]? = some (.box [zAU ps])
 g1 : G[H.length + 1]? = some (.box [bool false])
 g2 : G[H.length + 2]? = some (.box [zAU ps,int own,int (zA7 (ps.take j) : Nat)])
 hj : j <= ps.length
 all : ∀ i,i < j->prP ps i
abbrev VdR (ps : List Pr) (H : zB) (x : AV) (H' : zB) : Prop := x = bool (zBM ps)/\x.cl = true/\∃ rest,H' = H ++ rest
theorem zCn (ps : List Pr) (H G : zB) (e : Env) (h2 : e 2 = .ptr (H.length + 1) 0 0) (fr : ∀ i,i < H.length->G[i]? = H[i]?) (gl : H.length + 2 <= G.length) (g1 : G[H.length + 1]? = some (.box [bool false])) (hn : ¬ zDA ps) :
  zEC Tryz.prog L14.res (VdR ps H) 42 [.ptr (H.length + 1) 0 0] (.pan zCD) e G := by
 intro X ρ w vs hr hv
 refine (zL3 (H.length + 1) G false g1 X ρ w vs hr hv).mono ?_
 rintro en u' w' ⟨v,H',ρ',h1,h2',h3,h4,h5⟩
 refine ⟨v,H',ρ',h1,h2',?_,h4,h5⟩
 subst h3
 have hg : ((G ++ [HO.box []]).set (H.length + 1) (.box [bool false]))[H.length + 1]? = some (.box [bool false]) := by
  rw [zYU (by simp; omega)]
 obtain ⟨rest,hrest⟩ := zEJ (H := H) (G := (G ++ [HO.box []]).set (H.length + 1) (.box [bool false])) (by simp; omega) fun i hi => by
  rw [zYL (by omega),zYD (by omega),fr i hi]
 have hvb := zHi hn
 refine ⟨?_,?_,?_,rest,hrest⟩
 ·simp [L14,zAH,zCF,h2,rLoad,hg,rLoadO,isVer,Res.also,isBox]
 ·simp [L14,zAH,zCF,h2,rLoad,hg,rLoadO,isVer,Res.also,isBox,cellsV,hvb]
 ·simp [L14,zAH,zCF,h2,rLoad,hg,rLoadO,isVer,Res.also,isBox,cellsV,AV.cl]
theorem zTH (ps : List Pr) (H G : zB) (e : Env) (h2 : e 2 = .ptr (H.length + 1) 0 0) (fr : ∀ i,i < H.length->G[i]? = H[i]?) (gl : H.length + 2 <= G.length) (g1 : G[H.length + 1]? = some (.box [bool true])) (hn : zDA ps) :
  zEC Tryz.prog L14.res (VdR ps H) 42 [.ptr (H.length + 1) 0 0] .ret e G := by
 intro X ρ w vs hr hv
 refine (zL4 (H.length + 1) G X ρ w vs hr hv).mono ?_
 rintro en u' w' ⟨v,H',ρ',h1,h2',h3,h4,h5⟩
 refine ⟨v,H',ρ',h1,h2',?_,h4,h5⟩
 subst h3
 obtain ⟨rest,hrest⟩ := zEJ (H := H) (G := H') (by omega) fr
 have hvb := zFl.2 hn
 refine ⟨?_,?_,?_,rest,hrest⟩
 ·simp [L14,zAH,zCF,h2,rLoad,g1,rLoadO,isVer,Res.also,isBox]
 ·simp [L14,zAH,zCF,h2,rLoad,g1,rLoadO,isVer,Res.also,isBox,cellsV,hvb]
 ·simp [L14,zAH,zCF,h2,rLoad,g1,rLoadO,isVer,Res.also,isBox,cellsV,AV.cl]
theorem zKJ : zFk Tryz.prog 42 := ⟨_,Tryz.func42,by kernel_rfl,by kernel_rfl⟩
set_option maxHeartbeats 8000000 in
theorem zD8 (ps : List Pr) (hs : zDY ps) (H : zB) : zBd 14 [.agg [zAU ps]] H (bool (zBM ps)) := by
 obtain ⟨hs1,hs2,hs3⟩ := hs
 refine ACall.drop (R := fun x => x = bool (zBM ps)) ?_
 refine zVj Tryz.func14 L14_ok (zYu rfl) ?_
 show wpD _ L14.res (VdR ps H) _ _ _
 generalize hres : L14.res = res
 by_cases h8 : ps.length <= 8
 ·repeat' (simp -implicitDefEqProofs (disch := omega) only [L14,zAz,zYo,zAg,push_cast,simprocAttr,↓reduceIte,zYp])
  refine ⟨_,_,_,rfl,zKJ,?_⟩
  repeat' (first | refine zD (zAy _) ?_ | simp -implicitDefEqProofs (disch := omega) only [zM,zAz,rBuild,fillA,zYo,push_cast,simprocAttr,↓reduceIte,zYp])
  refine zW (fun (st : Nat × Int) e' G => VdI ps H st.1 st.2 e' G) (fun st => ps.length - st.1) (0,0) ?_ ?_
  ·refine ⟨rfl,rfl,rfl,rfl,rfl,rfl,fun i hi => zYD hi,by simp,by simp [zA4],by simp [zA4],by simp [zA4,zA7],by omega,fun i hi => by omega⟩
  rintro ⟨j,own⟩ e' G ⟨h1,h2,h3,h18,h19,h20,fr,gl,g0,g1,g2,hj,hall⟩
  simp only at h20 g2 hj hall
  by_cases hlt : j < ps.length
  ·obtain ⟨m1,m2,m3⟩ := hs3 _ (zAf hlt)
   have hfail : ¬ prP ps j->¬ zDA ps := fun hn hv => hn (hv.2 j hlt)
   repeat' (first | refine zYt (by omega) ?_ | simp -implicitDefEqProofs (disch := omega) only [h3,h18,h19,h20,g2,zC,zO,zBe,zR,zCI,splice,zYo,zI,push_cast,simprocAttr,↓reduceIte,zYp])
   have z0 : (G.set (H.length + 2) (HO.box [zAU ps,int j,int (zA7 (ps.take j) : Nat)]) ++ [HO.box (prR (ps.getD j default))])[H.length]? = some (.box [zAU ps]) := by
    rw [zYD (by simp; omega),zYL (by omega),g0]
   have z1 : (G.set (H.length + 2) (HO.box [zAU ps,int j,int (zA7 (ps.take j) : Nat)]) ++ [HO.box (prR (ps.getD j default))])[H.length + 1]? = some (.box [bool false]) := by
    rw [zYD (by simp; omega),zYL (by omega),g1]
   have z2 : (G.set (H.length + 2) (HO.box [zAU ps,int j,int (zA7 (ps.take j) : Nat)]) ++ [HO.box (prR (ps.getD j default))])[H.length + 2]? = some (.box [zAU ps,int j,int (zA7 (ps.take j) : Nat)]) := by
    rw [zYD (by simp; omega),zYU (by omega)]
   have z5 : (G.set (H.length + 2) (HO.box [zAU ps,int j,int (zA7 (ps.take j) : Nat)]) ++ [HO.box (prR (ps.getD j default))])[G.length]? = some (.box (prR (ps.getD j default))) := by
    rw [zYz (by simp)]; simp
   have zf : ∀ i,i < H.length->(G.set (H.length + 2) (HO.box [zAU ps,int j,int (zA7 (ps.take j) : Nat)]) ++ [HO.box (prR (ps.getD j default))])[i]? = H[i]? := fun i hi => by
    rw [zYD (by simp; omega),zYL (by omega),fr i hi]
   have zl : H.length + 4 <= (G.set (H.length + 2) (HO.box [zAU ps,int j,int (zA7 (ps.take j) : Nat)]) ++ [HO.box (prR (ps.getD j default))]).length := by simp; omega
   have zl2 : G.length < (G.set (H.length + 2) (HO.box [zAU ps,int j,int (zA7 (ps.take j) : Nat)]) ++ [HO.box (prR (ps.getD j default))]).length := by simp
   have zr : H.length + 3 <= G.length := gl
   simp only [prR] at z0 z1 z2 z5 zf zl zl2
   generalize (G.set (H.length + 2) (HO.box [zAU ps,int j,int (zA7 (ps.take j) : Nat)]) ++ [HO.box [str (ps.getD j default).name,int (ps.getD j default).par,int (ps.getD j default).slots,int (ps.getD j default).res,.sl 1 ((ps.getD j default).outs.map iR),.sl 5 ((ps.getD j default).body.map zAq)]]) = Z at *
   generalize hrr : G.length = r at *
   clear fr gl g0 g1 g2 hrr
   have z5' : Z[r]? = some (.box (prR (ps.getD j default))) := z5
   cases hN : zEI (ps.getD j default).name with
   | false =>
    repeat' (first | refine zA (zDG (ps.getD j default).name _ (by omega)) ?_ | refine zK (zAO _) ?_ | simp -implicitDefEqProofs (disch := omega) only [z5,hN,push_cast,simprocAttr,↓reduceIte])
    subst hres
    exact zCn ps H _ _ h2 zf (by omega) z1 (hfail fun hp => by rw [hp.1.1] at hN; cases hN)
   | true =>
    have cN : zBd 44 [.sl 6 ((ps.map prR).take (j - 0)),.fn (.func 45) [] [.ptr r 0 0]] Z (bool ((ps.take j).any fun m => decide (m.name = (ps.getD j default).name))) := by
     have := zUX (ps.take j) (ps.getD j default) (by simp; omega) r Z z5'
     rw [List.map_take] at this
     exact this
    cases hC : (ps.take j).any fun m => decide (m.name = (ps.getD j default).name) with
    | true =>
     rw [hC] at cN
     repeat' (first | refine zYt (by omega) ?_ | refine zA (zDG (ps.getD j default).name _ (by omega)) ?_ | refine zA (cN) ?_ | refine zK (zAO _) ?_ | simp -implicitDefEqProofs (disch := omega) only [h1,z0,z5,hN,zYo,push_cast,simprocAttr,↓reduceIte])
     subst hres
     refine zCn ps H _ _ h2 zf (by omega) z1 (hfail fun hp => ?_)
     obtain ⟨m,hm,hmn⟩ := List.any_eq_true.1 hC
     obtain ⟨i,hi,rfl⟩ := zZd.1 hm
     simp only [zZW] at hi
     have e : (ps.take j)[i] = ps.getD i default := by rw [List.getElem_take,zYI,zYK (by omega)]; rfl
     rw [e,zYy] at hmn
     exact hp.1.2 i (by omega) hmn
    | false =>
     rw [hC] at cN
     have hne : ∀ i,i < j->¬ (ps.getD i default).name = (ps.getD j default).name := fun i hi hh => by
      rw [List.any_eq_false] at hC
      refine hC (ps.getD i default) ?_ (zY3 hh)
      rw [zZd]
      refine ⟨i,by simp; omega,?_⟩
      rw [List.getElem_take,zYI,zYK (by omega)]; rfl
     by_cases hP1 : 0 <= (ps.getD j default).par/\(ps.getD j default).par <= (ps.getD j default).slots/\(ps.getD j default).slots <= 1024/\-1 <= (ps.getD j default).res/\(ps.getD j default).res <= 128
     ·obtain ⟨q1,q2,q3,q4,q5⟩ := hP1
      by_cases hP2 : (ps.getD j default).outs.length <= 128/\((ps.getD j default).res = -1\/(ps.getD j default).outs.length = 0)
      ·obtain ⟨q6,q7⟩ := hP2
       by_cases hrs : (ps.getD j default).res = -1
       ·repeat' (first | refine zYt (by omega) ?_ | refine zA (zDG (ps.getD j default).name _ (by omega)) ?_ | refine zA (cN) ?_ | refine zD (zAy _) ?_ | simp -implicitDefEqProofs (disch := omega) only [h1,z0,z5,hN,zYo,zAg,zZ,push_cast,simprocAttr,↓reduceIte])
        refine zW (fun (m : Nat) e' G' => e' 1 = .ptr H.length 0 0/\e' 2 = .ptr (H.length + 1) 0 0/\e' 3 = .ptr (H.length + 2) 0 0/\e' 5 = .ptr r 0 0/\e' 18 = zAU ps/\e' 19 = int ps.length/\e' 20 = int j/\e' 85 = .sl 1 ((ps.getD j default).outs.map iR)/\e' 86 = int (ps.getD j default).outs.length/\e' 87 = int m/\Z = G'/\m <= (ps.getD j default).outs.length/\∀ m',m' < m->0 <= (ps.getD j default).outs.getD m' default/\(ps.getD j default).outs.getD m' default < (ps.getD j default).slots) (fun m => (ps.getD j default).outs.length - m) 0 ?_ ?_
        ·exact ⟨h1,h2,h3,rfl,h18,h19,h20,rfl,rfl,rfl,rfl,zYO _,fun m hm => by omega⟩
        clear h1 h2 h3 h18 h19 h20
        rintro m e' G' ⟨h1,h2,h3,h5,h18,h19,h20,h85,h86,h87,hGZ,hm,hout⟩
        subst hGZ
        by_cases hlt3 : m < (ps.getD j default).outs.length
        ·have hor : ((ps.getD j default).outs.map iR).getD m [] = [int ((ps.getD j default).outs.getD m default)] := zL hlt3
         by_cases hO : 0 <= (ps.getD j default).outs.getD m default/\(ps.getD j default).outs.getD m default < (ps.getD j default).slots
         ·repeat' (first | refine zYt (by omega) ?_ | refine zD (zAy _) ?_ | simp -implicitDefEqProofs (disch := omega) only [h5,h85,h86,h87,z5,hor,zYo,zI,zAg,push_cast,simprocAttr,↓reduceIte])
          exact .mk (m + 1) ⟨h1,h2,h3,h5,h18,h19,h20,h85,h86,rfl,rfl,hlt3,zBB hout hO⟩ (by omega)
         ·have hv : ¬ zDA ps := hfail fun hp => hO (hp.2.1.2.2.2.2.2.2.2 _ (zAf hlt3))
          have hO' : ¬ 0 <= (ps.getD j default).outs.getD m default\/(0 <= (ps.getD j default).outs.getD m default/\¬ (ps.getD j default).outs.getD m default < (ps.getD j default).slots) := by omega
          subst hres
          rcases hO' with hc | ⟨hc1,hc2⟩
          ·repeat' (first | refine zYt (by omega) ?_ | refine zK (zAO _) ?_ | simp -implicitDefEqProofs (disch := omega) only [h85,h86,h87,hor,zYo,zI,zAG,push_cast,simprocAttr,↓reduceIte])
           exact zCn ps H _ _ h2 zf (by omega) z1 hv
          ·repeat' (first | refine zYt (by omega) ?_ | refine zK (zAO _) ?_ | simp -implicitDefEqProofs (disch := omega) only [h5,h85,h86,h87,z5,hor,zYo,zI,zT,zAg,push_cast,simprocAttr,↓reduceIte])
           exact zCn ps H _ _ h2 zf (by omega) z1 hv
        ·have e : m = (ps.getD j default).outs.length := by omega
         subst e
         have hout' : ∀ s ∈ (ps.getD j default).outs,0 <= s/\s < (ps.getD j default).slots := by
          intro s hs
          obtain ⟨m,hm,rfl⟩ := zZd.1 hs
          have := hout m hm
          have e : (ps.getD j default).outs.getD m default = (ps.getD j default).outs[m] := by rw [zYI,zYK hm]; rfl
          rw [e] at this
          exact this
         have hH : zCA (ps.getD j default) := ⟨q1,q2,q3,q4,q5,q6,q7.imp id zYQ.1,hout'⟩
         have hsn := zD3 hlt
         have hcnt : zA7 (ps.take j) <= 32768 := by
          cases j with
          | zero => simp [zA7]
          | succ j => exact (hall j (by omega)).2.2.1
         have cE := effC ps j hlt hs1 (zFt hall) hH (ps.getD j default).body m3 true 1 (zA7 (ps.take j) : Nat) Z (H.length + 2) z2 (by omega) (by omega) (by omega) (by omega)
         repeat' (simp -implicitDefEqProofs (disch := omega) only [h3,h5,h86,h87,z5,zT,push_cast,simprocAttr,↓reduceIte])
         refine zG cE ?_ ?_
         ·rintro x G' ⟨e,rfl,hE,hc1,hc2,hfr,hg2⟩
          have y0 := (hfr.2 H.length (by omega) (by omega)).trans z0
          have y1 := (hfr.2 (H.length + 1) (by omega) (by omega)).trans z1
          have yf : ∀ i,i < H.length->G'[i]? = H[i]? := fun i hi => (hfr.2 i (by omega) (by omega)).trans (zf i hi)
          have yl := hfr.1
          by_cases he : e = 0
          ·subst he
           repeat' (first | refine zD (zAy _) ?_ | simp -implicitDefEqProofs (disch := omega) only [h20,push_cast,↓reduceIte,Nat.reduceEqDiff])
           exact .mk (j + 1,(j : Int)) ⟨h1,h2,h3,h18,h19,rfl,yf,by omega,y0,y1,by rw [hg2,hsn]; simp,hlt,zBB hall ⟨⟨hN,hne⟩,hH,by omega,by omega,hE⟩⟩ (by dsimp only; omega)
          ·have hv : ¬ zDA ps := hfail fun hp => by have := hp.2.2.2.2; rw [hE] at this; exact he (by simpa using this)
           repeat' (first | refine zK (zAO _) ?_ | simp -implicitDefEqProofs (disch := omega) only [zU,push_cast])
           subst hres
           exact zCn ps H _ _ h2 yf (by omega) y1 hv
         ·rintro z G' ⟨rfl,hng,hfr⟩
          have y1 := (hfr.2 (H.length + 1) (by omega) (by omega)).trans z1
          have yf : ∀ i,i < H.length->G'[i]? = H[i]? := fun i hi => (hfr.2 i (by omega) (by omega)).trans (zf i hi)
          have yl := hfr.1
          repeat' (simp -implicitDefEqProofs (disch := omega) only [push_cast])
          subst hres
          exact zCn ps H _ _ h2 yf (by omega) y1 (hfail fun hp => hng ⟨⟨0,hp.2.2.2.2⟩,by have := hp.2.2.1; omega,by have := hp.2.2.2.1; omega⟩)
       ·repeat' (first | refine zYt (by omega) ?_ | refine zA (zDG (ps.getD j default).name _ (by omega)) ?_ | refine zA (cN) ?_ | refine zD (zAy _) ?_ | simp -implicitDefEqProofs (disch := omega) only [h1,z0,z5,hN,zYo,zAg,zZ,zU,push_cast,simprocAttr,↓reduceIte])
        refine zW (fun (m : Nat) e' G' => e' 1 = .ptr H.length 0 0/\e' 2 = .ptr (H.length + 1) 0 0/\e' 3 = .ptr (H.length + 2) 0 0/\e' 5 = .ptr r 0 0/\e' 18 = zAU ps/\e' 19 = int ps.length/\e' 20 = int j/\e' 85 = .sl 1 ((ps.getD j default).outs.map iR)/\e' 86 = int (ps.getD j default).outs.length/\e' 87 = int m/\Z = G'/\m <= (ps.getD j default).outs.length/\∀ m',m' < m->0 <= (ps.getD j default).outs.getD m' default/\(ps.getD j default).outs.getD m' default < (ps.getD j default).slots) (fun m => (ps.getD j default).outs.length - m) 0 ?_ ?_
        ·exact ⟨h1,h2,h3,rfl,h18,h19,h20,rfl,rfl,rfl,rfl,zYO _,fun m hm => by omega⟩
        clear h1 h2 h3 h18 h19 h20
        rintro m e' G' ⟨h1,h2,h3,h5,h18,h19,h20,h85,h86,h87,hGZ,hm,hout⟩
        subst hGZ
        by_cases hlt3 : m < (ps.getD j default).outs.length
        ·exfalso; omega
        ·have e : m = (ps.getD j default).outs.length := by omega
         subst e
         have hout' : ∀ s ∈ (ps.getD j default).outs,0 <= s/\s < (ps.getD j default).slots := by
          intro s hs
          obtain ⟨m,hm,rfl⟩ := zZd.1 hs
          have := hout m hm
          have e : (ps.getD j default).outs.getD m default = (ps.getD j default).outs[m] := by rw [zYI,zYK hm]; rfl
          rw [e] at this
          exact this
         have hH : zCA (ps.getD j default) := ⟨q1,q2,q3,q4,q5,q6,q7.imp id zYQ.1,hout'⟩
         have hsn := zD3 hlt
         have hcnt : zA7 (ps.take j) <= 32768 := by
          cases j with
          | zero => simp [zA7]
          | succ j => exact (hall j (by omega)).2.2.1
         have cE := effC ps j hlt hs1 (zFt hall) hH (ps.getD j default).body m3 true 1 (zA7 (ps.take j) : Nat) Z (H.length + 2) z2 (by omega) (by omega) (by omega) (by omega)
         repeat' (simp -implicitDefEqProofs (disch := omega) only [h3,h5,h86,h87,z5,zT,push_cast,simprocAttr,↓reduceIte])
         refine zG cE ?_ ?_
         ·rintro x G' ⟨e,rfl,hE,hc1,hc2,hfr,hg2⟩
          have y0 := (hfr.2 H.length (by omega) (by omega)).trans z0
          have y1 := (hfr.2 (H.length + 1) (by omega) (by omega)).trans z1
          have yf : ∀ i,i < H.length->G'[i]? = H[i]? := fun i hi => (hfr.2 i (by omega) (by omega)).trans (zf i hi)
          have yl := hfr.1
          by_cases he : e = 0
          ·subst he
           repeat' (first | refine zD (zAy _) ?_ | simp -implicitDefEqProofs (disch := omega) only [h20,push_cast,↓reduceIte,Nat.reduceEqDiff])
           exact .mk (j + 1,(j : Int)) ⟨h1,h2,h3,h18,h19,rfl,yf,by omega,y0,y1,by rw [hg2,hsn]; simp,hlt,zBB hall ⟨⟨hN,hne⟩,hH,by omega,by omega,hE⟩⟩ (by dsimp only; omega)
          ·have hv : ¬ zDA ps := hfail fun hp => by have := hp.2.2.2.2; rw [hE] at this; exact he (by simpa using this)
           repeat' (first | refine zK (zAO _) ?_ | simp -implicitDefEqProofs (disch := omega) only [zU,push_cast])
           subst hres
           exact zCn ps H _ _ h2 yf (by omega) y1 hv
         ·rintro z G' ⟨rfl,hng,hfr⟩
          have y1 := (hfr.2 (H.length + 1) (by omega) (by omega)).trans z1
          have yf : ∀ i,i < H.length->G'[i]? = H[i]? := fun i hi => (hfr.2 i (by omega) (by omega)).trans (zf i hi)
          have yl := hfr.1
          repeat' (simp -implicitDefEqProofs (disch := omega) only [push_cast])
          subst hres
          exact zCn ps H _ _ h2 yf (by omega) y1 (hfail fun hp => hng ⟨⟨0,hp.2.2.2.2⟩,by have := hp.2.2.1; omega,by have := hp.2.2.2.1; omega⟩)
      ·have hc : ¬ (ps.getD j default).outs.length <= 128\/((ps.getD j default).outs.length <= 128/\¬ (ps.getD j default).res = -1/\¬ (ps.getD j default).outs.length = 0) := by omega
       have hv : ¬ zDA ps := hfail fun hp => hP2 ⟨hp.2.1.2.2.2.2.2.1,hp.2.1.2.2.2.2.2.2.1.imp id fun h => by rw [h]; rfl⟩
       rcases hc with hc | ⟨hc1,hc2,hc3⟩
       ·repeat' (first | refine zYt (by omega) ?_ | refine zA (zDG (ps.getD j default).name _ (by omega)) ?_ | refine zA (cN) ?_ | refine zD (zAy _) ?_ | refine zK (zAO _) ?_ | simp -implicitDefEqProofs (disch := omega) only [h1,z0,z5,hN,zYo,zAg,zAG,push_cast,simprocAttr,↓reduceIte])
        subst hres
        exact zCn ps H _ _ h2 zf (by omega) z1 hv
       ·repeat' (first | refine zYt (by omega) ?_ | refine zA (zDG (ps.getD j default).name _ (by omega)) ?_ | refine zA (cN) ?_ | refine zD (zAy _) ?_ | refine zK (zAO _) ?_ | simp -implicitDefEqProofs (disch := omega) only [h1,z0,z5,hN,zYo,zAg,zU,push_cast,simprocAttr,↓reduceIte])
        subst hres
        exact zCn ps H _ _ h2 zf (by omega) z1 hv
     ·have hc : ¬ 0 <= (ps.getD j default).par\/(0 <= (ps.getD j default).par/\¬ (ps.getD j default).par <= (ps.getD j default).slots)\/(0 <= (ps.getD j default).par/\(ps.getD j default).par <= (ps.getD j default).slots/\¬ (ps.getD j default).slots <= 1024)\/(0 <= (ps.getD j default).par/\(ps.getD j default).par <= (ps.getD j default).slots/\(ps.getD j default).slots <= 1024/\¬ -1 <= (ps.getD j default).res)\/(0 <= (ps.getD j default).par/\(ps.getD j default).par <= (ps.getD j default).slots/\(ps.getD j default).slots <= 1024/\-1 <= (ps.getD j default).res/\¬ (ps.getD j default).res <= 128) := by omega
      have hv : ¬ zDA ps := hfail fun hp => hP1 ⟨hp.2.1.1,hp.2.1.2.1,hp.2.1.2.2.1,hp.2.1.2.2.2.1,hp.2.1.2.2.2.2.1⟩
      subst hres
      rcases hc with hc | ⟨hc1,hc2⟩ | ⟨hc1,hc2,hc3⟩ | ⟨hc1,hc2,hc3,hc4⟩ | ⟨hc1,hc2,hc3,hc4,hc5⟩
      ·repeat' (first | refine zYt (by omega) ?_ | refine zA (zDG (ps.getD j default).name _ (by omega)) ?_ | refine zA (cN) ?_ | refine zD (zAy _) ?_ | refine zK (zAO _) ?_ | simp -implicitDefEqProofs (disch := omega) only [h1,z0,z5,hN,zYo,zAG,push_cast,simprocAttr,↓reduceIte])
       exact zCn ps H _ _ h2 zf (by omega) z1 hv
      ·repeat' (first | refine zYt (by omega) ?_ | refine zA (zDG (ps.getD j default).name _ (by omega)) ?_ | refine zA (cN) ?_ | refine zD (zAy _) ?_ | refine zK (zAO _) ?_ | simp -implicitDefEqProofs (disch := omega) only [h1,z0,z5,hN,zYo,zAg,zAG,push_cast,simprocAttr,↓reduceIte])
       exact zCn ps H _ _ h2 zf (by omega) z1 hv
      ·repeat' (first | refine zYt (by omega) ?_ | refine zA (zDG (ps.getD j default).name _ (by omega)) ?_ | refine zA (cN) ?_ | refine zD (zAy _) ?_ | refine zK (zAO _) ?_ | simp -implicitDefEqProofs (disch := omega) only [h1,z0,z5,hN,zYo,zAg,zAG,push_cast,simprocAttr,↓reduceIte])
       exact zCn ps H _ _ h2 zf (by omega) z1 hv
      ·repeat' (first | refine zYt (by omega) ?_ | refine zA (zDG (ps.getD j default).name _ (by omega)) ?_ | refine zA (cN) ?_ | refine zD (zAy _) ?_ | refine zK (zAO _) ?_ | simp -implicitDefEqProofs (disch := omega) only [h1,z0,z5,hN,zYo,zAg,zAG,push_cast,simprocAttr,↓reduceIte])
       exact zCn ps H _ _ h2 zf (by omega) z1 hv
      ·repeat' (first | refine zYt (by omega) ?_ | refine zA (zDG (ps.getD j default).name _ (by omega)) ?_ | refine zA (cN) ?_ | refine zD (zAy _) ?_ | refine zK (zAO _) ?_ | simp -implicitDefEqProofs (disch := omega) only [h1,z0,z5,hN,zYo,zAg,zAG,push_cast,simprocAttr,↓reduceIte])
       exact zCn ps H _ _ h2 zf (by omega) z1 hv
  ·have e : j = ps.length := by omega
   subst e
   repeat' (simp -implicitDefEqProofs (disch := omega) only [h2,h19,h20,g1,splice,zT,push_cast,simprocAttr,↓reduceIte,zYp])
   subst hres
   refine zTH ps H _ _ h2 (fun i hi => ?_) (by simpa using (by omega : H.length + 2 <= G.length)) (by rw [zYU (by omega)]) ⟨h8,hall⟩
   rw [zYL (by omega),fr i hi]
 ·repeat' (simp -implicitDefEqProofs (disch := omega) only [L14,zAz,zYo,zAG,push_cast,simprocAttr,↓reduceIte,zYp])
  refine ⟨_,_,_,rfl,zKJ,?_⟩
  repeat' (first | refine zK (zAO _) ?_ | simp -implicitDefEqProofs (disch := omega) only [push_cast,Int.reduceNeg])
  subst hres
  exact zCn ps H _ _ rfl (fun i hi => by rw [zYD hi]) (by simp) (by simp [zA4]) fun hv => h8 hv.1
end Go.Proofs.YtbibhcmcjldhdaaGreatDoor
namespace Go.Ax
open Go Go.RowKit
set_option linter.unusedSimpArgs false
set_option linter.unusedVariables false
section
variable {P : Program} {w w0 w1 : World} {X : Nat → Prop} {ρ ρ0 ρ1 : Nat → Loc} {H H1 : zB} {e e1 : Env} {a a1 : Act} {n n0 : Nat}
def zXm : Option Nat->zB->Prop
 | none,_ => True
 | some l0,H => ∃ (r : Nat) (lr : Go.Loop) (e : Env) (st : zQY),H[r]? = some (HO.lp l0 lr e st)
def zEj (P : Program) : Option Nat->LCode->Env->zB->(Out->Env->zB->Prop)->Prop
 | rd,.seq a b,e,H,K => zEj P rd a e H fun o e' H' => match o with | .normal => zEj P rd b e' H' K | o => K o e' H'
 | rd,.block id c,e,H,K => zEj P rd c e H fun o e' H' => match o with | .exit j => if j = id then K .normal e' H' else K (.exit j) e' H' | o => K o e' H'
 | rd,.range g ps la lb,e,H,K => zXm rd H/\match ev e g with
  | .fn (.func k) first caps => ∀ (l : Nat) (lr : Go.Loop),
    (∀ (args : List AV) (H1 : zB) (r : Nat) (R : AV->zB->Prop),args.length = ps.length->H1[r]? = some (.lp l lr e .ready) ->
     (awp P la (upL e ps args) H1 fun o e1 H2 => match o with
      | .normal => H2[r]? = some (.lp l lr e .ready)/\zEj P (some l) lb e1 (H2.set r (.lp l lr e .busy)) (zQh l lr e r R)
      | _ => False)->AYield P l args H1 R) ->
    ACall P k (first ++ [.v (.func (.yield l) #[] #[])] ++ caps) (H ++ [.lp l lr e .ready]) fun _ H' => ∃ st,H'[H.length]? = some (.lp l lr e st)/\zLn st fun o => K o e (H'.set H.length .dead)
  | _ => False
 | _,c,e,H,K => awp P c e H K
theorem zOi : ∀ (c : LCode) {rd : Option Nat} {e : Env} {H : zB} {K K' : Out->Env->zB->Prop},zEj P rd c e H K->(∀ o e' H',K o e' H'->K' o e' H')->zEj P rd c e H K' := by
 intro c;induction c with
 | seq a b iha ihb =>
  intro rd e H K K' h hK;refine iha h fun o e' H' hh => ?_;cases o with
  | normal => exact ihb hh hK
  | _ => exact hK _ _ _ hh
 | block id c ih =>
  intro rd e H K K' h hK;refine ih h fun o e' H' hh => ?_;cases o with
  | exit j =>
   simp only at hh ⊢;split
   ·rename_i hj; rw [if_pos hj] at hh; exact hK _ _ _ hh
   ·rename_i hj; rw [if_neg hj] at hh; exact hK _ _ _ hh
  | _ => exact hK _ _ _ hh
 | range g ps la lb _ _ =>
  intro rd e H K K' h hK;simp only [zEj] at h ⊢;refine ⟨h.1,?_⟩;have h := h.2;split at h
  ·intro l lr hy;exact (h l lr hy).mono fun x H' ⟨st,h1,h2⟩ => ⟨st,h1,zGQ h2 fun o => hK _ _ _⟩
  ·exact h.elim
 | _ => intro rd e H K K' h hK; exact zDv h hK
theorem zOh : ∀ (c : LCode) {rd : Option Nat} {e : Env} {H : zB} {K : Out->Env->zB->Prop},nr c = true->awp P c e H K->zEj P rd c e H K := by
 intro c;induction c with
 | seq a b iha ihb =>
  intro rd e H K hn h;simp only [nr,zYA] at hn;refine zOi a (iha hn.1 h) fun o e' H' hh => ?_;cases o with
  | normal => exact ihb hn.2 hh
  | _ => exact hh
 | block id c ih =>
  intro rd e H K hn h;simp only [nr] at hn;exact ih hn h
 | range g ps la lb _ _ => intro rd e H K hn; simp [nr] at hn
 | _ => intro rd e H K hn h; exact h
theorem zSH : ∀ (c : LCode) {rd : Option Nat} {e : Env} {H : zB} {K : Out->Env->zB->Prop},nr c = true->zEj P rd c e H K->awp P c e H K := by
 intro c;induction c with
 | seq a b iha ihb =>
  intro rd e H K hn h;simp only [nr,zYA] at hn;have h2 := iha (K := fun o e' H' => match o with | .normal => zEj P rd b e' H' K | o => K o e' H') hn.1 h
  show awp P a e H (fun o e' H' => match o with | .normal => awp P b e' H' K | o => K o e' H')
  refine zDv h2 fun o e' H' hh => ?_;cases o with
  | normal => exact ihb hn.2 hh
  | _ => exact hh
 | block id c ih =>
  intro rd e H K hn h;simp only [nr] at hn;exact ih hn h
 | range g ps la lb _ _ => intro rd e H K hn; simp [nr] at hn
 | _ => intro rd e H K hn h; exact h
theorem zX0 {hs : List Hn} {c : Code} (hc : zFh P n hs c = (match zEv P n hs c with | some lc => if nr lc = true then some lc else none | none => none)) {B : DB} {rd : Option Nat} {m0 : Nat} {lc : LCode} {K : Out->Env->zB->Prop} {Q : Exit->Act->World->Prop} (hl : zFh P n hs c = some lc) (h : zEj P rd lc e H K) (hst : St B X w0 ρ0 n0 n e H a w) (hQ : ∀ o e' H' a' w',K o e' H'->St B X w0 ρ0 n0 n e' H' a' w'->Q (zUr o) a' w') : c.wpIn (WR rd) m0 P Q a w := by
 rw [hc] at hl;cases hlc : zEv P n hs c with
 | none => rw [hlc] at hl; cases hl
 | some l =>
  rw [hlc] at hl;simp only at hl;split at hl
  ·rename_i hn;cases hl;exact zB1 c hlc (.inr hn) (zSH _ hn h) hst hQ
  ·cases hl
theorem zJN {hs : List Hn} : ∀ (c : Code) {B : DB} {X : Nat->Prop} {w0 : World} {ρ0 : Nat->Loc} {n0 : Nat} {rd : Option Nat} {m0 : Nat} {lc : LCode} {e : Env} {H : zB} {a : Act} {w : World} {K : Out->Env->zB->Prop} {Q : Exit->Act->World->Prop},zFh P n hs c = some lc->B.ok->zEj P rd lc e H K->St B X w0 ρ0 n0 n e H a w ->
  (∀ o e' H' a' w',K o e' H'->St B X w0 ρ0 n0 n e' H' a' w'->Q (zUr o) a' w')->c.wpIn (WR rd) m0 P Q a w := by
 intro c;induction c with
 | seq x y ihx ihy =>
  intro B X w0 ρ0 n0 rd m0 lc e H a w K Q hl hB h hst hQ;simp only [zFh] at hl;split at hl
  ·rename_i la lb h1 h2;simp only [zYq] at hl;subst hl;refine wpIn_seq (ihx h1 hB h hst fun o e' H' a' w' hk hs' => ?_);cases o with
   | normal => exact ihy h2 hB hk hs' hQ
   | exit id => exact hQ (.exit id) _ _ _ _ hk hs'
   | ret => exact hQ .ret _ _ _ _ hk hs'
   | pan v => exact hQ (.pan v) _ _ _ _ hk hs'
  ·cases hl
 | block id c ih =>
  intro B X w0 ρ0 n0 rd m0 lc e H a w K Q hl hB h hst hQ;simp only [zFh] at hl;obtain ⟨lb,h1,rfl⟩ := zAo hl;refine wpIn_block (ih h1 hB h hst fun o e' H' a' w' hk hs' => ?_);cases o with
  | normal => exact hQ .normal _ _ _ _ hk hs'
  | exit j =>
   simp only at hk;simp only [zUr,Exit.inBlock];split
   ·rename_i hj; rw [if_pos hj] at hk; exact hQ .normal _ _ _ _ hk hs'
   ·rename_i hj; rw [if_neg hj] at hk; exact hQ (.exit j) _ _ _ _ hk hs'
  | ret => exact hQ .ret _ _ _ _ hk hs'
  | pan v => exact hQ (.pan v) _ _ _ _ hk hs'
 | rangeFunc g ps asg bdy iha ihb =>
  intro B X w0 ρ0 n0 rd m0 lc e H a w K Q hl hB h hst hQ;simp only [zFh] at hl;split at hl
  ·rename_i g' la lb hg ha hb;split at hl
   ·rename_i hc;simp only [zYA,zYR,zYy] at hc;obtain ⟨nra,hps⟩ := hc;simp only [zYq] at hl;subst hl;simp only [zEj] at h;obtain ⟨hrd,h⟩ := h;obtain ⟨hn,ρ,hrel,he,hf,hm⟩ := hst;have rf := zAd he hg;split at h
    ·rename_i k first caps hev
     rw [hev] at rf;generalize hfe : a.eval g = fv at rf;cases rf with
     | fn _ _ _ _ fs us h1 h2 h3 h4 =>
      refine wpIn_rangeFunc fun fn _ => ?_;have hY : ∀ (l : Nat) (lr : Go.Loop),(lr.state = .ready/\lr.pending = none)->(lr.tmps = a.tmps/\lr.params = ps)->lr.assign = asg->lr.body = bdy->∀ (args : List AV) (H1 : zB) (r : Nat) (R : AV->zB->Prop),args.length = ps.toList.length->H1[r]? = some (.lp l lr e .ready) ->
        (awp P la (upL e ps.toList args) H1 fun o e1 H2 => match o with
         | .normal => H2[r]? = some (.lp l lr e .ready)/\zEj P (some l) lb e1 (H2.set r (.lp l lr e .busy)) (zQh l lr e r R)
         | _ => False)->AYield P l args H1 R := by
       intro l lr hl12 hl34 l5 l6 args H1 r R hal hr1 hrun X' ρ' w' vs hrel' hargs';obtain ⟨l1,l2⟩ := hl12;obtain ⟨l3,l4⟩ := hl34;obtain ⟨_,_,q3,q4⟩ := hrel'.objs r _ hr1;have q3' : w'.heap[l]? = some (.loop lr) := q3;refine ⟨lr.fn,_,lr.assign,lr.body,run_yield q3' (by rw [<- hargs'.1,hal,l4]; simp),roundIn_of_wpIn trivial ?_⟩;rw [l5,l6,l3,l4,<- zzaj,Array.toList_zip];obtain ⟨u1,u2⟩ := zJa (w := w') (M := Mut X' ρ' H1.length) (ρ := ρ') (k := H1.length) (N := n) (e := e) (tmps := a.tmps) ps.toList args vs.toList (by simpa using hargs'.1) hal hn (fun p hp => hps p hp)
        (fun t ht => q4 t _ (by rw [l3]; simp [zYV,hn,ht])) (fun i x u hx hu => hargs'.2 i x u hx (by simpa using hu))
       refine zB1 (B := ⟨[],True⟩) (X := X') (w0 := w') (ρ0 := ρ') (n0 := H1.length) (rd := some l) asg ha (.inr nra) hrun ⟨u1,ρ',hrel',u2,Fut.refl _ _ _,Mk.nil⟩ ?_;intro o e1 H2 a1 w1' hk hs1;cases o with
       | normal =>
        obtain ⟨hr2,hk2⟩ := hk;obtain ⟨s1,ρ2,s2,s3,s4,s5⟩ := hs1;have q5 : w1'.heap[l]? = some (.loop lr) := (s2.objs r _ hr2).2.2.1;obtain ⟨ρ3,t2,t3⟩ := s2.setLp .busy hr2;refine ⟨_,run_beginRound q5 l1,ihb (B := ⟨[],True⟩) (X := X') (w0 := w') (ρ0 := ρ') (n0 := H1.length) (rd := some l) hb trivial hk2 ⟨s1,ρ3,t2,fun t ht => (s3 t ht).nextN t3,s4.trans t3,s5.fut t3⟩ ?_⟩;intro o e2 H3 a2 w2' hk3 hs3;obtain ⟨hr3,hR⟩ := hk3;obtain ⟨_,ρ4,v2,_,v4,_⟩ := hs3;have q6 : w2'.heap[l]? = some (.loop (zCj lr .busy)) := (v2.objs r _ hr3).2.2.1;cases o with
        | normal =>
         obtain ⟨ρ5,x2,x3⟩ := v2.setLp .ready hr3;have hrec : ({ zCj lr .busy with state := if (none : Option Code).isNone then LoopState.ready else .done,pending := none } : Go.Loop) = zCj lr .ready := by
          cases lr; simp only at l1 l2; subst l1; subst l2; rfl
         refine ⟨_,_,run_endRound none q6,?_⟩;rw [hrec];exact ⟨_,bool true,_,ρ5,rfl,hR,x2,.v _ _,v4.trans x3⟩
        | exit id =>
         obtain ⟨ρ5,x2,x3⟩ := v2.setLp (.done (some id)) hr3;exact ⟨_,_,run_endRound (some (.exit id)) q6,_,bool false,_,ρ5,rfl,hR,x2,.v _ _,v4.trans x3⟩
        | ret =>
         obtain ⟨ρ5,x2,x3⟩ := v2.setLp (.done none) hr3;exact ⟨_,_,run_endRound (some .ret) q6,_,bool false,_,ρ5,rfl,hR,x2,.v _ _,v4.trans x3⟩
        | pan v => exact hR.elim
       | exit id => exact hk.elim
       | ret => exact hk.elim
       | pan v => exact hk.elim
      have go : ∀ (l : Nat) (lr : Go.Loop) (ms : List Deferred) (w1 : World) (ρ1 : Nat->Loc),(lr.state = .ready/\lr.pending = none)->(lr.tmps = a.tmps/\lr.params = ps)->lr.assign = asg->lr.body = bdy ->
        (Instr.enterLoop fn a.tmps ps asg bdy (WR rd).round).run P w = .ok (l,ms) w1->HRel w1 X ρ1 (H ++ [HO.lp l lr e .ready])->Fut w ρ H.length w1 ρ1 (H ++ [HO.lp l lr e .ready]).length->Mk B w0 w1 ρ1 (H ++ [HO.lp l lr e .ready]).length (ms ++ a.defers) ->
        ∃ (l : Nat) (zKk : List Deferred) (w₁ : World) (d : Deferred) (w₁' : World) (f : FuncId) (args : Array Value) (w₂ : World),
         (Instr.enterLoop fn a.tmps ps asg bdy (WR rd).round).run P w = .ok (l,zKk) w₁/\(resolve a.eval (rangeCall g l) 0).run P w₁ = .ok d w₁'/\(∀ f',Target.leads P w₁' d.target d.args = some f'->(WR rd).fn f') /\
         (invoke d.target d.args).run P w₁' = .ok (.enter f args) w₂/\((WR rd).depth.isSome = true->1 <= m0)/\CallsIn (WR rd) (m0 - 1) P f args w₂ (rangePost (WR rd) m0 P l Q { a with defers := zKk ++ a.defers }) := by
       intro l lr ms w1 ρ1 hl12 hl34 l5 l6 hent p2 hfw hmk;obtain ⟨⟨fn',hfn,hbody,hname⟩,hcall⟩ := h l lr (hY l lr hl12 hl34 l5 l6);obtain ⟨l1,l2⟩ := hl12;refine ⟨l,ms,w1,{ target := .fn (.func k) us,args := fs ++ #[.func (.yield l) #[] #[]] },w1,k,fs ++ #[.func (.yield l) #[] #[]] ++ us,w1,hent,?_,?_,?_,zEw,?_⟩
       ·simp only [resolve,hfe,Deferred.ofValue,Sem.run_bind,Sem.run_pure,Result.andThen_ok];simp [Act.eval]
       ·intro f' _; trivial
       ·simp only [Sem.run_bind,Sem.run_pure,Result.andThen_ok,invoke,callFunc,run_program,hfn,hname,zYM,if_false,hbody]
       ·refine zD9 ((hcall X ρ1 w1 _ p2 ⟨by simp [h1,h2]; omega,?_⟩).mono ?_)
        ·intro i x u hx hu;rw [zY8,zY7] at hx;rw [zzak,zZc] at hu;by_cases hi : i < first.length
         ·rw [if_pos hi] at hx;rw [if_pos (by omega)] at hu;exact (h3 i x u hx hu).nextN hfw
         ·rw [if_neg hi,zY7] at hx;rw [if_neg (by omega),zZc] at hu;by_cases hj : i - first.length < 1
          ·rw [if_pos (by simpa using hj)] at hx;rw [if_pos (by simp; omega)] at hu;have e1 : i - first.length = 0 := by omega
           have e2 : i - fs.size = 0 := by omega
           rw [e1] at hx;rw [e2] at hu;simp at hx hu;subst hx; subst hu;exact .v _ _
          ·rw [if_neg (by simpa using hj)] at hx;rw [if_neg (by simp; omega)] at hu;simp only [zYs,zYw,zzaO] at hx hu;exact (h4 (i - first.length - 1) x u hx (by rw [<- h1] at hu; exact hu)).nextN hfw
        ·rintro en w3 ⟨v,x,H',ρ',rfl,⟨st,hst1,hout⟩,g1,g2,g3⟩;have q7 : w3.heap[l]? = some (.loop (zCj lr st)) := (g1.objs _ _ hst1).2.2.1;obtain ⟨ρ4,g4,g5⟩ := g1.setDead (.loop { zCj lr st with state := .exhausted }) hst1;have hfut := hfw.trans (g3.trans g5);have hSt : St B X w0 ρ0 n0 n e (H'.set H.length .dead) { a with defers := ms ++ a.defers } (w3.putObj l (.loop { zCj lr st with state := .exhausted })) :=
          ⟨hn,ρ4,g4,fun t ht => (he t ht).nextN hfut,hf.trans hfut,hmk.fut (g3.trans g5)⟩
         cases st with
         | ready => exact ⟨_,_,run_endLoop q7 (by show lr.state ≠ _; rw [l1]; simp),by show (match lr.pending with | none => _ | some c => _); rw [l2]; exact hQ .normal _ _ _ _ hout hSt⟩
         | busy => exact hout.elim
         | done o =>
          cases o with
          | none => exact ⟨_,_,run_endLoop q7 (by simp [zCj]),wpIn_ret (hQ .ret _ _ _ _ hout hSt)⟩
          | some id => exact ⟨_,_,run_endLoop q7 (by simp [zCj]),wpIn_exit (hQ (.exit id) _ _ _ _ hout hSt)⟩
      cases rd with
      | some l0 =>
       obtain ⟨r0,lr0,e00,st0,hr0⟩ := hrd;have hl0 : w.heap[l0]? = some (.loop (zCj lr0 st0)) := (hrel.objs r0 _ hr0).2.2.1;obtain ⟨lr,hlr⟩ : ∃ lr : Go.Loop,lr = { state := .ready,pending := none,fn,tmps := a.tmps,params := ps,assign := asg,body := bdy,defers := (zCj lr0 st0).defers } := ⟨_,rfl⟩;have l3 : lr.tmps = a.tmps := by subst hlr; rfl
       obtain ⟨ρ1,p1,p2,p3⟩ := hrel.push (w' := w.alloc (.loop lr)) { blk := some (w.heap.size,0) } (.lp w.heap.size lr e .ready) (Same.alloc _ _) (fun b o hbl => by simp at hbl; obtain ⟨rfl,_⟩ := hbl; simp) (zAW _ _)
        (fun ρ' hf' hl' => ⟨rfl,rfl,World.alloc_heap_new w (.loop lr),fun t u hu => by
         rw [l3] at hu;have htl : t < n := by rw [<- hn]; exact (zYJ.1 hu).1
         have := he t htl;rw [show a.tmps.getD t undef = u by simp [zYV,hu]] at this;exact this.nextN hf'⟩)
       exact go w.heap.size lr [] _ ρ1 (by subst hlr; exact ⟨rfl,rfl⟩) (by subst hlr; exact ⟨rfl,rfl⟩) (by subst hlr; rfl) (by subst hlr; rfl) (by rw [hlr]; exact run_enterLoop_inner hl0 _ _ _ _ _) p2 p3 (by rw [zYG]; exact hm.fut p3)
      | none =>
       obtain ⟨lr,hlr⟩ : ∃ lr : Go.Loop,lr = { state := .ready,pending := none,fn,tmps := a.tmps,params := ps,assign := asg,body := bdy,defers := w.heap.size } := ⟨_,rfl⟩;have l3 : lr.tmps = a.tmps := by subst hlr; rfl
       obtain ⟨w1,hw1⟩ : ∃ w1,(w.alloc (.deferred (some []))).alloc (.loop lr) = w1 := ⟨_,rfl⟩;obtain ⟨a1,a2⟩ := hrel.more (Same.alloc w (.deferred (some []))) (zAW w _);obtain ⟨ρ1,p1,p2,p3⟩ := a1.push (w' := w1) { blk := some (w.heap.size + 1,0) } (.lp (w.heap.size + 1) lr e .ready) (by rw [<- hw1]; exact Same.alloc _ _) (fun b o hbl => by simp at hbl; obtain ⟨rfl,_⟩ := hbl; rw [<- hw1]; simp) (by rw [<- hw1]; exact zAW _ _)
        (fun ρ' hf' hl' => ⟨rfl,rfl,by rw [<- hw1]; have := World.alloc_heap_new (w.alloc (.deferred (some []))) (.loop lr); rwa [World.size_alloc] at this,fun t u hu => by
         rw [l3] at hu;have htl : t < n := by rw [<- hn]; exact (zYJ.1 hu).1
         have := he t htl;rw [show a.tmps.getD t undef = u by simp [zYV,hu]] at this;exact (this.nextN a2).nextN hf'⟩)
       have hfw := a2.trans p3;have hD1 : w1.heap[w.heap.size]? = some (.deferred (some [])) := by rw [<- hw1]; exact (Below.heap_alloc _ _ _ (by simp)).trans (World.alloc_heap_new w _)
       have hDs : w.heap.size < w1.heap.size := by rw [<- hw1]; simp; omega
       have hDo : ¬ Own ρ1 (H ++ [HO.lp (w.heap.size + 1) lr e .ready]).length w.heap.size := by
        rintro ⟨r,o,hr,hbl⟩;by_cases hrl : r = H.length
        ·subst hrl; rw [p1] at hbl; simp at hbl
        ·have hr' : r < H.length := by simp at hr; omega
         rcases p3.loc r hr' with h' | h'
         ·rw [h'] at hbl;have := (hrel.lt r _ _ hr' hbl).1;omega
         ·rcases p3.own _ ⟨r,o,hr,hbl⟩ with ⟨r',o',hr2,hbl2⟩ | h'
          ·have := (hrel.lt r' _ _ hr2 hbl2).1; omega
          ·rw [World.size_alloc] at h'; omega
       have hmk : Mk B w0 w1 ρ1 (H ++ [HO.lp (w.heap.size + 1) lr e .ready]).length (zKk w.heap.size :: a.defers) := by
        obtain ⟨ds,d1,d0,d2,d3⟩ := hm.fut hfw;obtain ⟨ds',d1',d0',d2',d3'⟩ := hm;have hdd : ds = ds' := by
         rw [d1] at d1';replace d1' := zzaQ d1';clear d2 d3 d2' d3' d1 d0 d0';induction ds generalizing ds' with
         | nil => cases ds' with
          | nil => rfl
          | cons _ _ => simp at d1'
         | cons D ds ih => cases ds' with
          | nil => simp at d1'
          | cons D' ds' => simp [zKk] at d1'; rw [d1'.1,ih ds' (by simpa [zKk] using d1'.2)]
        subst hdd;refine ⟨w.heap.size :: ds,by rw [zZA,zYB,d1],.inl hB,zzaD.2 ⟨fun hin => ?_,d2⟩,fun D hD => ?_⟩
        ·have := (d3' _ hin).2.1; omega
        ·rcases zY5.1 hD with rfl | hD
         ·exact ⟨hf.size,hDs,hDo,hD1⟩
         ·exact d3 D hD
       exact go (w.heap.size + 1) lr [zKk w.heap.size] w1 ρ1 (by subst hlr; exact ⟨rfl,rfl⟩) (by subst hlr; exact ⟨rfl,rfl⟩) (by subst hlr; rfl) (by subst hlr; rfl) (by rw [<- hw1,hlr]; exact run_enterLoop_outer _ _ _ _ _) p2 hfw hmk
    ·exact h.elim
   ·cases hl
  ·cases hl
 | _ => intro B X w0 ρ0 n0 rd m0 lc e H a w K Q hl hB h hst hQ; exact zX0 rfl hl h hst hQ
def zQ0 (P : Program) (res : List RV) (R : AV->zB->Prop) : LD->Env->zB->Prop
 | .seq a b,e,H => zAa P [.code a] (fun o e' H' => o = .normal/\zQ0 P res R b e' H') .normal e H
 | .cut los f args body,e,H => zAa P [.ops los] (fun o e1 H1 => o = .normal/\∃ k first caps,ev e1 f = .fn (.func k) first caps/\zFk P k/\zEj P none body e1 H1 (zEC P res R k (first ++ args.map (ev e1) ++ caps))) .normal e H
@[push_cast] theorem zVF (res : List RV) (R : AV->zB->Prop) (a : LCode) (b : LD) : zQ0 P res R (.seq a b) e H = zAa P [.code a] (fun o e' H' => o = .normal/\zQ0 P res R b e' H') .normal e H := rfl
@[push_cast] theorem zVG (res : List RV) (R : AV->zB->Prop) (los : List LO) (f : LX) (args : List LX) (body : LCode) : zQ0 P res R (.cut los f args body) e H = zAa P [.ops los] (fun o e1 H1 => o = .normal/\∃ k first caps,ev e1 f = .fn (.func k) first caps/\zFk P k/\zEj P none body e1 H1 (zEC P res R k (first ++ args.map (ev e1) ++ caps))) .normal e H := rfl
theorem zJB {fn : Func} {hs : List Hn} {rs : List RV} {R : AV->zB->Prop} (hr : zEo P n fn.results.toList = some rs) : ∀ (c : Code) (ld : LD) (e : Env) (H : zB) (a : Act) (w : World),zPz P n hs c = some ld->zQ0 P rs R ld e H->St ⟨[],True⟩ X w0 ρ0 n0 n e H a w ->
  c.wpIn (WR none) 0 P (bodyPostM Fence.wide 0 P fn fun en w' => ∃ v x H' ρ',en = .returned v/\R x H'/\HRel w' X ρ' H'/\Rep w' (Mut X ρ' H'.length) ρ' H'.length x v/\Fut w0 ρ0 n0 w' ρ' H'.length) a w := by
 intro c;induction c with
 | seq x y ihx ihy =>
  intro ld e H a w hl h hst;unfold zPz at hl;split at hl
  ·rename_i p hp;obtain ⟨los,f,args⟩ := p;cases hb : zFh P n hs y with
   | none => rw [hb] at hl; cases hl
   | some body =>
    rw [hb,zYZ,zYq] at hl;subst hl;unfold zPZ at hp;split at hp
    ·rename_i id ops;have h : zAD P los e H fun e1 H1 => (Out.normal = .normal/\∃ k first caps,ev e1 f = .fn (.func k) first caps/\zFk P k/\zEj P none body e1 H1 (zEC P rs R k (first ++ args.map (ev e1) ++ caps))) := h;have h : zAD P los e H fun e1 H1 => ∃ k first caps,ev e1 f = .fn (.func k) first caps/\zFk P k/\(fun k dargs e1 H1 => zEj P none body e1 H1 (zEC P rs R k dargs)) k (first ++ args.map (ev e1) ++ caps) e1 H1 := zBD h fun _ _ hh => hh.2
     refine wpIn_seq (wpIn_region_list (zE0 (K := fun k dargs e1 H1 => zEj P none body e1 H1 (zEC P rs R k dargs)) (fun k dargs e1 H1 a1 w1 ρ1 d vs hK hn1 hrel1 he1 hf1 hmk1 hrl1 htar hinv => ?_) ops.toList los f args e H a w hp h hst));refine zJN (B := ⟨d :: a1.defers,True⟩) (X := X) (w0 := w1) (ρ0 := ρ1) (n0 := H1.length) (rd := none) (m0 := 0) (H := H1) (e := e1) y hb trivial hK ⟨hn1,ρ1,hrel1,he1,Fut.refl _ _ _,Mk.nil⟩ ?_;intro o e' H' a' w' hk hst';obtain ⟨hn,ρ',g1,g2,g3,ds,d1,_,d2,d3⟩ := hst';obtain ⟨f1,f2,f3⟩ := zD2 ds d2 (fun D hD => ⟨(d3 D hD).1,(d3 D hD).2.2.2⟩) g1 g2 g3;obtain ⟨fv,cap,htar⟩ := htar;have go : ∀ m : Option Value,(zP7 P k dargs m H' fun H'' => (zAH e' H'' rs).ok/\R (zAH e' H'' rs).x H'')->LeavesInM Fence.wide 0 P fn a'.tmps (fun en w' => ∃ v x H' ρ',en = .returned v/\R x H'/\HRel w' X ρ' H'/\Rep w' (Mut X ρ' H'.length) ρ' H'.length x v/\Fut w0 ρ0 n0 w' ρ' H'.length) a'.defers (zQC m) w' := by
      intro m hd;rw [d1];refine zBm (by cases m <;> simp [zQC]) ds w' d2 (fun D hD => (d3 D hD).2.2.2) ⟨by cases m <;> simp [zQC],.inr ⟨fun hh => (by cases hh),fv,cap,k,vs,htar,hinv _,fun _ _ => trivial,?_⟩⟩;refine (hd X ρ' _ vs f1 (hrl1.nextN f3)).mono ?_;rintro en u' w'' ⟨v,H'',ρ'',rfl,rfl,⟨hok,hR⟩,q1,q2⟩;have hm1 : Mk ⟨[],True⟩ w0 w'' ρ'' H''.length a1.defers := (hmk1.fut f3).fut q2;obtain ⟨ds1,c1,_,c2,c3⟩ := hm1;have he2 : ER w'' X ρ'' H'' n e' a' := fun t ht => (f2 t ht).nextN q2;obtain ⟨p1,p2,p3⟩ := zD2 (w0 := w0) ds1 c2 (fun D hD => ⟨(c3 D hD).1,(c3 D hD).2.2.2⟩) q1 he2 ((hf1.trans f3).trans q2);show LeavesInM Fence.wide 0 P fn a'.tmps _ a1.defers (settle (zCh m)) w'';rw [zE7,c1];obtain ⟨_,v2,k3,k4⟩ := zD1 hr p1 p2 hok;exact zBm (by simp) ds1 w'' c2 (fun D hD => (c3 D hD).2.2.2) ⟨v2,k3,v2,_,H'',ρ'',rfl,hR,p1,k4,p3⟩
     cases o with
     | normal => exact go none hk
     | exit id => exact hk.elim
     | ret => exact go none hk
     | pan z => exact go (some z) hk
    ·cases hp
  ·split at hl
   ·rename_i la lb h1 h2;simp only [zYq] at hl;subst hl;refine wpIn_seq (zB1 x h1 (.inl ⟨rfl,trivial⟩) (h : awp P la e H _) hst fun o e' H' a' w' hk hs' => ?_);obtain ⟨rfl,hk⟩ := hk;exact ihy lb e' H' a' w' h2 hk hs'
   ·cases hl
 | _ => intro ld e H a w hl; cases hl
theorem zSu {k : FuncId} {fn : Func} {hs : List Hn} {L : zTB} {args : List AV} {R : AV->zB->Prop} (hf : P.funcs[k]? = some fn) (hl : zJA P fn hs = some L) (ha : args.length <= L.n)
  (h : zQ0 P L.res R L.body (zC7 args 0) H) : ACall P k args H R := by
 unfold zJA at hl;cases hb : fn.body with
 | none => simp [hb] at hl
 | some c =>
  cases hr : zEo P fn.ntmps fn.results.toList with
  | none => simp [hb,hr] at hl
  | some rs =>
   simp only [hb,hr] at hl;split at hl
   ·rename_i b hc;split at hl
    ·rename_i hcond;simp only [zYq] at hl;subst hl;refine ⟨⟨fn,hf,by simp [hb],hcond.2⟩,fun X ρ w vs hrel hargs => (callsIn_wide (n := 0)).1 (callsIn_of_wp_marks hf hb trivial ?_)⟩;have hvs : vs.size <= fn.ntmps := by rw [<- hargs.1]; exact ha
     refine zJB (X := X) (w0 := w) (ρ0 := ρ) (n0 := H.length) hr c b (zC7 args 0) H _ w hc h ⟨by simp; omega,ρ,hrel,fun t ht => ?_,Fut.refl _ _ _,Mk.nil⟩;rw [zDR,if_pos (zYO _),zzal];by_cases htl : t < vs.size
     ·have hx : args[t]? = some (args[t]'(by rw [hargs.1]; exact htl)) := by simp
      rw [hx,zZj];refine hargs.2 t _ _ hx ?_;simp [zYV,zZc,htl]
     ·rw [zZu (by rw [hargs.1]; omega)];exact .any _ _
    ·cases hl
   ·cases hl
theorem zFB {rd : Option Nat} {a b : LCode} {K : Out->Env->zB->Prop} (hn : nr a = true) (h : zAa P [.code a] (fun o e' H' => match o with | .normal => zEj P rd b e' H' K | o => K o e' H') .normal e H) : zEj P rd (.seq a b) e H K :=
 zOh a hn (K := fun o e' H' => match o with | .normal => zEj P rd b e' H' K | o => K o e' H') h
theorem zGm {rd : Option Nat} {a : LCode} {K : Out->Env->zB->Prop} (hn : nr a = true) (h : zAa P [.code a] K .normal e H) : zEj P rd a e H K := zOh a hn h
def zOs (P : Program) (l : Nat) (lr : Go.Loop) (e : Env) (ps : List Nat) (la lb : LCode) : Prop :=
 ∀ (args : List AV) (H1 : zB) (r : Nat) (R : AV->zB->Prop),args.length = ps.length->H1[r]? = some (.lp l lr e .ready) ->
  zAa P [.code la] (fun o e1 H2 => o = .normal/\H2[r]? = some (.lp l lr e .ready)/\zEj P (some l) lb e1 (H2.set r (.lp l lr e .busy)) (zQh l lr e r R)) .normal (upL e ps args) H1->AYield P l args H1 R
theorem zLT {rd : Option Nat} {g : LX} {ps : List Nat} {la lb : LCode} {f : FuncId} {first caps : List AV} {K : Out->Env->zB->Prop} (hrd : zXm rd H) (hg : ev e g = .fn (.func f) first caps)
  (h : ∀ l lr,zOs P l lr e ps la lb->ACall P f (first ++ [.v (.func (.yield l) #[] #[])] ++ caps) (H ++ [.lp l lr e .ready]) fun _ H' => ∃ st,H'[H.length]? = some (.lp l lr e st)/\zLn st fun o => K o e (H'.set H.length .dead)) :
  zEj P rd (.range g ps la lb) e H K := by
 simp only [zEj,hg];refine ⟨hrd,fun l lr hy => h l lr fun args H1 r R hal hr hrun => hy args H1 r R hal hr ?_⟩;refine zDv (hrun : awp P la _ H1 _) fun o e1 H2 hh => ?_;obtain ⟨rfl,h1,h2⟩ := hh;exact ⟨h1,h2⟩
theorem zGl {rd : Option Nat} {g : LX} {ps : List Nat} {la lb : LCode} {f : FuncId} {first caps : List AV} {K : Out->Env->zB->Prop} (hrd : zXm rd H) (hg : ev e g = .fn (.func f) first caps)
  (h : ∀ E0 : Env,(∀ t,E0 t = e t)->∀ l lr,zOs P l lr E0 ps la lb->ACall P f (first ++ [.v (.func (.yield l) #[] #[])] ++ caps) (H ++ [.lp l lr E0 .ready]) fun _ H' => ∃ st,H'[H.length]? = some (.lp l lr E0 st)/\zLn st fun o => K o E0 (H'.set H.length .dead)) :
  zEj P rd (.range g ps la lb) e H K := zLT hrd hg (h e fun _ => rfl)
theorem zIW {rd : Option Nat} {a b : LCode} {K : Out->Env->zB->Prop} (h : zEj P rd a e H fun o e' H' => match o with | .normal => zEj P rd b e' H' K | o => K o e' H') : zEj P rd (.seq a b) e H K := h
theorem zDw {rd : Option Nat} {id : Nat} {c : LCode} {K : Out->Env->zB->Prop} (h : zEj P rd c e H fun o e' H' => match o with | .exit j => if j = id then K .normal e' H' else K (.exit j) e' H' | o => K o e' H') : zEj P rd (.block id c) e H K := h
end
end Go.Ax
namespace Go.Proofs.YtbibhcmcjldhdaaGreatDoor
open Go Go.Ax Go.RowKit
set_option maxRecDepth 100000
set_option linter.unusedSimpArgs false
set_option linter.unusedVariables false
set_option maxHeartbeats 4000000
theorem zMX (H : zB) (r q : Nat) : zP7 Tryz.prog 22 [.ptr r 0 0,.ptr q 0 0] none H fun H' => H' = H := by
 refine zFz Tryz.func22 L22_ok (zYu rfl) ?_
 repeat' (simp -implicitDefEqProofs (disch := omega) only [L22,push_cast,simprocAttr,↓reduceIte])
theorem zMW (c : AV) (e : Int) (J : zB) : zP7 Tryz.prog 22 [.ptr 0 0 0,.ptr 1 0 0] (some zCD) (.box [c] :: .box [int e] :: J) fun H' => ∃ J',H' = .box [zAl] :: .box [int 3] :: J' := by
 refine zFz Tryz.func22 L22_ok (zYu rfl) ?_
 repeat' (simp -implicitDefEqProofs (disch := omega) only [L22,zYB,zYG,zYv,zYx,zYE,zYC,zYs,zYw,splice,push_cast,simprocAttr,↓reduceIte,zYp])
 exact ⟨_,rfl⟩
abbrev PaR (s : Wd) (x : AV) (H' : zB) : Prop := (∃ c,x = .tup [.agg [c],int (zAB s).2]/\(c = zAU (zAB s).1\/(zAB s).1 = []/\c = zAl))/\x.cl = true/\∃ rest,H' = [] ++ rest
theorem zPo {s : Wd} {c : AV} {k : Int} {J : zB} {e : Env} (h2 : e 2 = .ptr 0 0 0) (h3 : e 3 = .ptr 1 0 0) (hn : zAB s = ([],3)) :
  zEC Tryz.prog L10p.res (PaR s) 22 [.ptr 0 0 0,.ptr 1 0 0] (.pan zCD) e (.box [c] :: .box [int k] :: J) := by
 intro X ρ w vs hr hv
 refine (zMW c k J X ρ w vs hr hv).mono ?_
 rintro en u' w' ⟨v,H',ρ',h1,h2',⟨J',rfl⟩,h4,h5⟩
 refine ⟨v,_,ρ',h1,h2',?_,h4,h5⟩
 refine ⟨?_,⟨zAl,?_,.inr ⟨by rw [hn],rfl⟩⟩,?_,_,rfl⟩
 ·simp [L10p,zAH,zCF,h2,h3,rLoad,rLoadO,isVer,Res.also,isBox]
 ·rw [hn]; simp [L10p,zAH,zCF,h2,h3,rLoad,rLoadO,isVer,Res.also,isBox,cellsV]
 ·simp [L10p,zAH,zCF,h2,h3,rLoad,rLoadO,isVer,Res.also,isBox,cellsV,AV.cl,clL]
theorem zLj {s : Wd} {c : AV} {k : Int} {J : zB} {e : Env} (h2 : e 2 = .ptr 0 0 0) (h3 : e 3 = .ptr 1 0 0) (hk : (zAB s).2 = k) (hc : c = zAU (zAB s).1\/(zAB s).1 = []/\c = zAl) :
  zEC Tryz.prog L10p.res (PaR s) 22 [.ptr 0 0 0,.ptr 1 0 0] .ret e (.box [c] :: .box [int k] :: J) := by
 intro X ρ w vs hr hv
 refine (zMX _ 0 1 X ρ w vs hr hv).mono ?_
 rintro en u' w' ⟨v,H',ρ',h1,h2',rfl,h4,h5⟩
 refine ⟨v,_,ρ',h1,h2',?_,h4,h5⟩
 have hcl : c.cl = true := by
  rcases hc with rfl | ⟨_,rfl⟩ <;> rfl
 refine ⟨?_,⟨c,?_,hc⟩,?_,_,rfl⟩
 ·simp [L10p,zAH,zCF,h2,h3,rLoad,rLoadO,isVer,Res.also,isBox]
 ·rw [hk]; simp [L10p,zAH,zCF,h2,h3,rLoad,rLoadO,isVer,Res.also,isBox,cellsV]
 ·simp [L10p,zAH,zCF,h2,h3,rLoad,rLoadO,isVer,Res.also,isBox,cellsV,AV.cl,clL,hcl]
def RS (sz : Nat) (f : Nat->Nat) (c : AV) (K : zB) (rows : List (List AV)) : Prop := (rows = []/\c = zAl)\/∃ j v,c = .os (f j) v 0 rows.length/\K[j]? = some (.arr v sz rows)
theorem RS.app {sz : Nat} {f : Nat->Nat} {c : AV} {K : zB} {rows : List (List AV)} (h : RS sz f c K rows) (L : zB) : RS sz f c (K ++ L) rows :=
 h.imp id fun ⟨j,v,h1,h2⟩ => ⟨j,v,h1,by rw [zYD (zYr.1 h2).1]; exact h2⟩
section
variable {α : Type} (H l : List α) (y : α)
theorem ga1 : (H ++ l)[H.length + 1]? = l[1]? := zA4 H l 1
theorem ga2 : (H ++ l)[H.length + 1 + 1]? = l[2]? := zA4 H l 2
theorem ga3 : (H ++ l)[H.length + 1 + 1 + 1]? = l[3]? := zA4 H l 3
theorem ga4 : (H ++ l)[H.length + 1 + 1 + 1 + 1]? = l[4]? := zA4 H l 4
theorem sa1 : (H ++ l).set (H.length + 1) y = H ++ l.set 1 y := zEX H l 1 y
theorem sa4 : (H ++ l).set (H.length + 1 + 1 + 1 + 1) y = H ++ l.set 4 y := zEX H l 4 y
end
def PcI (L : List Ln) (v jj : Nat) (st : Nat × Nat × List Pr) (e' : Env) (G : zB) : Prop :=
 e' 2 = .ptr 0 0 0/\e' 3 = .ptr 1 0 0/\e' 4 = .ptr 3 0 0/\st.1 <= L.length/\L.length - st.1 <= st.2.1/\zBC L.length L = (zBC st.2.1 (L.drop st.1)).map (st.2.2 ++ ·) /\
 (∃ c T,G = .box [c] :: .box [int 0] :: rdB L (jj + 1 + 1 + 1 + 1) v st.1 :: .box [.ptr 2 0 0] :: T/\T[jj]? = some (lsO L v)/\RS 6 (fun j => j + 1 + 1 + 1 + 1) c T (st.2.2.map prR))/\st.2.2.length <= st.1
set_option maxHeartbeats 8000000 in
theorem zRT (s : Wd) (hs1 : s.length <= 1000000) (H : zB) : ACall Tryz.prog 10 [str s] H fun x H' => x = .tup [.agg [zAU (zAB s).1],int (zAB s).2]/\H' = H := by
 have hs0 : s.length <= 1048576 := by omega
 refine APure.frame (x := .tup [.agg [zAU (zAB s).1],int (zAB s).2]) ?_ rfl H
 have main : ACall Tryz.prog 10 [str s] [] fun x H' => (∃ c,x = .tup [.agg [c],int (zAB s).2]/\(c = zAU (zAB s).1\/(zAB s).1 = []/\c = zAl))/\H' = [] := by
  refine ACall.drop (R := fun x => ∃ c,x = .tup [.agg [c],int (zAB s).2]/\(c = zAU (zAB s).1\/(zAB s).1 = []/\c = zAl)) ?_
  refine zSu Tryz.func10 L10p_ok (zYu rfl) ?_
  show zQ0 _ L10p.res (PaR s) _ _ _
  generalize hres : L10p.res = res
  repeat' (first | simp -implicitDefEqProofs (disch := omega) only [L10p,zYB,zYG,zYs,zYw,zI,zT,push_cast,simprocAttr,↓reduceIte,zYp] | split)
  ·rename_i h; omega
  refine ⟨_,_,_,rfl,⟨_,Tryz.func22,by kernel_rfl,by kernel_rfl⟩,?_⟩
  refine zFB rfl ?_
  repeat' (simp -implicitDefEqProofs (disch := omega) only [zYB,zYG,zYv,zYx,zYE,zYC,zYs,zYw,push_cast,simprocAttr,↓reduceIte,zYp])
  refine zIW (zFB rfl ?_)
  repeat' (first | refine zAZ (zIa s 10 _) ?_ | simp -implicitDefEqProofs (disch := omega) only [zYB,zYG,zYs,zYw,push_cast,simprocAttr,↓reduceIte])
  refine zDw (zGl trivial rfl ?_)
  intro E0 hE l lr hy
  have e0 : E0 0 = str s := hE 0
  have e2 : E0 2 = .ptr 0 0 0 := hE 2
  have e3 : E0 3 = .ptr 1 0 0 := hE 3
  have e4 : E0 4 = .ptr 3 0 0 := hE 4
  clear hE
  let J1 : List Wd->Wd->zB->Prop := fun ps t G => ∃ c K,G = .box [zAl] :: .box [int 0] :: .box [c] :: .box [.ptr 2 0 0] :: .box [str t] :: .box [str [10]] :: .box [int 0] :: .lp l lr E0 .ready :: K/\RS 1 (fun j => j + 1 + 1 + 1 + 1 + 1 + 1 + 1 + 1) c K (((ps.map zEd).filter ne).map lnR)
  refine (zQg 10 l _ _ _ (s.length + 1) J1 (by decide) ?_ ?_ ?_ [] s hs0 (zEV 10 s) _ ⟨zAl,[],rfl,.inl ⟨rfl,rfl⟩⟩).mono ?_
  ·rintro ps t G ⟨c,K,rfl,h⟩
   exact ⟨rfl,rfl,rfl⟩
  ·rintro ps t t' G ⟨c,K,rfl,h⟩
   exact ⟨c,K,rfl,h⟩
  ·rintro ps p t G hpN hpl ⟨c,K,rfl,hRS⟩
   refine hy [str p] _ 7 _ rfl rfl ?_
   repeat' (simp -implicitDefEqProofs (disch := omega) only [zYv,zYx,zYE,zYC,push_cast])
   refine zDw (zFB rfl ?_)
   repeat' (simp -implicitDefEqProofs (disch := omega) only [zYB,zYs,push_cast,zYp])
   refine zIW (zFB rfl ?_)
   repeat' (first | refine zAZ (zIa p 32 _) ?_ | simp -implicitDefEqProofs (disch := omega) only [zYB,zYG,zYs,zYw,zYF,push_cast,simprocAttr,↓reduceIte])
   refine zDw (zGl ⟨7,lr,E0,.busy,rfl⟩ rfl ?_)
   intro E1 hE l2 lr2 hy2
   have f2 : E1 2 = .ptr 0 0 0 := (hE 2).trans e2
   have f3 : E1 3 = .ptr 1 0 0 := (hE 3).trans e3
   have f4 : E1 4 = .ptr 3 0 0 := (hE 4).trans e4
   have f6 := hE 6
   simp only [up] at f6
   clear hE
   let J2 : List Wd->Wd->zB->Prop := fun qs t2 G => ∃ c2 K2,G = .box [zAl] :: .box [int 0] :: .box [c] :: .box [.ptr 2 0 0] :: .box [str t] :: .box [str [10]] :: .box [int 0] :: .lp l lr E0 .busy :: (K ++ (.box [c2] :: .box [str t2] :: .box [str [32]] :: .box [int 0] :: .lp l2 lr2 E1 .ready :: K2))/\RS 1 (fun j => K.length + (j + 1 + 1 + 1 + 1 + 1) + 1 + 1 + 1 + 1 + 1 + 1 + 1 + 1) c2 K2 ((qs.filter ne).map sR)
   refine (zQg 32 l2 _ _ _ (p.length + 1) J2 ?_ ?_ ?_ ?_ [] p hpl (zEV 32 p) _ ?_).mono ?_
   ·exact ⟨by omega,by omega,by omega⟩
   ·rintro qs t2 G ⟨c2,K2,rfl,h⟩
    simp only [zYB,zYG,zYv,zYx,zYE,zYC,zYs,zYw,zYF,zDp,ga1,ga2,ga3]
    exact ⟨trivial,trivial,trivial⟩
   ·rintro qs t2 t3 G ⟨c2,K2,rfl,h⟩
    refine ⟨c2,K2,?_,h⟩
    simp only [zYB,zYG,zYv,zYx,zYE,zYC,zYs,zYw,zYF,sa1]
   ·rintro qs q t2 G hqN hql ⟨c2,K2,rfl,hRS2⟩
    have hlk : (K ++ (HO.box [c2] :: .box [str t2] :: .box [str [32]] :: .box [int 0] :: .lp l2 lr2 E1 .ready :: K2))[K.length + 4]? = some (.lp l2 lr2 E1 .ready) := zA4 K _ 4
    refine hy2 [str q] _ (K.length + 1 + 1 + 1 + 1 + 1 + 1 + 1 + 1 + 1 + 1 + 1 + 1) _ rfl hlk ?_
    repeat' (simp -implicitDefEqProofs (disch := omega) only [zYv,zYx,zYE,zYC,ga4,sa4,push_cast])
    refine zDw (zGm rfl ?_)
    by_cases hq : q = []
    ·subst hq
     repeat' (simp -implicitDefEqProofs (disch := omega) only [zYv,zYx,zYE,zYC,ga4,sa4,push_cast,↓reduceIte])
     refine ⟨c2,K2,rfl,?_⟩
     rw [List.filter_append,show List.filter ne [([] : Wd)] = [] from rfl,zY1]
     exact hRS2
    ·have hfq : (qs ++ [q]).filter ne = qs.filter ne ++ [q] := by
      rw [List.filter_append,zZC (zGN.2 hq)]; rfl
     have hlq : (qs.filter ne).length <= 1048577 := by
      have := List.length_filter_le ne qs
      omega
     rcases hRS2 with ⟨hz,rfl⟩ | ⟨j2,v2,rfl,hK2⟩
     ·repeat' (simp -implicitDefEqProofs (disch := omega) only [zYB,zYG,zYv,zYx,zYE,zYC,zYs,zYw,zYF,ga4,sa4,f6,zDp,zEW,hq,push_cast,simprocAttr,↓reduceIte,zYp])
      have hz' : qs.filter ne = [] := List.map_eq_nil_iff.1 hz
      refine ⟨_,_,rfl,.inr ⟨K2.length,0,?_,?_⟩⟩
      ·rw [hfq,hz']; rfl
      ·rw [hfq,hz']; simp [sR]
     ·have hj2 := (zYr.1 hK2).1
      repeat' (first | refine zYt (by omega) ?_ | simp -implicitDefEqProofs (disch := omega) only [zYB,zYG,zYv,zYx,zYE,zYC,zYs,zYw,ga4,sa4,f6,zDp,zEW,zA4,zEX,hq,hK2,zYo,push_cast,simprocAttr,↓reduceIte,zYp])
      refine ⟨_,_,rfl,.inr ⟨j2,v2 + 1,?_,?_⟩⟩
      ·rw [hfq,zYo,zYF]; rfl
      ·rw [hfq,zYU hj2]; simp [sR]
   ·refine ⟨zAl,[],?_,.inl ⟨rfl,rfl⟩⟩
    simp
   rintro x H' ⟨t2,c2,K2,rfl,hRS2⟩
   refine ⟨.ready,?_,?_⟩
   ·simp only [zYB,zYG,zYv,zYx,zYE,zYC,zYs,zYw,zYF]
    exact zA4 K _ 4
   refine zGm rfl ?_
   rw [show List.filter ne ([] ++ spB 32 p) = zEd p from rfl] at hRS2
   rcases hRS2 with ⟨hz,rfl⟩ | ⟨j2,v2,rfl,hK2⟩
   ·have hwd : zEd p = [] := List.map_eq_nil_iff.1 hz
    repeat' (simp -implicitDefEqProofs (disch := omega) only [zYv,zYx,zYE,zYC,zYs,zYw,zYF,sa4,f6,zDp,zEW,push_cast,simprocAttr,↓reduceIte])
    refine ⟨c,_,rfl,?_⟩
    rw [zzac,List.filter_append,zZA,zZQ,hwd,show List.filter ne [([] : Ln)] = [] from rfl,zY1]
    exact hRS.app _
   ·have hK2' : K2[j2]? = some (.arr v2 1 ((zEd p).map sR)) := hK2
    have hcw : zFj ((zEd p).map sR) = true := zAM (fun _ => rfl) _
    have htw : List.take (zEd p).length ((zEd p).map sR) = (zEd p).map sR := zYN (by simp)
    have hwb : (zEd p).length <= 1048577 := by
     have h1 := zEV 32 p
     have h2 := List.length_filter_le ne (spB 32 p)
     unfold zEd; omega
    by_cases hwn : (zEd p).length = 0
    ·have hwd : zEd p = [] := zYQ.1 hwn
     repeat' (first | refine zYt (by omega) ?_ | simp -implicitDefEqProofs (disch := omega) only [zYv,zYx,zYE,zYC,zYs,zYw,zYF,sa4,f6,zDp,zEW,zA4,zEX,hK2',zYo,hcw,htw,zT,push_cast,simprocAttr,↓reduceIte])
     refine ⟨c,_,rfl,?_⟩
     rw [zzac,List.filter_append,zZA,zZQ,hwd,show List.filter ne [([] : Ln)] = [] from rfl,zY1]
     exact hRS.app _
    have hln : ((ps.map zEd).filter ne).length <= 1048577 := by
     have := List.length_filter_le ne (ps.map zEd)
     rw [zYo] at this
     omega
    have hfp : ((ps ++ [p]).map zEd).filter ne = (ps.map zEd).filter ne ++ [zEd p] := by
     rw [zzac,List.filter_append,zZA,zZQ,zZC (zGN.2 fun h => hwn (by rw [h]; rfl))]; rfl
    rcases hRS with ⟨hz,rfl⟩ | ⟨j1,v1,rfl,hK1⟩
    ·repeat' (first | refine zYt (by omega) ?_ | simp -implicitDefEqProofs (disch := omega) only [zYB,zYG,zYv,zYx,zYE,zYC,zYs,zYw,zYF,sa4,f4,f6,zDp,zEW,zA4,zEX,hK2',zYo,hcw,htw,zI,push_cast,simprocAttr,↓reduceIte,zYp])
     have hz' : (ps.map zEd).filter ne = [] := List.map_eq_nil_iff.1 hz
     refine ⟨_,_,rfl,.inr ⟨K.length + (K2.length + 1 + 1 + 1 + 1 + 1),0,?_,?_⟩⟩
     ·rw [hfp,hz']; rfl
     ·rw [hfp,hz',zA4]; simp [lnR]
    ·have hj1 := (zYr.1 hK1).1
     repeat' (first | refine zYt (by omega) ?_ | simp -implicitDefEqProofs (disch := omega) only [zYB,zYG,zYv,zYx,zYE,zYC,zYs,zYw,zYF,sa4,f4,f6,zDp,zEW,zA4,zEX,zC,zO,hK2',hK1,zYo,hcw,htw,zI,push_cast,simprocAttr,↓reduceIte,zYp])
     refine ⟨_,_,rfl,.inr ⟨j1,v1 + 1,?_,?_⟩⟩
     ·rw [hfp,zYo,zYF]; rfl
     ·rw [hfp,zYD (by rw [zYP]; exact hj1),zYU hj1]; simp [lnR]
  ·rintro x H' ⟨t,c,K,rfl,hRS⟩
   refine ⟨.ready,rfl,?_⟩
   refine zGm rfl ?_
   rw [show List.filter ne (List.map zEd ([] ++ spB 10 s)) = zAY s from rfl] at hRS
   have hLs : zWQ (zAY s) := ⟨by have := zC2 s; omega,fun l hl => zIz hl,fun l hl => ⟨by have := (zBZ hl).1; omega,fun w hw => by have := (zBZ hl).2 w hw; omega⟩⟩
   have hpf : zAB s = match zBC (zAY s).length (zAY s) with | none => ([],3) | some ps => if zBM ps = true then (ps,0) else ([],1) := rfl
   have hcl : (zAY s).length <= s.length + 1 := zC2 s
   have hmem : ∀ l ∈ zAY s,l.length <= s.length + 1/\∀ w ∈ l,w.length <= s.length := fun l hl => zBZ hl
   generalize hL : zAY s = L at *
   rcases hRS with ⟨hz,rfl⟩ | ⟨j,v,rfl,hK⟩
   ·have hz' : L = [] := List.map_eq_nil_iff.1 hz
    subst hz'
    have cV := fun H => zD8 [] ⟨by decide,by decide,fun q hq => by cases hq⟩ H
    have hpf : zAB s = if zBM [] = true then ([],0) else ([],1) := hpf
    repeat' (simp -implicitDefEqProofs (disch := omega) only [zYE,zYC,zYs,zYw,push_cast,Nat.reduceAdd])
    refine zW (fun (_ : Unit) e' G => e' 2 = .ptr 0 0 0/\e' 3 = .ptr 1 0 0/\e' 4 = .ptr 3 0 0/\∃ T,G = .box [zAl] :: .box [int 0] :: .box [zAl] :: .box [.ptr 2 0 0] :: T) (fun _ => 0) () ?_ ?_
    ·exact ⟨e2,e3,e4,_,rfl⟩
    clear e2 e3 e4
    rintro _ e' G ⟨e2,e3,e4,T,rfl⟩
    subst hres
    cases hv : zBM [] with
    | false =>
     rw [hv] at cV hpf
     rw [if_neg (by decide)] at hpf
     repeat' (first | refine zA (cV _) ?_ | simp -implicitDefEqProofs (disch := omega) only [e2,e3,e4,zYB,zYG,zYv,zYx,zYE,zYC,zYs,zYw,push_cast,simprocAttr,↓reduceIte,zYp])
     refine zLj ?_ ?_ (by rw [hpf]) (.inr ⟨by rw [hpf],rfl⟩)
     ·first | exact e2 | rfl
     ·exact e3
    | true =>
     rw [hv] at cV hpf
     rw [if_pos rfl] at hpf
     repeat' (first | refine zA (cV _) ?_ | simp -implicitDefEqProofs (disch := omega) only [e2,e3,e4,zYB,zYG,zYv,zYx,zYE,zYC,zYs,zYw,push_cast,simprocAttr,↓reduceIte,zYp])
     refine zLj ?_ ?_ (by rw [hpf]) (.inl (by rw [hpf]; rfl))
     ·first | exact e2 | rfl
     ·exact e3
   repeat' (simp -implicitDefEqProofs (disch := omega) only [zYE,zYC,zYs,zYw,push_cast,Nat.reduceAdd])
   refine zW (PcI L v (j + 1 + 1 + 1 + 1)) (fun st => L.length - st.1) (0,L.length,[]) ?_ ?_
   ·exact ⟨e2,e3,e4,zYO _,zYH _,by simp,⟨zAl,.box [str t] :: .box [str [10]] :: .box [int 0] :: .dead :: K,by simp [rdB],hK,.inl ⟨rfl,rfl⟩⟩,zYO _⟩
   clear e2 e3 e4
   rintro ⟨a,n,ps⟩ e' G ⟨e2,e3,e4,q1,q2,law,⟨c,T,rfl,hT,hRS⟩,q3⟩
   simp only at q1 q2 law hRS q3
   have hrdB : rdB L (j + 1 + 1 + 1 + 1 + 1 + 1 + 1 + 1) v a = .box [.os (j + 1 + 1 + 1 + 1 + 1 + 1 + 1 + 1) v a (L.length - a)] := rfl
   have hT4 : T[j + 4]? = some (lsO L v) := hT
   have hlsO : lsO L v = .arr v 1 (L.map lnR) := rfl
   by_cases hlt : a < L.length
   rotate_left
   ·have hno : a = L.length := by omega
    subst hno
    have hps : zBC L.length L = some ps := by
     rw [law,zZ6]; cases n <;> simp [zBC]
    obtain ⟨hc1,hc2⟩ := zEB _ _ _ hps
    have hsm : zDY ps := ⟨by omega,by omega,fun q hq => by
     obtain ⟨⟨l,h1,h2,h3⟩,h4⟩ := hc2 q hq
     have := hmem l h1
     exact ⟨zZL (this.2 _ h2) hs0,by omega,by omega⟩⟩
    have cV := fun H => zD8 ps hsm H
    rw [hps] at hpf
    simp only at hpf
    have hcl6 : zFj (ps.map prR) = true := zAM zMR _
    have h0 : L.length - L.length = 0 := by omega
    rw [h0] at hrdB
    subst hres
    cases hv : zBM ps with
    | false =>
     rw [hv] at cV hpf
     rw [if_neg (by decide)] at hpf
     rcases hRS with ⟨hz,rfl⟩ | ⟨j1,v1,rfl,hK1⟩
     ·have hz' : ps = [] := List.map_eq_nil_iff.1 hz
      subst hz'
      repeat' (first | refine zA (cV _) ?_ | simp -implicitDefEqProofs (disch := omega) only [e2,e3,e4,zYB,zYG,zYv,zYx,zYE,zYC,zYs,zYw,hrdB,hT4,hlsO,push_cast,simprocAttr,↓reduceIte,zYp])
      refine zLj ?_ ?_ (by rw [hpf]) (.inr ⟨by rw [hpf],rfl⟩)
      ·first | exact e2 | rfl
      ·exact e3
     ·repeat' (first | refine zYt (by omega) ?_ | refine zA (cV _) ?_ | simp -implicitDefEqProofs (disch := omega) only [e2,e3,e4,zYB,zYG,zYv,zYx,zYE,zYC,zYs,zYw,hrdB,hT4,hlsO,hK1,hcl6,zYo,push_cast,simprocAttr,↓reduceIte,zYp])
      refine zLj ?_ ?_ (by rw [hpf]) (.inr ⟨by rw [hpf],rfl⟩)
      ·first | exact e2 | rfl
      ·exact e3
    | true =>
     rw [hv] at cV hpf
     rw [if_pos rfl] at hpf
     rcases hRS with ⟨hz,rfl⟩ | ⟨j1,v1,rfl,hK1⟩
     ·have hz' : ps = [] := List.map_eq_nil_iff.1 hz
      subst hz'
      repeat' (first | refine zA (cV _) ?_ | simp -implicitDefEqProofs (disch := omega) only [e2,e3,e4,zYB,zYG,zYv,zYx,zYE,zYC,zYs,zYw,hrdB,hT4,hlsO,push_cast,simprocAttr,↓reduceIte,zYp])
      refine zLj ?_ ?_ (by rw [hpf]) (.inl (by rw [hpf]; rfl))
      ·first | exact e2 | rfl
      ·exact e3
     ·repeat' (first | refine zYt (by omega) ?_ | refine zA (cV _) ?_ | simp -implicitDefEqProofs (disch := omega) only [e2,e3,e4,zYB,zYG,zYv,zYx,zYE,zYC,zYs,zYw,hrdB,hT4,hlsO,hK1,hcl6,zYo,push_cast,simprocAttr,↓reduceIte,zYp])
      refine zLj ?_ ?_ (by rw [hpf]) (.inl (by rw [hpf]))
      ·first | exact e2 | rfl
      ·exact e3
   have cN := zMz L (by omega) v a 2 (j + 1 + 1 + 1 + 1 + 1 + 1 + 1 + 1) hlt (.box [c] :: .box [int 0] :: rdB L (j + 1 + 1 + 1 + 1 + 1 + 1 + 1 + 1) v a :: .box [.ptr 2 0 0] :: T) rfl hT
   obtain ⟨w1,w2⟩ := hmem _ (zAf hlt)
   have wne := hLs.ne _ (zAf hlt)
   obtain ⟨n,rfl⟩ : ∃ n',n = n' + 1 := ⟨n - 1,by omega⟩
   rw [zKz hlt,zBC] at law
   generalize L.getD a default = l at *
   have hl0 := List.length_pos_iff.2 wne
   have hw0 : (l.map sR).getD 0 [] = sR (l.getD 0 default) := zL hl0
   have hh0 : l.headD [] = l.getD 0 default := by cases l <;> rfl
   have hbad : zBC L.length L = none->zAB s = ([],3) := fun h => by rw [hpf,h]
   by_cases h6 : l.getD 0 default = [112,114,111,99]
   rotate_left
   ·have hno : zBC L.length L = none := by
     rw [law]; unfold zOC; rw [if_neg fun h => h6 (hh0 ▸ h.1)]; rfl
    repeat' (first | refine zYt (by omega) ?_ | refine zK (zAO _) ?_ | refine zAZ (cN) ?_ | simp -implicitDefEqProofs (disch := omega) only [e4,zYB,zYG,zYv,zYx,zYE,zYC,zYs,zYw,hrdB,hT4,hlsO,hw0,sR,h6,zYo,zI,push_cast,simprocAttr,↓reduceIte])
    subst hres
    refine zPo ?_ ?_ (hbad hno)
    ·exact e2
    ·exact e3
   by_cases h5 : 5 <= l.length
   rotate_left
   ·have hno : zBC L.length L = none := by
     rw [law]; unfold zOC; rw [if_neg fun h => h5 h.2]; rfl
    repeat' (first | refine zYt (by omega) ?_ | refine zK (zAO _) ?_ | refine zAZ (cN) ?_ | simp -implicitDefEqProofs (disch := omega) only [e4,zYB,zYG,zYv,zYx,zYE,zYC,zYs,zYw,hrdB,hT4,hlsO,hw0,sR,h6,zYo,zI,zAG,push_cast,simprocAttr,↓reduceIte])
    subst hres
    refine zPo ?_ ?_ (hbad hno)
    ·exact e2
    ·exact e3
   have hdp : List.drop 2 (l.map sR) = (l.drop 2).map sR := zzau.symm
   have hts : List.take (l.length - 2) ((l.drop 2).map sR) = (l.drop 2).map sR := zYN (by simp)
   have hdl : (l.drop 2).length <= 1048576 := by simp; omega
   have hdw : ∀ w ∈ l.drop 2,w.length <= 1048576 := fun w hw => zZL (w2 w (zZx hw)) hs0
   have h1w : (l.map sR).getD 1 [] = sR (l.getD 1 default) := zL (by omega)
   have hpr : zOC l = (zBj (l.drop 2)).map fun ns => ⟨l.getD 1 [],ns.getD 0 0,ns.getD 1 0,ns.getD 2 0,ns.drop 3,[]⟩ := by
    unfold zOC; rw [if_pos ⟨by rw [hh0]; exact h6,h5⟩]
   rw [hpr] at law
   repeat' (first | refine zYt (by omega) ?_ | refine zD (zAy _) ?_ | refine zAZ (cN) ?_ | simp -implicitDefEqProofs (disch := omega) only [e4,zYB,zYG,zYv,zYx,zYE,zYC,zYs,zYw,hrdB,hT4,hlsO,hw0,sR,h6,hdp,hts,zYo,zI,zAg,push_cast,simprocAttr,↓reduceIte])
   refine zG (zIq (l.drop 2) hdl hdw _) ?_ ?_
   rotate_left
   ·rintro z H' ⟨hnum,rfl,junk,rfl⟩
    have hno : zBC L.length L = none := by rw [law,hnum]; rfl
    repeat' (simp -implicitDefEqProofs (disch := omega) only [zYB,push_cast])
    subst hres
    refine zPo ?_ ?_ (hbad hno)
    ·exact e2
    ·exact e3
   rintro x H' ⟨ns,hnum,rfl,rfl⟩
   have hnl := zCu hnum
   simp only [zZB] at hnl
   rw [hnum] at law
   simp only [zYZ] at law
   have n0 : (ns.map iR).getD 0 [] = iR (ns.getD 0 default) := zL (by omega)
   have n1 : (ns.map iR).getD 1 [] = iR (ns.getD 1 default) := zL (by omega)
   have n2 : (ns.map iR).getD 2 [] = iR (ns.getD 2 default) := zL (by omega)
   have hld : (l.drop 2).length = ns.length := by simp; omega
   have h3t : List.take (ns.length - 3) (List.drop 3 (ns.map iR)) = (ns.drop 3).map iR := by rw [<- zzau]; exact zYN (by simp)
   have h3l : (ns.drop 3).length = ns.length - 3 := zZB
   have h3b : ns.length <= 1048577 := by omega
   have h3c : zFj ((ns.drop 3).map iR) = true := zAM (fun _ => rfl) _
   have h3f : List.take (ns.length - 3) ((ns.drop 3).map iR) = (ns.drop 3).map iR := zYN (by simp)
   have h33 : 3 + (ns.length - 3) <= ns.length := by omega
   have hTl : T[j + 1 + 1 + 1 + 1]? = some (lsO L v) := hT
   have hjT := (zYr.1 hTl).1
   rw [hld]
   repeat' (first | refine zYt (by omega) ?_ | simp -implicitDefEqProofs (disch := omega) only [e4,zYB,zYG,zYv,zYx,zYE,zYC,zYs,zYw,zYF,h1w,n0,n1,n2,iR,sR,zDp,ga1,sa1,zYo,h3t,h3l,h33,push_cast,simprocAttr,↓reduceIte,zYp])
   have hTa : ∀ X,(T ++ X)[j + 1 + 1 + 1 + 1]? = some (lsO L v) := fun X => by rw [zYD hjT]; exact hTl
   have hTs : ∀ X o,(T ++ X).set (j + 1 + 1 + 1 + 1) o = T.set (j + 1 + 1 + 1 + 1) o ++ X := fun X o => zZ0 _ _ hjT
   have hTs0 : T.set (j + 1 + 1 + 1 + 1) (lsO L v) = T := by
    apply zzad
    intro i
    by_cases hi : i = j + 1 + 1 + 1 + 1
    ·rw [hi,zYU hjT,hTl]
    ·rw [zYL fun e => hi e.symm]
   refine zG (zU2 L hLs v ((L.drop (a + 1)).length + 1) zER (a + 1) (by decide) (by simp) (by omega) _ 2 (j + 1 + 1 + 1 + 1 + 1 + 1 + 1 + 1) (by omega) rfl (hTa _)) ?_ ?_
   rotate_left
   ·rintro z H' ⟨o1,o2,rfl,hn1,rfl,⟨b,rfl⟩,rfl⟩
    have hno : zBC L.length L = none := by rw [law,hn1]; rfl
    repeat' (simp -implicitDefEqProofs (disch := omega) only [zYE,zYC,hTs,hTs0,push_cast])
    subst hres
    refine zPo ?_ ?_ (hbad hno)
    ·exact e2
    ·exact e3
   rintro x H' ⟨o1,o2,rfl,bd,b,hs1,rfl,rfl,rfl,hb1,hb2⟩
   rw [hs1] at law
   simp only at law
   obtain ⟨q,hq⟩ : ∃ q : Pr,q = ⟨l.getD 1 [],ns.getD 0 0,ns.getD 1 0,ns.getD 2 0,ns.drop 3,bd⟩ := ⟨_,rfl⟩
   have law2 : zBC L.length L = (zBC n (L.drop b)).map (ps ++ [q] ++ ·) := by
    rw [law,Option.map_map,hq]; congr 1; funext x; simp
   have hrw : [str (l.getD 1 default),int (ns.getD 0 default),int (ns.getD 1 default),int (ns.getD 2 default),AV.sl 1 ((ns.drop 3).map iR),.sl 5 (bd.map zAq)] = prR q := by rw [hq]; rfl
   have hpb : ps.length <= 1048577 := by omega
   have hnx : ∀ (eE : Env) (T' : zB) (c' : AV),eE 2 = .ptr 0 0 0->eE 3 = .ptr 1 0 0->eE 4 = .ptr 3 0 0->T'[j + 1 + 1 + 1 + 1]? = some (lsO L v)->RS 6 (fun j => j + 1 + 1 + 1 + 1) c' T' ((ps ++ [q]).map prR) ->
     Nx (PcI L v (j + 1 + 1 + 1 + 1)) (fun st => L.length - st.1) (a,n + 1,ps) eE (.box [c'] :: .box [int 0] :: rdB L (j + 1 + 1 + 1 + 1 + 1 + 1 + 1 + 1) v b :: .box [.ptr 2 0 0] :: T') := fun eE T' c' h1 h2 h3 h4 h5 =>
    .mk (b,n,ps ++ [q]) ⟨h1,h2,h3,hb2,by simp only; omega,law2,⟨c',T',rfl,h4,h5⟩,by simp only [zYF,zYs,zYw]; omega⟩ (by simp only; omega)
   rcases hRS with ⟨hz,rfl⟩ | ⟨j1,v1,rfl,hK1⟩
   ·have hz' : ps = [] := List.map_eq_nil_iff.1 hz
    repeat' (first | refine zYt ⟨by omega,zAM (fun _ => rfl) _⟩ ?_ | simp -implicitDefEqProofs (disch := omega) only [e2,zYB,zYG,zYv,zYx,zYE,zYC,zYs,zYw,zYF,hTs,hTs0,h3f,h3l,zYo,push_cast,simprocAttr,↓reduceIte,zYp])
    refine hnx _ _ _ ?_ ?_ ?_ (hTa _) (.inr ⟨T.length + 3,0,?_,?_⟩)
    ·exact e2
    ·exact e3
    ·exact e4
    ·rw [hz']; rfl
    ·rw [zA4,hz',hrw]; rfl
   ·have hj1 := (zYr.1 hK1).1
    repeat' (first | refine zYt (by omega) ?_ | refine zYt ⟨by omega,zAM (fun _ => rfl) _⟩ ?_ | simp -implicitDefEqProofs (disch := omega) only [e2,zYB,zYG,zYv,zYx,zYE,zYC,zYs,zYw,hTs,hTs0,h3f,h3l,zYo,zC,zO,hK1,push_cast,simprocAttr,↓reduceIte,zYp])
    have hne : ¬ j1 = j + 1 + 1 + 1 + 1 := fun e => by
     rw [e,hTl] at hK1
     unfold lsO at hK1
     cases hK1
    refine hnx _ _ _ ?_ ?_ ?_ ?_ (.inr ⟨j1,v1 + 1,?_,?_⟩)
    ·exact e2
    ·exact e3
    ·exact e4
    ·rw [zYD (by rw [zYP]; exact hjT),zYL hne]; exact hTl
    ·rw [zYo,zYF]; rfl
    ·rw [zYD (by rw [zYP]; exact hj1),zYU hj1,hrw]; simp
 refine main.resTo fun x H' h => ?_
 obtain ⟨⟨c,rfl,hc⟩,rfl⟩ := h
 refine ⟨.tup [.agg [zAU (zAB s).1],int (zAB s).2],zOx (AV.Le.agg rfl fun i x y hx hy => ?_) (AV.Le.refl _),rfl,rfl⟩
 cases i with
 | zero =>
  cases hx; cases hy
  rcases hc with rfl | ⟨h1,rfl⟩
  ·exact AV.Le.refl _
  ·rw [h1]; exact AV.Le.nil 6
 | succ i => simp at hx
theorem zPG (l : List Int) (hl : l.length <= 1048576) (H : zB) : zBd 31 [.sl 1 (l.map iR),.sl 1 (l.map iR)] H (bool true) := by
 refine ACall.drop (R := fun x => x = bool true) ?_
 refine enter Tryz.func31 L31_ok (zYu rfl) ?_
 repeat' (simp -implicitDefEqProofs (disch := omega) only [L31,zYo,push_cast,simprocAttr,↓reduceIte])
 refine zW (fun (i : Nat) e' G => e' 0 = .sl 1 (l.map iR)/\e' 1 = .sl 1 (l.map iR)/\e' 5 = int i/\i <= l.length/\G = H) (fun i => l.length - i) 0 ?_ ?_
 ·exact ⟨rfl,rfl,rfl,zYO _,rfl⟩
 rintro i e' G ⟨g0,g1,g5,hi,rfl⟩
 by_cases hlt : i < l.length
 ·have hrow : (l.map iR).getD i [] = iR (l.getD i default) := zL hlt
  repeat' (first | refine zYt (by omega) ?_ | simp -implicitDefEqProofs (disch := omega) only [g0,g1,g5,hrow,iR,zYo,zI,push_cast,simprocAttr,↓reduceIte])
  exact .mk (i + 1) ⟨g0,g1,rfl,hlt,rfl⟩ (by omega)
 ·repeat' (simp -implicitDefEqProofs (disch := omega) only [g0,g5,zYo,zT,push_cast,simprocAttr,↓reduceIte])
  exact ⟨_,(zY1 _).symm⟩
theorem zPA : ∀ (n : Nat) (l : List Ins),zQ l <= n->n <= 1048576->∀ H : zB,zBd 32 [.sl 5 (l.map zAq),.sl 5 (l.map zAq)] H (bool true) := by
 intro n
 induction n using Nat.strongRecOn with
 | ind n ih =>
 intro l hl hn H
 have hll := zN l
 refine ACall.drop (R := fun x => x = bool true) ?_
 refine enter Tryz.func32 L32_ok (zYu rfl) ?_
 repeat' (simp -implicitDefEqProofs (disch := omega) only [L32,zYo,push_cast,simprocAttr,↓reduceIte])
 refine zW (fun (i : Nat) e' G => e' 0 = .sl 5 (l.map zAq)/\e' 1 = .sl 5 (l.map zAq)/\e' 5 = int i/\i <= l.length/\G = H) (fun i => l.length - i) 0 ?_ ?_
 ·exact ⟨rfl,rfl,rfl,zYO _,rfl⟩
 rintro i e' G ⟨g0,g1,g5,hi,rfl⟩
 by_cases hlt : i < l.length
 ·have hrow : (l.map zAq).getD i [] = zAq (l.getD i default) := zL hlt
  have hic : zBo (l.getD i default) <= zQ l := zC5 (zAf hlt)
  rw [zHD] at hrow
  generalize l.getD i default = x at *
  have c1 := fun H => ih (zQ x.body) (by cases x; simp only [zBo,Ins.body] at *; omega) x.body (zYH _) (by cases x; simp only [zBo,Ins.body] at *; omega) H
  have c2 := fun H => ih (zQ x.els) (by cases x; simp only [zBo,Ins.els] at *; omega) x.els (zYH _) (by cases x; simp only [zBo,Ins.els] at *; omega) H
  repeat' (first | refine zYt (by omega) ?_ | refine zF (c1 _) rfl ?_ | refine zF (c2 _) rfl ?_ | simp -implicitDefEqProofs (disch := omega) only [g0,g1,g5,hrow,zYo,List.drop_succ_cons,zZ9,zzaC,zI,push_cast,simprocAttr,↓reduceIte])
  exact .mk (i + 1) ⟨g0,g1,rfl,hlt,rfl⟩ (by omega)
 ·repeat' (simp -implicitDefEqProofs (disch := omega) only [g0,g5,zYo,zT,push_cast,simprocAttr,↓reduceIte])
  exact ⟨_,(zY1 _).symm⟩
theorem zP0 (ps : List Pr) (hs : zDY ps) (H : zB) : zBd 12 [.agg [zAU ps],.agg [zAU ps]] H (bool true) := by
 obtain ⟨hs1,hs2,hs3⟩ := hs
 refine APure.frame (x := bool true) ?_ rfl H
 refine ACall.drop (R := fun x => x = bool true) ?_
 refine enter Tryz.func12 L12_ok (zYu rfl) ?_
 repeat' (simp -implicitDefEqProofs (disch := omega) only [L12,zYB,zYG,zYv,zYx,zYs,zYw,zYo,zAz,push_cast,simprocAttr,↓reduceIte,zYp])
 refine zW (fun (i : Nat) e' G => e' 2 = .ptr 0 0 0/\e' 3 = .ptr 1 0 0/\e' 5 = int i/\i <= ps.length/\∃ J,G = .box [zAU ps] :: .box [zAU ps] :: J) (fun i => ps.length - i) 0 ?_ ?_
 ·exact ⟨rfl,rfl,rfl,zYO _,_,rfl⟩
 rintro i e' G ⟨g2,g3,g5,hi,J,rfl⟩
 by_cases hlt : i < ps.length
 ·have hrow : (ps.map prR).getD i [] = prR (ps.getD i default) := zL hlt
  obtain ⟨m1,m2,m3⟩ := hs3 _ (zAf hlt)
  generalize ps.getD i default = q at *
  have c1 := fun H => zPG q.outs m2 H
  have c2 := fun H => zPA (zQ q.body) q.body (zYH _) m3 H
  repeat' (first | refine zYt (by omega) ?_ | refine zA (c1 _) ?_ | refine zA (c2 _) ?_ | simp -implicitDefEqProofs (disch := omega) only [g2,g3,g5,hrow,prR,zYB,zYG,zYv,zYx,zYC,zYs,zYw,zYF,zDp,ga1,zYo,zAz,List.drop_succ_cons,zZ9,zzaC,splice,zI,push_cast,simprocAttr,↓reduceIte,zYp])
  exact .mk (i + 1) ⟨g2,g3,rfl,hlt,_,rfl⟩ (by omega)
 ·repeat' (simp -implicitDefEqProofs (disch := omega) only [g2,g5,zYv,zYs,zYw,zYo,zT,push_cast,simprocAttr,↓reduceIte])
  exact ⟨_,rfl⟩
theorem zMV (s : Wd) (hs : s.length <= 1000000) : zDY (zAB s).1 := by
 unfold zAB
 cases hp : zBC (zAY s).length (zAY s) with
 | none => exact ⟨by decide,by decide,fun q hq => by cases hq⟩
 | some ps =>
  simp only
  have hcl := zC2 s
  obtain ⟨hc1,hc2⟩ := zEB _ _ _ hp
  split
  ·exact ⟨show ps.length <= 1048576 by omega,show zA7 ps <= 1048576 by omega,fun q hq => by
    obtain ⟨⟨l,h1,h2,h3⟩,h4⟩ := hc2 q hq
    have := zBZ h1
    exact ⟨by have := this.2 _ h2; omega,by omega,by omega⟩⟩
  ·exact ⟨by decide,by decide,fun q hq => by cases hq⟩
end Go.Proofs.YtbibhcmcjldhdaaGreatDoor
namespace Go.Ax
open Go
set_option linter.unusedSimpArgs false
set_option linter.unusedVariables false
inductive Tr (α : Type) where
 | leaf
 | node (v : α) (l r : Tr α)
def Tr.getN {α : Type} (v : α) (gl gr : Nat->α) (i : Nat) : α := Nat.casesOn (motive := fun _ => α) i v fun n => cond (Nat.beq (Nat.mod n 2) 0) (gl (Nat.div n 2)) (gr (Nat.div n 2))
noncomputable def Tr.get {α : Type} (d : α) (t : Tr α) : Nat->α := Tr.rec (motive := fun _ => Nat->α) (fun _ => d) (fun v _ _ gl gr => Tr.getN v gl gr) t
def Tr.set {α : Type} (d x : α) : Nat->Nat->Tr α->Tr α
 | 0,_,t => t
 | f + 1,i,.leaf => Nat.casesOn i (.node x .leaf .leaf) fun n => cond (Nat.beq (Nat.mod n 2) 0) (.node d (set d x f (Nat.div n 2) .leaf) .leaf) (.node d .leaf (set d x f (Nat.div n 2) .leaf))
 | f + 1,i,.node v l r => Nat.casesOn i (.node x l r) fun n => cond (Nat.beq (Nat.mod n 2) 0) (.node v (set d x f (Nat.div n 2) l) r) (.node v l (set d x f (Nat.div n 2) r))
def Tr.setL {α β : Type} (d x : α) (ih : Nat->Tr α->(Tr α->β)->β) (i : Nat) (k : Tr α->β) : β :=
 Nat.casesOn (motive := fun _ => β) i (k (.node x .leaf .leaf)) fun n => cond (Nat.beq (Nat.mod n 2) 0) (ih (Nat.div n 2) .leaf fun l => k (.node d l .leaf)) (ih (Nat.div n 2) .leaf fun r => k (.node d .leaf r))
def Tr.setN {α β : Type} (x : α) (ih : Nat->Tr α->(Tr α->β)->β) (i : Nat) (k : Tr α->β) (v : α) (l r : Tr α) : β :=
 Nat.casesOn (motive := fun _ => β) i (k (.node x l r)) fun n => cond (Nat.beq (Nat.mod n 2) 0) (ih (Nat.div n 2) l fun l => k (.node v l r)) (ih (Nat.div n 2) r fun r => k (.node v l r))
def Tr.setS {α β : Type} (d x : α) (ih : Nat->Tr α->(Tr α->β)->β) (i : Nat) (t : Tr α) (k : Tr α->β) : β :=
 Tr.casesOn (motive := fun _ => β) t (Tr.setL d x ih i k) fun v l r => Tr.setN x ih i k v l r
noncomputable def Tr.setK {α β : Type} (d x : α) (f : Nat) : Nat->Tr α->(Tr α->β)->β :=
 Nat.rec (motive := fun _ => Nat->Tr α->(Tr α->β)->β) (fun _ t k => k t) (fun _ ih => Tr.setS d x ih) f
theorem Tr.setK_eq {α β : Type} (d x : α) : ∀ (f i : Nat) (t : Tr α) (k : Tr α->β),Tr.setK d x f i t k = k (t.set d x f i)
 | 0,i,t,k => by cases t <;> rfl
 | f + 1,0,.leaf,k => rfl
 | f + 1,0,.node v l r,k => rfl
 | f + 1,n + 1,.leaf,k => by
  show cond (Nat.beq (Nat.mod n 2) 0) (Tr.setK d x f (Nat.div n 2) .leaf fun l => k (.node d l .leaf)) (Tr.setK d x f (Nat.div n 2) .leaf fun r => k (.node d .leaf r)) = _;simp only [set];cases Nat.beq (Nat.mod n 2) 0 <;> simp [setK_eq d x f]
 | f + 1,n + 1,.node v l r,k => by
  show cond (Nat.beq (Nat.mod n 2) 0) (Tr.setK d x f (Nat.div n 2) l fun l => k (.node v l r)) (Tr.setK d x f (Nat.div n 2) r fun r => k (.node v l r)) = _;simp only [set];cases Nat.beq (Nat.mod n 2) 0 <;> simp [setK_eq d x f]
theorem Tr.get_leaf {α : Type} (d : α) (i : Nat) : (Tr.leaf : Tr α).get d i = d := rfl
theorem Tr.get_z {α : Type} (d v : α) (l r : Tr α) : (Tr.node v l r).get d 0 = v := rfl
theorem Tr.get_s {α : Type} (d v : α) (l r : Tr α) (n : Nat) : (Tr.node v l r).get d (n + 1) = if n % 2 = 0 then l.get d (n / 2) else r.get d (n / 2) := by
 show cond (Nat.beq (n % 2) 0) _ _ = _;by_cases h : n % 2 = 0
 ·rw [if_pos h,h]; rfl
 ·rw [if_neg h,show n % 2 = 1 by omega]; rfl
theorem Tr.set_s {α : Type} (d x v : α) (f n : Nat) (l r : Tr α) : (Tr.node v l r).set d x (f + 1) (n + 1) = if n % 2 = 0 then .node v (l.set d x f (n / 2)) r else .node v l (r.set d x f (n / 2)) := by
 show cond (Nat.beq (n % 2) 0) _ _ = _;by_cases h : n % 2 = 0
 ·rw [if_pos h,h]; rfl
 ·rw [if_neg h,show n % 2 = 1 by omega]; rfl
theorem Tr.set_l {α : Type} (d x : α) (f n : Nat) : (Tr.leaf : Tr α).set d x (f + 1) (n + 1) = if n % 2 = 0 then .node d ((Tr.leaf : Tr α).set d x f (n / 2)) .leaf else .node d .leaf ((Tr.leaf : Tr α).set d x f (n / 2)) := by
 show cond (Nat.beq (n % 2) 0) _ _ = _;by_cases h : n % 2 = 0
 ·rw [if_pos h,h]; rfl
 ·rw [if_neg h,show n % 2 = 1 by omega]; rfl
theorem Tr.get_set {α : Type} (d x : α) : ∀ (f i : Nat) (t : Tr α) (j : Nat),i < 2 ^ f - 1->(t.set d x f i).get d j = if j = i then x else t.get d j
 | 0,i,t,j,h => by simp at h
 | f + 1,0,.leaf,j,h => by
  show (Tr.node x .leaf .leaf).get d j = _;cases j with
  | zero => rfl
  | succ j => rw [get_s,get_leaf]; simp [get_leaf]
 | f + 1,0,.node v l r,j,h => by
  show (Tr.node x l r).get d j = _;cases j with
  | zero => rfl
  | succ j => rw [get_s,get_s]; simp
 | f + 1,n + 1,.leaf,j,h => by
  have hp : 2 ^ (f + 1) = 2 * 2 ^ f := by rw [zzaG]; omega
  have hn : n / 2 < 2 ^ f - 1 := by omega
  rw [set_l];cases j with
  | zero => split <;> simp [get_z,get_leaf]
  | succ j =>
   have e : (j = n) ↔ (j % 2 = n % 2/\j / 2 = n / 2) := by omega
   by_cases hn2 : n % 2 = 0
   ·rw [if_pos hn2,get_s];by_cases hj2 : j % 2 = 0
    ·rw [if_pos hj2,get_set d x f _ _ _ hn]; simp [get_leaf,e,hj2,hn2]
    ·rw [if_neg hj2]; simp [get_leaf,e,hj2,hn2]
   ·rw [if_neg hn2,get_s];by_cases hj2 : j % 2 = 0
    ·rw [if_pos hj2]; have : ¬ 0 = n % 2 := fun h => hn2 h.symm;simp [get_leaf,e,hj2,this]
    ·rw [if_neg hj2,get_set d x f _ _ _ hn];have e2 : j % 2 = n % 2 := by omega
     simp [get_leaf,e,e2]
 | f + 1,n + 1,.node v l r,j,h => by
  have hp : 2 ^ (f + 1) = 2 * 2 ^ f := by rw [zzaG]; omega
  have hn : n / 2 < 2 ^ f - 1 := by omega
  rw [set_s];cases j with
  | zero => split <;> simp [get_z]
  | succ j =>
   have e : (j = n) ↔ (j % 2 = n % 2/\j / 2 = n / 2) := by omega
   rw [get_s];by_cases hn2 : n % 2 = 0
   ·rw [if_pos hn2,get_s];by_cases hj2 : j % 2 = 0
    ·rw [if_pos hj2,if_pos hj2,get_set d x f _ _ _ hn]; simp [e,hj2,hn2]
    ·rw [if_neg hj2,if_neg hj2]; simp [e,hj2,hn2]
   ·rw [if_neg hn2,get_s];by_cases hj2 : j % 2 = 0
    ·rw [if_pos hj2,if_pos hj2]; have : ¬ 0 = n % 2 := fun h => hn2 h.symm;simp [e,hj2,this]
    ·rw [if_neg hj2,if_neg hj2,get_set d x f _ _ _ hn];have e2 : j % 2 = n % 2 := by omega
     simp [e,e2]
inductive Up where
 | keep
 | set (r : Nat) (o : HO)
 | push (o : HO)
 | set2 (r : Nat) (o : HO) (r' : Nat) (o' : HO)
def Up.app : Up->zB->zB
 | .keep,H => H
 | .set r o,H => H.set r o
 | .push o,H => H ++ [o]
 | .set2 r o r' o',H => (H.set r o).set r' o'
abbrev Rt := Option (AV × Up)
def gB (b : Bool) (x : AV) (u : Up) : Rt := cond b (some (x,u)) none
theorem zBR {b : Bool} {x y : AV} {u v : Up} (h : gB b x u = some (y,v)) : b = true/\x = y/\u = v := by
 cases b
 ·cases h
 ·simp only [gB,zZf,zYq,zYS] at h; exact ⟨rfl,h⟩
def zEP (t : Rt) (r : Res) (H : zB) : Prop := ∀ x u,t = some (x,u)->r.ok/\r.x = x/\r.H = u.app H
def ltI : Int->Int->Bool
 | .ofNat a,.ofNat b => Nat.blt a b
 | .negSucc _,.ofNat _ => true
 | .ofNat _,.negSucc _ => false
 | .negSucc a,.negSucc b => Nat.blt b a
def eqI : Int->Int->Bool
 | .ofNat a,.ofNat b => Nat.beq a b
 | .negSucc a,.negSucc b => Nat.beq a b
 | _,_ => false
def leI (a b : Int) : Bool := !ltI b a
theorem zGP (a b : Int) : ltI a b = decide (a < b) := by
 rw [zZJ,zYy];cases a <;> cases b <;> simp only [ltI,zZG,zYM,true_iff,zZT,zZ1] <;> omega
theorem zKH (a b : Int) : eqI a b = decide (a = b) := by
 rw [zZJ,zYy];cases a <;> cases b <;> simp only [eqI,Nat.beq_eq_true_eq,zYM,zZT,zZ1,zZe] <;> omega
theorem zQG (a b : Int) : leI a b = decide (a <= b) := by
 unfold leI;rw [zGP,zZJ];simp
def eqL : List UInt8->List UInt8->Bool
 | [],[] => true
 | a :: l,b :: m => cond (Nat.beq a.toNat b.toNat) (eqL l m) false
 | _,_ => false
theorem zIM : ∀ a b : List UInt8,eqL a b = decide (a = b)
 | [],[] => by simp [eqL]
 | [],_ :: _ => by simp [eqL]
 | _ :: _,[] => by simp [eqL]
 | a :: l,b :: m => by
  simp only [eqL];by_cases h : a.toNat = b.toNat
  ·rw [h,Nat.beq_refl,zZf,zIM l m];have e : a = b := zzav.1 h;simp [e]
  ·have hb : Nat.beq a.toNat b.toNat = false := by
    cases hh : Nat.beq a.toNat b.toNat
    ·rfl
    ·exact (h (zZo hh)).elim
   rw [hb,cond_false];have e : a ≠ b := fun e => h (by rw [e]);simp [e]
def eqB : Bool->Bool->Bool
 | true,true => true
 | false,false => true
 | _,_ => false
theorem zKI (a b : Bool) : eqB a b = decide (a = b) := by cases a <;> cases b <;> rfl
def eqK : IntKind->IntKind->Bool
 | .i64,.i64 => true
 | .u8,.u8 => true
 | .u64,.u64 => true
 | .i32,.i32 => true
 | _,_ => false
theorem zNV {a b : IntKind} (h : eqK a b = true) : a = b := by cases a <;> cases b <;> first | rfl | cases h
def zHf (k : IntKind) (n : Int) : Int := match k with
 | .i64 => cond (leI (-9223372036854775808) n && ltI n 9223372036854775808) n (IntKind.wrap .i64 n)
 | k => k.wrap n
theorem zHe (k : IntKind) (n : Int) : zHf k n = k.wrap n := by
 cases k <;> try rfl
 simp only [zHf];rw [zQG,zGP];by_cases h : -9223372036854775808 <= n/\n < 9223372036854775808
 ·rw [zY3 h.1,zY3 h.2,zL0 n h.1 h.2]; rfl
 ·have : (decide (-9223372036854775808 <= n) && decide (n < 9223372036854775808)) = false := by
   rw [zZz]
   simpa using h
  rw [this]; rfl
def fN {β : Type} (n : Nat) (k : Nat->β) : β := Nat.casesOn n (k 0) fun m => k (m + 1)
def fI {β : Type} (n : Int) (k : Int->β) : β := Int.casesOn n (fun m => fN m fun m => k (.ofNat m)) (fun m => fN m fun m => k (.negSucc m))
theorem zE4 {β : Type} (n : Nat) (k : Nat->β) : fN n k = k n := by cases n <;> rfl
theorem zSm {β : Type} (n : Int) (k : Int->β) : fI n k = k n := by cases n <;> simp [fI,zE4]
def cl1 : AV->Bool
 | .os .. => false
 | .ptr .. => false
 | .pe .. => false
 | .om .. => false
 | .agg _ => false
 | .tup _ => false
 | .fn _ [] [] => true
 | .fn _ _ _ => false
 | _ => true
def clT : AV->Bool
 | .agg cs => cs.all cl1
 | x => cl1 x
def cl2 : AV->Bool
 | .agg cs => cs.all cl1
 | .tup cs => cs.all fun x => match x with | .agg cs => cs.all cl1 | x => cl1 x
 | .fn _ a b => a.all cl1 && b.all cl1
 | x => cl1 x
theorem zN9 {x : AV} (h : cl1 x = true) : x.cl = true := by
 cases x with
 | fn f a b => cases a <;> cases b <;> simp [cl1] at h; simp [AV.cl,clL]
 | _ => first | (simp [cl1] at h; done) | simp [AV.cl]
theorem zDt : ∀ {l : List AV},l.all cl1 = true->clL l = true
 | [],_ => by simp [clL]
 | x :: l,h => by
  simp only [zzaA,zYA] at h;simp only [clL,zYA];exact ⟨zN9 h.1,zDt h.2⟩
theorem zQP : ∀ {l : List AV},l.all clT = true->clL l = true
 | [],_ => by simp [clL]
 | x :: l,h => by
  simp only [zzaA,zYA] at h;simp only [clL,zYA];refine ⟨?_,zQP h.2⟩;cases x with
  | agg cs => simp only [AV.cl]; exact zDt h.1
  | _ => exact zN9 h.1
theorem zN7 {x : AV} (h : cl2 x = true) : x.cl = true := by
 cases x with
 | agg cs => simp only [AV.cl]; exact zDt h
 | tup cs =>
  simp only [AV.cl];exact zQP h
 | fn f a b =>
  simp only [cl2,zYA] at h;simp only [AV.cl,zYA];exact ⟨zDt h.1,zDt h.2⟩
 | _ => exact zN9 h
def zMb (ag : Bool) (n off : Nat) (cs : List AV) (b : Bool) : Rt := gB (b && (Nat.ble (off + n) cs.length && (ag || Nat.beq n 1))) (cellsV ag n (cs.drop off)) .keep
theorem zFm {ag : Bool} {n off : Nat} {cs : List AV} {b : Bool} {x : AV} {u : Up} (h : zMb ag n off cs b = some (x,u)) : b = true/\off + n <= cs.length/\(ag = true\/n = 1)/\cellsV ag n (cs.drop off) = x/\u = .keep := by
 obtain ⟨h1,h2,h3⟩ := zBR h;simp only [zYA,zZN,zZq,zZe] at h1;exact ⟨h1.1,h1.2.1,h1.2.2,h2,h3.symm⟩
def zI5 (ag : Bool) (n : Nat) (g : Nat->Option HO) : AV->Rt
 | .vp cs off => zMb ag n off cs true
 | .ptr r ver off => match g r with
  | some (.box cs) => zMb ag n off cs (Nat.beq ver 0)
  | _ => none
 | .pe r ver i off => match g r with
  | some (.arr v sz xs) => cond (Nat.ble (off + n) sz) (zMb ag n off (xs.getD i []) (Nat.beq ver v && Nat.blt i xs.length)) none
  | _ => none
 | _ => none
theorem zHk {ag : Bool} {n : Nat} {H : zB} {p : AV} : zEP (zI5 ag n (fun r => H[r]?) p) (rLoad ag n p H) H := by
 intro x u h;cases p with
 | vp cs off =>
  obtain ⟨_,h1,h2,h3,rfl⟩ := zFm h;exact ⟨⟨h1,h2⟩,h3,rfl⟩
 | ptr r ver off =>
  simp only [zI5] at h;split at h
  ·rename_i cs hr;obtain ⟨h0,h1,h2,h3,rfl⟩ := zFm h;have h0 := zZo h0;subst h0;simp only [rLoad,hr,rLoadO,Res.also,isBox,isVer];exact ⟨⟨⟨trivial,trivial⟩,h1,h2⟩,h3,rfl⟩
  ·cases h
 | pe r ver i off =>
  simp only [zI5] at h;split at h
  ·rename_i v sz xs hr;cases hb : Nat.ble (off + n) sz
   ·rw [hb] at h; cases h
   ·rw [hb,zZf] at h;obtain ⟨h0,h1,h2,h3,rfl⟩ := zFm h;simp only [zYA,zZe,zZG] at h0;obtain ⟨rfl,h0⟩ := h0;simp only [rLoad,hr,rLoadO,Res.also,isArr,isVer];exact ⟨⟨⟨trivial,trivial⟩,h0,zYu hb,h2⟩,h3,rfl⟩
  ·cases h
 | _ => cases h
def zGy (n : Nat) (g : Nat->Option HO) (p x : AV) : Rt :=
 match p with
 | .ptr r ver off => match g r with
  | some (.box cs) => gB (Nat.beq ver 0 && Nat.ble (off + n) cs.length && Nat.beq (cellsOf x).length n && c1s (cellsOf x)) .any (.set r (.box (splice cs off (cellsOf x))))
  | _ => none
 | .pe r ver i off => match g r with
  | some (.arr v sz xs) => gB (Nat.beq ver v && Nat.blt i xs.length && Nat.ble (off + n) sz && Nat.beq (cellsOf x).length n && c1s (cellsOf x)) .any (.set r (.arr v sz (xs.set i (splice (xs.getD i []) off (cellsOf x)))))
  | _ => none
 | _ => none
theorem zHZ {n : Nat} {H : zB} {p x : AV} : zEP (zGy n (fun r => H[r]?) p x) (rStore n p x H) H := by
 intro y u h;cases p with
 | ptr r ver off =>
  simp only [zGy] at h;split at h
  ·rename_i cs hr;obtain ⟨h1,h2,h3⟩ := zBR h;simp only [zYA,zZN,zZe] at h1;obtain ⟨⟨⟨rfl,a1⟩,a2⟩,a3⟩ := h1;simp only [rStore,hr,rStoreO,Res.also,isBox,isVer];exact ⟨⟨⟨trivial,trivial⟩,a1,a2,a3⟩,h2,by rw [<- h3]; rfl⟩
  ·cases h
 | pe r ver i off =>
  simp only [zGy] at h;split at h
  ·rename_i v sz xs hr;obtain ⟨h1,h2,h3⟩ := zBR h;simp only [zYA,zZN,zZe,zZG] at h1;obtain ⟨⟨⟨⟨rfl,a1⟩,a2⟩,a3⟩,a4⟩ := h1;simp only [rStore,hr,rStoreO,Res.also,isArr,isVer];exact ⟨⟨⟨trivial,trivial⟩,a1,a2,a3,a4⟩,h2,by rw [<- h3]; rfl⟩
  ·cases h
 | _ => cases h
def zW5 (imm : Bool) (n : Nat) (x : AV) : Rt := cond imm (gB (c1s (cellsOf x) && (cellsOf x).all cl1) (.vp (cellsOf x) 0) .keep) (gB (c1s (cellsOf x)) (.ptr n 0 0) (.push (.box (cellsOf x))))
theorem zRd {imm : Bool} {x : AV} {H : zB} : zEP (zW5 imm H.length x) (rBox imm x H) H := by
 intro y u h;cases imm with
 | true =>
  obtain ⟨h1,h2,h3⟩ := zBR h;simp only [zYA] at h1;exact ⟨⟨h1.1,zDt h1.2⟩,h2,by rw [<- h3]; rfl⟩
 | false =>
  obtain ⟨h1,h2,h3⟩ := zBR h;exact ⟨h1,h2,by rw [<- h3]; rfl⟩
def zKZ : List AV->List (Nat × Nat × AV)->Option (List AV)
 | cs,[] => some cs
 | cs,(off,n,x) :: ps => cond (Nat.beq (cellsOf x).length n && Nat.ble (off + n) cs.length && c1s (cellsOf x)) (zKZ (splice cs off (cellsOf x)) ps) none
theorem zJY : ∀ {ps : List (Nat × Nat × AV)} {cs r : List AV},zKZ cs ps = some r->(fillA cs ps).1/\(fillA cs ps).2 = r
 | [],cs,r,h => by simp only [zKZ,zYq] at h; exact ⟨trivial,h⟩
 | (off,n,x) :: ps,cs,r,h => by
  simp only [zKZ] at h;cases hb : (Nat.beq (cellsOf x).length n && Nat.ble (off + n) cs.length && c1s (cellsOf x))
  ·rw [hb] at h; cases h
  ·rw [hb,zZf] at h;simp only [zYA,zZN,zZe] at hb;obtain ⟨h1,h2⟩ := zJY h;exact ⟨⟨⟨hb.1.1,hb.1.2,hb.2⟩,h1⟩,h2⟩
def zH3 (sz : Nat) : List (List AV)->List (Nat × AV)->Option (List (List AV))
 | xs,[] => some xs
 | xs,(i,x) :: ps => cond (Nat.beq (cellsOf x).length sz && Nat.blt i xs.length && c1s (cellsOf x) && (cellsOf x).all cl1) (zH3 sz (xs.set i (cellsOf x)) ps) none
theorem zH2 {sz : Nat} : ∀ {ps : List (Nat × AV)} {xs r : List (List AV)},zH3 sz xs ps = some r->(fillS sz xs ps).1/\(fillS sz xs ps).2 = r
 | [],xs,r,h => by simp only [zH3,zYq] at h; exact ⟨trivial,h⟩
 | (i,x) :: ps,xs,r,h => by
  simp only [zH3] at h;cases hb : (Nat.beq (cellsOf x).length sz && Nat.blt i xs.length && c1s (cellsOf x) && (cellsOf x).all cl1)
  ·rw [hb] at h; cases h
  ·rw [hb,zZf] at h;simp only [zYA,zZG,zZe] at hb;obtain ⟨h1,h2⟩ := zH2 h;exact ⟨⟨⟨hb.1.1.1,hb.1.1.2,hb.1.2,zDt hb.2⟩,h1⟩,h2⟩
def zVR (imm : Bool) (sz len n : Nat) (zs : List AV) (ps : List (Nat × AV)) : Rt :=
 match zH3 sz (List.replicate len zs) ps with
 | some r => cond imm (some (cond (Nat.beq len 0) .nc (.sl sz r),.keep)) (some (.os n 0 0 len,.push (.arr 0 sz r)))
 | none => none
theorem zRc {imm : Bool} {sz len : Nat} {zs : List AV} {ps : List (Nat × AV)} {H : zB} : zEP (zVR imm sz len H.length zs ps) (rBsl imm sz len zs ps H) H := by
 intro y u h;simp only [zVR] at h;split at h
 ·rename_i r hr;obtain ⟨h1,h2⟩ := zH2 hr;cases imm with
  | true =>
   simp only [zZf,zYq,zYS] at h;simp only [rBsl,if_true];refine ⟨h1,?_,by rw [<- h.2]; rfl⟩;rw [h2,<- h.1];by_cases h0 : len = 0
   ·subst h0; rfl
   ·rw [if_neg h0];have hb : Nat.beq len 0 = false := by cases len with | zero => exact absurd rfl h0 | succ n => rfl
    rw [hb]; rfl
  | false =>
   simp only [cond_false,zYq,zYS] at h;simp only [rBsl,zYM,if_false];exact ⟨h1,h.1,by rw [<- h.2,h2]; rfl⟩
 ·cases h
def vI (op : BinOp) (k k' : IntKind) (a b : Int) : Option AV :=
 cond (eqK k k') (match op with
  | .add => fI (zHf k (a + b)) fun n => some (.v (.int k n))
  | .sub => fI (zHf k (a - b)) fun n => some (.v (.int k n))
  | .mul => fI (zHf k (a * b)) fun n => some (.v (.int k n))
  | .quo => cond (eqI b 0) none (fI (zHf k (a.tdiv b)) fun n => some (.v (.int k n)))
  | .rem => cond (eqI b 0) none (fI (a.tmod b) fun n => some (.v (.int k n)))
  | .eql => some (bool (eqI a b))
  | .neq => some (bool (!eqI a b))
  | .lss => some (bool (ltI a b))
  | .leq => some (bool (leI a b))
  | .gtr => some (bool (ltI b a))
  | .geq => some (bool (leI b a))
  | _ => none) none
theorem zW1 {op : BinOp} {k k' : IntKind} {a b : Int} {x : AV} (H : zB) (h : vI op k k' a b = some x) : (iBin op k k' a b H).ok/\(iBin op k k' a b H).x = x/\(iBin op k k' a b H).H = H := by
 unfold vI at h;cases hk : eqK k k' with
 | false => rw [hk] at h; cases h
 | true =>
  rw [hk,zZf] at h;have hkk := zNV hk;cases op <;> simp only [zSm,zHe,zKH,zGP,zQG,zYq] at h <;> first | (cases h; done) | exact ⟨hkk,h,rfl⟩ | skip
  all_goals
   by_cases hb : b = 0
   ·simp [hb] at h
   ·simp only [hb,decide_false,cond_false,zYq] at h;exact ⟨⟨hkk,hb⟩,h,rfl⟩
def vS (op : BinOp) (a b : List UInt8) : Option AV :=
 match op with
 | .add => cond (Nat.ble (a.length + b.length) 9223372036854775807) (some (str (a ++ b))) none
 | .eql => some (bool (eqL a b))
 | .neq => some (bool (!eqL a b))
 | .lss => some (bool (Op.bytesLess a b))
 | .geq => some (bool (!Op.bytesLess a b))
 | _ => none
theorem zW0 {op : BinOp} {a b : List UInt8} {x : AV} (H : zB) (h : vS op a b = some x) : (sBin op a b H).ok/\(sBin op a b H).x = x/\(sBin op a b H).H = H := by
 cases op <;> simp only [vS,zIM,zYq] at h <;> first | (cases h; done) | exact ⟨trivial,h,rfl⟩ | skip
 cases hb : Nat.ble (a.length + b.length) 9223372036854775807
 ·rw [hb] at h; cases h
 ·rw [hb,zZf,zYq] at h;have := zYu hb;refine ⟨?_,h,rfl⟩;show ((a.length + b.length : Nat) : Int) <= 9223372036854775807;omega
def vC : List KD->List AV->List AV->Option Bool
 | [],[],[] => some true
 | .int :: ks,.v (.int k a) :: l,.v (.int k' b) :: m => cond (eqK k k') (match vC ks l m with | some r => some (eqI a b && r) | none => none) none
 | .str :: ks,.v (.string a) :: l,.v (.string b) :: m => match vC ks l m with | some r => some (eqL (bs a) (bs b) && r) | none => none
 | .bool :: ks,.v (.bool a) :: l,.v (.bool b) :: m => match vC ks l m with | some r => some (eqB a b && r) | none => none
 | _,_,_ => none
theorem zW4 : ∀ {ks : List KD} {l m : List AV} {r : Bool},vC ks l m = some r->(cEq ks l m).1/\(cEq ks l m).2 = r := by
 intro ks;induction ks with
 | nil =>
  intro l m r h;cases l <;> cases m <;> simp [vC] at h;subst h;exact ⟨trivial,rfl⟩
 | cons k ks ih =>
  intro l m r h;cases k <;> cases l <;> cases m <;> (try simp only [vC] at h) <;> first | (cases h; done) | skip
  all_goals (rename_i x l y m; cases x <;> (try simp only [vC] at h) <;> first | (cases h; done) | skip)
  all_goals (rename_i v; cases v <;> (try simp only [vC] at h) <;> first | (cases h; done) | skip)
  all_goals (cases y <;> (try simp only [vC] at h) <;> first | (cases h; done) | skip)
  all_goals (rename_i v; cases v <;> (try simp only [vC] at h) <;> first | (cases h; done) | skip)
  ·rename_i k a k' b;cases hk : eqK k k' with
   | false => rw [hk] at h; cases h
   | true =>
    rw [hk,zZf] at h;have hkk := zNV hk;subst hkk;split at h
    ·rename_i r' hr;obtain ⟨h1,h2⟩ := ih hr;simp only [zYq] at h;refine ⟨⟨⟨rfl,rfl,by simp [kCmp]⟩,h1⟩,?_⟩;rw [<- h,<- h2,zKH];simp only [cEq,kEq]
     congr 1
     rw [zZJ]; simp
    ·cases h
  ·split at h
   ·rename_i r' hr;obtain ⟨h1,h2⟩ := ih hr;simp only [zYq] at h;refine ⟨⟨⟨rfl,rfl,rfl⟩,h1⟩,?_⟩;rw [<- h,<- h2,zIM];simp only [cEq,kEq]
    congr 1
    rw [zZJ]; simp
   ·cases h
  ·split at h
   ·rename_i r' hr;obtain ⟨h1,h2⟩ := ih hr;simp only [zYq] at h;refine ⟨⟨⟨rfl,rfl,rfl⟩,h1⟩,?_⟩;rw [<- h,<- h2,zKI];simp only [cEq,kEq]
    congr 1
   ·cases h
def vEq (op : BinOp) (b : Bool) : Option AV :=
 match op with
 | .eql => some (bool b)
 | .neq => some (bool (!b))
 | _ => none
def zVS (kd : KD) (op : BinOp) (x y : AV) : Option AV :=
 match x,y with
 | .v (.int k a),.v (.int k' b) => vI op k k' a b
 | .v (.string a),.v (.string b) => vS op (bs a) (bs b)
 | .v (.bool a),.v (.bool b) => match kd with | .bool => vEq op (eqB a b) | _ => none
 | .agg xs,.agg ys => match kd with
  | .agg ks => match vC ks xs ys with | some b => vEq op b | none => none
  | _ => none
 | _,_ => none
theorem zQb {op : BinOp} {b : Bool} {p : Prop} {x : AV} (H : zB) (hp : p) (h : vEq op b = some x) : (eqRes op p b H).ok/\(eqRes op p b H).x = x/\(eqRes op p b H).H = H := by
 cases op <;> simp only [vEq,zYq] at h <;> first | (cases h; done) | exact ⟨hp,h,rfl⟩
theorem zRe {kd : KD} {op : BinOp} {x y z : AV} (H : zB) (h : zVS kd op x y = some z) : (rBin kd op x y H).ok/\(rBin kd op x y H).x = z/\(rBin kd op x y H).H = H := by
 unfold zVS at h;split at h
 ·exact zW1 H h
 ·exact zW0 H h
 ·split at h
  ·rw [zKI] at h; exact zQb H rfl h
  ·cases h
 ·split at h
  ·split at h
   ·rename_i b hb;obtain ⟨h1,h2⟩ := zW4 hb;simp only [rBin];rw [h2];exact zQb H h1 h
   ·cases h
  ·cases h
 ·cases h
end Go.Ax
