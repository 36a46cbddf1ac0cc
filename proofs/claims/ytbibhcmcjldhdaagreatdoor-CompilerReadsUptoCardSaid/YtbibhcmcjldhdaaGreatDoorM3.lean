/- Parts,merged by a program (wip/tools/merge2.py): Ax20g Ax20h Ax20i Ax20j Ax20k Ax21 Ax22 Ax24 Ax25 Ax27 Ax4b Fv Shelf Vl1 Ft Ax3 Ax23 Ax26. -/
import Derived.Test.YtbibhcmcjldhdaaGreatDoorM2
import Derived.RangeFuncIn
import Derived.RangeFuncLeaves
import Derived.RangeFuncRecord
import Derived.Below
import Derived.ChangeSame
import Derived.Carry
import Derived.ChangeArms
import Derived.ProofKit
import Derived.HandedShaped
import Derived.Shelf.Vars
import Derived.Test.YtbibhcmcjldhdaaGreatDoorRows
import Derived.JoinedCond
import Derived.Test.YtbibhcmcjldhdaaGreatDoorChecked
import Derived.Shelf.Strings.Builder1
import Derived.Shelf.Strings.Builder2
import Derived.Shelf.Strings.OnBuilder
import Derived.Shelf.Strings.BuilderF
import Derived.Shelf.Strings.Search1
import Derived.Shelf.Strings.Search2
import Derived.Shelf.Strings.Search3
import Derived.Shelf.LaysM
import Derived.Shelf.Strings.Shaped
import Derived.Shelf.Strings.Prefix
import Derived.Shelf.Bits.Mul64
import Derived.Shelf.Strings.Repeat
import Derived.Shelf.Unicode.DecodeSlow
import Derived.Test.YtbibhcmcjldhdaaGreatDoorProg
import Derived.KernelRfl
namespace Go.Ax
open Go Go.RowKit
set_option linter.unusedSimpArgs false
set_option linter.unusedVariables false
section
variable {B : DB} {P : Program} {w w0 : World} {X : Nat → Prop} {ρ ρ0 : Nat → Loc} {H H' ext : zA} {e e1 em : Env} {a : Act} {n n0 : Nat}
variable {ops : Array Oper} {hd : List LO} {xs : Nat → AV} {T : List Nat} {hs : List Hn} {reg h : Nat}
def zGk (Q : Exit → Act → World → Prop) (N : Act → World → Prop) : Exit → Act → World → Prop
 | .normal => N
 | .exit id => Q (.exit id)
 | .goto l => Q (.goto l)
 | .ret => Q .ret
 | .panic c => Q (.panic c)
 | .outgrown => Q .outgrown
theorem zJf {F : Fence} {m : Nat} {o : Oper} {next : Act → World → Prop} {Q : Exit → Act → World → Prop} {N : Act → World → Prop} (h : o.wpIn F m P a w next (zGk Q N)) : o.wpIn F m P a w next Q := by
 unfold Oper.wpIn at *
 refine ⟨h.1,?_⟩
 have hh := h.2
 generalize (o.semAt F.round a.eval).run P w = r at *
 cases r with
 | ok x w' =>
  cases x <;> simp only [Oper.uponIn] at hh ⊢ <;>
   first
    | exact hh
    | exact ⟨hh.1,CallsIn.mono hh.2 (fun e w'' he => by cases e <;> exact he)⟩
    | exact ⟨hh.1,RoundIn.mono hh.2 (fun e w'' he => by cases e <;> exact he)⟩
 | halt x w' => cases x <;> simp only [Oper.uponIn] at hh ⊢ <;> exact hh
theorem zEN (hk : zEh ops h = true) : h ≤ ops.size ∧ (∀ i j,i < h → h ≤ j → j < ops.size → ((Region.before ops).getD j 0).testBit i = true) ∧ ∀ i o jb,i < h → ops[i]? = some o → o.guard = some jb → jb.1 < h := by
 unfold zEh at hk
 simp only [zYX,zY5,zZb,zZE,zZM] at hk
 obtain ⟨⟨h1,h2⟩,h3⟩ := hk
 refine ⟨h1,fun i j hi hj hjs => ?_,fun i o jb hi ho hg => ?_⟩
 ·rcases h2 j hjs with h4 | h4
  ·omega
  ·exact h4 i hi
 ·have := h3 i hi
  rw [ho] at this
  simp only [zZt,zZR,hg,Option.all_some,zY5] at this
  exact this
theorem zJV (hle : h ≤ ops.size) {i : Nat} (hi : i < h) : (ops.extract 0 h)[i]? = ops[i]? := by
 rw [Array.getElem?_extract]
 simp only [zzaK,zZw]
 rw [if_pos (by omega)]
theorem zKV (hle : h ≤ ops.size) : (ops.extract 0 h).size = h := by
 rw [Array.size_extract]
 omega
theorem zJd (hle : h ≤ ops.size) (tmps : Array Value) {j : Nat} (hj : j < h) : yielded (ops.extract 0 h) tmps j = yielded ops tmps j := by
 unfold yielded
 rw [zJV hle hj]
theorem zIl {F : Fence} {m : Nat} {Q : Exit → Act → World → Prop} (hE : zAg ops = true) (hk : zEh ops h = true) :
  ∀ (fuel : Nat) (l' l : Array Bool) (a : Act) (w : World),l'.size = h → l.size = ops.size → (∀ k,k < h → l'.getD k false = l.getD k false) → (∀ k,h ≤ k → l.getD k false = false) → Closed ops l → fuel = left l' h →
   wpAnyIn F m P .any (ops.extract 0 h) (zGk Q fun a w => ∀ l2 : Array Bool,l2.size = ops.size → (∀ k,k < h → l2.getD k false = true) → (∀ k,h ≤ k → l2.getD k false = false) → Closed ops l2 → wpAnyIn F m P .any ops Q (ops.size - h) l2 a w) fuel l' a w →
   wpAnyIn F m P .any ops Q (fuel + (ops.size - h)) l a w := by
 obtain ⟨hle,hbef,hgd⟩ := zEN hk
 intro fuel
 induction fuel with
 | zero =>
  intro l' l a w s1 s2 h1 h2 hc hf hh
  rw [zZw]
  refine hh.2 l s2 (fun k hk => ?_) h2 hc
  rw [← h1 k hk]
  cases hb : l'.getD k false with
  | true => rfl
  | false =>
   rw [zP (by omega)] at hb
   have := zCM hb h hk
   omega
 | succ fuel ih =>
  intro l' l a w s1 s2 h1 h2 hc hf hh
  have hun : ∃ i,i < h ∧ l.getD i true = false := by
   refine zZo fun hno => ?_
   have := zBt (listed := l') (h := h) h fun j hj => by
    rw [← zP (by omega),h1 j hj,zP (by omega)]
    cases hb : l.getD j true with
    | true => simp [hj]
    | false => exact absurd ⟨j,hj,hb⟩ hno
   omega
  obtain ⟨i0,hi0,hi0u,hi0l⟩ := zCo hun
  have hr0 : i0 ∈ Region.ready .any ops l := zB4 hE (by omega) hi0u fun j hj => by rw [zP (by omega)]; exact hi0l j hj
  rw [show fuel + 1 + (ops.size - h) = (fuel + (ops.size - h)) + 1 by omega]
  refine ⟨fun h0 => by rw [h0] at hr0; simp at hr0,fun i hi => ?_⟩
  obtain ⟨hiu,oi,hoi,hiall⟩ := mem_ready.1 hi
  have his : i < ops.size := (zY8.1 hoi).1
  have hih : i < h := by
   refine zZo fun hge => ?_
   have g1 := zJ hc i oi i0 hoi (hbef i0 i hi0 (by omega) his) hiall
   rw [zP (by omega),hi0u] at g1
   cases g1
  have hi' : i ∈ Region.ready .any (ops.extract 0 h) l' := by
   refine mem_ready.2 ⟨by rw [← zP (by omega),h1 i hih,zP (by omega)]; exact hiu,oi,by rw [zJV hle hih]; exact hoi,fun ed hed hb => ?_⟩
   have hel : ed.on < i := by
    unfold zAg at hE
    have g1 := zZb.1 hE i (zZE.2 his)
    rw [hoi] at g1
    simp only [zZt,zZR] at g1
    have g2 := Array.all_eq_true'.1 g1 ed hed
    simpa [hb] using g2
   rw [h1 ed.on (by omega)]
   exact hiall ed hed hb
  have hx := hh.2 i hi'
  unfold wpOpIn at hx ⊢
  rw [zJV hle hih,hoi] at hx
  rw [hoi]
  simp only at hx ⊢
  have hw : Region.wanted oi (yielded (ops.extract 0 h) a.tmps) = Region.wanted oi (yielded ops a.tmps) := by
   unfold Region.wanted
   cases hg : oi.guard with
   | none => rfl
   | some jb =>
    obtain ⟨j,b⟩ := jb
    simp only
    rw [zJd hle _ (hgd i oi _ hih hoi hg)]
  rw [hw] at hx
  have hK : ∀ a w,wpAnyIn F m P .any (ops.extract 0 h) (zGk Q fun a w => ∀ l2 : Array Bool,l2.size = ops.size → (∀ k,k < h → l2.getD k false = true) → (∀ k,h ≤ k → l2.getD k false = false) → Closed ops l2 → wpAnyIn F m P .any ops Q (ops.size - h) l2 a w) fuel (l'.setIfInBounds i true) a w → wpAnyIn F m P .any ops Q (fuel + (ops.size - h)) (l.setIfInBounds i true) a w := by
   intro a w
   refine ih _ _ a w (by simpa using s1) (by simpa using s2) (fun k hk => ?_) (fun k hk => ?_) (hc.set hi) ?_
   ·rw [zO,zO,h1 k hk]
    by_cases hki : k = i
    ·rw [if_pos ⟨hki,by omega⟩,if_pos ⟨hki,by omega⟩]
    ·rw [if_neg fun hh => hki hh.1,if_neg fun hh => hki hh.1]
   ·rw [zO,if_neg (by omega)]
    exact h2 k hk
   ·have g := zCL (listed := l') (i := i) (by rw [← zP (by omega),h1 i hih,zP (by omega)]; exact hiu) h
    rw [if_pos hih] at g
    omega
  split
  ·rename_i hw; rw [if_pos hw] at hx; exact Oper.wpIn_mono hK (zJf hx)
  ·rename_i hw; rw [if_neg hw] at hx; exact ⟨hx.1,hK _ _ hx.2⟩
theorem zKJ {lo : LO} (hg : lo.g = none) (hk : zLK lo.op = true) {l : List LO} {K : Env → zA → Prop} (hh : zAi P (lo :: l) e H K) :
  ∃ x,zAi P l (ups e lo.d x) H K ∧ ∀ (e' : Env) (l' : List LO) (K' : Env → zA → Prop),(∀ t ∈ lo.rd,e t = e' t) → zAi P l' (ups e' lo.d x) H K' → zAi P (lo :: l') e' H K' := by
 obtain ⟨d,g,op⟩ := lo
 simp only at hg hk
 subst hg
 cases op <;> simp only [zLK] at hk <;> try (cases hk)
 case mv x =>
  have hh : zAi P l (ups e d (ev e x)) H K := by simpa [zAi,aop,zAW] using hh
  refine ⟨ev e x,hh,fun e' l' K' hr hl => ?_⟩
  have e1 : ev e' x = ev e x := (zY fun t ht => hr t (by simp [LO.rd,LOp.rd,ht])).symm
  simp only [zAi,aop,zAW,e1]
  exact ⟨trivial,hl⟩
 case ext x i =>
  have hh : (rExt (ev e x) i H).ok ∧ zAi P l (ups e d (rExt (ev e x) i H).x) (rExt (ev e x) i H).H K := by simpa [zAi,aop,zAW] using hh
  have hH : (rExt (ev e x) i H).H = H := by unfold rExt; split <;> rfl
  rw [hH] at hh
  refine ⟨_,hh.2,fun e' l' K' hr hl => ?_⟩
  have e1 : ev e' x = ev e x := (zY fun t ht => hr t (by simp [LO.rd,LOp.rd,ht])).symm
  simp only [zAi,aop,zAW,e1]
  rw [hH]
  exact ⟨hh.1,hl⟩
theorem zGW {lo : LO} (hg : lo.g = none) (hk : zLK lo.op = true) {l2 : List LO} {K : Env → zA → Prop} : ∀ (l1 : List LO) (e : Env),(∀ c ∈ l1,c.g = none ∧ zLK c.op = true ∧ zZ c lo = false) → zAi P (l1 ++ lo :: l2) e H K → zAi P (lo :: (l1 ++ l2)) e H K
 | [],e,_,hh => hh
 | c :: l1,e,hc,hh => by
  obtain ⟨c1,c2,c3⟩ := hc c (by simp)
  obtain ⟨f1,f2,f3⟩ := zAT c3
  obtain ⟨x,hx,hre⟩ := zKJ c1 c2 (l := l1 ++ lo :: l2) hh
  have h2 := zGW hg hk l1 _ (fun c hc' => hc c (by simp [hc'])) hx
  obtain ⟨y,hy,hre2⟩ := zKJ hg hk h2
  refine hre2 e _ K (fun t ht => ?_) (hre _ _ K (fun t ht => ?_) ?_)
  ·cases hd : c.d with
   | none => rfl
   | some u =>
    simp only [ups]
    unfold up
    rw [if_neg]
    rintro rfl
    exact f1 _ hd ht
  ·cases hd : lo.d with
   | none => rfl
   | some u =>
    simp only [ups]
    unfold up
    rw [if_neg]
    rintro rfl
    exact f2 _ hd ht
  ·have : ups (ups e lo.d y) c.d x = ups (ups e c.d x) lo.d y := by
    cases hd : c.d with
    | none => rfl
    | some u =>
     cases hd2 : lo.d with
     | none => rfl
     | some v =>
      have : u ≠ v := fun huv => f3 u hd (by rw [hd2,huv])
      funext t
      simp only [ups,up]
      by_cases h1 : t = u
      ·subst h1
       rw [if_pos rfl,if_neg this,if_pos rfl]
      ·rw [if_neg h1,if_neg h1]
   rw [this]
   exact hy
theorem zNO (hk : zIM P n hs reg ops h = true) : (∀ j o,h ≤ j → ops[j]? = some o → ∃ imm,zAy P n imm ops o = some (zAn P n hs reg ops j)) ∧ (∀ j,h ≤ j → j < ops.size → (zAn P n hs reg ops j).g = none ∧ zLK (zAn P n hs reg ops j).op = true) ∧
  ∀ i j,h ≤ i → i < j → j < ops.size → ((Region.before ops).getD j 0).testBit i = true ∨ zZ (zAn P n hs reg ops i) (zAn P n hs reg ops j) = false := by
 unfold zIM at hk
 simp only [zYX,zZb,zZE,zZM,zY5,zZL] at hk
 obtain ⟨h1,h2⟩ := hk
 refine ⟨fun j o hj ho => ?_,fun j hj hjs => ?_,fun i j hi hij hjs => ?_⟩
 ·have hjs := (zY8.1 ho).1
  rcases h1 j hjs with g | ⟨⟨g1,g2⟩,g3⟩
  ·omega
  ·refine ⟨zAZ hs reg j,?_⟩
   rw [ho] at g1
   unfold zAn
   rw [ho]
   simp only [zZt,zzax,zYT] at g1 ⊢
   cases hl : zAy P n (zAZ hs reg j) ops o with
   | none => rw [hl] at g1; simp at g1
   | some lo => rfl
 ·rcases h1 j hjs with g | ⟨⟨g1,g2⟩,g3⟩
  ·omega
  ·exact ⟨by simpa using g2,g3⟩
 ·rcases h2 j hjs i hij with (g | g) | g
  ·omega
  ·exact .inl g
  ·exact .inr g
theorem zPX {r : Option Nat} {m0 : Nat} {K : Env → zA → Prop} {Q : Exit → Act → World → Prop} {pres : List LO} (hE : zAg ops = true) (hk : zIM P n hs reg ops h = true) (hg : zC5 n pres = true)
  (hQ : ∀ e' H' a' w',K e' H' → St B X w0 ρ0 n0 n e' H' a' w' → Q .normal a' w') :
  ∀ (fuel : Nat) (R : List Nat) (l : Array Bool) (e : Env) (H : zA) (a : Act) (w : World),R.length = fuel → l.size = ops.size → R.Pairwise (· < ·) → (∀ j,j ∈ R ↔ h ≤ j ∧ j < ops.size ∧ l.getD j false = false) → (∀ j,j < h → j < ops.size → l.getD j false = true) → Closed ops l →
   zAi P (R.map (zAn P n hs reg ops) ++ pres) e H K → St B X w0 ρ0 n0 n e H a w → wpAnyIn (WR r) m0 P .any ops Q fuel l a w := by
 obtain ⟨k1,k2,k3⟩ := zNO hk
 intro fuel
 induction fuel with
 | zero =>
  intro R l e H a w hR hs hp hm hlo hc hh hst
  obtain rfl := zZh.1 hR
  refine ⟨zZS.2 fun i hi => ?_,?_⟩
  ·obtain ⟨h1,o,h2,_⟩ := mem_ready.1 hi
   have his := (zY8.1 h2).1
   rw [← zP (by omega)] at h1
   by_cases hih : i < h
   ·rw [hlo i hih his] at h1; cases h1
   ·have := (hm i).2 ⟨by omega,his,h1⟩
    simp at this
  ·obtain ⟨e2,H2,g1,g2⟩ := zAf pres (los := []) hg (by simpa using hh) hst
   exact hQ _ _ _ _ g1 g2
 | succ fuel ih =>
  intro R l e H a w hR hs hp hm hlo hc hh hst
  have hun : ∃ i,i < ops.size ∧ l.getD i true = false := by
   cases R with
   | nil => simp at hR
   | cons i R =>
    obtain ⟨_,g2,g3⟩ := (hm i).1 (by simp)
    exact ⟨i,g2,by rw [← zP (by omega)]; exact g3⟩
  obtain ⟨i0,hi0,hi0u,hi0l⟩ := zCo hun
  have hr0 : i0 ∈ Region.ready .any ops l := zB4 hE (by omega) hi0u fun j hj => by rw [zP (by omega)]; exact hi0l j hj
  refine ⟨fun h0 => by rw [h0] at hr0; simp at hr0,fun i hi => ?_⟩
  obtain ⟨hiu,oi,hoi,hiall⟩ := mem_ready.1 hi
  have his : i < ops.size := (zY8.1 hoi).1
  have hiuf : l.getD i false = false := by rw [zP (by omega)]; exact hiu
  have hih : h ≤ i := by
   refine zZo fun hlt => ?_
   rw [hlo i (by omega) his] at hiuf
   cases hiuf
  have hiR : i ∈ R := (hm i).2 ⟨hih,his,hiuf⟩
  obtain ⟨R1,R2,rfl⟩ := List.append_of_mem hiR
  obtain ⟨g1,g2⟩ := k2 i hih his
  have hlt1 : ∀ j ∈ R1,j < i := fun j hj => (List.pairwise_append.1 hp).2.2 j hj i (by simp)
  rw [zzaA,zZG,zZx,zY9] at hh
  have hh2 := zGW g1 g2 _ _ (fun c hcm => by
   obtain ⟨j,hj,rfl⟩ := zZK.1 hcm
   obtain ⟨q1,q2,q3⟩ := (hm j).1 (by simp [hj])
   obtain ⟨r1,r2⟩ := k2 j q1 q2
   refine ⟨r1,r2,?_⟩
   rcases k3 j i q1 (hlt1 j hj) his with s | s
   ·have := zJ hc i oi j hoi s hiall
    rw [q3] at this
    cases this
   ·exact s) hh
  obtain ⟨imm,hlow⟩ := k1 i oi hih hoi
  have hnx := zA4 (r := r) (m0 := m0) hlow hh2 hst (next := wpAnyIn (WR r) m0 P .any ops Q fuel (l.setIfInBounds i true)) (Q := Q) fun e'' H'' a'' w'' hK'' hs'' => by
   have hnd : i ∉ R1 ++ R2 := by
    intro hmem
    rcases zZv.1 hmem with hmem | hmem
    ·have := hlt1 i hmem; omega
    ·have := (List.pairwise_cons.1 (List.pairwise_append.1 hp).2.1).1 i hmem; omega
   refine ih (R1 ++ R2) _ e'' H'' a'' w'' (by simp at hR ⊢; omega) (by simpa using hs) (hp.sublist (by simp)) (fun j => ?_) (fun j hj hjs => ?_) (hc.set hi) (by rw [zzaA,zZx]; exact hK'') hs''
   ·rw [zO]
    constructor
    ·intro hj
     have hji : j ≠ i := fun hji => hnd (hji ▸ hj)
     obtain ⟨q1,q2,q3⟩ := (hm j).1 (by
      rcases zZv.1 hj with hj | hj
      ·exact List.mem_append_left _ hj
      ·exact List.mem_append_right _ (by simp [hj]))
     exact ⟨q1,q2,by rw [if_neg fun hh => hji hh.1]; exact q3⟩
    ·rintro ⟨q1,q2,q3⟩
     have hji : j ≠ i := by
      rintro rfl
      rw [if_pos ⟨rfl,by omega⟩] at q3
      cases q3
     rw [if_neg fun hh => hji hh.1] at q3
     have := (hm j).2 ⟨q1,q2,q3⟩
     rcases zZv.1 this with hj | hj
     ·exact List.mem_append_left _ hj
     ·rcases zZr.1 hj with hj | hj
      ·exact absurd hj hji
      ·exact List.mem_append_right _ hj
   ·rw [zO]
    split
    ·rfl
    ·exact hlo j hj hjs
  unfold wpOpIn
  rw [hoi]
  simp only
  exact hnx
theorem zOm {r : Option Nat} {m0 : Nat} {K : Env → zA → Prop} {Z : Value → zA → Prop} {Q : Exit → Act → World → Prop} (hD : zCT P n hs reg (ops.extract 0 h) T = true) (hE1 : zAg (ops.extract 0 h) = true) (hE : zAg ops = true) (hk : zEh ops h = true) (hl : zIM P n hs reg ops h = true)
  (hp : (zAb hs reg h).isEmpty = true) (hg : zC5 n (zAb hs reg ops.size) = true)
  (hK : zAF P (hdA P n hs reg (ops.extract 0 h) T) e H fun e1 => zEI P (hdA P n hs reg (ops.extract 0 h) T) e1 (tlX P n hs reg (ops.extract 0 h) T 0) e1 H (fun e' H' => zAi P ((List.range' h (ops.size - h)).map (zAn P n hs reg ops) ++ zAb hs reg ops.size) e' H' K) Z) (hst : St B X w0 ρ0 n0 n e H a w)
  (hQ : ∀ e' H' a' w',K e' H' → St B X w0 ρ0 n0 n e' H' a' w' → Q .normal a' w')
  (hZ : ∀ v H' a' w',Z v H' → St B X w0 ρ0 n0 n (zPT e (hdA P n hs reg (ops.extract 0 h) T) (tlX P n hs reg (ops.extract 0 h) T 0)) H' a' w' → Q (.panic [{ v,recovered := false }]) a' w') : wpAnyIn (WR r) m0 P .any ops Q ops.size (Array.replicate ops.size false) a { w with drawn := w.drawn + 1 } := by
 have hle := (zEN hk).1
 have hsz := zKV (ops := ops) hle
 have hpn : zAb hs reg h = [] := zzav.1 hp
 have hz : ∀ (m j : Nat),(Array.replicate m false).getD j false = false := fun m j => getD_replicate_false _ _
 have hclz : ∀ m,Closed ops (Array.replicate m false) := fun m j oj _ hlj => by rw [hz] at hlj; cases hlj
 have h1 := zGb (r := r) (m0 := m0) (Q := zGk Q fun a w => ∀ l2 : Array Bool,l2.size = ops.size → (∀ k,k < h → l2.getD k false = true) → (∀ k,h ≤ k → l2.getD k false = false) → Closed ops l2 → wpAnyIn (WR r) m0 P .any ops Q (ops.size - h) l2 a w)
  (K := fun e' H' => zAi P ((List.range' h (ops.size - h)).map (zAn P n hs reg ops) ++ zAb hs reg ops.size) e' H' K) (Z := Z) hD hE1 (by rw [hsz,hpn]; rfl) (by rw [hsz,hpn]; exact hK) hst
  (fun e' H' a' w' hk' hs' => ?_) (fun v H' a' w' hz hs' => hZ v H' a' w' hz hs')
 ·have h2 := zIl (P := P) hE hk h (Array.replicate h false) (Array.replicate ops.size false) a { w with drawn := w.drawn + 1 } (by simp) (by simp) (fun k _ => by rw [hz,hz]) (fun k _ => hz _ _) (hclz _) (by
   have := zBt (listed := Array.replicate h false) (h := 0) h fun j hj => by rw [← zP (by simpa using hj),hz]; simp
   omega) (by rw [hsz] at h1; exact h1)
  rw [show h + (ops.size - h) = ops.size by omega] at h2
  exact h2
 ·intro l2 q1 q2 q3 q4
  refine zPX (B := B) (X := X) (w0 := w0) (ρ0 := ρ0) (n0 := n0) hE hl hg hQ (ops.size - h) (List.range' h (ops.size - h)) l2 e' H' a' w' (by simp) q1 List.pairwise_lt_range' (fun j => ?_) (fun j hj _ => q2 j hj) q4 hk' hs'
  rw [List.mem_range'_1]
  constructor
  ·rintro ⟨s1,s2⟩; exact ⟨s1,by omega,q3 j s1⟩
  ·rintro ⟨s1,s2,_⟩; omega
end
section
variable {P : Program} {w w' : World} {X M M' M'' : Nat → Prop} {ρ ρ' : Nat → Loc} {H : zA} {n n' : Nat}
theorem Rep.narrow {x : AV} {u : Value} (h : Rep w M' ρ 0 x u) (hM : ∀ b,M'' b → M' b) : Rep w M'' ρ 0 x u :=
 h.fut (n0 := 0) (Fut.refl _ _ _) (fun b _ hb hb' => hb (hM b hb')) (fun b _ ⟨r,o,hr,_⟩ => by omega) (zZa _)
theorem Rep.scope {x : AV} {u0 : Value} (h0 : Rep w M ρ n x u0) (hM : ∀ b,M'' b → M' b) : ∀ {u : Value},Rep w' M' ρ' n' x u → Rep w' M'' ρ' n x u := by
 induction h0 with
 | any => intro u _; exact .any _ _
 | v => intro u h; cases h; exact .v _ _
 | agg n cs us hl _ ih =>
  intro u h
  cases h with
  | agg _ _ us' hl' h' =>
   refine .agg _ _ _ hl' fun i x u hx hu => ?_
   have hlt : i < us.size := by rw [← hl]; exact (zYU.1 hx).1
   exact ih i x us[i] hx (by simp [hlt]) (h' i x u hx hu)
 | tup n cs us hl _ ih =>
  intro u h
  cases h with
  | tup _ _ us' hl' h' =>
   refine .tup _ _ _ hl' fun i x u hx hu => ?_
   have hlt : i < us.size := by rw [← hl]; exact (zYU.1 hx).1
   exact ih i x us[i] hx (by simp [hlt]) (h' i x u hx hu)
 | nc => intro u h; cases h; exact .nc _ _
 | bnil => intro u h; cases h; exact .bnil _ _
 | slE =>
  intro u h
  cases h with
  | slE => exact .slE _ _ _ _
  | slN _ _ _ b o cap c hm hb hcap hsz hcell hc => exact .slN _ _ _ _ _ _ c (fun h => hm (hM _ h)) hb hcap hsz hcell fun i j x y hx hy => (hc i j x y hx hy).narrow hM
 | slN =>
  intro u h
  cases h with
  | slE => exact .slE _ _ _ _
  | slN _ _ _ b o cap c hm hb hcap hsz hcell hc => exact .slN _ _ _ _ _ _ c (fun h => hm (hM _ h)) hb hcap hsz hcell fun i j x y hx hy => (hc i j x y hx hy).narrow hM
 | vp =>
  intro u h
  cases h with
  | vp _ _ _ b o c hm hb hcell hc => exact .vp _ _ _ _ _ c (fun h => hm (hM _ h)) hb hcell fun j y hy => (hc j y hy).narrow hM
 | fn n f first caps fs us h1 h2 _ _ ih1 ih2 =>
  intro u h
  cases h with
  | fn _ _ _ _ fs' us' g1 g2 g3 g4 =>
   refine .fn _ _ _ _ _ _ g1 g2 (fun i x u hx hu => ?_) (fun i x u hx hu => ?_)
   ·have hlt : i < fs.size := by rw [← h1]; exact (zYU.1 hx).1
    exact ih1 i x fs[i] hx (by simp [hlt]) (g3 i x u hx hu)
   ·have hlt : i < us.size := by rw [← h2]; exact (zYU.1 hx).1
    exact ih2 i x us[i] hx (by simp [hlt]) (g4 i x u hx hu)
 | mp =>
  intro u h
  cases h with
  | mp _ _ _ b es clock hm hb hh hks hvs hc => exact .mp _ _ _ _ es clock (fun h => hm (hM _ h)) hb hh hks hvs fun i x e hx he => (hc i x e hx he).narrow hM
 | os n r ver off len u hr _ _ _ =>
  intro u h
  cases h with
  | os _ _ _ _ _ _ _ hle h1 hp => exact .os _ _ _ _ _ _ hr hle h1 hp
 | ptr n r ver off u hr _ _ _ =>
  intro u h
  cases h with
  | ptr _ _ _ _ _ _ hle h1 hp => exact .ptr _ _ _ _ _ hr hle h1 hp
 | pe n r ver i off u hr _ _ _ =>
  intro u h
  cases h with
  | pe _ _ _ _ _ _ _ hle h1 hp => exact .pe _ _ _ _ _ _ hr hle h1 hp
 | om n r ver u hr _ _ _ =>
  intro u h
  cases h with
  | om _ _ _ _ _ hle h1 hp => exact .om _ _ _ _ hr hle h1 hp
theorem ObjOk.scope {l l' : Loc} {o : HO} (h0 : ObjOk w M ρ n l o) (hM : ∀ b,M'' b → M' b) (h : ObjOk w' M' ρ' n' l' o) : ObjOk w' M'' ρ' n l' o := by
 cases o with
 | dead => trivial
 | box cs =>
  obtain ⟨_,_,c0,_,_,_,_,hl0,_,h06⟩ := h0
  obtain ⟨h1,b,c,e,fr,h2,h3,h4,h5,h6⟩ := h
  refine ⟨h1,b,c,e,fr,h2,h3,h4,h5,fun j y u hy hu => ⟨?_,(h6 j y u hy hu).2⟩⟩
  have hlt : j < c0.size := by rw [← hl0]; exact (zYU.1 hy).1
  exact (h06 j y c0[j] hy (by simp [hlt])).1.scope hM (h6 j y u hy hu).1
 | arr ver sz xs =>
  obtain ⟨_,_,h03,h04,h05,h06⟩ := h0
  obtain ⟨h1,h2,h3,h4,h5,h6⟩ := h
  refine ⟨h1,h2,h3,h4,h5,?_⟩
  have old : ∀ (i j : Nat) (x : List AV) (y : AV),xs[i]? = some x → x[j]? = some y → ∃ u0,Rep w M ρ n y u0 := fun i j x y hx hy => by
   cases hb : l.blk with
   | none => rw [hb] at h06; simp only at h06; subst h06; simp at hx
   | some bo =>
    obtain ⟨b,o⟩ := bo
    rw [hb] at h06
    obtain ⟨c,e,fr,g1,g2,g3,g4⟩ := h06
    have hi := (zYU.1 hx).1
    have hj := (zYU.1 hy).1
    rw [h04 x (zZp hx)] at hj
    have hm : (i + 1) * sz ≤ xs.length * sz := zZB _ hi
    have hlt : o + i * sz + j < c.size := by rw [zZO] at hm; omega
    exact ⟨c[o + i * sz + j],(g4 i j x y _ hx hy (by simp [hlt])).1⟩
  split
  ·rename_i hl; rw [hl] at h6; exact h6
  ·rename_i b o hl
   rw [hl] at h6
   obtain ⟨c,e,fr,g1,g2,g3,g4⟩ := h6
   exact ⟨c,e,fr,g1,g2,g3,fun i j x y u hx hy hu => ⟨(old i j x y hx hy).elim fun u0 h0 => h0.scope hM (g4 i j x y u hx hy hu).1,(g4 i j x y u hx hy hu).2⟩⟩
 | map ver ks vs =>
  obtain ⟨h1,b,es,clock,h2,h3,h4,h5,h6⟩ := h
  exact ⟨h1,b,es,clock,h2,h3,h4,h5,fun i x e hx he => (h6 i x e hx he).narrow hM⟩
 | iter s pos => exact h
 | lp b lr e st =>
  obtain ⟨_,_,_,h04⟩ := h0
  obtain ⟨h1,h2,h3,h4⟩ := h
  exact ⟨h1,h2,h3,fun t u hu => (h04 t u hu).scope hM (h4 t u hu)⟩
 | mit ks vs left cur =>
  obtain ⟨h1,b,m,es,clock,since,seen,c0,h2,h3,h4,h5,h6⟩ := h
  exact ⟨h1,b,m,es,clock,since,seen,c0,h2,h3,h4,h5.narrow hM,h6⟩
 | barr t ver bl => exact h
theorem ObjOk.map (f : ∀ x u,Rep w M ρ n x u → Rep w M ρ' n' x u) (f0 : ∀ x u,Rep w M ρ 0 x u → Rep w M ρ' 0 x u) {l : Loc} {o : HO} (h : ObjOk w M ρ n l o) : ObjOk w M ρ' n' l o := by
 cases o with
 | dead => trivial
 | box cs =>
  obtain ⟨h1,b,c,e,fr,h2,h3,h4,h5,h6⟩ := h
  exact ⟨h1,b,c,e,fr,h2,h3,h4,h5,fun j y u hy hu => ⟨f _ _ (h6 j y u hy hu).1,(h6 j y u hy hu).2⟩⟩
 | arr ver sz xs =>
  obtain ⟨h1,h2,h3,h4,h5,h6⟩ := h
  refine ⟨h1,h2,h3,h4,h5,?_⟩
  split
  ·rename_i hl; rw [hl] at h6; exact h6
  ·rename_i b o hl
   rw [hl] at h6
   obtain ⟨c,e,fr,g1,g2,g3,g4⟩ := h6
   exact ⟨c,e,fr,g1,g2,g3,fun i j x y u hx hy hu => ⟨f _ _ (g4 i j x y u hx hy hu).1,(g4 i j x y u hx hy hu).2⟩⟩
 | map ver ks vs =>
  obtain ⟨h1,b,es,clock,h2,h3,h4,h5,h6⟩ := h
  exact ⟨h1,b,es,clock,h2,h3,h4,h5,fun i x e hx he => f0 _ _ (h6 i x e hx he)⟩
 | iter s pos => exact h
 | lp b lr e st =>
  obtain ⟨h1,h2,h3,h4⟩ := h
  exact ⟨h1,h2,h3,fun t u hu => f _ _ (h4 t u hu)⟩
 | mit ks vs left cur =>
  obtain ⟨h1,b,m,es,clock,since,seen,c0,h2,h3,h4,h5,h6⟩ := h
  exact ⟨h1,b,m,es,clock,since,seen,c0,h2,h3,h4,f0 _ _ h5,h6⟩
 | barr t ver bl => exact h
end
section
variable {B : DB} {P : Program} {w w0 w2 : World} {X : Nat → Prop} {ρ ρ0 ρ2 : Nat → Loc} {H : zA} {e e2 : Env} {a a2 : Act} {n n0 : Nat}
theorem zH2 {zs : List AV} (h : zOZ zs = true) {j : Nat} {y : AV} (hy : zs[j]? = some y) : ∃ u,y = .v u := by
 have := zZb.1 h y (zZp hy)
 cases y <;> first | exact ⟨_,rfl⟩ | cases this
theorem St.swap {z0 z1 : List AV} {d0 d1 : Nat} (hd : d0 ≠ d1) (hz0 : zOZ z0 = true) (hz1 : zOZ z1 = true) (h : St B X w0 ρ0 n0 n e H a w)
  (h2 : St B X w0 ρ0 n0 n (up (up e d1 (.ptr H.length 0 0)) d0 (.ptr (H.length + 1) 0 0)) (H ++ [.box z1] ++ [.box z0]) a2 w2) :
  St B X w0 ρ0 n0 n (up (up e d0 (.ptr H.length 0 0)) d1 (.ptr (H.length + 1) 0 0)) (H ++ [.box z0] ++ [.box z1]) a2 w2 := by
 obtain ⟨hn,ρ,hrel,he,hf,hm⟩ := h
 obtain ⟨hn2,ρ2,hrel2,he2,hf2,hm2⟩ := h2
 have hlen2 : (H ++ [HO.box z1] ++ [HO.box z0]).length = H.length + 2 := by simp
 have hlen3 : (H ++ [HO.box z0] ++ [HO.box z1]).length = H.length + 2 := by simp
 have ob2 := hrel2.objs
 rw [hlen2] at ob2 hf2 hm2
 have he2 : ∀ t,t < n → Rep w2 (Mut X ρ2 (H.length + 2)) ρ2 (H.length + 2) (up (up e d1 (.ptr H.length 0 0)) d0 (.ptr (H.length + 1) 0 0) t) (a2.tmps.getD t undef) := by
  have := he2
  unfold ER at this
  rwa [hlen2] at this
 have inj2 := hrel2.inj
 have lt2 := hrel2.lt
 have gl2 := hrel2.gl
 rw [hlen2] at inj2 lt2 gl2
 obtain ⟨σ,hσ⟩ : ∃ σ : Nat → Nat,σ = fun i => if i = H.length then H.length + 1 else if i = H.length + 1 then H.length else i := ⟨_,rfl⟩
 have σ0 : σ H.length = H.length + 1 := by subst hσ; simp
 have σ1 : σ (H.length + 1) = H.length := by subst hσ; simp
 have σo : ∀ i,i < H.length → σ i = i := fun i hi => by subst hσ; simp only; rw [if_neg (by omega),if_neg (by omega)]
 have σl : ∀ i,i < H.length + 2 → σ i < H.length + 2 := fun i hi => by
  rcases zzas i H.length with h | h
  ·rw [σo i h]; omega
  ·rcases zzas H.length i with h' | h'
   ·obtain rfl : i = H.length + 1 := by omega
    rw [σ1]; omega
   ·obtain rfl : i = H.length := by omega
    rw [σ0]; omega
 have σσ : ∀ i,i < H.length + 2 → σ (σ i) = i := fun i hi => by
  rcases zzas i H.length with h | h
  ·rw [σo i h,σo i h]
  ·rcases zzas H.length i with h' | h'
   ·obtain rfl : i = H.length + 1 := by omega
    rw [σ1,σ0]
   ·obtain rfl : i = H.length := by omega
    rw [σ0,σ1]
 have hown : ∀ b,Own (fun i => ρ2 (σ i)) (H.length + 2) b ↔ Own ρ2 (H.length + 2) b := fun b =>
  ⟨fun ⟨r,o,hr,hb⟩ => ⟨σ r,o,σl r hr,hb⟩,fun ⟨r,o,hr,hb⟩ => ⟨σ r,o,σl r hr,by simp only; rw [σσ r hr]; exact hb⟩⟩
 have hM : Mut X (fun i => ρ2 (σ i)) (H.length + 2) = Mut X ρ2 (H.length + 2) := by
  funext b
  exact propext (or_congr Iff.rfl (hown b))
 have hF : Fut w2 ρ2 H.length w2 (fun i => ρ2 (σ i)) H.length := ⟨rfl,rfl,rfl,zZa _,fun _ _ _ => rfl,fun b ⟨r,o,hr,hb⟩ => .inl ⟨r,o,hr,by simp only at hb; rw [σo r hr] at hb; exact hb⟩,zZa _,fun r hr => .inl (by show ρ2 (σ r) = ρ2 r; rw [σo r hr])⟩
 have reloc : ∀ k,k ≤ H.length → ∀ x u,Rep w2 (Mut X ρ2 (H.length + 2)) ρ2 k x u → Rep w2 (Mut X ρ2 (H.length + 2)) (fun i => ρ2 (σ i)) k x u := fun k hk x u hx =>
  hx.fut hF (fun b _ hb => hb) (fun b hb ⟨r,o,hr,hbl⟩ => hb (.inr ⟨r,o,by omega,hbl⟩)) hk
 have box : ∀ (r : Nat) (z : List AV),zOZ z = true → ObjOk w2 (Mut X ρ2 (H.length + 2)) ρ2 (H.length + 2) (ρ2 r) (.box z) → ObjOk w2 (Mut X ρ2 (H.length + 2)) (fun i => ρ2 (σ i)) (H.length + 2) (ρ2 r) (.box z) := fun r z hz ho => by
  obtain ⟨h1,b,c,e,fr,h2,h3,h4,h5,h6⟩ := ho
  refine ⟨h1,b,c,e,fr,h2,h3,h4,h5,fun j y u hy hu => ?_⟩
  obtain ⟨v,rfl⟩ := zH2 hz hy
  have := h6 j _ u hy hu
  have e : u = v := by have h := this.1; cases h; rfl
  subst e
  exact ⟨.v _ _,this.2⟩
 refine ⟨hn2,fun i => ρ2 (σ i),⟨?_,?_,?_,hrel2.xlt,?_⟩,?_,?_,?_⟩
 ·intro r o hr
  rw [hlen3,hM]
  have hlt : r < H.length + 2 := by rw [← hlen3]; exact (zYU.1 hr).1
  rcases zzas r H.length with hrl | hrl
  ·have ho : H[r]? = some o := by rw [zZx,zY2 hrl] at hr; exact hr
   have := (hrel.objs r o ho).scope (M'' := Mut X ρ2 (H.length + 2)) (fun b hb => hb) (ob2 r o (by rw [zZx,zY2 hrl]; exact ho))
   show ObjOk _ _ _ _ (ρ2 (σ r)) o
   rw [σo r hrl]
   exact this.map (fun x u hx => (reloc _ (zZa _) x u hx).mono (by omega)) (fun x u hx => reloc 0 (zZm _) x u hx)
  ·rcases zzas H.length r with h' | h'
   ·obtain rfl : r = H.length + 1 := by omega
    have ho : o = .box z1 := by
     rw [zYY (by simp)] at hr
     simpa using hr.symm
    subst ho
    show ObjOk _ _ _ _ (ρ2 (σ (H.length + 1))) _
    rw [σ1]
    exact box _ _ hz1 (ob2 _ _ (by rw [zZx,zYY (by omega)]; simp))
   ·obtain rfl : r = H.length := by omega
    have ho : o = .box z0 := by
     rw [zZx,zYY (by omega)] at hr
     simpa using hr.symm
    subst ho
    show ObjOk _ _ _ _ (ρ2 (σ H.length)) _
    rw [σ0]
    exact box _ _ hz0 (ob2 _ _ (by rw [zYY (by simp)]; simp))
 ·intro r r' b o b' o' hr hr' hne hb hb'
  rw [hlen3] at hr hr'
  exact inj2 (σ r) (σ r') b o b' o' (σl r hr) (σl r' hr') (fun e => hne (by rw [← σσ r hr,← σσ r' hr',e])) hb hb'
 ·intro r b o hr hb
  rw [hlen3] at hr
  exact lt2 (σ r) b o (σl r hr) hb
 ·rw [hlen3]
  exact fun g hg => ⟨fun ho => (gl2 g hg).1 ((hown g).1 ho),(gl2 g hg).2⟩
 ·intro t ht
  rw [hlen3,hM]
  have g := he2 t ht
  by_cases h1 : t = d1
  ·subst h1
   simp only [up,if_true] at g ⊢
   rw [if_neg (fun e => hd e.symm)] at g
   cases g with
   | ptr _ _ _ _ _ hr hle hone hp => exact .ptr _ _ _ _ _ (by omega) (by rw [σ1]; exact hle) hone (by rw [σ1]; exact hp)
  ·by_cases h0 : t = d0
   ·subst h0
    simp only [up,if_true] at g ⊢
    rw [if_neg hd]
    cases g with
    | ptr _ _ _ _ _ hr hle hone hp => exact .ptr _ _ _ _ _ (by omega) (by rw [σ0]; exact hle) hone (by rw [σ0]; exact hp)
   ·simp only [up] at g ⊢
    rw [if_neg h0,if_neg h1] at g
    rw [if_neg h1,if_neg h0]
    exact (reloc _ (zZa _) _ _ ((he t ht).scope (fun b hb => hb) g)).mono (by omega)
 ·rw [hlen3]
  exact ⟨hf2.os,hf2.tape,hf2.output,hf2.size,hf2.keep,fun b hb => hf2.own b ((hown b).1 hb),hf2.len,fun r hr => by
   have := hf.len
   rw [σo r (by omega)]
   exact hf2.loc r hr⟩
 ·rw [hlen3]
  obtain ⟨ds,k1,k2,k3,k4⟩ := hm2
  exact ⟨ds,k1,k2,k3,fun D hD => ⟨(k4 D hD).1,(k4 D hD).2.1,fun ho => (k4 D hD).2.2.1 ((hown D).1 ho),(k4 D hD).2.2.2⟩⟩
variable {ops : Array Oper} {T : List Nat} {hs : List Hn} {reg h : Nat}
theorem zNf (hk : zIB P n hs reg ops h = true) : h + 2 ≤ ops.size ∧ (∀ j o,h ≤ j → j < h + 2 → ops[j]? = some o → ∃ imm,zAy P n imm ops o = some (zAn P n hs reg ops j)) ∧
  (∃ d0 d1 z0 z1,d0 ≠ d1 ∧ zOZ z0 = true ∧ zOZ z1 = true ∧ zAn P n hs reg ops h = ⟨some d0,none,.alloc z0⟩ ∧ zAn P n hs reg ops (h + 1) = ⟨some d1,none,.alloc z1⟩) ∧
  ∀ i j,h ≤ i → i < j → j < ops.size → h + 2 ≤ j → ((Region.before ops).getD j 0).testBit i = true := by
 unfold zIB at hk
 simp only [zYX,zZb,zZE,zZM,zY5] at hk
 obtain ⟨⟨⟨h1,h2⟩,h3⟩,h4⟩ := hk
 refine ⟨h1,fun j o hj hj2 ho => ?_,?_,fun i j hi hij hjs hj2 => ?_⟩
 ·refine ⟨zAZ hs reg j,?_⟩
  have g1 := h2 j (zY8.1 ho).1
  rcases g1 with g1 | g1
  ·omega
  rcases g1 with g1 | g1
  ·omega
  rw [ho] at g1
  unfold zAn
  rw [ho]
  simp only [zZt,zzax,zYT] at g1 ⊢
  cases hl : zAy P n (zAZ hs reg j) ops o with
  | none => rw [hl] at g1; simp at g1
  | some lo => rfl
 ·unfold zQQ at h3
  split at h3
  ·rename_i d0 z0 d1 z1 e0 e1
   simp only [zYX,zZL,beq_eq_false_iff_ne,ne_eq] at h3
   exact ⟨d0,d1,z0,z1,h3.1.1,h3.1.2,h3.2,e0,e1⟩
  ·cases h3
 ·rcases h4 j hjs i hij with g | g
  ·omega
  ·exact g
theorem zB0 {z : List AV} {d : Nat} {l : List LO} {K : Env → zA → Prop} : zAi P (⟨some d,none,.alloc z⟩ :: l) e H K = (c1s z = true ∧ zAi P l (up e d (.ptr H.length 0 0)) (H ++ [.box z]) K) := rfl
theorem zPK {r : Option Nat} {m0 : Nat} {K : Env → zA → Prop} {Q : Exit → Act → World → Prop} {los : List LO} (hE : zAg ops = true) (hk : zIB P n hs reg ops h = true) (hlo : zBi P n hs reg ops (h + 2) (ops.toList.drop (h + 2)) = some los)
  (hQ : ∀ e' H' a' w',K e' H' → St B X w0 ρ0 n0 n e' H' a' w' → Q .normal a' w') (l : Array Bool) (hs1 : l.size = ops.size) (lo : ∀ k,k < h → l.getD k false = true) (hi : ∀ k,h ≤ k → l.getD k false = false) (hc : Closed ops l)
  (hh : zAi P (zAn P n hs reg ops h :: zAn P n hs reg ops (h + 1) :: los) e H K) (hst : St B X w0 ρ0 n0 n e H a w) : wpAnyIn (WR r) m0 P .any ops Q (ops.size - h) l a w := by
 obtain ⟨k0,k1,⟨d0,d1,z0,z1,hd,v0,v1,t0,t1⟩,k3⟩ := zNf hk
 rw [t0,t1,zB0,zB0] at hh
 obtain ⟨q0,q1,hK⟩ := hh
 have hsz : (H ++ [HO.box z0]).length = H.length + 1 := by simp
 rw [hsz] at hK
 have tail : ∀ (l3 : Array Bool) (a' : Act) (w' : World),l3.size = ops.size → (∀ j,j < ops.size → l3.getD j true = decide (j < h + 2)) → Closed ops l3 → St B X w0 ρ0 n0 n (up (up e d0 (.ptr H.length 0 0)) d1 (.ptr (H.length + 1) 0 0)) (H ++ [.box z0] ++ [.box z1]) a' w' → wpAnyIn (WR r) m0 P .any ops Q (ops.size - (h + 2)) l3 a' w' := fun l3 a' w' g1 g2 g3 g4 =>
  zCq (h := h + 2) (K := K) hE (fun i j hi hij hj => k3 i j (by omega) hij hj (by omega)) hQ (ops.size - (h + 2)) (h + 2) los _ _ a' w' l3 (zZa _) (by omega) g1 g2 g3 hlo hK g4
 have nx : ∀ (l : Array Bool) (k : Nat),l.size = ops.size → Closed ops l → (∀ j,j < h → l.getD j false = true) → h ≤ k → k < h + 2 → l.getD k false = false → (∀ j,h + 2 ≤ j → l.getD j false = false) → Region.ready .any ops l ≠ [] ∧ ∀ i ∈ Region.ready .any ops l,h ≤ i ∧ i < h + 2 ∧ l.getD i false = false ∧ ∃ oi,ops[i]? = some oi := fun l k hsl hc hlow hk1 hk2 hkf hhi => by
  have hun : ∃ i,i < ops.size ∧ l.getD i true = false := ⟨k,by omega,by rw [← zP (by omega)]; exact hkf⟩
  obtain ⟨i0,hi0,hi0u,hi0l⟩ := zCo hun
  have hr0 : i0 ∈ Region.ready .any ops l := zB4 hE (by omega) hi0u fun j hj => by rw [zP (by omega)]; exact hi0l j hj
  refine ⟨fun h0 => by rw [h0] at hr0; simp at hr0,fun i hi => ?_⟩
  obtain ⟨hiu,oi,hoi,hiall⟩ := mem_ready.1 hi
  have his : i < ops.size := (zY8.1 hoi).1
  have hiuf : l.getD i false = false := by rw [zP (by omega)]; exact hiu
  refine ⟨zzaW fun hlt => ?_,Nat.lt_of_not_le fun hge => ?_,hiuf,oi,hoi⟩
  ·rw [hlow i hlt] at hiuf; cases hiuf
  ·have := zJ hc i oi k hoi (k3 k i hk1 (by omega) his hge) hiall
   rw [hkf] at this
   cases this
 rw [show ops.size - h = (ops.size - (h + 2) + 1) + 1 by omega]
 obtain ⟨n1,n2⟩ := nx l h hs1 hc lo (zZa _) (by omega) (hi h (zZa _)) (fun j hj => hi j (by omega))
 refine ⟨fun h0 => absurd h0 n1,fun i hi1 => ?_⟩
 obtain ⟨g1,g2,g3,oi,hoi⟩ := n2 i hi1
 have hc2 := hc.set hi1
 have get2 : ∀ j,(l.setIfInBounds i true).getD j false = if j = i then true else l.getD j false := fun j => by
  rw [zO]
  by_cases hji : j = i
  ·rw [if_pos ⟨hji,by omega⟩,if_pos hji]
  ·rw [if_neg fun hh => hji hh.1,if_neg hji]
 obtain ⟨imm,hlow⟩ := k1 i oi g1 g2 hoi
 have step2 : ∀ (k : Nat) (hk1 : h ≤ k) (hk2 : k < h + 2) (hki : k ≠ i) (e1 : Env) (H1 : zA) (a1 : Act) (w1 : World) (K1 : Env → zA → Prop),zAi P [zAn P n hs reg ops k] e1 H1 K1 → St B X w0 ρ0 n0 n e1 H1 a1 w1 →
   (∀ e2 H2 a2 w2,K1 e2 H2 → St B X w0 ρ0 n0 n e2 H2 a2 w2 → St B X w0 ρ0 n0 n (up (up e d0 (.ptr H.length 0 0)) d1 (.ptr (H.length + 1) 0 0)) (H ++ [.box z0] ++ [.box z1]) a2 w2) →
   wpAnyIn (WR r) m0 P .any ops Q (ops.size - (h + 2) + 1) (l.setIfInBounds i true) a1 w1 := by
  intro k hk1 hk2 hki e1 H1 a1 w1 K1 hone hst1 hend
  obtain ⟨m1,m2⟩ := nx (l.setIfInBounds i true) k (by simpa using hs1) hc2 (fun j hj => by rw [get2,if_neg (by omega)]; exact lo j hj) hk1 hk2 (by rw [get2,if_neg hki]; exact hi k hk1) (fun j hj => by rw [get2,if_neg (by omega)]; exact hi j (by omega))
  refine ⟨fun h0 => absurd h0 m1,fun i2 hi2 => ?_⟩
  obtain ⟨g1',g2',g3',oi2,hoi2⟩ := m2 i2 hi2
  have hi2k : i2 = k := by
   rw [get2] at g3'
   split at g3'
   ·cases g3'
   ·omega
  subst hi2k
  obtain ⟨imm2,hlow2⟩ := k1 i2 oi2 g1' g2' hoi2
  have hnx := zA4 (r := r) (m0 := m0) hlow2 hone hst1 (next := wpAnyIn (WR r) m0 P .any ops Q (ops.size - (h + 2)) ((l.setIfInBounds i true).setIfInBounds i2 true)) (Q := Q) fun e'' H'' a'' w'' hK'' hs'' => by
   refine tail _ a'' w'' (by simpa using hs1) (fun j hj => ?_) (hc2.set hi2) (hend _ _ _ _ hK'' hs'')
   rw [← zP (by simpa using (by omega : j < l.size)),zO]
   by_cases hj2 : j = i2
   ·rw [if_pos ⟨hj2,by simp; omega⟩]; simp; omega
   ·rw [if_neg fun hh => hj2 hh.1,get2]
    by_cases hji : j = i
    ·rw [if_pos hji]; simp; omega
    ·rw [if_neg hji]
     rcases zzas j h with hjh | hjh
     ·rw [lo j hjh]; simp; omega
     ·rw [hi j hjh]; simp; omega
  unfold wpOpIn
  rw [hoi2]
  simp only
  exact hnx
 have hnx : ∀ (K1 : Env → zA → Prop),zAi P [zAn P n hs reg ops i] e H K1 → (∀ e1 H1 a1 w1,K1 e1 H1 → St B X w0 ρ0 n0 n e1 H1 a1 w1 → wpAnyIn (WR r) m0 P .any ops Q (ops.size - (h + 2) + 1) (l.setIfInBounds i true) a1 w1) →
   wpOpIn (WR r) m0 P ops Q i (wpAnyIn (WR r) m0 P .any ops Q (ops.size - (h + 2) + 1) (l.setIfInBounds i true)) a w := by
  intro K1 hone hnext
  have hnx := zA4 (r := r) (m0 := m0) hlow hone hst (next := wpAnyIn (WR r) m0 P .any ops Q (ops.size - (h + 2) + 1) (l.setIfInBounds i true)) (Q := Q) fun e'' H'' a'' w'' hK'' hs'' => hnext _ _ _ _ hK'' hs''
  unfold wpOpIn
  rw [hoi]
  simp only
  exact hnx
 by_cases hih : i = h
 ·subst hih
  refine hnx (fun e1 H1 => e1 = up e d0 (.ptr H.length 0 0) ∧ H1 = H ++ [.box z0]) (by rw [t0,zB0]; exact ⟨q0,rfl,rfl⟩) ?_
  rintro e1 H1 a1 w1 ⟨rfl,rfl⟩ hs'
  refine step2 (i + 1) (by omega) (by omega) (by omega) _ _ a1 w1 (fun e1 H1 => e1 = up (up e d0 (.ptr H.length 0 0)) d1 (.ptr (H.length + 1) 0 0) ∧ H1 = H ++ [.box z0] ++ [.box z1]) (by rw [t1,zB0,hsz]; exact ⟨q1,rfl,rfl⟩) hs' ?_
  rintro e2 H2 a2 w2 ⟨rfl,rfl⟩ hs2
  exact hs2
 ·obtain rfl : i = h + 1 := by omega
  refine hnx (fun e1 H1 => e1 = up e d1 (.ptr H.length 0 0) ∧ H1 = H ++ [.box z1]) (by rw [t1,zB0]; exact ⟨q1,rfl,rfl⟩) ?_
  rintro e1 H1 a1 w1 ⟨rfl,rfl⟩ hs'
  refine step2 h (by omega) (by omega) (by omega) _ _ a1 w1 (fun e1 H1 => e1 = up (up e d1 (.ptr H.length 0 0)) d0 (.ptr (H.length + 1) 0 0) ∧ H1 = H ++ [.box z1] ++ [.box z0]) (by rw [t0,zB0]; exact ⟨q0,by simp,rfl⟩) hs' ?_
  rintro e2 H2 a2 w2 ⟨rfl,rfl⟩ hs2
  exact St.swap hd v0 v1 hst hs2
theorem zOl {r : Option Nat} {m0 : Nat} {K : Env → zA → Prop} {Q : Exit → Act → World → Prop} {los : List LO} (hD : zCT P n hs reg (ops.extract 0 h) T = true) (hE1 : zAg (ops.extract 0 h) = true) (hE : zAg ops = true) (hk : zEh ops h = true) (hl : zIB P n hs reg ops h = true)
  (hp : (zAb hs reg h).isEmpty = true) (hlo : zBi P n hs reg ops (h + 2) (ops.toList.drop (h + 2)) = some los)
  (hK : zAF P (hdA P n hs reg (ops.extract 0 h) T) e H fun e1 => zDa P (hdA P n hs reg (ops.extract 0 h) T) e1 (tlA P n hs reg (ops.extract 0 h) T 0) e1 H fun e' H' => zAi P (zAn P n hs reg ops h :: zAn P n hs reg ops (h + 1) :: los) e' H' K) (hst : St B X w0 ρ0 n0 n e H a w)
  (hQ : ∀ e' H' a' w',K e' H' → St B X w0 ρ0 n0 n e' H' a' w' → Q .normal a' w') : wpAnyIn (WR r) m0 P .any ops Q ops.size (Array.replicate ops.size false) a { w with drawn := w.drawn + 1 } := by
 have hle := (zEN hk).1
 have hsz := zKV (ops := ops) hle
 have hpn : zAb hs reg h = [] := zzav.1 hp
 have hz : ∀ (m j : Nat),(Array.replicate m false).getD j false = false := fun m j => getD_replicate_false _ _
 have hclz : ∀ m,Closed ops (Array.replicate m false) := fun m j oj _ hlj => by rw [hz] at hlj; cases hlj
 have h1 := zGd (r := r) (m0 := m0) (Q := zGk Q fun a w => ∀ l2 : Array Bool,l2.size = ops.size → (∀ k,k < h → l2.getD k false = true) → (∀ k,h ≤ k → l2.getD k false = false) → Closed ops l2 → wpAnyIn (WR r) m0 P .any ops Q (ops.size - h) l2 a w)
  (K := fun e' H' => zAi P (zAn P n hs reg ops h :: zAn P n hs reg ops (h + 1) :: los) e' H' K) hD hE1 (by rw [hsz,hpn]; rfl) (by rw [hsz,hpn]; exact hK) hst
  (fun e' H' a' w' hk' hs' => ?_)
 ·have h2 := zIl (P := P) hE hk h (Array.replicate h false) (Array.replicate ops.size false) a { w with drawn := w.drawn + 1 } (by simp) (by simp) (fun k _ => by rw [hz,hz]) (fun k _ => hz _ _) (hclz _) (by
   have := zBt (listed := Array.replicate h false) (h := 0) h fun j hj => by rw [← zP (by simpa using hj),hz]; simp
   omega) (by rw [hsz] at h1; exact h1)
  rw [show h + (ops.size - h) = ops.size by omega] at h2
  exact h2
 ·intro l2 q1 q2 q3 q4
  exact zPK (B := B) (X := X) (w0 := w0) (ρ0 := ρ0) (n0 := n0) hE hl hlo hQ l2 q1 q2 q3 q4 hk' hs'
end
section
variable {B : DB} {P : Program} {w w0 : World} {X : Nat → Prop} {ρ ρ0 : Nat → Loc} {H H' ext : zA} {e e1 : Env} {a : Act} {n n0 : Nat}
variable {ops : Array Oper} {hd : List LO} {xs : Nat → AV} {T : List Nat} {hs : List Hn} {reg : Nat} {f : Nat → LO}
theorem zN2 {i : Nat} (hi : i < ops.size) : (hdF f ops.size T).getD i default = if T.contains i then zFj else f i := by
 simp [hdF,zZd,hi]
theorem zKi {q i : Nat} (h : q ≤ i) (hn : ∀ j,q ≤ j → j < i → T.contains j = false) : tlF f ops T q = tlF f ops T i := by
 induction i with
 | zero => rw [show q = 0 by omega]
 | succ i ih =>
  by_cases hq : q = i + 1
  ·rw [hq]
  ·rw [ih (by omega) fun j a b => hn j a (by omega)]
   unfold tlF
   by_cases hi : i < ops.size
   ·rw [show ops.size - i = (ops.size - (i + 1)) + 1 by omega,zzaw,zzaj (by rw [hn i (by omega) (by omega)]; simp)]
   ·rw [show ops.size - i = 0 by omega,show ops.size - (i + 1) = 0 by omega]
    simp
theorem zPg {i : Nat} (hi : i < ops.size) (hT : T.contains i = true) : tlF f ops T i = prF f ops T i :: tlF f ops T (i + 1) := by
 unfold tlF
 rw [show ops.size - i = (ops.size - (i + 1)) + 1 by omega,zzaw,zZ0 hT,zZG]
structure OkF (f : Nat → LO) (ops : Array Oper) (T : List Nat) (hd : List LO) : Prop where
 hh : ∀ i j,j < ops.size → i < j → T.contains i = false → T.contains j = false → ((Region.before ops).getD j 0).testBit i = true ∨ zZ (hd.getD i default) (hd.getD j default) = false
 tt : ∀ i j,j < ops.size → i < j → T.contains i = true → T.contains j = true → ((Region.before ops).getD j 0).testBit i = true
 ht : ∀ i j,j < ops.size → i < ops.size → T.contains i = false → T.contains j = true → ((Region.before ops).getD j 0).testBit i = true ∨ zZ (hd.getD i default) (f j) = false
 sa : ∀ j,j < ops.size → T.contains j = false → zBc (hd.getD j default).op = true ∨ zTn hd j = true
theorem zL5 (h : zEn f ops T = true) : OkF f ops T (hdF f ops.size T) := by
 unfold zEn at h
 simp only [zYX] at h
 obtain ⟨h2,h3⟩ := h
 have g : ∀ i j,j < ops.size → i < j → _ := fun i j hj hi => zZb.1 (zZb.1 h2 j (zZE.2 hj)) i (zZE.2 hi)
 refine ⟨fun i j hj hi a b => ?_,fun i j hj hi a b => ?_,fun i j hj hi a b => ?_,fun j hj a => ?_⟩
 ·have := g i j hj hi
  rw [a,b] at this
  simpa using this
 ·have := g i j hj hi
  rw [a,b] at this
  simpa using this
 ·rcases zzbj i j with hij | hij | hij
  ·have := g i j hj hij
   rw [a,b] at this
   simpa using this
  ·subst hij; rw [a] at b; cases b
  ·have := g j i hi hij
   rw [a,b] at this
   exact .inr (by simpa using this)
 ·have := zZb.1 h3 j (zZE.2 hj)
  rw [a] at this
  simpa using this
theorem zMe {S : Array Bool → Env → zA → Act → World → Prop} {f : Nat → LO} {r : Option Nat} {m0 : Nat} {K : Env → zA → Prop} {Q : Exit → Act → World → Prop} (hE : zAg ops = true) (hD : OkF f ops T hd) (hlen : hd.length = ops.size) (hhd : hd = hdF f ops.size T)
  (he1 : e1 = ED hd xs e (fun _ => true) ops.size)
  (hQ : ∀ (listed : Array Bool) e' H' a' w',(∀ j,j < ops.size → listed.getD j true = true) → listed.size = ops.size → K e' H' → S listed e' H' a' w' → Q .normal a' w')
  (hstepS : ∀ (i : Nat) (oi : Oper) (e' : Env) (H' : zA) (a : Act) (w : World) (listed : Array Bool) (K1 : Env → zA → Prop) (next : Act → World → Prop),ops[i]? = some oi → listed.size = ops.size → listed.getD i false = false → Closed ops listed →
   (∀ e ∈ oi.after,Region.binds .any e = true → listed.getD e.on false = true) → S listed e' H' a w → zAi P [f i] e' H' K1 → (∀ e2 H2 a2 w2,K1 e2 H2 → S (listed.setIfInBounds i true) e2 H2 a2 w2 → next a2 w2) → wpOpIn (WR r) m0 P ops Q i next a w) :
  ∀ (fuel q : Nat) (ws : List (Option Nat × AV)) (H : zA) (a : Act) (w : World) (listed : Array Bool),q ≤ ops.size → fuel = left listed ops.size → listed.size = ops.size →
   (∀ j,j < ops.size → T.contains j = true → listed.getD j true = decide (j < q)) → Closed ops listed → zDa P hd e1 (tlF f ops T q) (wr ws e1) H K →
   (∀ i,i < ops.size → T.contains i = false → listed.getD i false = false → zCO P (hd.getD i default) (ED hd xs e (fun _ => true) i) H (xs i)) →
   (∀ i,i < ops.size → T.contains i = false → listed.getD i false = false → ∀ t x,(some t,x) ∈ ws → t ∉ (hd.getD i default).rd ∧ (hd.getD i default).d ≠ some t) →
   S listed (wr ws (ED hd xs e (fun j => listed.getD j false) ops.size)) H a w → wpAnyIn (WR r) m0 P .any ops Q fuel listed a w := by
 have hcf1 : ∀ a b : LO,∀ t,a.d = some t → t ∈ b.rd → zZ a b = true := by
  intro a b t h1 h2
  cases hb : zZ a b with
  | true => rfl
  | false => exact absurd h2 ((zAT hb).1 t h1)
 have hcf2 : ∀ a b : LO,∀ t,b.d = some t → t ∈ a.rd → zZ a b = true := by
  intro a b t h1 h2
  cases hb : zZ a b with
  | true => rfl
  | false => exact absurd h2 ((zAT hb).2.1 t h1)
 have hcf3 : ∀ a b : LO,∀ t,a.d = some t → b.d = some t → zZ a b = true := by
  intro a b t h1 h2
  cases hb : zZ a b with
  | true => rfl
  | false => exact absurd h2 ((zAT hb).2.2 t h1)
 have hnoop : ∀ j,j < ops.size → T.contains j = true → hd.getD j default = zFj := by
  intro j hj hT
  rw [hhd,zN2 hj,if_pos hT]
 intro fuel
 induction fuel with
 | zero =>
  intro q ws H a w listed hq hf hsz ht hc hK hx hw hst
  have hall : ∀ j,j < ops.size → listed.getD j true = true := by
   intro j hj
   cases hb : listed.getD j true with
   | true => rfl
   | false => have := zCM hb ops.size hj; omega
  have hE' : ED hd xs e (fun j => listed.getD j false) ops.size = e1 := by
   rw [he1]
   funext t
   exact zAa ops.size fun j hj _ => by rw [zP (by omega),hall j (by omega)]
  rw [hE'] at hst
  have hnil : tlF f ops T q = [] := by
   rw [zKi hq fun j a b => ?_]
   ·unfold tlF
    rw [zzbc]; rfl
   ·cases hT : T.contains j with
    | false => rfl
    | true =>
     have := ht j b hT
     rw [hall j b] at this
     simp at this
     omega
  rw [hnil] at hK
  refine ⟨zZS.2 fun i hi => ?_,hQ listed _ _ _ _ hall hsz hK hst⟩
  obtain ⟨h1,o,h2,_⟩ := mem_ready.1 hi
  rw [hall i (zY8.1 h2).1] at h1
  cases h1
 | succ fuel ih =>
  intro q ws H a w listed hq hf hsz ht hc hK hx hw hst
  have hun : ∃ i,i < ops.size ∧ listed.getD i true = false := by
   refine zZo fun hno => ?_
   have := zBt (listed := listed) (h := ops.size) ops.size fun j hj => by
    cases hb : listed.getD j true with
    | true => simp [hj]
    | false => exact absurd ⟨j,hj,hb⟩ hno
   omega
  obtain ⟨i0,hi0,hi0u,hi0l⟩ := zCo hun
  have hr0 : i0 ∈ Region.ready .any ops listed := zB4 hE (by omega) hi0u fun j hj => by rw [zP (by omega)]; exact hi0l j hj
  refine ⟨fun h0 => by rw [h0] at hr0; simp at hr0,fun i hi => ?_⟩
  obtain ⟨hiu,oi,hoi,hiall⟩ := mem_ready.1 hi
  have his : i < ops.size := (zY8.1 hoi).1
  have hidf : listed.getD i false = false := by rw [zP (by omega)]; exact hiu
  have hcount : fuel = left (listed.setIfInBounds i true) ops.size := by
   have := zCL hiu ops.size
   rw [if_pos his] at this
   omega
  by_cases hih : T.contains i = false
  ·
   have hgi : hd.getD i default = f i := by rw [hhd,zN2 his,if_neg (by rw [hih]; simp)]
   have hbef : ∀ j,j < i → zZ (hd.getD j default) (hd.getD i default) = true → listed.getD j false = true := by
    intro j hj hcf
    cases hT : T.contains j with
    | true => rw [hnoop j (by omega) hT,zCs.1] at hcf; cases hcf
    | false =>
     rcases hD.hh j i his hj hT hih with g6 | g6
     ·exact zJ hc i oi j hoi g6 hiall
     ·rw [g6] at hcf; cases hcf
   have hbeh : ∀ j,i < j → j < ops.size → zZ (hd.getD i default) (hd.getD j default) = true → listed.getD j false = false := by
    intro j hj hjh hcf
    cases hT : T.contains j with
    | true => rw [hnoop j hjh hT,zCs.2] at hcf; cases hcf
    | false =>
     rcases hD.hh i j hjh hj hih hT with g6 | g6
     ·cases hb : listed.getD j false with
      | false => rfl
      | true =>
       obtain ⟨oj,hoj⟩ : ∃ oj,ops[j]? = some oj := ⟨ops[j]'(by omega),by simp [show j < ops.size by omega]⟩
       have := zJ hc j oj i hoj g6 (hc j oj hoj hb)
       rw [hidf] at this
       cases this
     ·rw [g6] at hcf; cases hcf
   have hwi := hw i his hih hidf
   have hA : ∀ t ∈ (hd.getD i default).rd,ED hd xs e (fun _ => true) i t = wr ws (ED hd xs e (fun j => listed.getD j false) ops.size) t := by
    intro t htr
    rw [zJe ws _ fun x hx => (hwi t x hx).1 htr,zAR (i := i) ops.size (by omega) fun j h1 h2 h3 => by
     by_cases hji : j = i
     ·rw [hji]; exact hidf
     ·exact hbeh j (by omega) h2 (hcf2 _ _ t h3 htr)]
    exact zAa i fun j h1 h2 => (hbef j h1 (hcf1 _ _ t h2 htr)).symm
   have hB0 : ups (ED hd xs e (fun j => listed.getD j false) ops.size) (hd.getD i default).d (xs i) = ED hd xs e (fun j => (listed.setIfInBounds i true).getD j false) ops.size := by
    funext t
    by_cases hdt : (hd.getD i default).d = some t
    ·rw [zAR (i := i + 1) ops.size (by omega) fun j h1 h2 h3 => by
      rw [zO,if_neg (by omega)]
      exact hbeh j (by omega) h2 (hcf3 _ _ t hdt h3)]
     rw [hdt,zAS]
     have hset : (listed.setIfInBounds i true).getD i false = true := by rw [zO,if_pos ⟨rfl,by omega⟩]
     simp only [ED]
     rw [if_pos hset,hdt,zAS]
    ·rw [zBe hdt]
     exact zAa ops.size fun j h1 h2 => by
      rw [zO,if_neg]
      rintro ⟨rfl,_⟩
      exact hdt h2
   have hB : ups (wr ws (ED hd xs e (fun j => listed.getD j false) ops.size)) (hd.getD i default).d (xs i) = wr ws (ED hd xs e (fun j => (listed.setIfInBounds i true).getD j false) ops.size) := by
    rw [zGB ws _ fun t ht x hx => (hwi t x hx).2 ht,hB0]
   have hstep := zA3 hA (hx i his hih hidf)
   have hone : zAi P [hd.getD i default] (wr ws (ED hd xs e (fun j => listed.getD j false) ops.size)) H fun e' H' => e' = wr ws (ED hd xs e (fun j => (listed.setIfInBounds i true).getD j false) ops.size) ∧ H' = H := by
    refine zB1 ?_
    rcases hstep with ⟨g1,g2⟩ | ⟨g1,g2⟩
    ·refine .inl ⟨g1,?_⟩
     have := zB2 g2
     simp only [zAi]
     refine zBr this ?_
     rintro y H' ⟨rfl,rfl⟩
     exact ⟨hB,rfl⟩
    ·refine .inr ⟨g1,?_⟩
     rw [← g2]
     exact ⟨hB,rfl⟩
   rw [hgi] at hone
   refine hstepS i oi _ _ a w listed _ _ hoi hsz hidf hc hiall hst hone fun e'' H'' a'' w'' hK'' hs'' => ?_
   ·obtain ⟨rfl,rfl⟩ := hK''
    have hsub : ∀ j,(listed.setIfInBounds i true).getD j false = false → listed.getD j false = false := fun j hl => by
     rw [zO] at hl
     split at hl
     ·cases hl
     ·exact hl
    refine ih q ws _ a'' w'' _ hq hcount (by simpa using hsz) (fun j h1 h2 => ?_) (hc.set hi) hK (fun j hj hT hl => hx j hj hT (hsub j hl)) (fun j hj hT hl => hw j hj hT (hsub j hl)) hs''
    rw [zO,if_neg]
    ·exact ht j h1 h2
    ·rintro ⟨rfl,_⟩
     rw [hih] at h2; cases h2
  ·
   have hiT : T.contains i = true := by simpa using hih
   have hqi : q ≤ i := by
    have g1 := ht i his hiT
    rw [hiu] at g1
    simpa using g1.symm
   have hno : ∀ j,q ≤ j → j < i → T.contains j = false := by
    intro j h1 h2
    cases hT : T.contains j with
    | false => rfl
    | true =>
     have g1 := zJ hc i oi j hoi (hD.tt j i his h2 hT hiT) hiall
     rw [zP (by omega),ht j (by omega) hT] at g1
     simp at g1
     omega
   rw [zKi hqi hno,zPg his hiT] at hK
   generalize hlo : f i = lo
   have hpr : prF f ops T i = (lo,zCc hd T ((Region.before ops).getD i 0)) := by unfold prF; rw [hlo,hhd]
   rw [hpr] at hK
   have hK : zAi P [lo] (wr ws e1) H fun e' H' => zC2 P hd e1 H' (zCc hd T ((Region.before ops).getD i 0)) ∧ zDa P hd e1 (tlF f ops T (i + 1)) e' H' K := hK
   have hfr : ∀ j,j < ops.size → T.contains j = false → listed.getD j false = false → ((Region.before ops).getD i 0).testBit j = false ∧ zZ (hd.getD j default) lo = false := by
    intro j hj hT hl
    have hnb : ((Region.before ops).getD i 0).testBit j = false := by
     cases hb : ((Region.before ops).getD i 0).testBit j with
     | false => rfl
     | true =>
      have := zJ hc i oi j hoi hb hiall
      rw [hl] at this
      cases this
    refine ⟨hnb,?_⟩
    rcases hD.ht j i his hj hT hiT with g | g
    ·rw [hnb] at g; cases g
    ·rw [← hlo]; exact g
   have hR : ∀ t ∈ lo.rd,wr ws e1 t = wr ws (ED hd xs e (fun j => listed.getD j false) ops.size) t := by
    intro t htr
    have : ∀ (l : List (Option Nat × AV)) (e1 e2 : Env),e1 t = e2 t → wr l e1 t = wr l e2 t := by
     intro l
     induction l with
     | nil => intro e1 e2 h; exact h
     | cons p l ihl =>
      intro e1 e2 h
      obtain ⟨d,x⟩ := p
      refine ihl _ _ ?_
      by_cases hdt : d = some t
      ·rw [hdt,zAS,zAS]
      ·rw [zBe hdt,zBe hdt]; exact h
    refine this ws _ _ ?_
    rw [he1]
    refine zAa ops.size fun j hj hdj => ?_
    cases hb : listed.getD j false with
    | true => rfl
    | false =>
     cases hT : T.contains j with
     | true =>
      rw [hnoop j hj hT] at hdj
      cases hdj
     | false =>
      have := (zAT (hfr j hj hT hb).2).1 t hdj
      exact absurd htr this
   have hwant : zBd lo.g (wr ws e1) = zBd lo.g (wr ws (ED hd xs e (fun j => listed.getD j false) ops.size)) := zBT fun t want hg => hR t (by simp [LO.rd,hg])
   have hone : zAi P [lo] (wr ws (ED hd xs e (fun j => listed.getD j false) ops.size)) H fun e' H2 => ∃ x,e' = ups (wr ws (ED hd xs e (fun j => listed.getD j false) ops.size)) lo.d x ∧ zC2 P hd e1 H2 (zCc hd T ((Region.before ops).getD i 0)) ∧ zDa P hd e1 (tlF f ops T (i + 1)) (ups (wr ws e1) lo.d x) H2 K := by
    refine zB1 ?_
    rcases zCg hK with ⟨g1,g2⟩ | ⟨g1,g2⟩
    ·refine .inl ⟨by rw [← hwant]; exact g1,?_⟩
     have g3 := zDR (fun t ht => hR t (by simp [LO.rd,ht])) g2
     refine zBr g3 fun x H2 hx2 => ?_
     simp only [zAi] at hx2 ⊢
     exact ⟨x,rfl,hx2.1,hx2.2⟩
    ·refine .inr ⟨by rw [← hwant]; exact g1,?_⟩
     simp only [zAi] at g2 ⊢
     exact ⟨zAk,rfl,g2.1,g2.2⟩
   refine hstepS i oi _ _ a w listed _ _ hoi hsz hidf hc hiall hst (by rw [hlo]; exact hone) fun e'' H'' a'' w'' hK'' hs'' => ?_
   ·obtain ⟨x,rfl,hkp,hK2⟩ := hK''
    have hsame : ∀ j,j ≠ i → (listed.setIfInBounds i true).getD j false = listed.getD j false := fun j hj => by rw [zO,if_neg (by omega)]
    have hED : ED hd xs e (fun j => (listed.setIfInBounds i true).getD j false) ops.size = ED hd xs e (fun j => listed.getD j false) ops.size := by
     funext t
     refine zAa ops.size fun j hj hdj => hsame j ?_
     rintro rfl
     rw [hnoop j hj hiT] at hdj
     cases hdj
    have hne : ∀ j,T.contains j = false → j ≠ i := by
     rintro j hT rfl
     rw [hiT] at hT; cases hT
    refine ih (i + 1) (ws ++ [(lo.d,x)]) H'' a'' w'' _ (by omega) hcount (by simpa using hsz) (fun j hj1 hj2 => ?_) (hc.set hi) (by rw [zCu]; exact hK2) (fun j hj hT hl => ?_) (fun j hj hT hl t y hy => ?_) (by rw [zCu,hED]; exact hs'')
    ·rw [zO]
     by_cases hji : j = i
     ·rw [if_pos ⟨hji,by omega⟩]; simp; omega
     ·rw [if_neg fun hh => hji hh.1,ht j hj1 hj2]
      by_cases hjq : j < q
      ·simp [hjq]; omega
      ·simp [hjq]
       have : ¬ j < i := fun hlt => by rw [hno j (by omega) hlt] at hj2; cases hj2
       omega
    ·rw [hsame j (hne j hT)] at hl
     have hold := hx j hj hT hl
     rcases hD.sa j hj hT with g | g
     ·exact zCG g hold
     ·by_cases hhl : zBc (hd.getD j default).op = true
      ·exact zCG hhl hold
      ·have hmem : j ∈ zCc hd T ((Region.before ops).getD i 0) := by
        unfold zCc
        simp only [zzah,zZE,zYX,zZL]
        exact ⟨by omega,⟨hT,by simpa using hhl⟩,(hfr j hj hT hl).1⟩
       obtain ⟨y,hy1,hy2⟩ := zC9 (hkp j hmem)
       obtain ⟨s1,t,s2,s3⟩ := zMA (xs := xs) (e := e) g (by omega)
       rw [hlen,← he1] at s1 s3
       have hy2 : ups e1 (hd.getD j default).d y = e1 := hy2
       have hyx : y = xs j := by
        have := congrFun hy2 t
        rw [s2,zAS] at this
        rw [this,s3]
       rw [hyx] at hy1
       exact zA3 s1 hy1
    ·rw [hsame j (hne j hT)] at hl
     rcases zZv.1 hy with hy | hy
     ·exact hw j hj hT hl t y hy
     ·simp only [zZ5,zZi] at hy
      have hcf := zAT (hfr j hj hT hl).2
      exact ⟨hcf.2.1 t hy.1.symm,fun hdj => hcf.2.2 t hdj hy.1.symm⟩
theorem zGc {S : Array Bool → Env → zA → Act → World → Prop} {r : Option Nat} {m0 : Nat} {K : Env → zA → Prop} {Q : Exit → Act → World → Prop} (hD : zEn f ops T = true) (hE : zAg ops = true)
  (hK : zAF P (hdF f ops.size T) e H fun e1 => zDa P (hdF f ops.size T) e1 (tlF f ops T 0) e1 H K) (hst : S (Array.replicate ops.size false) e H a { w with drawn := w.drawn + 1 })
  (hQ : ∀ (listed : Array Bool) e' H' a' w',(∀ j,j < ops.size → listed.getD j true = true) → listed.size = ops.size → K e' H' → S listed e' H' a' w' → Q .normal a' w')
  (hstepS : ∀ (i : Nat) (oi : Oper) (e' : Env) (H' : zA) (a : Act) (w : World) (listed : Array Bool) (K1 : Env → zA → Prop) (next : Act → World → Prop),ops[i]? = some oi → listed.size = ops.size → listed.getD i false = false → Closed ops listed →
   (∀ e ∈ oi.after,Region.binds .any e = true → listed.getD e.on false = true) → S listed e' H' a w → zAi P [f i] e' H' K1 → (∀ e2 H2 a2 w2,K1 e2 H2 → S (listed.setIfInBounds i true) e2 H2 a2 w2 → next a2 w2) → wpOpIn (WR r) m0 P ops Q i next a w) : wpAnyIn (WR r) m0 P .any ops Q ops.size (Array.replicate ops.size false) a { w with drawn := w.drawn + 1 } := by
 have hlen : (hdF f ops.size T).length = ops.size := by simp [hdF]
 obtain ⟨xs,g3,g4⟩ := zBD _ hK
 rw [hlen] at g3 g4
 have h0 : ∀ j,(Array.replicate ops.size false).getD j false = false := fun j => getD_replicate_false _ _
 have h1 : ∀ j,j < ops.size → (Array.replicate ops.size false).getD j true = false := fun j hj => by rw [← zP (by simpa using hj)]; exact h0 j
 refine zMe hE (zL5 hD) hlen rfl rfl (K := K) hQ hstepS ops.size 0 [] H a _ _ (zZm _) ?_ (by simp) (fun j hj _ => by rw [h1 j hj]; simp) (fun j oj hj hl => ?_) g3 (fun i hi _ _ => g4 i hi) (fun i _ _ _ t x hx => by simp at hx) ?_
 ·have := zBt (listed := Array.replicate ops.size false) (h := 0) ops.size fun j hj => by rw [h1 j hj]; simp
  omega
 ·rw [h0 j] at hl
  cases hl
 ·have : ED (hdF f ops.size T) xs e (fun j => (Array.replicate ops.size false).getD j false) ops.size = e := by
   funext t
   rw [zAR (i := 0) ops.size (zZm _) fun j _ _ _ => h0 j]
   rfl
  show S _ (ED _ xs e (fun j => (Array.replicate ops.size false).getD j false) ops.size) H a _
  rw [this]
  exact hst
end
section
variable {B : DB} {P : Program} {w w0 : World} {X : Nat → Prop} {ρ ρ0 : Nat → Loc} {H H' ext : zA} {e e1 : Env} {a : Act} {n n0 : Nat}
variable {ops : Array Oper} {T : List Nat} {hs : List Hn} {reg : Nat}
theorem St.off {e' : Env} (h : St B X w0 ρ0 n0 n e H a w) (he : ∀ t,t < n → e' t = e t) : St B X w0 ρ0 n0 n e' H a w := by
 obtain ⟨h1,ρ,h2,h3,h4,h5⟩ := h
 exact ⟨h1,ρ,h2,fun t ht => by rw [he t ht]; exact h3 t ht,h4,h5⟩
def zGO (x : AV) : Prop := ∀ r ver off,x ≠ .ptr r ver off
theorem zGI {sz : Nat} {x i : AV} (h : (rIaddr sz x i H).ok) : zGO (rIaddr sz x i H).x ∧ (rIaddr sz x i H).H = H := by
 unfold rIaddr at h ⊢
 split <;> simp_all [zGO,Res.no]
theorem zED {r r2 : Nat} {o : HO} (h : r ≠ r2) : (H.set r2 o)[r]? = H[r]? := zZj (fun e => h e.symm)
theorem zLv {sz : Nat} {x i : AV} {r2 : Nat} {cs cs' : List AV} (hb : H[r2]? = some (.box cs)) (h : (rIaddr sz x i H).ok) : (rIaddr sz x i (H.set r2 (.box cs'))).ok ∧ (rIaddr sz x i (H.set r2 (.box cs'))).x = (rIaddr sz x i H).x ∧ (rIaddr sz x i (H.set r2 (.box cs'))).H = H.set r2 (.box cs') := by
 unfold rIaddr at h ⊢
 split at h
 ·exact ⟨h,rfl,rfl⟩
 ·rename_i r ver off len k m
  obtain ⟨h1,h2,h3,h4⟩ := h
  have hr : r ≠ r2 := by
   rintro rfl
   simp only [szOk,hb] at h3
  simp only [szOk] at h3
  refine ⟨⟨h1,h2,?_,?_⟩,rfl,rfl⟩
  ·simp only [szOk,zED hr]; exact h3
  ·rw [zED hr]; exact h4
 ·exact h.elim
def zTM (x : AV) : Prop := (cellsOf x).length = 1 ∧ c1s (cellsOf x) = true
theorem zJy {sz bytes : Nat} {s x : AV} (h : (rAppend sz bytes s x H).ok) : zTM (rAppend sz bytes s x H).x := by
 unfold rAppend at h ⊢
 split at h
 ·rename_i r ver len
  simp only [Res.also] at h ⊢
  unfold rAppendO at h ⊢
  split at h
  ·split at h
   ·exact ⟨rfl,rfl⟩
   ·exact h.2.elim
  ·exact h.2.elim
 ·simp only [Res.also] at h ⊢
  unfold rAppendN at h ⊢
  split at h
  ·exact ⟨rfl,rfl⟩
  ·exact h.2.elim
 ·simp only [Res.also] at h ⊢
  unfold rAppendC at h ⊢
  split at h <;> first | exact ⟨rfl,rfl⟩ | exact h.2.elim | skip
  unfold rAppendN at h ⊢
  split at h <;> first | exact ⟨rfl,rfl⟩ | exact h.2.elim
 ·exact h.elim
theorem zQu {lo : LO} {K C : Env → zA → Prop} (h : zAi P [lo] e H K) (hC : ∀ x H2,C (ups e lo.d x) H2) : zAi P [lo] e H fun e2 H2 => K e2 H2 ∧ C e2 H2 := by
 refine zB1 ?_
 rcases zCg h with ⟨g1,g2⟩ | ⟨g1,g2⟩
 ·exact .inl ⟨g1,zBr g2 fun x H2 hh => ⟨hh,hC x H2⟩⟩
 ·exact .inr ⟨g1,g2,hC _ _⟩
theorem zL9 {ia ib k : Nat} (hk : zHX P n hs reg ops ia ib k = true) : (k + 1 = ops.size ∧ ia < ib ∧ ib < k) ∧ (∀ j o,ops[j]? = some o → ∃ imm,zAy P n imm ops o = some (zAn P n hs reg ops j)) ∧
  (∃ d1 s xb xi n1 x1 tp tv j0 s0 by0 x0 y0,zAn P n hs reg ops ia = ⟨some d1,none,.iaddr s xb xi⟩ ∧ zAn P n hs reg ops ib = ⟨none,none,.store n1 (.t d1) x1⟩ ∧ zAn P n hs reg ops k = ⟨none,none,.store 1 (.t tp) (.t tv)⟩ ∧ zAn P n hs reg ops j0 = ⟨some tv,none,.append s0 by0 x0 y0⟩ ∧ j0 < k ∧ d1 ≠ tp ∧ d1 ≠ tv ∧ tp < n ∧ tv < n ∧
   ∀ i,i < ops.size → (i ≠ ia → (zAn P n hs reg ops i).d ≠ some d1) ∧ (i ≠ j0 → (zAn P n hs reg ops i).d ≠ some tv)) ∧
  (∀ i,i < k → i ≠ ia → i ≠ ib → ((Region.before ops).getD k 0).testBit i = true) ∧ ((Region.before ops).getD ib 0).testBit ia = true := by
 unfold zHX at hk
 simp only [zYX,zZb,zZE,zZM,zY5] at hk
 obtain ⟨⟨⟨⟨⟨⟨h1,h2⟩,h3⟩,h4⟩,h5⟩,h6⟩,h7⟩ := hk
 refine ⟨h1,fun j o ho => ?_,?_,fun i hi ha hb => ?_,h5⟩
 ·refine ⟨zAZ hs reg j,?_⟩
  have g1 := h2 j (zY8.1 ho).1
  rw [ho] at g1
  unfold zAn
  rw [ho]
  simp only [zZt,zzax,zYT] at g1 ⊢
  cases hl : zAy P n (zAZ hs reg j) ops o with
  | none => rw [hl] at g1; simp at g1
  | some lo => rfl
 ·generalize zOt P n hs reg ops k = j0 at h3 h6 h7
  unfold zOu at h3
  split at h3
  ·rename_i d1 s xb xi n1 d2 x1 tp tv d3 s0 by0 x0 y0 e1 e2 e3 e4
   simp only [zYX,zZL,beq_eq_false_iff_ne,ne_eq,zzax,zY5] at h3
   obtain ⟨⟨⟨⟨⟨rfl,g2⟩,g3⟩,g4⟩,g5⟩,rfl⟩ := h3
   refine ⟨_,_,_,_,_,_,_,_,j0,_,_,_,_,e1,e2,e3,e4,h7,g2,g3,g4,g5,fun i hi => ⟨fun hia hd => ?_,fun hij hd => ?_⟩⟩
   ·rcases (h6 i hi).1 with g | g
    ·exact hia g
    ·rw [hd,e1] at g
     simp at g
   ·rcases (h6 i hi).2 with g | g
    ·exact hij g
    ·rw [hd,e4] at g
     simp at g
  ·cases h3
 ·rcases h4 i hi with g | g
  ·omega
  ·exact g
theorem zL4 {ia ib k : Nat} {r : Option Nat} {m0 : Nat} {K : Env → zA → Prop} {Q : Exit → Act → World → Prop} (hD : zEn (chF P n hs reg ops k) ops T = true) (hE : zAg ops = true) (hc : zHX P n hs reg ops ia ib k = true)
  (hK : zAF P (hdF (chF P n hs reg ops k) ops.size T) e H fun e1 => zDa P (hdF (chF P n hs reg ops k) ops.size T) e1 (tlF (chF P n hs reg ops k) ops T 0) e1 H fun e' H' => zAi P [zAn P n hs reg ops k] e' H' K) (hst : St B X w0 ρ0 n0 n e H a w)
  (hQ : ∀ e' H' a' w',K e' H' → St B X w0 ρ0 n0 n e' H' a' w' → Q .normal a' w') : wpAnyIn (WR r) m0 P .any ops Q ops.size (Array.replicate ops.size false) a { w with drawn := w.drawn + 1 } := by
 obtain ⟨⟨k1,k2,k3⟩,kl,⟨d1,s,xb,xi,n1,x1,tp,tv,j0,s0,by0,x0,y0,ta,tb,tk,tj,qj,q1,q2,q3,q4,q5⟩,kb,kab⟩ := zL9 hc
 have fk : chF P n hs reg ops k k = ⟨some n,none,.stchk 1 (.t tp) (.c (.v (.bool false)))⟩ := by simp [chF,tk]
 have fo : ∀ i,i ≠ k → chF P n hs reg ops k i = zAn P n hs reg ops i := fun i hi => by simp [chF,hi]
 rw [tk] at hK
 refine zGc (S := fun l e H a w => ((l.getD ia false = true → zGO (e d1)) ∧ (l.getD j0 false = true → zTM (e tv))) ∧ (l.getD k false = false → St B X w0 ρ0 n0 n e H a w) ∧ (l.getD k false = true → ∃ r2 off cs,e tp = .ptr r2 0 off ∧ H[r2]? = some (.box cs) ∧ off + 1 ≤ cs.length ∧ (cellsOf (e tv)).length = 1 ∧ c1s (cellsOf (e tv)) = true ∧
   St B X w0 ρ0 n0 n e (H.set r2 (.box (splice cs off (cellsOf (e tv))))) a w)) hD hE hK ?_ ?_ ?_
 ·refine ⟨⟨fun h => (by rw [getD_replicate_false] at h; cases h),fun h => (by rw [getD_replicate_false] at h; cases h)⟩,fun _ => hst.still ⟨rfl,rfl,rfl,zZa _⟩ rfl,fun h => (by rw [getD_replicate_false] at h; cases h)⟩
 ·intro l e' H' a' w' hall hsz hk ⟨_,_,h3⟩
  obtain ⟨r2,off,cs,g1,g2,g3,g4,g5,g6⟩ := h3 (by rw [zP (by omega)]; exact hall k (by omega))
  have hk : (rStore 1 (e' tp) (e' tv) H').ok ∧ K e' (rStore 1 (e' tp) (e' tv) H').H := hk
  rw [g1] at hk
  simp only [rStore,Res.also,g2,rStoreO] at hk
  exact hQ _ _ _ _ hk.2 g6
 ·intro i oi e' H' a' w' l K1 next hoi hsz hun hcl hbef ⟨⟨hnp,hpj⟩,h0,h1⟩ hone hnext
  have his := (zY8.1 hoi).1
  obtain ⟨imm,hlow⟩ := kl i oi hoi
  have gset : ∀ j,(l.setIfInBounds i true).getD j false = if j = i then true else l.getD j false := fun j => by
   rw [zO]
   by_cases hji : j = i
   ·rw [if_pos ⟨hji,by omega⟩,if_pos hji]
   ·rw [if_neg fun hh => hji hh.1,if_neg hji]
  have run : ∀ {e3 : Env} {H3 : zA} {K3 : Env → zA → Prop},zAi P [zAn P n hs reg ops i] e3 H3 K3 → St B X w0 ρ0 n0 n e3 H3 a' w' → (∀ e2 H2 a2 w2,K3 e2 H2 → St B X w0 ρ0 n0 n e2 H2 a2 w2 → next a2 w2) → wpOpIn (WR r) m0 P ops Q i next a' w' := fun hone3 hst3 hn3 => by
   have hnx := zA4 (r := r) (m0 := m0) hlow hone3 hst3 (next := next) (Q := Q) fun e'' H'' a'' w'' hK'' hs'' => hn3 _ _ _ _ hK'' hs''
   unfold wpOpIn
   rw [hoi]
   simp only
   exact hnx
  by_cases hik : i = k
  ·subst hik
   rw [fk] at hone
   have hone : (zFT 1 (e' tp) (.v (.bool false)) H').ok ∧ K1 (up e' n (zFT 1 (e' tp) (.v (.bool false)) H').x) (zFT 1 (e' tp) (.v (.bool false)) H').H := hone
   have hj0 : l.getD j0 false = true := zJ hcl i oi j0 hoi (kb j0 qj (fun h => by rw [h,ta] at tj; cases tj) (fun h => by rw [h,tb] at tj; cases tj)) hbef
   obtain ⟨g4,g5⟩ := hpj hj0
   cases htp : e' tp with
   | ptr r2 ver off =>
    rw [htp] at hone
    simp only [zFT] at hone
    obtain ⟨hok,hK1⟩ := hone
    simp only [rStore,Res.also] at hok
    obtain ⟨⟨hb,hv⟩,hok⟩ := hok
    obtain ⟨cs,ho⟩ := zC3 hb
    rw [ho] at hv hok
    simp only [isVer] at hv
    subst hv
    simp only [rStoreO] at hok
    obtain ⟨g3,_,_⟩ := hok
    refine run (e3 := e') (H3 := H') (K3 := fun e2 H2 => e2 = e' ∧ H2 = H'.set r2 (.box (splice cs off (cellsOf (e' tv))))) ?_ (h0 hun) ?_
    ·rw [tk]
     show (rStore 1 (e' tp) (e' tv) H').ok ∧ e' = e' ∧ (rStore 1 (e' tp) (e' tv) H').H = _
     rw [htp]
     simp only [rStore,Res.also,ho,rStoreO]
     exact ⟨⟨⟨trivial,rfl⟩,g3,g4,g5⟩,by simp⟩
    ·rintro e2 H2 a2 w2 ⟨rfl,rfl⟩ hs2
     have hev : up e2 n .any tv = e2 tv := by simp only [up]; rw [if_neg (by omega)]
     refine hnext _ _ a2 w2 hK1 ⟨⟨fun hia => ?_,fun _ => by rw [hev]; exact ⟨g4,g5⟩⟩,fun hh => ?_,fun _ => ⟨r2,off,cs,?_,ho,g3,by rw [hev]; exact g4,by rw [hev]; exact g5,?_⟩⟩
     ·rw [gset,if_neg (by omega)] at hia
      have := hnp hia
      simp only [up]
      split
      ·intro r ver off hh; cases hh
      ·exact this
     ·rw [gset,if_pos rfl] at hh; cases hh
     ·simp only [up]; rw [if_neg (by omega)]; exact htp
     ·rw [hev]
      exact hs2.off fun t ht => by simp only [up]; rw [if_neg (by omega)]
   | _ => rw [htp] at hone; exact hone.1.elim
  ·rw [fo i hik] at hone
   cases hlk : l.getD k false with
   | false =>
    have hkeep : ∀ x,i ≠ ia → ups e' (zAn P n hs reg ops i).d x d1 = e' d1 := fun x hia => zBe ((q5 i his).1 hia)
    have hkeep2 : ∀ x,i ≠ j0 → ups e' (zAn P n hs reg ops i).d x tv = e' tv := fun x hij => zBe ((q5 i his).2 hij)
    have hij : ia ≠ j0 := fun h => by rw [← h,ta] at tj; cases tj
    refine run (K3 := fun e2 H2 => K1 e2 H2 ∧ ((i = ia → zGO (e2 d1)) ∧ (i ≠ ia → e2 d1 = e' d1) ∧ (i = j0 → zTM (e2 tv)) ∧ (i ≠ j0 → e2 tv = e' tv))) ?_ (h0 hlk) ?_
    ·by_cases hia : i = ia
     ·subst hia
      rw [ta] at hone ⊢
      have hone : (rIaddr s (ev e' xb) (ev e' xi) H').ok ∧ K1 (up e' d1 (rIaddr s (ev e' xb) (ev e' xi) H').x) (rIaddr s (ev e' xb) (ev e' xi) H').H := hone
      refine ⟨hone.1,hone.2,fun _ => ?_,fun hh => absurd rfl hh,fun hh => absurd hh hij,fun _ => ?_⟩
      ·show zGO (up e' d1 (rIaddr s (ev e' xb) (ev e' xi) H').x d1)
       simp only [up,if_true]
       exact (zGI hone.1).1
      ·show up e' d1 (rIaddr s (ev e' xb) (ev e' xi) H').x tv = e' tv
       simp only [up]
       rw [if_neg (fun h => q2 h.symm)]
     ·by_cases hj : i = j0
      ·subst hj
       rw [tj] at hone ⊢
       have hone : (rAppend s0 by0 (ev e' x0) (ev e' y0) H').ok ∧ K1 (up e' tv (rAppend s0 by0 (ev e' x0) (ev e' y0) H').x) (rAppend s0 by0 (ev e' x0) (ev e' y0) H').H := hone
       refine ⟨hone.1,hone.2,fun hh => absurd hh hia,fun _ => ?_,fun _ => ?_,fun hh => absurd rfl hh⟩
       ·show up e' tv (rAppend s0 by0 (ev e' x0) (ev e' y0) H').x d1 = e' d1
        simp only [up]
        rw [if_neg q2]
       ·show zTM (up e' tv (rAppend s0 by0 (ev e' x0) (ev e' y0) H').x tv)
        simp only [up,if_true]
        exact zJy hone.1
      ·exact zQu (C := fun e2 _ => (i = ia → zGO (e2 d1)) ∧ (i ≠ ia → e2 d1 = e' d1) ∧ (i = j0 → zTM (e2 tv)) ∧ (i ≠ j0 → e2 tv = e' tv)) hone fun x H2 => ⟨fun hh => absurd hh hia,fun _ => hkeep x hia,fun hh => absurd hh hj,fun _ => hkeep2 x hj⟩
    ·rintro e2 H2 a2 w2 ⟨hK1,hc1,hc2,hc3,hc4⟩ hs2
     refine hnext _ _ a2 w2 hK1 ⟨⟨fun hia => ?_,fun hj => ?_⟩,fun _ => hs2,fun hh => ?_⟩
     ·by_cases hi : i = ia
      ·exact hc1 hi
      ·rw [gset,if_neg (fun hh => hi hh.symm)] at hia
       rw [hc2 hi]
       exact hnp hia
     ·by_cases hi : i = j0
      ·exact hc3 hi
      ·rw [gset,if_neg (fun hh => hi hh.symm)] at hj
       rw [hc4 hi]
       exact hpj hj
     ·rw [gset,if_neg (fun hh => hik hh.symm),hlk] at hh; cases hh
   | true =>
    obtain ⟨r2,off,cs,g1,g2,g3,g4,g5,g6⟩ := h1 hlk
    have hiab : i = ia ∨ i = ib := by
     refine zZo fun hno => ?_
     have hok : ∃ ok,ops[k]? = some ok := ⟨ops[k]'(by omega),by simp [show k < ops.size by omega]⟩
     obtain ⟨ok,hok⟩ := hok
     have := zJ hcl k ok i hok (kb i (by omega) (fun h => hno (.inl h)) (fun h => hno (.inr h))) (hcl k ok hok hlk)
     rw [hun] at this
     cases this
    rcases hiab with rfl | rfl
    ·rw [ta] at hone
     have hone : (rIaddr s (ev e' xb) (ev e' xi) H').ok ∧ K1 (up e' d1 (rIaddr s (ev e' xb) (ev e' xi) H').x) (rIaddr s (ev e' xb) (ev e' xi) H').H := hone
     obtain ⟨hn1,hn2⟩ := zGI hone.1
     obtain ⟨p1,p2,p3⟩ := zLv (cs' := splice cs off (cellsOf (e' tv))) g2 hone.1
     refine run (e3 := e') (H3 := H'.set r2 (.box (splice cs off (cellsOf (e' tv))))) (K3 := fun e2 H2 => e2 = up e' d1 (rIaddr s (ev e' xb) (ev e' xi) H').x ∧ H2 = H'.set r2 (.box (splice cs off (cellsOf (e' tv))))) ?_ g6 ?_
     ·rw [ta]
      exact ⟨p1,by rw [← p2]; rfl,p3⟩
     ·rintro e2 H2 a2 w2 ⟨rfl,rfl⟩ hs2
      have hK1 := hone.2
      rw [hn2] at hK1
      have hev : up e' d1 (rIaddr s (ev e' xb) (ev e' xi) H').x tv = e' tv := by simp only [up]; rw [if_neg (fun h => q2 h.symm)]
      have hj0 : zTM (e' tv) := ⟨g4,g5⟩
      refine hnext _ _ a2 w2 hK1 ⟨⟨fun _ => ?_,fun _ => by rw [hev]; exact hj0⟩,fun hh => ?_,fun _ => ⟨r2,off,cs,?_,g2,g3,by rw [hev]; exact g4,by rw [hev]; exact g5,by rw [hev]; exact hs2⟩⟩
      ·simp only [up,if_true]; exact hn1
      ·rw [gset,if_neg (by omega),hlk] at hh; cases hh
      ·simp only [up]; rw [if_neg (fun h => q1 h.symm)]; exact g1
    ·rw [tb] at hone
     have hone : (rStore n1 (e' d1) (ev e' x1) H').ok ∧ K1 e' (rStore n1 (e' d1) (ev e' x1) H').H := hone
     have hia : l.getD ia false = true := zJ hcl i oi ia hoi kab hbef
     have hnp := hnp hia
     cases hd : e' d1 with
     | pe r1 ver1 i1 off1 =>
      rw [hd] at hone
      have hone0 := hone
      simp only [rStore,Res.also] at hone
      obtain ⟨⟨⟨ha,hv⟩,hok⟩,hK1⟩ := hone
      obtain ⟨ver',sz',rows,ho⟩ := zBo ha
      have hne : r1 ≠ r2 := by
       rintro rfl
       rw [g2] at ho
       cases ho
      have hHS : (H'.set r2 (.box (splice cs off (cellsOf (e' tv)))))[r1]? = some (.arr ver' sz' rows) := by rw [zED hne]; exact ho
      rw [ho] at hv hok hK1
      refine run (e3 := e') (H3 := H'.set r2 (.box (splice cs off (cellsOf (e' tv))))) (K3 := fun e2 H2 => e2 = e' ∧ H2 = (rStoreO n1 i1 off1 r1 (ev e' x1) (H'.set r2 (.box (splice cs off (cellsOf (e' tv))))) (some (.arr ver' sz' rows))).H) ?_ g6 ?_
      ·rw [tb]
       show (rStore n1 (e' d1) (ev e' x1) _).ok ∧ e' = e' ∧ (rStore n1 (e' d1) (ev e' x1) _).H = _
       rw [hd]
       simp only [rStore,Res.also,hHS]
       exact ⟨⟨⟨trivial,hv⟩,hok⟩,by simp⟩
      ·rintro e2 H2 a2 w2 ⟨rfl,rfl⟩ hs2
       refine hnext _ _ a2 w2 hK1 ⟨⟨fun _ => hnp,fun _ => ⟨g4,g5⟩⟩,fun hh => ?_,fun _ => ⟨r2,off,cs,g1,?_,g3,g4,g5,?_⟩⟩
       ·rw [gset,if_neg (by omega),hlk] at hh; cases hh
       ·simp only [rStoreO]
        rw [zED (fun h => hne h.symm)]
        exact g2
       ·simp only [rStoreO] at hs2 ⊢
        rw [List.set_comm _ _ hne]
        exact hs2
     | ptr r1 ver1 off1 => exact absurd hd (hnp _ _ _)
     | _ => rw [hd] at hone; exact hone.1.elim
end
section
variable {B : DB} {P : Program} {w w0 w2 : World} {X : Nat → Prop} {ρ ρ0 : Nat → Loc} {H H' ext : zA} {e e1 : Env} {a a2 : Act} {n n0 : Nat}
variable {ops : Array Oper} {T : List Nat} {hs : List Hn} {reg : Nat}
def St1 (B : DB) (X : Nat → Prop) (w0 : World) (ρ0 : Nat → Loc) (n0 n d0 : Nat) (zs : List AV) (e : Env) (H : zA) (a : Act) (w : World) : Prop :=
 ∃ (b : Nat) (c : Array Value) (t : TypeId) (fr : Nat × Nat) (ρ : Nat → Loc),a.tmps.size = n ∧ HRel w (fun x => X x ∨ x = b) ρ H ∧ ER w (fun x => X x ∨ x = b) ρ H n (up e d0 (.v (.pointer (some ⟨b,0,none⟩)))) a ∧ Fut w0 ρ0 n0 w ρ H.length ∧ Mk B w0 w ρ H.length a.defers ∧
  w.heap[b]? = some (.cells c t fr) ∧ zMg fr c.size ∧ zs.length = c.size ∧ (∀ t',zs[0]? ≠ some (.bnil t')) ∧ ¬ X b ∧ (Own ρ0 n0 b ∨ w0.heap.size ≤ b) ∧ (∀ g,(g ∈ glbs ∨ g ∈ zLQ) → g ≠ b) ∧
  ∀ (j : Nat) (y : AV) (u : Value),zs[j]? = some y → c[j]? = some u → Rep w (Mut (fun x => X x ∨ x = b) ρ H.length) ρ H.length y u ∧ one u = true
theorem St.disown {d0 : Nat} {zs : List AV} (hd : d0 < n) (hn0 : n0 ≤ H.length) (hO : ∀ (r : Nat) (o : HO),H[r]? = some o → ∃ w' M ρ' l,ObjOk w' M ρ' H.length l o) (hS : ∀ t,t < n → t ≠ d0 → ∃ w' M ρ' u,Rep w' M ρ' H.length (e t) u)
  (hZ : ∀ (j : Nat) (y : AV),zs[j]? = some y → ∃ w' M ρ' u,Rep w' M ρ' H.length y u) (hbn : ∀ t',zs[0]? ≠ some (.bnil t')) (h2 : St B X w0 ρ0 n0 n (up e d0 (.ptr H.length 0 0)) (H ++ [.box zs]) a2 w2) : St1 B X w0 ρ0 n0 n d0 zs e H a2 w2 := by
 obtain ⟨hn2,ρ2,hrel2,he2,hf2,hm2⟩ := h2
 have hlen2 : (H ++ [HO.box zs]).length = H.length + 1 := by simp
 have ob2 := hrel2.objs
 have inj2 := hrel2.inj
 have lt2 := hrel2.lt
 have gl2 := hrel2.gl
 rw [hlen2] at ob2 hf2 hm2 inj2 lt2 gl2
 have he2 : ∀ t,t < n → Rep w2 (Mut X ρ2 (H.length + 1)) ρ2 (H.length + 1) (up e d0 (.ptr H.length 0 0) t) (a2.tmps.getD t undef) := by
  have := he2
  unfold ER at this
  rwa [hlen2] at this
 obtain ⟨hv,b,c,t,fr,hblk,hheap,hlc,hfr,hcells⟩ := ob2 H.length (.box zs) (by simp)
 have hown : ∀ b',Own ρ2 (H.length + 1) b' ↔ (Own ρ2 H.length b' ∨ b' = b) := fun b' =>
  ⟨fun ⟨r,o,hr,hb⟩ => by
   by_cases hrl : r = H.length
   ·subst hrl; rw [hblk] at hb; cases hb; exact .inr rfl
   ·exact .inl ⟨r,o,by omega,hb⟩,fun h => h.elim (fun ⟨r,o,hr,hb⟩ => ⟨r,o,by omega,hb⟩) fun h => ⟨H.length,0,by omega,by rw [h]; exact hblk⟩⟩
 have hM : Mut (fun x => X x ∨ x = b) ρ2 H.length = Mut X ρ2 (H.length + 1) := by
  funext b'
  refine propext ⟨fun h => ?_,fun h => ?_⟩
  ·rcases h with (h | h) | h
   ·exact .inl h
   ·exact .inr ((hown b').2 (.inr h))
   ·exact .inr ((hown b').2 (.inl h))
  ·rcases h with h | h
   ·exact .inl (.inl h)
   ·rcases (hown b').1 h with h | h
    ·exact .inr h
    ·exact .inl (.inr h)
 have hltb := lt2 H.length b 0 (by omega) hblk
 refine ⟨b,c,t,fr,ρ2,hn2,⟨?_,?_,?_,?_,?_⟩,?_,?_,?_,hheap,hfr.1,hlc,hbn,hltb.2,hf2.own b ⟨H.length,0,by omega,hblk⟩,fun g hg hgb => (gl2 g hg).1 ⟨H.length,0,by omega,by rw [hgb]; exact hblk⟩,fun j y u hy hu => ?_⟩
 ·intro r o hr
  rw [hM]
  have hlt : r < H.length := (zYU.1 hr).1
  obtain ⟨w',M,ρ',l,ho⟩ := hO r o hr
  exact ho.scope (fun _ h => h) (ob2 r o (by rw [zY2 hlt]; exact hr))
 ·exact fun r r' b1 o1 b2 o2 hr hr' => inj2 r r' b1 o1 b2 o2 (by omega) (by omega)
 ·intro r b1 o1 hr hb1
  refine ⟨(lt2 r b1 o1 (by omega) hb1).1,fun h => ?_⟩
  rcases h with h | h
  ·exact (lt2 r b1 o1 (by omega) hb1).2 h
  ·exact inj2 r H.length b1 o1 b 0 (by omega) (by omega) (by omega) hb1 hblk h
 ·intro b1 h
  rcases h with h | h
  ·exact hrel2.xlt b1 h
  ·rw [h]; exact hltb.1
 ·exact fun g hg => ⟨fun ho => (gl2 g hg).1 ((hown g).2 (.inl ho)),(gl2 g hg).2⟩
 ·intro t' ht'
  rw [hM]
  have g := he2 t' ht'
  by_cases htd : t' = d0
  ·subst htd
   simp only [up,if_true] at g ⊢
   generalize hu : a2.tmps.getD t' undef = u at g
   cases g with
   | ptr _ _ _ _ _ hr hle hone hp =>
    obtain ⟨b',o',hb',hu'⟩ := hp hv.symm
    rw [hblk] at hb'
    cases hb'
    rw [hu']
    exact .v _ _
  ·simp only [up,if_neg htd] at g ⊢
   obtain ⟨w',M,ρ',u,ho⟩ := hS t' ht' htd
   exact ho.scope (fun _ h => h) g
 ·exact ⟨hf2.os,hf2.tape,hf2.output,hf2.size,hf2.keep,fun b1 hb1 => hf2.own b1 ((hown b1).2 (.inl hb1)),hn0,hf2.loc⟩
 ·obtain ⟨ds,k1,k2,k3,k4⟩ := hm2
  exact ⟨ds,k1,k2,k3,fun D hD => ⟨(k4 D hD).1,(k4 D hD).2.1,fun ho => (k4 D hD).2.2.1 ((hown D).2 (.inl ho)),(k4 D hD).2.2.2⟩⟩
 ·rw [hM]
  obtain ⟨w',M,ρ',u',ho⟩ := hZ j y hy
  exact ⟨ho.scope (fun _ h => h) (hcells j y u hy hu).1,(hcells j y u hy hu).2⟩
theorem St1.adopt {d0 : Nat} {zs : List AV} (h : St1 B X w0 ρ0 n0 n d0 zs e H a w) : St B X w0 ρ0 n0 n (up e d0 (.ptr H.length 0 0)) (H ++ [.box zs]) a w := by
 obtain ⟨b,c,t,fr,ρ,hn,hrel,he,hf,hm,hheap,hfr,hlc,hbn,hxb,hob,hgb,hcells⟩ := h
 have hlen2 : (H ++ [HO.box zs]).length = H.length + 1 := by simp
 obtain ⟨ρ',hρ⟩ : ∃ ρ' : Nat → Loc,ρ' = fun i => if i = H.length then { blk := some (b,0) } else ρ i := ⟨_,rfl⟩
 have p0 : ρ' H.length = { blk := some (b,0) } := by subst hρ; simp
 have po : ∀ i,i < H.length → ρ' i = ρ i := fun i hi => by subst hρ; simp only; rw [if_neg (by omega)]
 have hown : ∀ b',Own ρ' (H.length + 1) b' ↔ (Own ρ H.length b' ∨ b' = b) := fun b' =>
  ⟨fun ⟨r,o,hr,hb⟩ => by
   by_cases hrl : r = H.length
   ·subst hrl; rw [p0] at hb; cases hb; exact .inr rfl
   ·exact .inl ⟨r,o,by omega,by rw [← po r (by omega)]; exact hb⟩,fun h => h.elim (fun ⟨r,o,hr,hb⟩ => ⟨r,o,by omega,by rw [po r hr]; exact hb⟩) fun h => ⟨H.length,0,by omega,by rw [p0,h]⟩⟩
 have hM : Mut X ρ' (H.length + 1) = Mut (fun x => X x ∨ x = b) ρ H.length := by
  funext b'
  refine propext ⟨fun h => ?_,fun h => ?_⟩
  ·rcases h with h | h
   ·exact .inl (.inl h)
   ·rcases (hown b').1 h with h | h
    ·exact .inr h
    ·exact .inl (.inr h)
  ·rcases h with (h | h) | h
   ·exact .inl h
   ·exact .inr ((hown b').2 (.inr h))
   ·exact .inr ((hown b').2 (.inl h))
 have hF : Fut w ρ H.length w ρ' H.length := ⟨rfl,rfl,rfl,zZa _,fun _ _ _ => rfl,fun b ⟨r,o,hr,hb⟩ => .inl ⟨r,o,hr,by rw [← po r hr]; exact hb⟩,zZa _,fun r hr => .inl (po r hr)⟩
 have reloc : ∀ k,k ≤ H.length → ∀ x u,Rep w (Mut (fun x => X x ∨ x = b) ρ H.length) ρ k x u → Rep w (Mut (fun x => X x ∨ x = b) ρ H.length) ρ' k x u := fun k hk x u hx =>
  hx.fut hF (fun b _ hb => hb) (fun b hb ho => hb (.inr ho)) hk
 have hltb := hrel.xlt b (.inr rfl)
 refine ⟨hn,ρ',⟨?_,?_,?_,fun b1 hb1 => hrel.xlt b1 (.inl hb1),?_⟩,?_,?_,?_⟩
 ·intro r o hr
  rw [hlen2,hM]
  by_cases hrl : r < H.length
  ·rw [zY2 hrl] at hr
   rw [po r hrl]
   exact (hrel.objs r o hr).map (fun x u hx => (reloc _ (zZa _) x u hx).mono (by omega)) (fun x u hx => reloc 0 (zZm _) x u hx)
  ·have hlt := (zYU.1 hr).1
   rw [hlen2] at hlt
   obtain rfl : r = H.length := by omega
   have ho : o = .box zs := by simpa using hr.symm
   subst ho
   rw [p0]
   exact ⟨rfl,b,c,t,fr,rfl,hheap,hlc,⟨hfr,fun t' ht => absurd ht (hbn t')⟩,fun j y u hy hu => ⟨(reloc _ (zZa _) y u (hcells j y u hy hu).1).mono (by omega),(hcells j y u hy hu).2⟩⟩
 ·intro r r' b1 o1 b2 o2 hr hr' hne hb1 hb2
  rw [hlen2] at hr hr'
  by_cases h1 : r = H.length
  ·subst h1
   rw [p0] at hb1
   cases hb1
   rw [po r' (by omega)] at hb2
   rintro rfl
   exact (hrel.lt r' _ _ (by omega) hb2).2 (.inr rfl)
  ·rw [po r (by omega)] at hb1
   by_cases h2 : r' = H.length
   ·subst h2
    rw [p0] at hb2
    cases hb2
    rintro rfl
    exact (hrel.lt r _ _ (by omega) hb1).2 (.inr rfl)
   ·rw [po r' (by omega)] at hb2
    exact hrel.inj r r' b1 o1 b2 o2 (by omega) (by omega) hne hb1 hb2
 ·intro r b1 o1 hr hb1
  rw [hlen2] at hr
  by_cases h1 : r = H.length
  ·subst h1
   rw [p0] at hb1
   cases hb1
   exact ⟨hltb,hxb⟩
  ·rw [po r (by omega)] at hb1
   exact ⟨(hrel.lt r b1 o1 (by omega) hb1).1,fun hx => (hrel.lt r b1 o1 (by omega) hb1).2 (.inl hx)⟩
 ·rw [hlen2]
  exact fun g hg => ⟨fun ho => ((hown g).1 ho).elim (hrel.gl g hg).1 (hgb g hg),(hrel.gl g hg).2⟩
 ·intro t' ht'
  rw [hlen2,hM]
  have g := he t' ht'
  by_cases htd : t' = d0
  ·subst htd
   simp only [up,if_true] at g ⊢
   generalize hu : a.tmps.getD t' undef = u at g
   cases g
   exact .ptr _ _ _ _ _ (by omega) (by rw [p0]; exact zZa _) rfl fun _ => ⟨b,0,by rw [p0],rfl⟩
  ·simp only [up,if_neg htd] at g ⊢
   exact (reloc _ (zZa _) _ _ g).mono (by omega)
 ·rw [hlen2]
  exact ⟨hf.os,hf.tape,hf.output,hf.size,hf.keep,fun b1 hb1 => ((hown b1).1 hb1).elim (hf.own b1) fun h => by rw [h]; exact hob,Nat.le_succ_of_le hf.len,fun r hr => by
   have := hf.len
   rw [po r (by omega)]
   exact hf.loc r hr⟩
 ·rw [hlen2]
  obtain ⟨ds,k1,k2,k3,k4⟩ := hm
  refine ⟨ds,k1,k2,k3,fun D hD => ⟨(k4 D hD).1,(k4 D hD).2.1,fun ho => ?_,(k4 D hD).2.2.2⟩⟩
  rcases (hown D).1 ho with h | h
  ·exact (k4 D hD).2.2.1 h
  ·have := (k4 D hD).2.2.2
   rw [h,hheap] at this
   cases this
theorem zQC {d0 : Nat} {p x : AV} {d : Option Nat} (h : d ≠ some d0) : ups (up e d0 p) d x = up (ups e d x) d0 p := by
 cases d with
 | none => rfl
 | some d =>
  funext t
  simp only [ups,up]
  by_cases h1 : t = d
  ·rw [if_pos h1,if_neg (fun h2 => h (by rw [← h1,h2])),if_pos h1]
  ·rw [if_neg h1,if_neg h1]
theorem St1.step {r : Option Nat} {m0 : Nat} {imm : Bool} {o : Oper} {lo : LO} {d0 : Nat} {zs : List AV} {K1 : Env → zA → Prop} {next : Act → World → Prop} {Q : Exit → Act → World → Prop} (hl : zAy P n imm ops o = some lo) (hd : lo.d ≠ some d0) (hr : d0 ∉ lo.rd)
  (h : zAi P [lo] e H K1) (hs : St1 B X w0 ρ0 n0 n d0 zs e H a w) (hn : ∀ e2 H2 a2 w2,K1 e2 H2 → (∀ t,lo.d ≠ some t → e2 t = e t) → St1 B X w0 ρ0 n0 n d0 zs e2 H2 a2 w2 → next a2 w2) :
  if Region.wanted o (yielded ops a.tmps) then o.wpIn (WR r) m0 P a w next Q else (∀ f,o.about P w a.eval = some f → (WR r).fn f) ∧ next (a.put o.dst undef) w := by
 obtain ⟨b,c,t,fr,ρ,hn1,hrel,he,hf,hm,hheap,hfr,hlc,hbn,hxb,hob,hgb,hcells⟩ := hs
 have hrd : ∀ t ∈ lo.rd,e t = up e d0 (.v (.pointer (some ⟨b,0,none⟩))) t := fun t ht => by
  simp only [up]
  rw [if_neg (by rintro rfl; exact hr ht)]
 have hone : zAi P [lo] (up e d0 (.v (.pointer (some ⟨b,0,none⟩)))) H fun e2 H2 => ∃ e2',e2 = up e2' d0 (.v (.pointer (some ⟨b,0,none⟩))) ∧ K1 e2' H2 ∧ ∀ t,lo.d ≠ some t → e2' t = e t := by
  have hw : zBd lo.g e = zBd lo.g (up e d0 (.v (.pointer (some ⟨b,0,none⟩)))) := zBT fun t want hg => hrd t (by simp [LO.rd,hg])
  refine zB1 ?_
  rcases zCg h with ⟨g1,g2⟩ | ⟨g1,g2⟩
  ·refine .inl ⟨by rw [← hw]; exact g1,?_⟩
   have g3 := zDR (fun t ht => hrd t (by simp [LO.rd,ht])) g2
   refine zBr g3 fun x H2 hx2 => ?_
   simp only [zAi] at hx2 ⊢
   exact ⟨_,zQC hd,hx2,fun t ht => zBe ht⟩
  ·refine .inr ⟨by rw [← hw]; exact g1,?_⟩
   simp only [zAi] at g2 ⊢
   exact ⟨_,zQC hd,g2,fun t ht => zBe ht⟩
 have st1 : St ⟨a.defers,False⟩ (fun x => X x ∨ x = b) w ρ H.length n (up e d0 (.v (.pointer (some ⟨b,0,none⟩)))) H a w := ⟨hn1,ρ,hrel,he,Fut.refl _ _ _,Mk.nil⟩
 refine zA4 (r := r) (m0 := m0) hl hone st1 fun e'' H'' a'' w'' hK'' hs'' => ?_
 obtain ⟨e2,rfl,hK,hkeep⟩ := hK''
 obtain ⟨q1,ρ2,q2,q3,q4,ds,k1,k2,k3,k4⟩ := hs''
 have hds : ds = [] := k2.resolve_left (fun h => h)
 subst hds
 have hdf : a''.defers = a.defers := by rw [k1]; rfl
 have hbo : ¬ Own ρ H.length b := fun ⟨r,o,hr,hb⟩ => (hrel.lt r b o hr hb).2 (.inr rfl)
 refine hn e2 H'' a'' w'' hK hkeep ⟨b,c,t,fr,ρ2,q1,q2,q3,hf.trans q4,?_,?_,hfr,hlc,hbn,hxb,hob,hgb,fun j y u hy hu => ⟨(hcells j y u hy hu).1.nextN q4,(hcells j y u hy hu).2⟩⟩
 ·rw [hdf]; exact hm.fut q4
 ·rw [q4.keep b (hrel.xlt b (.inr rfl)) hbo]; exact hheap
theorem zO0 {ia is : Nat} (hk : zO1 P n hs reg ops ia is = true) : ia < is ∧ is < ops.size ∧ (∀ j o,ops[j]? = some o → ∃ imm,zAy P n imm ops o = some (zAn P n hs reg ops j)) ∧ ((Region.before ops).getD is 0).testBit ia = true ∧
  ∃ d0 zs sz tv,zAn P n hs reg ops ia = ⟨some d0,none,.alloc zs⟩ ∧ zAn P n hs reg ops is = ⟨none,none,.store sz (.t d0) (.t tv)⟩ ∧ d0 < n ∧ (zOZ zs = true ∧ c1s zs = true) ∧ zs.length = sz ∧ tv ≠ d0 ∧ tv < n ∧
   ∀ i,i < ops.size → i ≠ ia → i ≠ is → (zAn P n hs reg ops i).d ≠ some d0 ∧ d0 ∉ (zAn P n hs reg ops i).rd ∧ (((Region.before ops).getD is 0).testBit i = true ∨ (zAn P n hs reg ops i).d ≠ some tv) := by
 unfold zO1 at hk
 simp only [zYX,zZb,zZE,zZM,zY5] at hk
 obtain ⟨⟨⟨⟨h1,h2⟩,h3⟩,h4⟩,h5⟩ := hk
 refine ⟨h1.1,h1.2,fun j o ho => ?_,h4,?_⟩
 ·refine ⟨zAZ hs reg j,?_⟩
  have g1 := h2 j (zY8.1 ho).1
  rw [ho] at g1
  unfold zAn
  rw [ho]
  simp only [zZt,zzax,zYT] at g1 ⊢
  cases hl : zAy P n (zAZ hs reg j) ops o with
  | none => rw [hl] at g1; simp at g1
  | some lo => rfl
 ·unfold zJ9 at h3
  split at h3
  ·rename_i d0 zs sz d1 tv e1 e2
   simp only [zYX,zZL,zzax,beq_eq_false_iff_ne,ne_eq,zY5] at h3
   obtain ⟨⟨⟨⟨⟨rfl,g2⟩,g3⟩,g4⟩,g5⟩,g6⟩ := h3
   refine ⟨_,_,_,_,e1,e2,g2,g3,g4,g5,g6,fun i hi ha hs => ?_⟩
   rcases h5 i hi with g | g
   ·omega
   ·rw [e1,e2] at g
    simp only [LX.rd,zzaY,List.all_nil,zzbl,zYX,zZL,beq_eq_false_iff_ne,ne_eq,List.contains_eq_mem,decide_eq_false_iff_not,zZM] at g
    exact ⟨g.1.1,g.1.2,g.2⟩
  ·cases h3
theorem zQi {ia is : Nat} {r : Option Nat} {m0 : Nat} {K : Env → zA → Prop} {Q : Exit → Act → World → Prop} (hD : zEn (zLa P n hs reg ops ia is) ops T = true) (hE : zAg ops = true) (hc : zO1 P n hs reg ops ia is = true)
  (hK : zAF P (hdF (zLa P n hs reg ops ia is) ops.size T) e H fun e1 => zDa P (hdF (zLa P n hs reg ops ia is) ops.size T) e1 (tlF (zLa P n hs reg ops ia is) ops T 0) e1 H fun e' H' => zAi P [zKa P n hs reg ops ia is] e' H' K) (hst : St B X w0 ρ0 n0 n e H a w)
  (hQ : ∀ e' H' a' w',K e' H' → St B X w0 ρ0 n0 n e' H' a' w' → Q .normal a' w') : wpAnyIn (WR r) m0 P .any ops Q ops.size (Array.replicate ops.size false) a { w with drawn := w.drawn + 1 } := by
 obtain ⟨k1,k2,kl,kb,d0,zs,sz,tv,ta,ts,q1,q2,q3,q4,q5,q6⟩ := zO0 hc
 have hne : ia ≠ is := by omega
 have fa : zLa P n hs reg ops ia is ia = zFj := by simp [zLa]
 have fs : zLa P n hs reg ops ia is is = ⟨some n,none,.build (List.replicate sz (.v (.bool false))) [(0,sz,.t tv)]⟩ := by unfold zLa; rw [if_neg (fun h => hne h.symm),if_pos rfl,ts]
 have fo : ∀ i,i ≠ ia → i ≠ is → zLa P n hs reg ops ia is i = zAn P n hs reg ops i := fun i h1 h2 => by simp [zLa,h1,h2]
 have fe : zKa P n hs reg ops ia is = ⟨some d0,none,.box false (.t tv)⟩ := by simp [zKa,ts,ta]
 rw [fe] at hK
 refine zGc (S := fun l e H a w => n0 ≤ H.length ∧ (l.getD ia false = false → St B X w0 ρ0 n0 n e H a w) ∧ (l.getD ia false = true → l.getD is false = false → St1 B X w0 ρ0 n0 n d0 zs e H a w) ∧
   (l.getD is false = true → l.getD ia false = true ∧ (cellsOf (e tv)).length = sz ∧ c1s (cellsOf (e tv)) = true ∧ St1 B X w0 ρ0 n0 n d0 (cellsOf (e tv)) e H a w)) hD hE hK ?_ ?_ ?_
 ·obtain ⟨_,_,_,_,hf,_⟩ := id hst
  exact ⟨hf.len,fun _ => hst.still ⟨rfl,rfl,rfl,zZa _⟩ rfl,fun h => (by rw [getD_replicate_false] at h; cases h),fun h => (by rw [getD_replicate_false] at h; cases h)⟩
 ·intro l e' H' a' w' hall hsz hk ⟨_,_,_,h3⟩
  obtain ⟨_,g4,g5,g6⟩ := h3 (by rw [zP (by omega)]; exact hall is k2)
  have hk : c1s (cellsOf (e' tv)) = true ∧ K (up e' d0 (.ptr H'.length 0 0)) (H' ++ [.box (cellsOf (e' tv))]) := hk
  exact hQ _ _ _ _ hk.2 g6.adopt
 ·intro i oi e' H' a' w' l K1 next hoi hsz hun hcl hbef ⟨hlen,h0,h1,h2⟩ hone hnext
  have his := (zY8.1 hoi).1
  obtain ⟨imm,hlow⟩ := kl i oi hoi
  have gset : ∀ j,(l.setIfInBounds i true).getD j false = if j = i then true else l.getD j false := fun j => by
   rw [zO]
   by_cases hji : j = i
   ·rw [if_pos ⟨hji,by omega⟩,if_pos hji]
   ·rw [if_neg fun hh => hji hh.1,if_neg hji]
  have run : ∀ {e3 : Env} {H3 : zA} {K3 : Env → zA → Prop},zAi P [zAn P n hs reg ops i] e3 H3 K3 → St B X w0 ρ0 n0 n e3 H3 a' w' → (∀ e2 H2 a2 w2,K3 e2 H2 → St B X w0 ρ0 n0 n e2 H2 a2 w2 → next a2 w2) → wpOpIn (WR r) m0 P ops Q i next a' w' := fun hone3 hst3 hn3 => by
   have hnx := zA4 (r := r) (m0 := m0) hlow hone3 hst3 (next := next) (Q := Q) fun e'' H'' a'' w'' hK'' hs'' => hn3 _ _ _ _ hK'' hs''
   unfold wpOpIn
   rw [hoi]
   simp only
   exact hnx
  have run1 : ∀ {z : List AV},i ≠ ia → i ≠ is → zAi P [zAn P n hs reg ops i] e' H' K1 → St1 B X w0 ρ0 n0 n d0 z e' H' a' w' → (∀ e2 H2 a2 w2,K1 e2 H2 → (∀ t,(zAn P n hs reg ops i).d ≠ some t → e2 t = e' t) → St1 B X w0 ρ0 n0 n d0 z e2 H2 a2 w2 → next a2 w2) → wpOpIn (WR r) m0 P ops Q i next a' w' := fun hia his2 hone3 hst3 hn3 => by
   obtain ⟨s1,s2,_⟩ := q6 i his hia his2
   have hnx := St1.step (r := r) (m0 := m0) (ops := ops) hlow s1 s2 hone3 hst3 (next := next) (Q := Q) hn3
   unfold wpOpIn
   rw [hoi]
   simp only
   exact hnx
  have len1 : ∀ {z : List AV} {e2 : Env} {H2 : zA} {a2 : Act} {w2 : World},St1 B X w0 ρ0 n0 n d0 z e2 H2 a2 w2 → n0 ≤ H2.length := fun ⟨_,_,_,_,_,_,_,_,hf,_⟩ => hf.len
  have len0 : ∀ {e2 : Env} {H2 : zA} {a2 : Act} {w2 : World},St B X w0 ρ0 n0 n e2 H2 a2 w2 → n0 ≤ H2.length := fun ⟨_,_,_,_,hf,_⟩ => hf.len
  by_cases hia : i = ia
  ·subst hia
   have hisf : l.getD is false = false := by
    cases hb : l.getD is false with
    | false => rfl
    | true => rw [hun] at h2; have := (h2 hb).1; cases this
   have hs0 := h0 hun
   rw [fa] at hone
   have hone : True ∧ K1 e' H' := hone
   have hone := hone.2
   refine run (e3 := e') (H3 := H') (K3 := fun e2 H2 => e2 = up e' d0 (.ptr H'.length 0 0) ∧ H2 = H' ++ [.box zs]) (by rw [ta,zB0]; exact ⟨q2.2,rfl,rfl⟩) hs0 ?_
   rintro e2 H2 a2 w2 ⟨rfl,rfl⟩ hs2
   obtain ⟨_,ρ1,hrel1,he1,_,_⟩ := hs0
   have hS1 := St.disown q1 hlen (fun r o ho => ⟨_,_,_,_,hrel1.objs r o ho⟩) (fun t ht _ => ⟨_,_,_,_,he1 t ht⟩) (fun j y hy => by obtain ⟨u,rfl⟩ := zH2 q2.1 hy; exact ⟨default,fun _ => False,fun _ => {},u,.v _ _⟩) (fun t' ht => by obtain ⟨u,hu⟩ := zH2 q2.1 ht; cases hu) hs2
   refine hnext _ _ a2 w2 hone ⟨hlen,fun hh => (by rw [gset,if_pos rfl] at hh; cases hh),fun _ _ => hS1,fun hh => (by rw [gset,if_neg (fun h => hne h.symm),hisf] at hh; cases hh)⟩
  ·by_cases his2 : i = is
   ·subst his2
    have hial : l.getD ia false = true := zJ hcl i oi ia hoi kb hbef
    obtain ⟨b,c,t,fr,ρ1,p1,hrel1,he1,p4,p5,p6,p7,p8,p9,p10,p11,p12,p13⟩ := id (h1 hial hun)
    have hs1 := (h1 hial hun).adopt
    rw [fs] at hone
    have hone : (((cellsOf (e' tv)).length = sz ∧ 0 + sz ≤ (List.replicate sz (AV.v (.bool false))).length ∧ c1s (cellsOf (e' tv)) = true) ∧ True) ∧ K1 (up e' n (.agg (splice (List.replicate sz (.v (.bool false))) 0 (cellsOf (e' tv))))) H' := hone
    obtain ⟨⟨⟨g1,_,g3⟩,_⟩,hK1⟩ := hone
    have hev : up e' d0 (.ptr H'.length 0 0) tv = e' tv := by simp only [up]; rw [if_neg q4]
    have hspl : splice zs 0 (cellsOf (e' tv)) = cellsOf (e' tv) := by
     simp only [splice,zzay,zZk,zZw]
     rw [List.drop_of_length_le (by omega),zZA]
    refine run (e3 := up e' d0 (.ptr H'.length 0 0)) (H3 := H' ++ [.box zs]) (K3 := fun e2 H2 => e2 = up e' d0 (.ptr H'.length 0 0) ∧ H2 = H' ++ [.box (cellsOf (e' tv))]) ?_ hs1 ?_
    ·rw [ts]
     show (rStore sz (up e' d0 (.ptr H'.length 0 0) d0) (up e' d0 (.ptr H'.length 0 0) tv) (H' ++ [.box zs])).ok ∧ _ = _ ∧ (rStore sz (up e' d0 (.ptr H'.length 0 0) d0) (up e' d0 (.ptr H'.length 0 0) tv) (H' ++ [.box zs])).H = _
     rw [hev]
     simp only [up,if_true]
     have hget : (H' ++ [HO.box zs])[H'.length]? = some (.box zs) := by simp
     simp only [rStore,Res.also,hget,rStoreO,hspl]
     refine ⟨⟨⟨trivial,rfl⟩,by omega,g1,g3⟩,rfl,?_⟩
     simp
    ·rintro e2 H2 a2 w2 ⟨rfl,rfl⟩ hs2
     have hee : ∀ t,t < n → t ≠ d0 → Rep w' (Mut (fun x => X x ∨ x = b) ρ1 H'.length) ρ1 H'.length (e' t) (a'.tmps.getD t undef) := fun t ht htd => by
      have := he1 t ht
      simp only [up,if_neg htd] at this
      exact this
     have hcv : ∀ (j : Nat) (y : AV),(cellsOf (e' tv))[j]? = some y → ∃ w' M ρ' u,Rep w' M ρ' H'.length y u := fun j y hy => by
      have hrx : ∃ u,Rep w' (Mut (fun x => X x ∨ x = b) ρ1 H'.length) ρ1 H'.length (e' tv) u := ⟨_,hee tv q5 q4⟩
      obtain ⟨u,hu⟩ := hrx
      obtain ⟨hcl,hcr⟩ := zB5 hu g3
      have hj := (zYU.1 hy).1
      exact ⟨_,_,_,_,(hcr j y (u.cells[j]'(by omega)) hy (by simp [show j < u.cells.size by omega])).1⟩
     have hS1 := St.disown q1 hlen (fun r o ho => ⟨_,_,_,_,hrel1.objs r o ho⟩) (fun t ht htd => ⟨_,_,_,_,hee t ht htd⟩) hcv (fun t' ht => by
      have := zZb.1 g3 _ (zZp ht)
      cases this) hs2
     have hev2 : up e' n (.agg (splice (List.replicate sz (.v (.bool false))) 0 (cellsOf (e' tv)))) tv = e' tv := by simp only [up]; rw [if_neg (by omega)]
     have hS2 : St1 B X w0 ρ0 n0 n d0 (cellsOf (e' tv)) (up e' n (.agg (splice (List.replicate sz (.v (.bool false))) 0 (cellsOf (e' tv))))) H' a2 w2 := by
      obtain ⟨b,c,t,fr,ρ1,p1,hrel1,he1,p4⟩ := hS1
      refine ⟨b,c,t,fr,ρ1,p1,hrel1,fun t' ht' => ?_,p4⟩
      have := he1 t' ht'
      simp only [up] at this ⊢
      by_cases h : t' = d0
      ·rw [if_pos h] at this ⊢; exact this
      ·rw [if_neg h] at this ⊢
       rw [if_neg (by omega)]
       exact this
     refine hnext _ _ a2 w2 hK1 ⟨hlen,fun hh => (by rw [gset,if_neg hne,hial] at hh; cases hh),fun _ hh => (by rw [gset,if_pos rfl] at hh; cases hh),fun _ => ⟨by rw [gset,if_neg hne]; exact hial,by rw [hev2]; exact g1,by rw [hev2]; exact g3,by rw [hev2]; exact hS2⟩⟩
   ·rw [fo i hia his2] at hone
    have ga : (l.setIfInBounds i true).getD ia false = l.getD ia false := by rw [gset,if_neg (fun h => hia h.symm)]
    have gs : (l.setIfInBounds i true).getD is false = l.getD is false := by rw [gset,if_neg (fun h => his2 h.symm)]
    cases hla : l.getD ia false with
    | false =>
     refine run hone (h0 hla) fun e2 H2 a2 w2 hK hs => hnext _ _ _ _ hK ⟨len0 hs,fun _ => hs,fun hh => (by rw [ga,hla] at hh; cases hh),fun hh => ?_⟩
     rw [gs] at hh
     have := (h2 hh).1
     rw [hla] at this
     cases this
    | true =>
     cases hls : l.getD is false with
     | false => exact run1 hia his2 hone (h1 hla hls) fun e2 H2 a2 w2 hK _ hs => hnext _ _ _ _ hK ⟨len1 hs,fun hh => (by rw [ga,hla] at hh; cases hh),fun _ _ => hs,fun hh => (by rw [gs,hls] at hh; cases hh)⟩
     | true =>
      obtain ⟨_,g4,g5,g6⟩ := h2 hls
      refine run1 hia his2 hone g6 fun e2 H2 a2 w2 hK hkeep hs => ?_
      have hev : e2 tv = e' tv := hkeep tv ?_
      ·exact hnext _ _ _ _ hK ⟨len1 hs,fun hh => (by rw [ga,hla] at hh; cases hh),fun _ hh => (by rw [gs,hls] at hh; cases hh),fun _ => ⟨by rw [ga]; exact hla,by rw [hev]; exact g4,by rw [hev]; exact g5,by rw [hev]; exact hs⟩⟩
      ·rcases (q6 i his hia his2).2.2 with g | g
       ·obtain ⟨os,hos⟩ : ∃ os,ops[is]? = some os := ⟨ops[is]'(by omega),by simp [k2]⟩
        have := zJ hcl is os i hos g (hcl is os hos hls)
        rw [hun] at this
        cases this
       ·exact g
end
section
variable {B : DB} {P : Program} {w w0 : World} {X : Nat → Prop} {ρ ρ0 : Nat → Loc} {H : zA} {e : Env} {a : Act} {n n0 : Nat}
def zUR : Out → Exit
 | .normal => .normal
 | .exit id => .exit id
 | .ret => .ret
 | .pan v => .panic [{ v,recovered := false }]
theorem zHA {x : LX} {b : Bool} (h : ev e x = bool b) : zHB e x b = e := by
 cases x with
 | t k => exact zLh h
 | c _ => rfl
theorem zNN {p : Nat → Prop} (h : ∃ n,p n) : ∃ n,p n ∧ ∀ m,p m → n ≤ m := by
 obtain ⟨n,hn⟩ := h
 induction n using Nat.strongRecOn with
 | _ n ih =>
  by_cases hh : ∃ m,m < n ∧ p m
  ·obtain ⟨m,hm,hp⟩ := hh; exact ih m hm hp
  ·exact ⟨n,hn,fun m hm => zzaW fun hlt => hh ⟨m,hlt,hm⟩⟩
open Classical in
theorem zFI {F : Fence} {m0 : Nat} {c : Code} {Q : Exit → Act → World → Prop} (I : Nat → Act → World → Prop) (k : Nat) (h0 : I k a w)
  (round : ∀ k a w,I k a w → c.wpIn F m0 P (Exit.then (fun a' w' => ∃ k',k' < k ∧ I k' a' w') Q) a w) : (Code.loop c).wpIn F m0 P Q a w := by
 refine wpIn_loop (fun a w => ∃ k,I k a w) (fun a w => if hx : ∃ k,I k a w then Classical.choose (zNN hx) else 0) ⟨k,h0⟩ ?_
 intro a w hs
 obtain ⟨hI,hl⟩ := zzaf (zNN hs)
 refine wpIn_mono (round _ a w hI) fun e a' w' hh => ?_
 cases e with
 | normal =>
  obtain ⟨k',hk,hI'⟩ := hh
  refine ⟨⟨k',hI'⟩,?_⟩
  rw [dif_pos ⟨k',hI'⟩,dif_pos hs]
  exact Nat.lt_of_le_of_lt ((zzaf (zNN ⟨k',hI'⟩)).2 _ hI') hk
 | _ => exact hh
theorem zJo {M : Nat → Prop} {N k : Nat} : ∀ (ps : List Nat) (xs : List AV) (us : List Value) {e : Env} {tmps : Array Value},xs.length = us.length → xs.length = ps.length → tmps.size = N → (∀ p ∈ ps,p < N) →
  (∀ t,t < N → Rep w M ρ k (e t) (tmps.getD t undef)) → (∀ (i : Nat) (x : AV) (u : Value),xs[i]? = some x → us[i]? = some u → Rep w M ρ k x u) →
  ((ps.zip us).foldl (fun tmps (t,a) => tmps.setIfInBounds t a) tmps).size = N ∧ ∀ t,t < N → Rep w M ρ k (upL e ps xs t) (((ps.zip us).foldl (fun tmps (t,a) => tmps.setIfInBounds t a) tmps).getD t undef)
 | [],xs,us,e,tmps,h1,h2,h3,_,h4,_ => by
  cases xs with
  | nil => exact ⟨h3,h4⟩
  | cons x xs => simp at h2
 | p :: ps,[],us,e,tmps,h1,h2,h3,_,h4,_ => by simp at h2
 | p :: ps,x :: xs,[],e,tmps,h1,h2,h3,_,h4,_ => by simp at h1
 | p :: ps,x :: xs,u :: us,e,tmps,h1,h2,h3,hp,h4,h5 => by
  simp only [List.zip_cons_cons,zzaL,upL]
  refine zJo ps xs us (by simpa using h1) (by simpa using h2) (by simpa using h3) (fun q hq => hp q (by simp [hq])) (fun t ht => ?_) (fun i x u hx hu => h5 (i + 1) x u (by simpa using hx) (by simpa using hu))
  simp only [up]
  by_cases htp : t = p
  ·subst htp
   rw [if_pos rfl]
   have : (tmps.setIfInBounds t u).getD t undef = u := by simp [zZq,h3,ht]
   rw [this]
   exact h5 0 x u rfl rfl
  ·rw [if_neg htp]
   have : (tmps.setIfInBounds p u).getD t undef = tmps.getD t undef := by
    simp only [zZq]
    rw [zZW (fun e => htp e.symm)]
   rw [this]
   exact h4 t ht
theorem zKn (w : World) (b : Nat) (o : Obj) : Same w (w.putObj b o) := ⟨rfl,rfl,rfl,by simp⟩
theorem HRel.setLp (h : HRel w X ρ H) {r l : Nat} {lr : Go.Loop} {e0 : Env} {st : zRp} (st' : zRp) (hr : H[r]? = some (.lp l lr e0 st)) :
  ∃ ρ',HRel (w.putObj l (.loop (zCk lr st'))) X ρ' (H.set r (.lp l lr e0 st')) ∧ Fut w ρ H.length (w.putObj l (.loop (zCk lr st'))) ρ' (H.set r (.lp l lr e0 st')).length := by
 have hlt : r < H.length := (zYU.1 hr).1
 obtain ⟨h1,h2,h3,h4⟩ := h.objs r _ hr
 have hb := (h.lt r l 0 hlt h2).1
 obtain ⟨ρ',_,g2,g3⟩ := h.setAt (w' := w.putObj l (.loop (zCk lr st'))) hlt (ρ r) (.lp l lr e0 st') (zKn _ _ _) (.inl rfl) (fun b o hbl => .inl ⟨o,hbl⟩)
  (fun b _ hne => World.putObj_heap_other fun e => by subst e; exact hne 0 h2)
  (fun ρ' _ hf => ⟨h1,h2,World.putObj_heap_same hb,fun t u hu => (h4 t u hu).nextN hf⟩)
 exact ⟨ρ',g2,g3⟩
theorem HRel.setDead (h : HRel w X ρ H) {r l : Nat} {lr : Go.Loop} {e0 : Env} {st : zRp} (o : Obj) (hr : H[r]? = some (.lp l lr e0 st)) :
  ∃ ρ',HRel (w.putObj l o) X ρ' (H.set r .dead) ∧ Fut w ρ H.length (w.putObj l o) ρ' (H.set r .dead).length := by
 have hlt : r < H.length := (zYU.1 hr).1
 obtain ⟨h1,h2,h3,h4⟩ := h.objs r _ hr
 obtain ⟨ρ',_,g2,g3⟩ := h.setAt (w' := w.putObj l o) hlt (ρ r) .dead (zKn _ _ _) (.inl rfl) (fun b o hbl => .inl ⟨o,hbl⟩)
  (fun b _ hne => World.putObj_heap_other fun e => by subst e; exact hne 0 h2) (fun ρ' _ hf => trivial)
 exact ⟨ρ',g2,g3⟩
theorem zBY {hs : List Hn} : ∀ (c : Code) {B : DB} {X : Nat → Prop} {w0 : World} {ρ0 : Nat → Loc} {n0 : Nat} {rd : Option Nat} {m0 : Nat} {lc : LCode} {e : Env} {H : zA} {a : Act} {w : World} {K : Out → Env → zA → Prop} {Q : Exit → Act → World → Prop},zEq P n hs c = some lc → (rd = none ∧ B.ok ∨ nr lc = true) → awp P lc e H K → St B X w0 ρ0 n0 n e H a w →
  (∀ o e' H' a' w',K o e' H' → St B X w0 ρ0 n0 n e' H' a' w' → Q (zUR o) a' w') → c.wpIn (WR rd) m0 P Q a w := by
 intro c
 induction c with
 | skip =>
  intro B X w0 ρ0 n0 rd m0 lc e H a w K Q hl hrd h hst hQ
  simp only [zEq,zYT] at hl
  subst hl
  exact wpIn_skip (hQ .normal _ _ _ _ h hst)
 | region id ops b =>
  intro B X w0 ρ0 n0 rd m0 lc e H a w K Q hl hrd h hst hQ
  cases b with
  | false =>
   simp only [zEq] at hl
   split at hl
   ·exact wpIn_region_list (zDX (fun e' H' a' w' hk hs' => hQ .normal _ _ _ _ hk hs') (fun v e' H' a' w' hk hs' => hQ (.pan v) _ _ _ _ hk hs') _ _ _ _ _ _ _ hl h hst)
   obtain ⟨los,h1,rfl⟩ := zAe hl
   exact wpIn_region_list (zIC (fun e' H' a' w' hk hs' => hQ .normal _ _ _ _ hk hs') _ _ _ _ _ _ _ h1 h hst)
  | true =>
   simp only [zEq] at hl
   split at hl
   ·rename_i T hT
    split at hl
    ·unfold zRh at hl
     split at hl
     ·rename_i hc
      simp only [zYX] at hc
      obtain ⟨⟨⟨c1,c2⟩,c3⟩,c4⟩ := hc
      simp only [zYT] at hl
      subst hl
      refine zBg (hs := hs) c4 ?_
      exact zL4 c1 c2 c3 h hst fun e' H' a' w' hk hs' => hQ .normal _ _ _ _ hk hs'
     ·cases hl
    split at hl
    ·unfold varC at hl
     split at hl
     ·rename_i hc
      simp only [zYX] at hc
      obtain ⟨⟨⟨c1,c2⟩,c3⟩,c4⟩ := hc
      simp only [zYT] at hl
      subst hl
      refine zBg (hs := hs) c4 ?_
      exact zQi c1 c2 c3 h hst fun e' H' a' w' hk hs' => hQ .normal _ _ _ _ hk hs'
     ·cases hl
    split at hl
    ·split at hl
     ·rename_i hc
      simp only [zYX] at hc
      obtain ⟨⟨⟨⟨⟨⟨⟨c1,c2⟩,c2'⟩,c5⟩,c6⟩,c7⟩,c3⟩,c4⟩ := hc
      simp only [zYT] at hl
      subst hl
      refine zBg (hs := hs) c3 ?_
      exact zOm c1 c2 c2' c5 c6 c7 c4 h hst (fun e' H' a' w' hk hs' => hQ .normal _ _ _ _ hk hs') fun v H' a' w' hk hs' => hQ (.pan v) _ _ _ _ hk hs'
     ·unfold zUQ at hl
      split at hl
      ·rename_i los hlo
       split at hl
       ·rename_i hc
        simp only [zYX] at hc
        obtain ⟨⟨⟨⟨⟨⟨c1,c2⟩,c2'⟩,c5⟩,c6⟩,c7⟩,c3⟩ := hc
        simp only [zYT] at hl
        subst hl
        refine zBg (hs := hs) c3 ?_
        exact zOl c1 c2 c2' c5 c6 c7 hlo h hst fun e' H' a' w' hk hs' => hQ .normal _ _ _ _ hk hs'
       ·cases hl
      ·cases hl
    split at hl
    ·split at hl
     ·rename_i hc
      simp only [zYX] at hc
      obtain ⟨⟨⟨c1,c2⟩,c3⟩,c4⟩ := hc
      simp only [zYT] at hl
      subst hl
      refine zBg (hs := hs) c3 ?_
      exact zGb c1 c2 c4 h hst (fun e' H' a' w' hk hs' => hQ .normal _ _ _ _ hk hs') fun v H' a' w' hk hs' => hQ (.pan v) _ _ _ _ hk hs'
     ·cases hl
    split at hl
    ·rename_i hc
     simp only [zYX] at hc
     obtain ⟨⟨⟨c1,c2⟩,c3⟩,c4⟩ := hc
     simp only [zYT] at hl
     subst hl
     refine zBg (hs := hs) c3 ?_
     exact zGd c1 c2 c4 h hst fun e' H' a' w' hk hs' => hQ .normal _ _ _ _ hk hs'
    ·cases hl
   split at hl
   ·rename_i p1 p2 _
    split at hl
    ·rename_i hd post h1 h2
     split at hl
     ·rename_i hc
      simp only [zYX,zY5] at hc
      obtain ⟨⟨⟨⟨⟨c1,c2⟩,c3⟩,c4⟩,c5⟩,c6⟩ := hc
      simp only [zYT] at hl
      subst hl
      refine zBg (hs := hs) c3 ?_
      exact zJX h1 h2 c1 c2 c4 c5 c6 h hst fun e' H' a' w' hk hs' => hQ .normal _ _ _ _ hk hs'
     ·cases hl
    ·cases hl
   ·split at hl
    ·rename_i hd tl h1 h2
     split at hl
     ·rename_i hc
      simp only [zYX,zZM,zY5] at hc
      obtain ⟨⟨⟨c1,c2⟩,c3⟩,c4⟩ := hc
      simp only [zYT] at hl
      subst hl
      refine zBg (hs := hs) c3 ?_
      rcases c1 with c1 | c1
      ·exact zL3 h1 h2 c1 c2 c3 c4 h hst fun e' H' a' w' hk hs' => hQ .normal _ _ _ _ hk hs'
      ·exact zJY h1 h2 c1 c2 c3 c4 h hst fun e' H' a' w' hk hs' => hQ .normal _ _ _ _ hk hs'
     ·cases hl
    ·cases hl
 | seq x y ihx ihy =>
  intro B X w0 ρ0 n0 rd m0 lc e H a w K Q hl hrd h hst hQ
  simp only [zEq] at hl
  split at hl
  ·rename_i lx ly h1 h2
   simp only [zYT] at hl
   subst hl
   simp only [nr,zYX] at hrd
   refine wpIn_seq (ihx h1 (hrd.imp id (·.1)) h hst fun o e' H' a' w' hk hs' => ?_)
   cases o with
   | normal => exact ihy h2 (hrd.imp id (·.2)) hk hs' hQ
   | exit id => exact hQ (.exit id) _ _ _ _ hk hs'
   | ret => exact hQ .ret _ _ _ _ hk hs'
   | pan v => exact hQ (.pan v) _ _ _ _ hk hs'
  ·cases hl
 | cond c x y ihx ihy =>
  intro B X w0 ρ0 n0 rd m0 lc e H a w K Q hl hrd h hst hQ
  simp only [zEq] at hl
  split at hl
  ·rename_i lcx lx ly h0 h1 h2
   simp only [zYT] at hl
   subst hl
   simp only [nr,zYX] at hrd
   simp only [awp] at h
   have hst' := hst
   obtain ⟨_,ρ,_,he,_⟩ := hst'
   have hr := zV he h0
   split at h
   ·rename_i t ht
    rw [ht] at hr
    have hv := zAJ hr
    refine wpIn_cond hv ?_
    cases t with
    | true =>
     rw [if_pos rfl,zHA ht] at h
     exact ihx h1 (hrd.imp id (·.1)) h hst hQ
    | false =>
     rw [if_neg (by simp),zHA ht] at h
     exact ihy h2 (hrd.imp id (·.2)) h hst hQ
   ·exact h.elim
  ·cases hl
 | block id c ih =>
  intro B X w0 ρ0 n0 rd m0 lc e H a w K Q hl hrd h hst hQ
  simp only [zEq] at hl
  obtain ⟨lb,h1,rfl⟩ := zAe hl
  simp only [nr] at hrd
  refine wpIn_block (ih h1 hrd h hst fun o e' H' a' w' hk hs' => ?_)
  cases o with
  | normal => exact hQ .normal _ _ _ _ hk hs'
  | exit j =>
   simp only at hk
   simp only [zUR,Exit.inBlock]
   split
   ·rename_i hj; rw [if_pos hj] at hk; exact hQ .normal _ _ _ _ hk hs'
   ·rename_i hj; rw [if_neg hj] at hk; exact hQ (.exit j) _ _ _ _ hk hs'
  | ret => exact hQ .ret _ _ _ _ hk hs'
  | pan v => exact hQ (.pan v) _ _ _ _ hk hs'
 | loop c ih =>
  intro B X w0 ρ0 n0 rd m0 lc e H a w K Q hl hrd h hst hQ
  simp only [zEq] at hl
  obtain ⟨lb,h1,rfl⟩ := zAe hl
  simp only [nr] at hrd
  obtain ⟨I,μ,h2,h3⟩ := h
  refine zFI (fun k a w => ∃ e H,I e H ∧ μ e H = k ∧ St B X w0 ρ0 n0 n e H a w) (μ e H) ⟨e,H,h2,rfl,hst⟩ ?_
  rintro k a w ⟨e,H,hI,rfl,hst⟩
  refine ih h1 hrd (h3 e H hI) hst fun o e' H' a' w' hk hs' => ?_
  cases o with
  | normal => exact ⟨_,hk.2,e',H',hk.1,rfl,hs'⟩
  | exit id => exact hQ (.exit id) _ _ _ _ hk hs'
  | ret => exact hQ .ret _ _ _ _ hk hs'
  | pan v => exact hQ (.pan v) _ _ _ _ hk hs'
 | exit id =>
  intro B X w0 ρ0 n0 rd m0 lc e H a w K Q hl hrd h hst hQ
  simp only [zEq,zYT] at hl
  subst hl
  exact wpIn_exit (hQ (.exit id) _ _ _ _ h hst)
 | ret =>
  intro B X w0 ρ0 n0 rd m0 lc e H a w K Q hl hrd h hst hQ
  simp only [zEq,zYT] at hl
  subst hl
  exact wpIn_ret (hQ .ret _ _ _ _ h hst)
 | rangeFunc g ps asg bdy iha ihb =>
  intro B X w0 ρ0 n0 rd m0 lc e H a w K Q hl hrd h hst hQ
  simp only [zEq] at hl
  split at hl
  ·rename_i g' la lb hg ha hb
   split at hl
   ·rename_i hc
    simp only [zYX,zZb,zY5] at hc
    obtain ⟨⟨nra,nrb⟩,hps⟩ := hc
    simp only [zYT] at hl
    subst hl
    obtain ⟨rfl,hok⟩ : rd = none ∧ B.ok := hrd.resolve_right (by simp [nr])
    simp only [awp] at h
    obtain ⟨hn,ρ,hrel,he,hf,hm⟩ := hst
    have rf := zV he hg
    split at h
    ·rename_i k first caps hev
     rw [hev] at rf
     generalize hfe : a.eval g = fv at rf
     cases rf with
     | fn _ _ _ _ fs us h1 h2 h3 h4 =>
      refine wpIn_rangeFunc fun fn _ => ?_
      obtain ⟨lr,hlr⟩ : ∃ lr : Go.Loop,lr = { state := .ready,pending := none,fn,tmps := a.tmps,params := ps,assign := asg,body := bdy,defers := w.heap.size } := ⟨_,rfl⟩
      have hlr0 : (lr.state = .ready ∧ lr.pending = none) ∧ (lr.tmps = a.tmps ∧ lr.params = ps) ∧ lr.assign = asg ∧ lr.body = bdy := by subst hlr; exact ⟨⟨rfl,rfl⟩,⟨rfl,rfl⟩,rfl,rfl⟩
      obtain ⟨⟨l1,l2⟩,⟨l3,l4⟩,l5,l6⟩ := hlr0
      have hlb : ∀ st o,zCk { zCk lr st with state := .done,pending := some (zQ5 o) } .ready = zCk lr (.done o) := by intro st o; cases st <;> rfl
      obtain ⟨w1,hw1⟩ : ∃ w1,(w.alloc (.deferred (some []))).alloc (.loop lr) = w1 := ⟨_,rfl⟩
      obtain ⟨a1,a2⟩ := hrel.more (Same.alloc w (.deferred (some []))) (zAN w _)
      obtain ⟨ρ1,p1,p2,p3⟩ := a1.push (w' := w1) { blk := some (w.heap.size + 1,0) } (.lp (w.heap.size + 1) lr e .ready) (by rw [← hw1]; exact Same.alloc _ _) (fun b o hbl => by simp at hbl; obtain ⟨rfl,_⟩ := hbl; rw [← hw1]; simp) (by rw [← hw1]; exact zAN _ _)
       (fun ρ' hf' hl' => ⟨rfl,rfl,by rw [← hw1]; have := World.alloc_heap_new (w.alloc (.deferred (some []))) (.loop lr); rwa [World.size_alloc] at this,fun t u hu => by
        rw [l3] at hu
        have htl : t < n := by rw [← hn]; exact (zY8.1 hu).1
        have := he t htl
        rw [show a.tmps.getD t undef = u by simp [zZq,hu]] at this
        exact (this.nextN a2).nextN hf'⟩)
      have hfw := a2.trans p3
      have hD1 : w1.heap[w.heap.size]? = some (.deferred (some [])) := by rw [← hw1]; exact (Below.heap_alloc _ _ _ (by simp)).trans (World.alloc_heap_new w _)
      have hDs : w.heap.size < w1.heap.size := by rw [← hw1]; simp; omega
      have hDo : ¬ Own ρ1 (H ++ [HO.lp (w.heap.size + 1) lr e .ready]).length w.heap.size := by
       rintro ⟨r,o,hr,hbl⟩
       by_cases hrl : r = H.length
       ·subst hrl; rw [p1] at hbl; simp at hbl
       ·have hr' : r < H.length := by simp at hr; omega
        rcases p3.loc r hr' with h' | h'
        ·rw [h'] at hbl
         have := (hrel.lt r _ _ hr' hbl).1
         omega
        ·have h9 : ∃ b o,(ρ1 r).blk = some (b,o) := ⟨_,_,hbl⟩
         have := p2.lt r _ _ hr hbl
         rcases p3.own _ ⟨r,o,hr,hbl⟩ with ⟨r',o',hr2,hbl2⟩ | h'
         ·have := (hrel.lt r' _ _ hr2 hbl2).1; omega
         ·rw [World.size_alloc] at h'; omega
      have hmk : Mk B w0 w1 ρ1 (H ++ [HO.lp (w.heap.size + 1) lr e .ready]).length (zKC w.heap.size :: a.defers) := by
       obtain ⟨ds,d1,d0,d2,d3⟩ := hm.fut hfw
       obtain ⟨ds',d1',d0',d2',d3'⟩ := hm
       have hdd : ds = ds' := by
        rw [d1] at d1'
        replace d1' := zzbn d1'
        clear d2 d3 d2' d3' d1 d0 d0'
        induction ds generalizing ds' with
        | nil => cases ds' with
         | nil => rfl
         | cons _ _ => simp at d1'
        | cons D ds ih => cases ds' with
         | nil => simp at d1'
         | cons D' ds' => simp [zKC] at d1'; rw [d1'.1,ih ds' (by simpa [zKC] using d1'.2)]
       subst hdd
       refine ⟨w.heap.size :: ds,by rw [zZG,zY9,d1],.inl hok,zzaU.2 ⟨fun hin => ?_,d2⟩,fun D hD => ?_⟩
       ·have := (d3' _ hin).2.1; omega
       ·rcases zZr.1 hD with rfl | hD
        ·exact ⟨hf.size,hDs,hDo,hD1⟩
        ·exact d3 D hD
      have hY : ∀ (args : List AV) (H1 : zA) (r : Nat) (R : AV → zA → Prop),args.length = ps.toList.length → H1[r]? = some (.lp (w.heap.size + 1) lr e .ready) →
        (awp P la (upL e ps.toList args) H1 fun o e1 H2 => match o with
         | .normal => H2[r]? = some (.lp (w.heap.size + 1) lr e .ready) ∧ awp P lb e1 (H2.set r (.lp (w.heap.size + 1) lr e .busy)) (zQG (w.heap.size + 1) lr e r R)
         | _ => False) → AYield P (w.heap.size + 1) args H1 R := by
       intro args H1 r R hal hr1 hrun X' ρ' w' vs hrel' hargs'
       obtain ⟨_,_,q3,q4⟩ := hrel'.objs r _ hr1
       have q3' : w'.heap[w.heap.size + 1]? = some (.loop lr) := q3
       refine ⟨lr.fn,_,lr.assign,lr.body,run_yield q3' (by rw [← hargs'.1,hal,l4]; simp),roundIn_of_wpIn trivial ?_⟩
       rw [l5,l6,l3,l4,← zzaG,Array.toList_zip]
       obtain ⟨u1,u2⟩ := zJo (w := w') (M := Mut X' ρ' H1.length) (ρ := ρ') (k := H1.length) (N := n) (e := e) (tmps := a.tmps) ps.toList args vs.toList (by simpa using hargs'.1) hal hn (fun p hp => hps p hp)
        (fun t ht => q4 t _ (by rw [l3]; simp [zZq,hn,ht])) (fun i x u hx hu => hargs'.2 i x u hx (by simpa using hu))
       refine iha (B := ⟨[],True⟩) (X := X') (w0 := w') (ρ0 := ρ') (n0 := H1.length) (rd := some (w.heap.size + 1)) ha (.inr nra) hrun ⟨u1,ρ',hrel',u2,Fut.refl _ _ _,Mk.nil⟩ ?_
       intro o e1 H2 a1 w1' hk hs1
       cases o with
       | normal =>
        obtain ⟨hr2,hk2⟩ := hk
        obtain ⟨s1,ρ2,s2,s3,s4,s5⟩ := hs1
        have q5 : w1'.heap[w.heap.size + 1]? = some (.loop lr) := (s2.objs r _ hr2).2.2.1
        obtain ⟨ρ3,t2,t3⟩ := s2.setLp .busy hr2
        refine ⟨_,run_beginRound q5 l1,ihb (B := ⟨[],True⟩) (X := X') (w0 := w') (ρ0 := ρ') (n0 := H1.length) (rd := some (w.heap.size + 1)) hb (.inr nrb) hk2 ⟨s1,ρ3,t2,fun t ht => (s3 t ht).nextN t3,s4.trans t3,s5.fut t3⟩ ?_⟩
        intro o e2 H3 a2 w2' hk3 hs3
        obtain ⟨hr3,hR⟩ := hk3
        obtain ⟨_,ρ4,v2,_,v4,_⟩ := hs3
        have q6 : w2'.heap[w.heap.size + 1]? = some (.loop (zCk lr .busy)) := (v2.objs r _ hr3).2.2.1
        cases o with
        | normal =>
         obtain ⟨ρ5,x2,x3⟩ := v2.setLp .ready hr3
         have hrec : ({ zCk lr .busy with state := if (none : Option Code).isNone then LoopState.ready else .done,pending := none } : Go.Loop) = zCk lr .ready := by
          cases lr; simp only at l1 l2; subst l1; subst l2; rfl
         refine ⟨_,_,run_endRound none q6,?_⟩
         rw [hrec]
         exact ⟨_,bool true,_,ρ5,rfl,hR,x2,.v _ _,v4.trans x3⟩
        | exit id =>
         obtain ⟨ρ5,x2,x3⟩ := v2.setLp (.done (some id)) hr3
         exact ⟨_,_,run_endRound (some (.exit id)) q6,_,bool false,_,ρ5,rfl,hR,x2,.v _ _,v4.trans x3⟩
        | ret =>
         obtain ⟨ρ5,x2,x3⟩ := v2.setLp (.done none) hr3
         exact ⟨_,_,run_endRound (some .ret) q6,_,bool false,_,ρ5,rfl,hR,x2,.v _ _,v4.trans x3⟩
        | pan v => exact hR.elim
       | exit id => exact hk.elim
       | ret => exact hk.elim
       | pan v => exact hk.elim
      obtain ⟨⟨fn',hfn,hbody,hname⟩,hcall⟩ := h (w.heap.size + 1) lr hY
      refine ⟨w.heap.size + 1,[zKC w.heap.size],w1,{ target := .fn (.func k) us,args := fs ++ #[.func (.yield (w.heap.size + 1)) #[] #[]] },w1,k,fs ++ #[.func (.yield (w.heap.size + 1)) #[] #[]] ++ us,w1,?_,?_,?_,?_,zEr,?_⟩
      ·rw [← hw1,hlr]; exact run_enterLoop_outer _ _ _ _ _
      ·simp only [resolve,hfe,Deferred.ofValue,Sem.run_bind,Sem.run_pure,Result.andThen_ok]
       simp [Act.eval]
      ·intro f' _; trivial
      ·simp only [Sem.run_bind,Sem.run_pure,Result.andThen_ok,invoke,callFunc,run_program,hfn,hname,zZn,if_false,hbody]
      ·refine zD3 ((hcall X ρ1 w1 _ p2 ⟨by simp [h1,h2]; omega,?_⟩).mono ?_)
       ·intro i x u hx hu
        rw [zZx,zZC] at hx
        rw [zzaH,zZD] at hu
        by_cases hi : i < first.length
        ·rw [if_pos hi] at hx
         rw [if_pos (by omega)] at hu
         exact (h3 i x u hx hu).nextN hfw
        ·rw [if_neg hi,zZC] at hx
         rw [if_neg (by omega),zZD] at hu
         by_cases hj : i - first.length < 1
         ·rw [if_pos (by simpa using hj)] at hx
          rw [if_pos (by simp; omega)] at hu
          have e1 : i - first.length = 0 := by omega
          have e2 : i - fs.size = 0 := by omega
          rw [e1] at hx
          rw [e2] at hu
          simp at hx hu
          subst hx; subst hu
          exact .v _ _
         ·rw [if_neg (by simpa using hj)] at hx
          rw [if_neg (by simp; omega)] at hu
          simp only [zYZ,zY4,zzbk] at hx hu
          exact (h4 (i - first.length - 1) x u hx (by rw [← h1] at hu; exact hu)).nextN hfw
       ·rintro en w3 ⟨v,x,H',ρ',rfl,⟨st,hst1,hout⟩,g1,g2,g3⟩
        have q7 : w3.heap[w.heap.size + 1]? = some (.loop (zCk lr st)) := (g1.objs _ _ hst1).2.2.1
        obtain ⟨ρ4,g4,g5⟩ := g1.setDead (.loop { zCk lr st with state := .exhausted }) hst1
        have hfut := hfw.trans (g3.trans g5)
        have hSt : St B X w0 ρ0 n0 n e (H'.set H.length .dead) { a with defers := [zKC w.heap.size] ++ a.defers } (w3.putObj (w.heap.size + 1) (.loop { zCk lr st with state := .exhausted })) :=
         ⟨hn,ρ4,g4,fun t ht => (he t ht).nextN hfut,hf.trans hfut,hmk.fut (g3.trans g5)⟩
        cases st with
        | ready => exact ⟨_,_,run_endLoop q7 (by show lr.state ≠ _; rw [l1]; simp),by show (match lr.pending with | none => _ | some c => _); rw [l2]; exact hQ .normal _ _ _ _ hout hSt⟩
        | busy => exact hout.elim
        | done o =>
         cases o with
         | none => exact ⟨_,_,run_endLoop q7 (by simp [zCk]),wpIn_ret (hQ .ret _ _ _ _ hout hSt)⟩
         | some id => exact ⟨_,_,run_endLoop q7 (by simp [zCk]),wpIn_exit (hQ (.exit id) _ _ _ _ hout hSt)⟩
    ·exact h.elim
   ·cases hl
  ·cases hl
 | _ => intro B X w0 ρ0 n0 rd m0 lc e H a w K Q hl; simp [zEq] at hl
theorem zDN : ∀ (l : List AV) (i t : Nat),zC6 l i t = if i ≤ t then (l[t - i]?).getD .any else .any
 | [],i,t => by simp [zC6,e0]
 | x :: l,i,t => by
  simp only [zC6,up]
  by_cases h : t = i
  ·subst h; simp
  ·rw [if_neg h,zDN l (i + 1) t]
   by_cases h2 : i ≤ t
   ·rw [if_pos (by omega),if_pos h2,show t - i = t - (i + 1) + 1 by omega]
    simp
   ·rw [if_neg (by omega),if_neg h2]
def zQv (P : Program) (s : Sem Value) (w : World) (X : Nat → Prop) (ρ : Nat → Loc) (H : zA) (r : Res) : Prop :=
 r.ok → r.H = H ∧ ∃ u,s.run P w = .ok u w ∧ Rep w (Mut X ρ H.length) ρ H.length r.x u
theorem zEM {s : Sem Value} {p : Prop} {x : AV} (f : p → ∃ u,s.run P w = .ok u w ∧ Rep w (Mut X ρ H.length) ρ H.length x u) : zQv P s w X ρ H ⟨p,x,H⟩ := fun hp => ⟨rfl,f hp⟩
theorem zGE {s : Sem Value} {p : Prop} {r : Res} (f : p → zQv P s w X ρ H r) : zQv P s w X ρ H (r.also p) := fun ⟨hp,hr⟩ => f hp hr
theorem zPA {t : TypeId} {ag : Bool} {n : Nat} (hag : zE9 P t = some ag) (hsz : zCB P t = some n) (h : HRel w X ρ H) {p : AV} {u : Value} (hp : Rep w (Mut X ρ H.length) ρ H.length p u) :
  zQv P (do loadVar t (← asAddr u)) w X ρ H (rLoad ag n p H) := by
 have at_ : ∀ a : Addr,(do loadVar t (← asAddr (.pointer (some a)))) = loadVar t a := fun a => rfl
 cases p with
 | vp cs off =>
  simp only [rLoad]
  refine zEM fun ⟨h1,h2⟩ => ?_
  cases hp with
  | vp _ _ _ b o c hm hb hcell hrep =>
   rw [at_]
   refine zCr hag hsz (cs := cs.drop off) (by simp; omega) h2 (fun j => c (off + j)) (fun j hj => ?_) (fun j y hj hy => ?_)
   ·have hlt : off + j < cs.length := by omega
    have := hcell (off + j) cs[off + j] (by simp [hlt])
    rw [zzar]
    exact this.1
   ·rw [zZQ] at hy
    exact (hrep _ _ hy).mono (zZm _)
 | ptr r ver off =>
  simp only [rLoad]
  refine zGE fun ⟨hb,hv⟩ => ?_
  obtain ⟨cs,ho⟩ := zC3 hb
  rw [ho] at hv ⊢
  simp only [isVer] at hv
  simp only [rLoadO]
  refine zEM fun ⟨h1,h2⟩ => ?_
  obtain ⟨hr,b,c,e,fr,hblk,rfl,hh,hl,hfr,_,hrep⟩ := zCQ h hp ho hv
  rw [at_]
  refine zCr hag hsz (cs := cs.drop off) (by simp; omega) h2 (fun j => c.getD (off + j) undef) (fun j hj => ?_) (fun j y hj hy => ?_)
  ·rw [zAD hh]
   have hlt : off + j < c.size := by omega
   simp [hlt]
  ·rw [zZQ] at hy
   have hlt : off + j < c.size := by omega
   exact (hrep _ _ _ hy (by simp [hlt])).1
 | pe r ver i off =>
  simp only [rLoad]
  refine zGE fun ⟨hb,hv⟩ => ?_
  obtain ⟨v,sz,xs,ho⟩ := zBo hb
  rw [ho] at hv ⊢
  simp only [isVer] at hv
  simp only [rLoadO]
  refine zEM fun ⟨h0,h1,h2⟩ => ?_
  obtain ⟨hr,b,o,c,e,fr,hblk,rfl,hh,hext,hfr,hle,hrow,hsz0,_,_,hrep⟩ := zNb h hp ho hv h0
  rw [at_]
  have hx : xs[i]? = some (xs.getD i []) := by simp [h0]
  have hxl : (xs.getD i []).length = sz := hrow _ (zZp hx)
  have hlt : ∀ j,j < n → o + i * sz + (off + j) < c.size := fun j hj => by
   have := zAY (sz := sz) (j := off + j) h0 (by omega)
   omega
  refine zCr hag hsz (cs := (xs.getD i []).drop off) (by simp only [zzai]; omega) h2 (fun j => c.getD (o + i * sz + (off + j)) undef) (fun j hj => ?_) (fun j y hj hy => ?_)
  ·rw [zAD hh]
   have := hlt j hj
   rw [show o + (i * sz + off) + j = o + i * sz + (off + j) by omega]
   simp [this]
  ·rw [zZQ] at hy
   exact (hrep i (off + j) _ _ _ hx hy (by simp [hlt j hj])).1
 | _ => exact fun h => h.elim
def zUF (tmps : Array Value) : ResultVar → Sem Value
 | .tmp t => pure (tmps.getD t undef)
 | .cell a t => do loadVar t (← asAddr (tmps.getD a undef))
theorem zHu (h : HRel w X ρ H) (he : ER w X ρ H n e a) : ∀ (l : List ResultVar) (rs : List RV),zEj P n l = some rs → (∀ r ∈ rs,(zCH e H r).ok) →
  ∃ us : List Value,(l.mapM (zUF a.tmps)).run P w = .ok us w ∧ us.length = rs.length ∧ (∀ r ∈ rs,(zCH e H r).H = H) ∧ ∀ (i : Nat) (r : RV) (u : Value),rs[i]? = some r → us[i]? = some u → Rep w (Mut X ρ H.length) ρ H.length (zCH e H r).x u
 | [],rs,hl,_ => by
  simp only [zEj,zYT] at hl
  subst hl
  exact ⟨[],by simp,rfl,by simp,by simp⟩
 | .tmp t :: l,rs,hl,hok => by
  simp only [zEj] at hl
  split at hl
  ·rename_i m hm
   split at hl
   ·rename_i ht
    simp only [zYT] at hl
    subst hl
    obtain ⟨us,h1,h2,h3,h4⟩ := zHu h he l m hm fun r hr => hok r (by simp [hr])
    refine ⟨a.tmps.getD t undef :: us,by simp [zUF,h1],by simp [h2],?_,?_⟩
    ·intro r hr
     simp only [zZr] at hr
     rcases hr with rfl | hr
     ·rfl
     ·exact h3 r hr
    ·intro i r u hr hu
     cases i with
     | zero => simp only [zY6,zYT] at hr hu; subst hr; subst hu; exact he t ht
     | succ i => exact h4 i r u (by simpa using hr) (by simpa using hu)
   ·cases hl
  ·cases hl
 | .cell t ty :: l,rs,hl,hok => by
  simp only [zEj] at hl
  split at hl
  ·rename_i m ag sz hm hag hsz
   split at hl
   ·rename_i ht
    simp only [zYT] at hl
    subst hl
    obtain ⟨us,h1,h2,h3,h4⟩ := zHu h he l m hm fun r hr => hok r (by simp [hr])
    obtain ⟨g0,u0,g1,g2⟩ := zPA hag hsz h (he t ht) (hok (.cell t ag sz) (by simp))
    refine ⟨u0 :: us,?_,by simp [h2],?_,?_⟩
    ·have g1' : (zUF a.tmps (.cell t ty)).run P w = .ok u0 w := g1
     simp only [List.mapM_cons,Sem.run_bind]
     rw [g1']
     simp [h1]
    ·intro r hr
     simp only [zZr] at hr
     rcases hr with rfl | hr
     ·exact g0
     ·exact h3 r hr
    ·intro i r u hr hu
     cases i with
     | zero => simp only [zY6,zYT] at hr hu; subst hr; subst hu; exact g2
     | succ i => exact h4 i r u (by simpa using hr) (by simpa using hu)
   ·cases hl
  ·cases hl
theorem zDU {fn : Func} {rs : List RV} (hl : zEj P n fn.results.toList = some rs) (h : HRel w X ρ H) (he : ER w X ρ H n e a) (hok : (zAA e H rs).ok) :
  (zAA e H rs).H = H ∧ ∃ v,(results fn a.tmps).run P w = .ok v w ∧ Rep w (Mut X ρ H.length) ρ H.length (zAA e H rs).x v := by
 have hall : ∀ r ∈ rs,(zCH e H r).ok := by
  unfold zAA at hok
  split at hok
  ·intro r hr; simp at hr; subst hr; exact hok
  ·exact hok
 obtain ⟨us,h1,h2,h3,h4⟩ := zHu h he _ _ hl hall
 have hrun : (results fn a.tmps).run P w = .ok (if hh : us.toArray.size = 1 then us.toArray[0] else .tuple us.toArray) w := by
  unfold results
  rw [zzbh]
  simp only [Sem.run_bind]
  have h5 : (List.toArray <$> fn.results.toList.mapM (zUF a.tmps)).run P w = .ok us.toArray w := by
   rw [map_eq_pure_bind]
   simp [h1]
  change ((Sem.run P (List.toArray <$> fn.results.toList.mapM (zUF a.tmps)) w).andThen _) = _
  rw [h5]
  simp
 rw [hrun]
 match rs,h2,h3,h4 with
 | [r],h2,h3,h4 =>
  match us,h2,h4 with
  | [u],_,h4 => exact ⟨h3 r (by simp),u,rfl,h4 0 r u rfl rfl⟩
 | [],h2,h3,h4 =>
  match us,h2 with
  | [],_ => exact ⟨rfl,_,by simp; rfl,.tup _ _ _ rfl (by simp)⟩
 | r :: r' :: rs,h2,h3,h4 =>
  refine ⟨rfl,_,rfl,?_⟩
  rw [dif_neg (by simp [h2])]
  refine .tup _ _ _ (by simp [h2]) fun i x u hx hu => ?_
  rw [zZy] at hx
  cases hr : (r :: r' :: rs)[i]? with
  | none => rw [hr] at hx; cases hx
  | some r0 =>
   rw [hr] at hx
   simp at hx
   subst hx
   exact h4 i r0 u hr (by simpa using hu)
theorem zGi {D : Nat} {o : Option (List Deferred)} {o' : Obj} (hD : w.heap[D]? = some (.deferred o)) {x : Addr} {u : Value} (h : w.cell? x = some u) : (w.putObj D o').cell? x = some u := by
 by_cases hb : x.block = D
 ·exfalso
  obtain ⟨b,i,sp⟩ := x
  simp only at hb
  subst hb
  simp [World.cell?,hD] at h
 ·obtain ⟨b,i,sp⟩ := x
  rw [← h]
  unfold World.cell?
  rw [World.putObj_heap_other hb]
theorem Rep.poke {D : Nat} {o : Option (List Deferred)} {o' : Obj} (hD : w.heap[D]? = some (.deferred o)) {M : Nat → Prop} {k : Nat} {x : AV} {u : Value} (h : Rep w M ρ k x u) : Rep (w.putObj D o') M ρ k x u := by
 induction h with
 | any => exact .any _ _
 | v => exact .v _ _
 | agg n cs us hl _ ih => exact .agg _ _ _ hl ih
 | tup n cs us hl _ ih => exact .tup _ _ _ hl ih
 | nc => exact .nc _ _
 | bnil => exact .bnil _ _
 | slE => exact .slE _ _ _ _
 | slN n sz xs b o cap c hm hb hcap hsz hcell _ ih => exact .slN _ _ _ _ _ _ c hm (by simpa using hb) hcap hsz (fun i j x y hx hy => ⟨zGi hD (hcell i j x y hx hy).1,(hcell i j x y hx hy).2⟩) ih
 | vp n cs off b o c hm hb hcell _ ih => exact .vp _ _ _ _ _ c hm (by simpa using hb) (fun j y hy => ⟨zGi hD (hcell j y hy).1,(hcell j y hy).2⟩) ih
 | fn n f first caps fs us h1 h2 _ _ ih1 ih2 => exact .fn _ _ _ _ _ _ h1 h2 ih1 ih2
 | mp n ks vs b es clock hm hb hh hks hvs _ ih => exact .mp _ _ _ _ es clock hm (by simpa using hb) (by rw [World.putObj_heap_other (fun e => by subst e; rw [hD] at hh; cases hh)]; exact hh) hks hvs ih
 | os n r ver off len u hr hle h1 hp => exact .os _ _ _ _ _ _ hr hle h1 hp
 | ptr n r ver off u hr hle h1 hp => exact .ptr _ _ _ _ _ hr hle h1 hp
 | pe n r ver i off u hr hle h1 hp => exact .pe _ _ _ _ _ _ hr hle h1 hp
 | om n r ver u hr hle h1 hp => exact .om _ _ _ _ hr hle h1 hp
theorem ObjOk.poke {D : Nat} {o0 : Option (List Deferred)} {o' : Obj} (hD : w.heap[D]? = some (.deferred o0)) {M : Nat → Prop} {k : Nat} {l : Loc} {o : HO} (h : ObjOk w M ρ k l o) : ObjOk (w.putObj D o') M ρ k l o := by
 have hk : ∀ b ob,w.heap[b]? = some ob → (∀ d,ob ≠ Obj.deferred d) → (w.putObj D o').heap[b]? = some ob := fun b ob hb hne => by
  rw [World.putObj_heap_other (fun e => by subst e; rw [hD] at hb; cases hb; exact hne _ rfl)]; exact hb
 cases o with
 | dead => trivial
 | box cs =>
  obtain ⟨h1,b,c,e,fr,h2,h3,h4,h5,h6⟩ := h
  exact ⟨h1,b,c,e,fr,h2,hk _ _ h3 (by simp),h4,h5,fun j y u hy hu => ⟨(h6 j y u hy hu).1.poke hD,(h6 j y u hy hu).2⟩⟩
 | arr ver sz xs =>
  obtain ⟨h1,h2,h3,h4,h5,h6⟩ := h
  refine ⟨h1,h2,h3,h4,h5,?_⟩
  split
  ·rename_i hl; rw [hl] at h6; exact h6
  ·rename_i b o hl
   rw [hl] at h6
   obtain ⟨c,e,fr,g1,g2,g3,g4⟩ := h6
   exact ⟨c,e,fr,hk _ _ g1 (by simp),g2,g3,fun i j x y u hx hy hu => ⟨(g4 i j x y u hx hy hu).1.poke hD,(g4 i j x y u hx hy hu).2⟩⟩
 | map ver ks vs =>
  obtain ⟨h1,b,es,clock,h2,h3,h4,h5,h6⟩ := h
  exact ⟨h1,b,es,clock,h2,hk _ _ h3 (by simp),h4,h5,fun i x e hx he => (h6 i x e hx he).poke hD⟩
 | iter s pos =>
  obtain ⟨h1,b,h2,h3⟩ := h
  exact ⟨h1,b,h2,hk _ _ h3 (by simp)⟩
 | lp b lr e st =>
  obtain ⟨h1,h2,h3,h4⟩ := h
  exact ⟨h1,h2,hk _ _ h3 (by simp),fun t u hu => (h4 t u hu).poke hD⟩
 | mit ks vs left cur =>
  obtain ⟨h1,b,m,es,clock,since,seen,c0,h2,h3,h4,h5,h6⟩ := h
  exact ⟨h1,b,m,es,clock,since,seen,c0,h2,hk _ _ h3 (by simp),hk _ _ h4 (by simp),h5.poke hD,h6⟩
 | barr t ver bl =>
  obtain ⟨h1,h2,h3,h4⟩ := h
  refine ⟨h1,h2,h3,?_⟩
  split
  ·rename_i hl; rw [hl] at h4; exact h4
  ·rename_i b o hl
   rw [hl] at h4
   obtain ⟨c,fr,g1,g2,g3,g4⟩ := h4
   exact ⟨c,fr,hk _ _ g1 (by simp),g2,g3,g4⟩
theorem HRel.poke {D : Nat} {o0 : Option (List Deferred)} {o' : Obj} (hD : w.heap[D]? = some (.deferred o0)) (h : HRel w X ρ H) : HRel (w.putObj D o') X ρ H :=
 ⟨fun r o hr => (h.objs r o hr).poke hD,h.inj,fun r b o hr hb => by simpa using h.lt r b o hr hb,fun b hb => by simpa using h.xlt b hb,fun g hg => ⟨(h.gl g hg).1,fun hg' => ((h.gl g hg).2.1 hg').imp fun m hm => zGi hD hm,fun hg' => by
  obtain ⟨t,fr,hm⟩ := (h.gl g hg).2.2 hg'
  refine ⟨t,fr,?_⟩
  have hne : ¬ D = g := fun e => by rw [e,hm] at hD; simp at hD
  rw [← hm]
  simp [World.putObj,Array.getElem?_setIfInBounds,hne]⟩⟩
theorem Fut.poke {D : Nat} {o' : Obj} (h : Fut w0 ρ0 n0 w ρ n) (hD : w0.heap.size ≤ D) : Fut w0 ρ0 n0 (w.putObj D o') ρ n :=
 ⟨h.os,h.tape,h.output,by simpa using h.size,fun b hb ho => by rw [World.putObj_heap_other (by omega)]; exact h.keep b hb ho,h.own,h.len,h.loc⟩
def zNa : List Nat → World → World
 | [],w => w
 | D :: ds,w => zNa ds (w.putObj D (.deferred none))
theorem zBj {fn : Func} {tmps : Array Value} {R : Ending → World → Prop} {u : FrameMode} (hu : u ≠ .run) {B : List Deferred} : ∀ (ds : List Nat) (w : World),ds.Nodup → (∀ D ∈ ds,w.heap[D]? = some (.deferred (some []))) → LeavesInM Fence.wide 0 P fn tmps R B u (zNa ds w) →
  LeavesInM Fence.wide 0 P fn tmps R (ds.map zKC ++ B) u w
 | [],w,_,_,h => h
 | D :: ds,w,hn,hd,h => by
  obtain ⟨n1,n2⟩ := zzaU.1 hn
  refine ⟨hu,.inl ⟨D,_,rfl,run_takeDeferred (hd D (by simp)),zBj hu ds _ n2 (fun D' hD' => ?_) h⟩⟩
  rw [World.putObj_heap_other (fun e => by subst e; exact n1 hD')]
  exact hd D' (by simp [hD'])
theorem zDW : ∀ (ds : List Nat) {w : World},ds.Nodup → (∀ D ∈ ds,w0.heap.size ≤ D ∧ w.heap[D]? = some (.deferred (some []))) → HRel w X ρ H → ER w X ρ H n e a → Fut w0 ρ0 n0 w ρ H.length →
  HRel (zNa ds w) X ρ H ∧ ER (zNa ds w) X ρ H n e a ∧ Fut w0 ρ0 n0 (zNa ds w) ρ H.length
 | [],w,_,_,h1,h2,h3 => ⟨h1,h2,h3⟩
 | D :: ds,w,hn,hd,h1,h2,h3 => by
  obtain ⟨n1,n2⟩ := zzaU.1 hn
  have hD := hd D (by simp)
  refine zDW ds n2 (fun D' hD' => ⟨(hd D' (by simp [hD'])).1,?_⟩) (h1.poke hD.2) (fun t ht => (h2 t ht).poke hD.2) (h3.poke hD.1)
  rw [World.putObj_heap_other (fun e => by subst e; exact n1 hD')]
  exact (hd D' (by simp [hD'])).2
theorem zG2 {k : FuncId} {fn : Func} {hs : List Hn} {L : LFn} {args : List AV} {R : AV → zA → Prop} {Z : Value → zA → Prop} (hf : P.funcs[k]? = some fn) (hl : zAv P fn hs = some L) (ha : args.length ≤ L.n)
  (h : zU P [.code L.body] (zLs L.res R Z) .normal (zC6 args 0) H) : ACallX P k args H R Z := by
 unfold zAv at hl
 cases hb : fn.body with
 | none => simp [hb] at hl
 | some c =>
  cases hr : zEj P fn.ntmps fn.results.toList with
  | none => simp [hb,hr] at hl
  | some rs =>
   simp only [hb,hr] at hl
   split at hl
   ·rename_i b hc
    split at hl
    ·rename_i hcond
     simp only [zYT] at hl
     subst hl
     refine ⟨⟨fn,hf,by simp [hb],hcond.2⟩,fun X ρ w vs hrel hargs => (callsIn_wide (n := 0)).1 (callsIn_of_wp_marks hf hb trivial ?_)⟩
     have hvs : vs.size ≤ fn.ntmps := by rw [← hargs.1]; exact ha
     refine zBY (B := ⟨[],True⟩) (X := X) (w0 := w) (ρ0 := ρ) (n0 := H.length) (rd := none) (m0 := 0) (H := H) (e := zC6 args 0) c hc (.inl ⟨rfl,trivial⟩) h ⟨by simp; omega,ρ,hrel,fun t ht => ?_,Fut.refl _ _ _,Mk.nil⟩ ?_
     ·rw [zDN,if_pos (zZm _),zzaK]
      by_cases htl : t < vs.size
      ·have hx : args[t]? = some (args[t]'(by rw [hargs.1]; exact htl)) := by simp
       rw [hx,zZR]
       refine hargs.2 t _ _ hx ?_
       simp [zZq,zZD,htl]
      ·rw [zZZ (by rw [hargs.1]; omega)]
       exact .any _ _
     ·intro o e' H' a' w' hk hst
      obtain ⟨hn,ρ',g1,g2,g3,ds,d1,_,d2,d3⟩ := hst
      obtain ⟨f1,f2,f3⟩ := zDW ds d2 (fun D hD => ⟨(d3 D hD).1,(d3 D hD).2.2.2⟩) g1 g2 g3
      have fin : (zAA e' H' rs).ok ∧ R (zAA e' H' rs).x H' → LeavesInM Fence.wide 0 P fn a'.tmps (fun en w' => (∃ v x H' ρ',en = .returned v ∧ R x H' ∧ HRel w' X ρ' H' ∧ Rep w' (Mut X ρ' H'.length) ρ' H'.length x v ∧ Fut w ρ H.length w' ρ' H'.length) ∨
        ∃ z H' ρ',en = .panicked [{ v := z,recovered := false }] ∧ Z z H' ∧ HRel w' X ρ' H' ∧ Fut w ρ H.length w' ρ' H'.length) a'.defers .returning w' := by
       rintro ⟨k1,k2⟩
       obtain ⟨_,v,k3,k4⟩ := zDU hr f1 f2 k1
       rw [d1]
       exact zBj (by simp) ds w' d2 (fun D hD => (d3 D hD).2.2.2) ⟨v,k3,.inl ⟨v,_,H',ρ',rfl,k2,f1,k4,f3⟩⟩
      cases o with
      | normal => exact fin hk
      | exit id => exact hk.elim
      | ret => exact fin hk
      | pan z =>
       show LeavesInM Fence.wide 0 P fn a'.tmps _ a'.defers (.panicking [{ v := z,recovered := false }]) w'
       rw [d1]
       exact zBj (by simp) ds w' d2 (fun D hD => (d3 D hD).2.2.2) (.inr ⟨z,H',ρ',rfl,hk,f1,f3⟩)
    ·cases hl
   ·cases hl
theorem enter {k : FuncId} {fn : Func} {hs : List Hn} {L : LFn} {args : List AV} {R : AV → zA → Prop} (hf : P.funcs[k]? = some fn) (hl : zAv P fn hs = some L) (ha : args.length ≤ L.n)
  (h : zU P [.code L.body] (zUD L.res R) .normal (zC6 args 0) H) : ACall P k args H R :=
 (zG2 hf hl ha (by
  have : zUD L.res R = zLs L.res R fun _ _ => False := by
   funext o e H
   cases o <;> rfl
  rw [← this]
  exact h)).calm
end
section
variable {P : Program} {w w' : World} {X M M' M'' : Nat → Prop} {ρ ρ' : Nat → Loc} {H : zA} {n n' : Nat}
theorem ACall.drop {k : FuncId} {args : List AV} {R : AV → Prop} (h : ACall P k args H fun x H' => R x ∧ x.cl = true ∧ ∃ rest,H' = H ++ rest) : ACall P k args H fun x H' => R x ∧ H' = H := by
 refine ⟨h.1,fun X ρ w vs hrel hargs => (h.2 X ρ w vs hrel hargs).mono ?_⟩
 rintro en w' ⟨v,x,H',ρ',rfl,⟨hR,hcl,rest,rfl⟩,g1,g2,g3⟩
 have hle : H.length ≤ (H ++ rest).length := by simp
 have hM : ∀ b,Mut X ρ' H.length b → Mut X ρ' (H ++ rest).length b := fun b hb => hb.imp id fun ⟨r,o,hr,hbl⟩ => ⟨r,o,by omega,hbl⟩
 refine ⟨v,x,H,ρ',rfl,⟨hR,rfl⟩,⟨fun r o hr => ?_,fun r r' b o b' o' hr hr' => g1.inj r r' b o b' o' (by omega) (by omega),fun r b o hr => g1.lt r b o (by omega),g1.xlt,fun g hg => ⟨fun ⟨r,o,hr,hbl⟩ => (g1.gl g hg).1 ⟨r,o,by omega,hbl⟩,(g1.gl g hg).2⟩⟩,?_,?_⟩
 ·have hlt : r < H.length := (zYU.1 hr).1
  exact (hrel.objs r o hr).scope hM (g1.objs r o (by rw [zY2 hlt]; exact hr))
 ·exact ((g2.of_cl hcl).narrow hM).closed rfl _ _
 ·exact ⟨g3.os,g3.tape,g3.output,g3.size,g3.keep,fun b ⟨r,o,hr,hbl⟩ => g3.own b ⟨r,o,by omega,hbl⟩,zZa _,g3.loc⟩
end
theorem zH0 {a b : Bool} (h : a = true ↔ b = true) : bool a = bool b := by rw [zzac.2 h]
end Go.Ax
namespace Go.Ax
open Go Go.RowKit Go.WideShapes Go.ChangeShapes
set_option linter.unusedSimpArgs false
set_option linter.unusedVariables false
abbrev X0 : Nat → Prop := fun _ => False
theorem zP4 (w : World) (ρ : Nat → Loc) (hg : ∀ g,(g ∈ glbs ∨ g ∈ zLQ) → GVal w g) : HRel w X0 ρ [] where
 objs := fun r o h => by simp at h
 inj := fun r _ _ _ _ _ h => by simp at h
 lt := fun r _ _ h => by simp at h
 xlt := fun b h => h.elim
 gl := fun g h => ⟨fun ⟨r,o,hr,_⟩ => by simp at hr,hg g h⟩
theorem Fut.below {w w' : World} {ρ ρ' : Nat → Loc} {n' : Nat} (h : Fut w ρ 0 w' ρ' n') : Below w.heap.size w w' :=
 ⟨h.os,h.tape,h.output,h.size,fun k hk => h.keep k hk fun ⟨r,o,hr,_⟩ => by omega⟩
theorem ACall.top {P : Program} {k : FuncId} {args : List AV} {R : AV → zA → Prop} (h : ACall P k args [] R) {w : World} {vs : Array Value} (hargs : RepL w X0 (fun _ => {}) 0 args vs) (hg : ∀ g,(g ∈ glbs ∨ g ∈ zLQ) → GVal w g) :
  Calls P k vs w fun e w' => ∃ v x H' ρ',e = .returned v ∧ R x H' ∧ Rep w' (Mut X0 ρ' H'.length) ρ' H'.length x v ∧ Below w.heap.size w w' := by
 have hm : Mut X0 (fun _ => ({} : Loc)) 0 = X0 := by
  funext b
  simp [Mut,Own,X0]
 refine (h.2 X0 (fun _ => {}) w vs (zP4 _ _ hg) ?_).mono ?_
 ·simpa [hm] using hargs
 ·rintro e w' ⟨v,x,H',ρ',he,hR,_,hx,hf⟩
  exact ⟨v,x,H',ρ',he,hR,hx,hf.below⟩
section
variable {H : Type} {enc : TypeId × Value → H} {P : Program}
theorem zPG {f : Func} {s : ChangeSpec} {apart zF7 handsOn again : Bool} {W W' : World} {args : Array Value} {ds : List (DataW H)} {before : List MemPlace} {tb : TypeId}
  (hW : DataW.Whole enc P f.params.toList s.vars apart W args.toList ds [] before) (hv : s.vars = [])
  (hf : f.resultTypes = #[tb]) (htb : P.underlying tb = some .bool) (hs : s.fn H ds = ⟨[.lit (.bool true)],ds,[]⟩)
  (hargs : ∀ sp : Nat → Bool,(∀ p ∈ before,sp p.block = true) → DataW.TrodAll enc P W' 0 sp true f.params.toList args.toList ds before)
  (hb : Below W.heap.size W W') : s.post enc P f apart zF7 handsOn again W args (.bool true) W' := by
 have hlt : ∀ p ∈ before,p.block < W.heap.size := fun p hp => hW.lt p hp
 have hold : ∀ p ∈ before,(fun b => decide (b < W.heap.size)) p.block = true := fun p hp => by simpa using hlt p hp
 have hs' : s.fn H (ds ++ []) = ⟨[.lit (.bool true)],ds,[]⟩ := by rw [zZA]; exact hs
 have hres : ∀ (b : Nat) (sp : Nat → Bool) (hd : Bool),DataW.TrodAll enc P W' b sp hd f.resultTypes.toList ((Value.bool true).resultList f.resultTypes.size) (s.fn H (ds ++ [])).results [] := by
  intro b sp hd
  rw [hs',hf]
  exact trodAll_mk1 (shut_bool htb true)
 have hvars : ∀ sp : Nat → Bool,DataW.TrodVars enc P W' sp s.vars (s.fn H (ds ++ [])).vars [] := by
  intro sp; rw [hs',hv]; rfl
 have hk : W.keptBut W' (· ∈ before) := hb.frame _
 refine ⟨ds,[],before,[],before,[],hW,hres _ _ _,?_,hvars _,World.keptBut_mono (fun p hp => ⟨hp,.inr (.inl hp)⟩) hk,fun _ => ?_⟩
 ·rw [hs']; exact hargs _ hold
 ·obtain ⟨_,_,_,_,_,hz,hn⟩ := hW
  refine ⟨?_,_,_,([] ++ before) ++ [],⟨[] ++ before,[],trodAll_append (hargs _ fun _ _ => rfl) (hres 0 (fun _ => true) true),hvars _,rfl,?_,?_⟩,?_⟩
  ·intro j t r h1 h2
   rw [hf] at h1 h2
   cases j with
   | zero => simp [Value.resultList] at h1 h2; subst h1; subst h2; exact okWide_bool_mk htb true
   | succ j => simp at h1
  ·intro b off hp
   have hin : MemPlace.cell b off ∈ before := by simpa using hp
   rw [hb.frozen (hlt _ hin)]
   exact hz b off (by simpa using hin)
  ·intro ha
   simpa using hn ha
  ·intro p hp _
   simpa using hp
end
inductive Val (P : Program) : TypeId → List AV → Prop
 | int {t : TypeId} {k : IntKind} {n : Int} : P.underlying t = some (.int k) → (Lit.int k n).wf = true → Val P t [.v (.int k n)]
 | bool {t : TypeId} {b : Bool} : P.underlying t = some .bool → Val P t [.v (.bool b)]
 | str {t : TypeId} {s : ByteArray} : P.underlying t = some .string → s.size ≤ maxLen → Val P t [.v (.string s)]
 | sl {t e : TypeId} {rows : List (List AV)} : P.underlying t = some (.slice e) → rows.length ≤ maxLen → (∀ x ∈ rows,Val P e x) → Val P t [.sl (P.cellsOf e) rows]
 | st {t : TypeId} {fs : Array Field} {xs : List AV} : P.underlying t = some (.struct fs) → xs.length = P.cellsOf t → (∀ (i : Nat) (f : Field),fs[i]? = some f → Val P f.type ((xs.drop f.offset).take (P.cellsOf f.type))) → Val P t xs
def zFg (P : Program) : Nat → List Field → Option Nat
 | o,[] => some o
 | o,f :: fs => if f.offset = o then zFg P (o + P.cellsOf f.type) fs else none
def zGL (P : Program) (S : List TypeId) : Bool := S.all fun t =>
 match P.underlying t with
 | some (.int _) => decide (P.cellsOf t = 1)
 | some .bool => decide (P.cellsOf t = 1)
 | some .string => decide (P.cellsOf t = 1)
 | some (.slice e) => decide (P.cellsOf t = 1) && S.contains e && decide (0 < P.cellsOf e)
 | some (.struct fs) => decide (zFg P 0 fs.toList = some (P.cellsOf t)) && fs.toList.all fun f => S.contains f.type
 | _ => false
section
variable {H : Type} {enc : TypeId × Value → H} {P : Program} {w : World} {sp : Nat → Bool} {held : Bool}
def zTd (w : World) (xs : List AV) (cs : List Value) : Prop := xs.length = cs.length ∧ ∀ (i : Nat) (x : AV) (u : Value),xs[i]? = some x → cs[i]? = some u → Rep w X0 (fun _ => {}) 0 x u ∧ one u = true
theorem zI4 : ∀ (fl : List Field) {o n : Nat},zFg P o fl = some n → o ≤ n ∧ ∀ f ∈ fl,o ≤ f.offset ∧ f.offset + P.cellsOf f.type ≤ n
 | [],o,n,h => by simp [zFg] at h; subst h; simp
 | f :: fs,o,n,h => by
  simp only [zFg] at h
  split at h
  ·rename_i hf
   obtain ⟨h1,h2⟩ := zI4 fs h
   refine ⟨by omega,fun g hg => ?_⟩
   rcases zZr.1 hg with rfl | hg
   ·omega
   ·have := h2 g hg; omega
  ·cases h
theorem zJb (a : Addr) : a.add 0 = a := rfl
theorem zOK (b o n : Nat) : (⟨b,o,none⟩ : Addr).add n = ⟨b,o + n,none⟩ := by
 unfold Addr.add
 split
 ·rename_i h; rw [h]; rfl
 ·rfl
theorem zQp {t : TypeId} {a : Addr} {u : Value} (h : w.cell? a = some u) : a.spot = none := by
 unfold World.cell? at h
 split at h
 ·split at h
  ·cases h
  ·rename_i hs; simpa using hs
 ·cases h
def zQD (P : Program) (t : TypeId) (xs : List AV) : AV := match P.underlying t with | some (.struct _) => .agg xs | _ => xs.headD .any
def zK7 (P : Program) : List TypeId → List (List AV) → Prop
 | [],[] => True
 | t :: ts,xs :: l => Val P t xs ∧ zK7 P ts l
 | _,_ => False
def zDy (P : Program) : List TypeId → List (List AV) → List AV
 | t :: ts,xs :: l => zQD P t xs :: zDy P ts l
 | _,_ => []
theorem zIk (hl : laidOutB P = true) {w' : World} {sp' : Nat → Bool} : ∀ {ts : List TypeId} {vs : List Value} {ds : List (DataW H)} {ps : List MemPlace},(∀ t ∈ ts,P.readableRec t = true ∧ t < P.types.size) →
  DataW.TrodAll enc P w 0 (fun _ => true) true ts vs ds ps → (∀ p ∈ ps,w.sameAt w' p) → (∀ p ∈ ps,sp' p.block = true) → DataW.TrodAll enc P w' 0 sp' true ts vs ds ps
 | [],vs,ds,ps,_,h,_,_ => by
  obtain ⟨rfl,rfl,rfl⟩ := trodAll_nil h
  exact trodAll_mk0
 | t :: ts,vs,ds,ps,hts,h,hsame,hs => by
  obtain ⟨v,vs1,d,ds1,a,b,rfl,rfl,rfl,h1,h2⟩ := trodAll_cons h
  have ht := hts t (by simp)
  exact ⟨a,b,WideElems.Trod_stays hl ht.1 ht.2 h1 (fun p hp => hsame p (by simp [hp])) (fun p hp => hs p (by simp [hp])),zIk hl (fun t ht => hts t (by simp [ht])) h2 (fun p hp => hsame p (by simp [hp])) (fun p hp => hs p (by simp [hp])),rfl⟩
end
def zJQ (P : Program) : Bool := glbs.all fun g => decide (g < P.globals.size) &&
 match ((begin P (fun _ _ => 0) default).world.heap[g]?).bind Obj.row? with
 | some (zero,t) => zero.size == 1 && P.buildable t && P.cellTypes P.depth t == some [t] && (match P.underlying t with | some (.int .i64) => true | _ => false)
 | none => false
theorem zJS {P : Program} {w : World} (h : zJQ P = true) (hsh : w.ShapedOpen P) : ∀ g ∈ glbs,∃ m,w.cell? ⟨g,0,none⟩ = some (.int .i64 m) := by
 intro g hg
 have h1 := zZb.1 h g hg
 rw [zYX,zY5] at h1
 obtain ⟨h1,h2⟩ := h1
 split at h2
 ·rename_i zero t h0
  simp only [zYX,zzax] at h2
  obtain ⟨⟨⟨h3,h4⟩,h5⟩,h6⟩ := h2
  refine Go.Proofs.cell_of_shapedOpen_int hsh h1 h0 h3 h4 h5 ?_
  split at h6
  ·assumption
  ·cases h6
 ·cases h2
theorem zN3 {P : Program} {w : World} (h : zJQ P = true) (hsh : w.ShapedOpen P) (ht : ∀ g ∈ zLQ,∃ t fr,w.heap[g]? = some (.cells ((Lib.pow10Tab.map fun z => Value.int .u64 z).toArray) t fr)) : ∀ g,(g ∈ glbs ∨ g ∈ zLQ) → GVal w g :=
 fun g _ => ⟨zJS h hsh g,ht g⟩
end Go.Ax
namespace Go.Ax
open Go Go.RowKit Go.WideShapes Go.ChangeShapes
open Go.Proofs.YtbibhcmcjldhdaaGreatDoor
set_option linter.unusedSimpArgs false
set_option linter.unusedVariables false
mutual
def AV.bulk : AV → Nat
 | .v (.string s) => s.size + 1
 | .sl _ rows => zAV rows + 1
 | _ => 1
def zBy : List AV → Nat
 | [] => 0
 | x :: l => x.bulk + zBy l
def zAV : List (List AV) → Nat
 | [] => 0
 | r :: l => zBy r + zAV l
end
theorem zFh : ∀ a b : List AV,zBy (a ++ b) = zBy a + zBy b
 | [],b => by simp [zBy]
 | x :: a,b => by simp only [zY9,zBy,zFh a b]; omega
theorem zI7 {H : Type} : ∀ (rows : List (List AV)) (ds : List (DataW H)),rows.length = ds.length → (∀ (i : Nat) (r : List AV) (d : DataW H),rows[i]? = some r → ds[i]? = some d → zBy r ≤ Rows.uptoBulk d) → zAV rows ≤ Rows.uptoBulkAll ds
 | [],[],_,_ => by simp [zAV]
 | [],_ :: _,h,_ => by simp at h
 | _ :: _,[],h,_ => by simp at h
 | r :: rows,d :: ds,h,hh => by
  simp only [zAV,Rows.uptoBulkAll]
  have h1 := hh 0 r d rfl rfl
  have h2 := zI7 rows ds (by simpa using h) fun i r d hr hd => hh (i + 1) r d (by simpa using hr) (by simpa using hd)
  omega
section
variable {H : Type} {enc : TypeId × Value → H} {P : Program} {w : World} {sp : Nat → Bool} {held : Bool}
theorem zFe (cs : List Value) : ∀ (fl : List Field) (ds : List (DataW H)) {o n : Nat},zFg P o fl = some n → n ≤ cs.length → fl.length = ds.length → (∀ (i : Nat) (f : Field) (d : DataW H),fl[i]? = some f → ds[i]? = some d → ∃ ys,zTd w ys ((cs.drop f.offset).take (P.cellsOf f.type)) ∧ Val P f.type ys ∧ zBy ys ≤ Rows.uptoBulk d) →
  ∃ xs,zTd w xs ((cs.drop o).take (n - o)) ∧ (∀ f ∈ fl,Val P f.type ((xs.drop (f.offset - o)).take (P.cellsOf f.type))) ∧ zBy xs ≤ Rows.uptoBulkAll ds
 | [],ds,o,n,h,_,_,_ => by
  simp [zFg] at h; subst h
  exact ⟨[],⟨by simp,fun i x u hx => by simp at hx⟩,by simp,by simp [zBy]⟩
 | f :: fs,[],o,n,h,hn,hl,hf => by simp at hl
 | f :: fs,d :: ds,o,n,h,hn,hl,hf => by
  simp only [zFg] at h
  split at h
  ·rename_i hfo
   obtain ⟨h1,h2⟩ := zI4 fs h
   obtain ⟨ys,⟨hyl,hyr⟩,hyv,hyb⟩ := hf 0 f d rfl rfl
   obtain ⟨zs,⟨hzl,hzr⟩,hzv,hzb⟩ := zFe cs fs ds h hn (by simpa using hl) fun i g d hg hd => hf (i + 1) g d (by simpa using hg) (by simpa using hd)
   rw [hfo] at hyl hyr
   have hyl' : ys.length = P.cellsOf f.type := by rw [hyl]; simp; omega
   have hzl' : zs.length = n - (o + P.cellsOf f.type) := by rw [hzl]; simp; omega
   refine ⟨ys ++ zs,⟨by simp [hyl',hzl']; omega,fun i x u hx hu => ?_⟩,fun g hg => ?_,by rw [zFh]; simp only [Rows.uptoBulkAll]; omega⟩
   ·have hu' : cs[o + i]? = some u := by
     rw [zZP] at hu
     split at hu
     ·simpa using hu
     ·cases hu
    by_cases hi : i < ys.length
    ·rw [zY2 hi] at hx
     refine hyr i x u hx ?_
     rw [zZP,if_pos (by omega)]
     simpa using hu'
    ·rw [zYY (by omega)] at hx
     refine hzr (i - ys.length) x u hx ?_
     have hlt := (zYU.1 hx).1
     rw [zZP,if_pos (by omega)]
     simp only [zZQ]
     rw [← hu']
     congr 1
     omega
   ·rcases zZr.1 hg with rfl | hg
    ·rw [hfo,zzbc,zzal,zzbu hyl']
     exact hyv
    ·have := h2 g hg
     have e : (ys ++ zs).drop (g.offset - o) = zs.drop (g.offset - (o + P.cellsOf f.type)) := by
      rw [show g.offset - o = ys.length + (g.offset - (o + P.cellsOf f.type)) by omega,← List.drop_drop,List.drop_left]
     rw [e]
     exact hzv g hg
  ·cases h
theorem zJG {S : List TypeId} (hS : zGL P S = true) : ∀ (fuel : Nat) {t : TypeId} {cs : List Value} {x : DataW H × List MemPlace},t ∈ S → DataW.trod enc P w 0 sp held fuel t cs = some x → ∃ xs,zTd w xs cs ∧ Val P t xs ∧ zBy xs ≤ Rows.uptoBulk x.1 := by
 intro fuel
 induction fuel with
 | zero => intro t cs x _ h; simp [DataW.trod] at h
 | succ fuel ih =>
  intro t cs x ht h
  have hS0 := hS
  unfold zGL at hS
  rw [zZb] at hS
  have h1 := hS t ht
  have single : ∀ (u : Value),one u = true → zTd w [.v u] [u] := fun u hu => ⟨rfl,fun i x y hx hy => by
   cases i with
   | zero => simp at hx hy; subst hx; subst hy; exact ⟨.v _ _,hu⟩
   | succ i => simp at hx⟩
  split at h1
  ·rename_i k hu
   obtain ⟨n,rfl,rfl,hw⟩ := DataW.trod_int hu h
   exact ⟨_,single _ rfl,.int hu hw,by simp [zBy,AV.bulk,Rows.uptoBulk]⟩
  ·rename_i hu
   obtain ⟨b,rfl,rfl⟩ := DataW.trod_bool hu h
   exact ⟨_,single _ rfl,.bool hu,by simp [zBy,AV.bulk,Rows.uptoBulk]⟩
  ·rename_i hu
   obtain ⟨s,rfl,rfl,hs⟩ := DataW.trod_string hu h
   exact ⟨_,single _ rfl,.str hu hs,by simp [zBy,AV.bulk,Rows.uptoBulk]⟩
  ·rename_i e hu
   simp only [zYX,zY5,List.contains_iff_mem] at h1
   obtain ⟨⟨_,he⟩,hpos⟩ := h1
   have wrap : ∀ (y : AV) (u : Value),one u = true → Rep w X0 (fun _ => {}) 0 y u → zTd w [y] [u] := fun y u h1 hu => ⟨rfl,fun i x z hx hz => by
    cases i with
    | zero => simp at hx hz; subst hx; subst hz; exact ⟨hu,h1⟩
    | succ i => simp at hx⟩
   rcases DataW.trod_slice hu h with ⟨rfl,rfl⟩ | ⟨a,len,cap,elems,rest,n,hn,rfl,rfl,_,hlc,hcap,hel,helems,-,-⟩
   ·exact ⟨[.sl (P.cellsOf e) []],wrap _ _ rfl (.slE _ _ _ _),.sl hu (by simp) (by simp),by simp [zBy,AV.bulk,zAV,Rows.uptoBulk]⟩
   ·obtain rfl : n = fuel := by omega
    by_cases hlen : len = 0
    ·subst hlen
     exact ⟨[.sl (P.cellsOf e) []],wrap _ _ rfl (.slE _ _ _ _),.sl hu (by simp) (by simp),by simp [zBy,AV.bulk,zAV,Rows.uptoBulk]⟩
    ·have hrow : ∀ i,i < len → ∃ (cs : List Value) (xs : List AV),w.cells? 0 (a.add (i * P.cellsOf e)) (P.cellsOf e) = some cs ∧ zTd w xs cs ∧ Val P e xs ∧ ∀ y,elems[i]? = some y → zBy xs ≤ Rows.uptoBulk y.1 := by
      intro i hi
      have hg := helems i hi
      rw [zZe (by omega)] at hg
      cases hc : w.cells? 0 (a.add (i * P.cellsOf e)) (P.cellsOf e) with
      | none => rw [hc] at hg; cases hg
      | some cs =>
       rw [hc] at hg
       obtain ⟨xs,h1,h2,h3⟩ := ih he hg
       exact ⟨cs,xs,rfl,h1,h2,fun y hy => by rw [zZe (by omega)] at hy; cases hy; exact h3⟩
     have hcell : ∀ i cs,w.cells? 0 (a.add (i * P.cellsOf e)) (P.cellsOf e) = some cs → cs.length = P.cellsOf e ∧ ∀ j,j < P.cellsOf e → w.cell? ((a.add (i * P.cellsOf e)).add j) = cs[j]? := by
      intro i cs hc
      obtain ⟨_,h2,h3⟩ := World.cells?_some hc
      exact ⟨h2,h3⟩
     obtain ⟨f,hf⟩ : ∃ f : Nat → List Value × List AV,∀ i,i < len → w.cells? 0 (a.add (i * P.cellsOf e)) (P.cellsOf e) = some (f i).1 ∧ zTd w (f i).2 (f i).1 ∧ Val P e (f i).2 ∧ ∀ y,elems[i]? = some y → zBy (f i).2 ≤ Rows.uptoBulk y.1 := by
      refine ⟨fun i => if hi : i < len then (Classical.choose (hrow i hi),Classical.choose (zzaf (hrow i hi))) else ([],[]),fun i hi => ?_⟩
      simp only [dif_pos hi]
      exact zzaf (zzaf (hrow i hi))
     have hfl : ∀ i,i < len → (f i).2.length = P.cellsOf e := fun i hi => (hf i hi).2.1.1.trans (hcell i _ (hf i hi).1).1
     have hspot : a.spot = none := by
      have h0 := (hcell 0 _ (hf 0 (by omega)).1).2 0 hpos
      rw [zZe (by rw [(hcell 0 _ (hf 0 (by omega)).1).1]; exact hpos)] at h0
      simp only [zzbs,zJb] at h0
      exact zQp (t := t) h0
     have hblk : a.block < w.heap.size := by
      have := World.cells?_block (hf 0 (by omega)).1 hpos
      simpa only [zzbs,zJb] using this
     obtain ⟨b,o,spot⟩ := a
     simp only at hspot hblk
     subst hspot
     have hget : ∀ i x,((List.range len).map fun i => (f i).2)[i]? = some x → i < len ∧ x = (f i).2 := by
      intro i x hx
      simp only [zZy,List.getElem?_range] at hx
      by_cases hi : i < len
      ·simp [hi] at hx; exact ⟨hi,hx.symm⟩
      ·simp [hi] at hx
     have hc : ∀ (i j : Nat) (x : List AV) (y : AV),((List.range len).map fun i => (f i).2)[i]? = some x → x[j]? = some y → w.cell? ⟨b,o + i * P.cellsOf e + j,none⟩ = some ((f i).1.getD j default) ∧ Rep w X0 (fun _ => {}) 0 y ((f i).1.getD j default) ∧ one ((f i).1.getD j default) = true := by
      intro i j x y hx hy
      obtain ⟨hi,rfl⟩ := hget i x hx
      have hj : j < (f i).2.length := (zYU.1 hy).1
      have hl := hcell i _ (hf i hi).1
      have hj' : j < (f i).1.length := by rw [hl.1,← hfl i hi]; exact hj
      have hgd : (f i).1[j]? = some ((f i).1.getD j default) := by simp [zZd,hj']
      refine ⟨?_,(hf i hi).2.1.2 j y _ hy hgd⟩
      have := hl.2 j (by rw [← hfl i hi]; exact hj)
      rw [hgd,zOK,zOK] at this
      exact this
     refine ⟨[.sl (P.cellsOf e) ((List.range len).map fun i => (f i).2)],wrap _ _ rfl ?_,.sl hu (by simp; omega) (fun x hx => ?_),?_⟩
     ·have := Rep.slN (w := w) (M := X0) (ρ := fun _ => {}) 0 (P.cellsOf e) ((List.range len).map fun i => (f i).2) b o cap (fun i j => (f i).1.getD j default) (fun h => h.elim) hblk (by simpa using hlc)
       (fun x hx => by obtain ⟨i,hi,rfl⟩ := zZK.1 hx; exact hfl i (by simpa using hi)) (fun i j x y hx hy => ⟨(hc i j x y hx hy).1,(hc i j x y hx hy).2.2⟩) (fun i j x y hx hy => (hc i j x y hx hy).2.1)
      simpa using this
     ·obtain ⟨i,hi,rfl⟩ := zZK.1 hx
      exact (hf i (by simpa using hi)).2.2.1
     ·have hb := zI7 ((List.range len).map fun i => (f i).2) (elems.map (·.1)) (by simp [hel]) fun i r d hr hd => by
       obtain ⟨hi,rfl⟩ := hget i r hr
       simp only [zZy,zzaJ] at hd
       obtain ⟨y,hy,rfl⟩ := hd
       exact (hf i hi).2.2.2 y hy
      simp only [zBy,AV.bulk,Rows.uptoBulk]
      omega
  ·rename_i fs hu
   simp only [zYX,zY5,zZb,List.contains_iff_mem] at h1
   obtain ⟨ys,n,hn,rfl,hcl,hyl,hy⟩ := DataW.trod_struct hu h
   obtain rfl : n = fuel := by omega
   obtain ⟨xs,hxr,hxv,hxb⟩ := zFe (w := w) cs fs.toList (ys.map (·.1)) h1.1 (by omega) (by simp [hyl]) fun i f d hf hd => by
    have hi := (zYU.1 hf).1
    have hg := hy i f (by simpa using hf)
    rw [zZe (by simp at hi; omega)] at hg
    simp only [zZy,zzaJ] at hd
    obtain ⟨y,hy',rfl⟩ := hd
    rw [zZe (by simp at hi; omega)] at hy'
    cases hy'
    exact ih (h1.2 f (zZp hf)) hg
   rw [zzaK,zzal,zZu (by omega)] at hxr
   refine ⟨xs,hxr,.st hu (by rw [hxr.1]; exact hcl) (fun i f hf => ?_),by simp only [Rows.uptoBulk]; omega⟩
   have := hxv f (by rw [← zZT] at hf; exact zZp hf)
   simpa using this
  ·cases h1
theorem zNl {S : List TypeId} (hS : zGL P S = true) {t : TypeId} {v : Value} {d : DataW H} {ps : List MemPlace} {r : Reach} {base : Nat} (ht : t ∈ S) (hval : Value.okWide P w r base t v) (h : DataW.Trod enc P w 0 sp held t v d ps) :
  ∃ xs,Val P t xs ∧ zBy xs ≤ Rows.uptoBulk d ∧ Rep w X0 (fun _ => {}) 0 (zQD P t xs) v := by
 obtain ⟨fuel,hf⟩ := h
 obtain ⟨xs,hx,hv,hb⟩ := zJG hS fuel ht hf
 refine ⟨xs,hv,hb,?_⟩
 unfold zGL at hS
 rw [zZb] at hS
 have h1 := hS t ht
 have single : v.cells = #[v] → (∀ fs,P.underlying t ≠ some (.struct fs)) → Rep w X0 (fun _ => {}) 0 (zQD P t xs) v := by
  intro hc hn
  have e : zQD P t xs = xs.headD .any := by
   unfold zQD
   split
   ·rename_i fs hu; exact absurd hu (hn fs)
   ·rfl
  rw [e]
  rw [hc] at hx
  obtain ⟨hl,hr⟩ := hx
  match xs,hl with
  | [x],_ => exact (hr 0 x v rfl rfl).1
 split at h1
 ·rename_i k hu
  obtain ⟨n,rfl⟩ := okWide_int hu hval
  exact single rfl fun fs => by rw [hu]; simp
 ·rename_i hu
  obtain ⟨n,rfl⟩ := okWide_bool hu hval
  exact single rfl fun fs => by rw [hu]; simp
 ·rename_i hu
  obtain ⟨n,rfl⟩ := okWide_string hu hval
  exact single rfl fun fs => by rw [hu]; simp
 ·rename_i e hu
  obtain ⟨a,len,cap,rfl⟩ := okWide_slice hu hval
  exact single rfl fun fs => by rw [hu]; simp
 ·rename_i fs hu
  obtain ⟨cs,rfl,hsz⟩ := okWide_struct hu hval
  have e : zQD P t xs = .agg xs := by unfold zQD; rw [hu]
  rw [e]
  exact .agg _ _ _ (by rw [hx.1]; simp [Value.cells]) fun i x u hxi hui => (hx.2 i x u hxi (by simpa [Value.cells] using hui)).1
 ·cases h1
theorem zID {S : List TypeId} (hS : zGL P S = true) : ∀ {ts : List TypeId} {vs : List Value} {ds : List (DataW H)} {ps : List MemPlace},(∀ t ∈ ts,t ∈ S) → (∀ (j : Nat) t v,ts[j]? = some t → vs[j]? = some v → ∃ r base,Value.okWide P w r base t v) →
  DataW.TrodAll enc P w 0 sp held ts vs ds ps → ∃ l,zK7 P ts l ∧ zAV l ≤ Rows.uptoBulkAll ds ∧ (zDy P ts l).length = vs.length ∧ ∀ (i : Nat) (x : AV) (u : Value),(zDy P ts l)[i]? = some x → vs[i]? = some u → Rep w X0 (fun _ => {}) 0 x u
 | [],vs,ds,ps,_,_,h => by
  obtain ⟨rfl,rfl,rfl⟩ := trodAll_nil h
  exact ⟨[],trivial,by simp [zAV],rfl,fun i x u hx => by simp [zDy] at hx⟩
 | t :: ts,vs,ds,ps,hts,hv,h => by
  obtain ⟨v,vs1,d,ds1,a,b,rfl,rfl,rfl,h1,h2⟩ := trodAll_cons h
  obtain ⟨r,base,hok⟩ := hv 0 t v rfl rfl
  obtain ⟨xs,hx,hxb,hr⟩ := zNl hS (hts t (by simp)) hok h1
  obtain ⟨l,hl,hlb,hlen,hrep⟩ := zID hS (fun t ht => hts t (by simp [ht])) (fun j t v ht hv' => hv (j + 1) t v (by simpa using ht) (by simpa using hv')) h2
  refine ⟨xs :: l,⟨hx,hl⟩,by simp only [zAV,Rows.uptoBulkAll]; omega,by simp [zDy,hlen],fun i x u hxi hui => ?_⟩
  cases i with
  | zero => simp [zDy] at hxi hui; subst hxi; subst hui; exact hr
  | succ i => exact hrep i x u (by simpa [zDy] using hxi) (by simpa using hui)
end
end Go.Ax
/- Short words for the operations of lowered functions (wip/tools/pack.py writes them). -/
namespace Go.Ax
open Go
abbrev oM (d a : Nat) : LO := ⟨some d,none,.mv (.t a)⟩
abbrev oX (d : Nat) (o : LOp) : LO := ⟨some d,none,o⟩
abbrev oT (d g : Nat) (o : LOp) : LO := ⟨some d,some (g,true),o⟩
abbrev oF (d g : Nat) (o : LOp) : LO := ⟨some d,some (g,false),o⟩
abbrev oN (o : LOp) : LO := ⟨none,none,o⟩
abbrev oL (d a : Nat) : LO := ⟨some d,none,.load false 1 (.t a)⟩
abbrev oA (d k a : Nat) : LO := ⟨some d,none,.load true k (.t a)⟩
abbrev oD (d k a : Nat) : LO := ⟨some d,none,.faddr k (.t a)⟩
abbrev oE (d a k : Nat) : LO := ⟨some d,none,.ext (.t a) k⟩
abbrev oI (d k a b : Nat) : LO := ⟨some d,none,.iaddr k (.t a) (.t b)⟩
abbrev oK (d a : Nat) : LO := ⟨some d,none,.nilchk (.t a)⟩
abbrev oP (d a : Nat) (x y : LX) : LO := ⟨some d,none,.pick (.t a) x y⟩
abbrev oS (k a b : Nat) : LO := ⟨none,none,.store k (.t a) (.t b)⟩
abbrev kI (n : Int) : LX := .c (.v (.int .i64 n))
abbrev kB (b : Bool) : LX := .c (.v (.bool b))
abbrev cF (f : FuncId) (l : List LX) : LOp := .call (.c (.fn (.func f) [] [])) l
abbrev bI (o : BinOp) (x y : LX) : LOp := .bin .int o x y
end Go.Ax
namespace Go.Proofs.YtbibhcmcjldhdaaGreatDoor
open Go Go.Ax
set_option maxRecDepth 100000
set_option linter.unusedSimpArgs false
set_option maxHeartbeats 4000000
def L23 : LFn := ⟨8,[(.tmp 4)],(.seq (.ops [oX 4 (.mv (.c (.v .nilFunc)))]) (.seq (.ops [oM 5 0,oM 6 1,oX 7 (cF 55 [(.t 5),(.t 6),(kI 0)]),oM 4 7]) .ret))⟩
theorem L23_ok : zAv Tryz.prog Tryz.f23 [] = some L23 := by kernel_rfl
def L31 : LFn := ⟨26,[(.tmp 4)],(.seq (.ops [oX 4 (.mv (kB false))]) (.seq (.seq (.ops [oM 6 0,oX 7 (.len .slc (.t 6)),oM 8 1,oX 9 (.len .slc (.t 8)),oX 10 (bI .neq (.t 7) (.t 9))]) (.cond (.t 10) (.seq (.ops [oX 4 (.mv (kB false))]) .ret) .skip)) (.seq (.seq (.ops [oX 5 (.mv (kI 0))]) (.block 0 (.loop (.seq (.seq (.ops [oM 11 5,oM 12 0,oX 13 (.len .slc (.t 12)),oX 14 (bI .lss (.t 11) (.t 13))]) (.cond (.t 14) .skip (.exit 0))) (.seq (.block 1 (.seq (.draw [oM 17 0,oM 18 5,oI 19 1 17 18,oL 20 19,oM 21 1,oM 22 5,oI 23 1 21 22,oL 24 23,oX 25 (bI .neq (.t 20) (.t 24))] []) (.cond (.t 25) (.seq (.ops [oX 4 (.mv (kB false))]) .ret) .skip))) (.ops [oM 15 5,oX 16 (bI .add (.t 15) (kI 1)),oM 5 16])))))) (.seq (.ops [oX 4 (.mv (kB true))]) .ret))))⟩
theorem L31_ok : zAv Tryz.prog Tryz.f31 [] = some L31 := by kernel_rfl
def L34 : LFn := ⟨19,[(.tmp 4),(.tmp 5)],(.seq (.ops [oX 4 (.mv (kI 0)),oX 5 (.mv (.c (.v .nilIface)))]) (.seq (.ops [oM 6 0,oX 7 (cF 61 [(.t 6)])]) (.seq (.ops [oM 8 0,oM 9 0,oK 10 9,oD 11 1 10,oL 12 11,oM 13 1,oX 14 (.appendb 5 (.t 12) (.t 13)),oK 15 8,oD 16 1 15,oS 1 16 14]) (.seq (.ops [oM 17 1,oX 18 (.len .str (.t 17)),oM 4 18,oX 5 (.mv (.c (.v .nilIface)))]) .ret))))⟩
theorem L34_ok : zAv Tryz.prog Tryz.f34 [⟨2,6,.imm⟩] = some L34 := by kernel_rfl
def L55 : LFn := ⟨8,[(.tmp 6)],(.seq (.ops [oX 3 (.box false (.t 0)),oX 4 (.box false (.t 1)),oX 5 (.box false (.t 2)),oX 6 (.mv (.c (.v .nilFunc)))]) (.seq (.ops [oX 7 (.mkfn (.func 110) [] [(.t 4),(.t 3),(.t 5)]),oM 6 7]) .ret))⟩
theorem L55_ok : zAv Tryz.prog Tryz.f55 [] = some L55 := by kernel_rfl
def L110 : LFn := ⟨52,[],(.seq (.seq (.ops [oL 9 1,oX 10 (.len .str (.t 9)),oX 11 (bI .eql (.t 10) (kI 0))]) (.cond (.t 11) (.seq (.block 0 (.loop (.seq (.seq (.ops [oL 12 2,oX 13 (.len .str (.t 12)),oX 14 (bI .gtr (.t 13) (kI 0))]) (.cond (.t 14) .skip (.exit 0))) (.block 1 (.seq (.ops [oL 16 2,oX 17 (cF 111 [(.t 16)]),oM 15 17,oE 18 15 0,oE 19 15 1,oM 5 18,oM 6 19]) (.seq (.seq (.ops [oM 20 0,oL 21 2,oM 22 6,oX 23 (.slice .str 1 (.t 21) none (some (.t 22))),oX 24 (.call (.t 20) [(.t 23)]),oX 25 (.not (.t 24))]) (.cond (.t 25) .ret .skip)) (.ops [oL 26 2,oM 27 6,oX 28 (.slice .str 1 (.t 26) (some (.t 27)) none),oS 1 2 28]))))))) .ret) .skip)) (.seq (.block 2 (.loop (.block 3 (.seq (.ops [oL 29 2,oL 30 1,oX 31 (cF 112 [(.t 29),(.t 30)]),oM 7 31]) (.seq (.seq (.ops [oM 32 7,oX 33 (bI .lss (.t 32) (kI 0))]) (.cond (.t 33) (.exit 2) .skip)) (.seq (.ops [oL 34 2,oM 35 7,oL 36 3,oX 37 (bI .add (.t 35) (.t 36)),oX 38 (.slice .str 1 (.t 34) none (some (.t 37))),oM 8 38]) (.seq (.seq (.ops [oM 39 0,oM 40 8,oX 41 (.call (.t 39) [(.t 40)]),oX 42 (.not (.t 41))]) (.cond (.t 42) .ret .skip)) (.ops [oL 43 2,oM 44 7,oL 45 1,oX 46 (.len .str (.t 45)),oX 47 (bI .add (.t 44) (.t 46)),oX 48 (.slice .str 1 (.t 43) (some (.t 47)) none),oS 1 2 48])))))))) (.ops [oM 49 0,oL 50 2,oX 51 (.call (.t 49) [(.t 50)])])))⟩
theorem L110_ok : zAv Tryz.prog Tryz.f110 [] = some L110 := by kernel_rfl
end Go.Proofs.YtbibhcmcjldhdaaGreatDoor
namespace Go.Proofs
open Go.Shelf
set_option linter.unusedSimpArgs false
set_option maxHeartbeats 4000000
def Tryz.lays156_ren : Go.Shelf.Ren := ⟨fun | 156 => 36 | 165 => 64 | 166 => 34 | 169 => 41 | 240 => 61 | 241 => 119 | 276 => 115 | 277 => 159 | n => n,fun | 31 => 64 | 9 => 9 | 3 => 3 | 4 => 4 | 0 => 0 | 20 => 20 | 72 => 82 | 76 => 85 | 70 => 79 | 37 => 80 | 75 => 84 | 127 => 124 | 164 => 191 | 5 => 5 | 80 => 95 | n => n,fun | n => n⟩
theorem Tryz.lays156 : Go.Proofs.Lays.n156 Tryz.prog Tryz.lays156_ren := {
 mixed := by kernel_rfl
 f156 := Tryz.func36.trans (congrArg some (by kernel_rfl))
 f165 := Tryz.func64.trans (congrArg some (by kernel_rfl))
 f166 := Tryz.func34.trans (congrArg some (by kernel_rfl))
 f169 := Tryz.func41.trans (congrArg some (by kernel_rfl))
 f240 := Tryz.func61.trans (congrArg some (by kernel_rfl))
 f241 := Tryz.func119.trans (congrArg some (by kernel_rfl))
 f276 := Tryz.func115.trans (congrArg some (by kernel_rfl))
 f277 := Tryz.func159.trans (congrArg some (by kernel_rfl))
 t0 := Tryz.underlying0
 a0 := Tryz.isAgg0
 z0 := Tryz.sizeOf0
 v0 := Tryz.zeroValue0
 t3 := Tryz.underlying3
 a3 := Tryz.isAgg3
 z3 := Tryz.sizeOf3
 v3 := Tryz.zeroValue3
 t4 := Tryz.underlying4
 a4 := Tryz.isAgg4
 z4 := Tryz.sizeOf4
 v4 := Tryz.zeroValue4
 t9 := Tryz.underlying9
 a9 := Tryz.isAgg9
 z9 := Tryz.sizeOf9
 v9 := Tryz.zeroValue9
 t20 := Tryz.underlying20
 a20 := Tryz.isAgg20
 z20 := Tryz.sizeOf20
 v20 := Tryz.zeroValue20
 t31 := Tryz.underlying64
 a31 := Tryz.isAgg64
 z31 := Tryz.sizeOf64
 v31 := Tryz.zeroValue64
 t37 := Tryz.underlying80
 a37 := Tryz.isAgg80
 z37 := Tryz.sizeOf80
 v37 := Tryz.zeroValue80
 t70 := Tryz.underlying79
 a70 := Tryz.isAgg79
 z70 := Tryz.sizeOf79
 v70 := Tryz.zeroValue79
 t72 := Tryz.underlying82
 a72 := Tryz.isAgg82
 z72 := Tryz.sizeOf82
 v72 := Tryz.zeroValue82
 t75 := Tryz.underlying84
 a75 := Tryz.isAgg84
 z75 := Tryz.sizeOf84
 v75 := Tryz.zeroValue84
 t76 := Tryz.underlying85
 a76 := Tryz.isAgg85
 z76 := Tryz.sizeOf85
 v76 := Tryz.zeroValue85
 t127 := Tryz.underlying124
 a127 := Tryz.isAgg124
 z127 := Tryz.sizeOf124
 v127 := Tryz.zeroValue124
 t164 := Tryz.underlying191
 a164 := Tryz.isAgg191
 z164 := Tryz.sizeOf191
 v164 := Tryz.zeroValue191 }
theorem Tryz.Builder_Extra_156 : Builder.Extra Tryz.prog Tryz.lays156_ren := {
 sizeBuilder := by kernel_rfl
 liesBuilder := by kernel_rfl
 t5 := Tryz.underlying5
 a5 := Tryz.isAgg5
 z5 := Tryz.sizeOf5
 v5 := Tryz.zeroValue5
 infoByte := by kernel_rfl
 cellsByte := by kernel_rfl
 sizeByte := by kernel_rfl
 neB5 := by decide }
open Go.RowKit in
theorem Tryz.strings_Join_none (a : Option Addr) (c : Nat) (sep : ByteArray) (w : World) :
  Calls Tryz.prog 36 #[.slice a 0 c,.string sep] w fun e w' => e = .returned (.string ⟨#[]⟩) ∧ w' = w := Any.strings_Join_none Tryz.lays156 Tryz.Builder_Extra_156 a c sep w
open Go.RowKit in
theorem Tryz.strings_Join (bk o c : Nat) (xs : List ByteArray) (sep : ByteArray) (w : World) (hcells : ∀ (j : Nat) x,xs[j]? = some x → w.cell? ⟨bk,o + j,none⟩ = some (.string x)) (hbk : bk < w.heap.size) (hN : xs.length ≤ 140737488355328) (hcap : xs.length ≤ c) (hlen : (Lib.join (xs.map (·.data.toList)) sep.data.toList).length ≤ 140737488355328) :
  Calls Tryz.prog 36 #[.slice (some ⟨bk,o,none⟩) xs.length c,.string sep] w fun e w' => e = .returned (.string ⟨(Lib.join (xs.map (·.data.toList)) sep.data.toList).toArray⟩) ∧ Below w.heap.size w w' := Any.strings_Join Tryz.lays156 Tryz.Builder_Extra_156 bk o c xs sep w hcells hbk hN hcap hlen
def Tryz.lays143_ren : Go.Shelf.Ren := ⟨fun | 143 => 112 | 219 => 158 | 217 => 208 | 225 => 209 | 224 => 210 | 267 => 211 | 266 => 260 | 314 => 261 | n => n,fun | 9 => 9 | 3 => 3 | 4 => 4 | 5 => 5 | 46 => 118 | 146 => 194 | 51 => 193 | n => n,fun | 1 => 2 | n => n⟩
theorem Tryz.lays143 : Go.Proofs.Lays.n143 Tryz.prog Tryz.lays143_ren := {
 mixed := by kernel_rfl
 f143 := Tryz.func112.trans (congrArg some (by kernel_rfl))
 f217 := Tryz.func208.trans (congrArg some (by kernel_rfl))
 f219 := Tryz.func158.trans (congrArg some (by kernel_rfl))
 f224 := Tryz.func210.trans (congrArg some (by kernel_rfl))
 f225 := Tryz.func209.trans (congrArg some (by kernel_rfl))
 f266 := Tryz.func260.trans (congrArg some (by kernel_rfl))
 f267 := Tryz.func211.trans (congrArg some (by kernel_rfl))
 f314 := Tryz.func261.trans (congrArg some (by kernel_rfl))
 t3 := Tryz.underlying3
 a3 := Tryz.isAgg3
 z3 := Tryz.sizeOf3
 v3 := Tryz.zeroValue3
 t4 := Tryz.underlying4
 a4 := Tryz.isAgg4
 z4 := Tryz.sizeOf4
 v4 := Tryz.zeroValue4
 t5 := Tryz.underlying5
 a5 := Tryz.isAgg5
 z5 := Tryz.sizeOf5
 v5 := Tryz.zeroValue5
 t9 := Tryz.underlying9
 a9 := Tryz.isAgg9
 z9 := Tryz.sizeOf9
 v9 := Tryz.zeroValue9
 t46 := Tryz.underlying118
 a46 := Tryz.isAgg118
 z46 := Tryz.sizeOf118
 v46 := Tryz.zeroValue118
 t51 := Tryz.underlying193
 a51 := Tryz.isAgg193
 z51 := Tryz.sizeOf193
 v51 := Tryz.zeroValue193
 t146 := Tryz.underlying194
 a146 := Tryz.isAgg194
 z146 := Tryz.sizeOf194
 v146 := Tryz.zeroValue194
 g1 := by kernel_rfl }
open Go.RowKit Go.Lib in
theorem Tryz.strings_Index_one (s : ByteArray) (c : UInt8) (w : World) :
  Calls Tryz.prog 112 #[.string s,.string ⟨#[c]⟩] w fun e w' => e = .returned (.int .i64 (Lib.indexByte s.data.toList c)) ∧ w' = w := Any.strings_Index_one Tryz.lays143 s c w
def Tryz.lays101_ren : Go.Shelf.Ren := ⟨fun | 101 => 56 | 208 => 113 | 206 => 118 | n => n,fun | 9 => 9 | 4 => 4 | 3 => 3 | n => n,fun | n => n⟩
theorem Tryz.lays101 : Go.Proofs.Lays.n101 Tryz.prog Tryz.lays101_ren := {
 mixed := by kernel_rfl
 f101 := Tryz.func56.trans (congrArg some (by kernel_rfl))
 f206 := Tryz.func118.trans (congrArg some (by kernel_rfl))
 f208 := Tryz.func113.trans (congrArg some (by kernel_rfl))
 t3 := Tryz.underlying3
 a3 := Tryz.isAgg3
 z3 := Tryz.sizeOf3
 v3 := Tryz.zeroValue3
 t4 := Tryz.underlying4
 a4 := Tryz.isAgg4
 z4 := Tryz.sizeOf4
 v4 := Tryz.zeroValue4
 t9 := Tryz.underlying9
 a9 := Tryz.isAgg9
 z9 := Tryz.sizeOf9
 v9 := Tryz.zeroValue9 }
open Go.RowKit Go.Lib in
theorem Tryz.strings_TrimPrefix (s p : ByteArray) (w : World) :
  Calls Tryz.prog 56 #[.string s,.string p] w fun e w' => e = .returned (.string ⟨(Lib.trimPrefix s.data.toList p.data.toList).toArray⟩) ∧ w' = w := Any.strings_TrimPrefix Tryz.lays101 s p w
def Tryz.lays105_ren : Go.Shelf.Ren := ⟨fun | 105 => 35 | 212 => 62 | 99 => 63 | 165 => 64 | 166 => 34 | 170 => 65 | 169 => 41 | 263 => 116 | 264 => 117 | 206 => 118 | 240 => 61 | 241 => 119 | 276 => 115 | 277 => 159 | n => n,fun | 9 => 9 | 3 => 3 | 4 => 4 | 20 => 20 | 0 => 0 | 46 => 118 | 109 => 119 | 5 => 5 | 72 => 82 | 76 => 85 | 51 => 193 | 146 => 194 | 53 => 196 | 148 => 197 | 70 => 79 | 37 => 80 | 75 => 84 | 127 => 124 | 164 => 191 | 80 => 95 | n => n,fun | n => n⟩
theorem Tryz.lays105 : Go.Proofs.Lays.n105 Tryz.prog Tryz.lays105_ren := {
 mixed := by kernel_rfl
 f99 := Tryz.func63.trans (congrArg some (by kernel_rfl))
 f105 := Tryz.func35.trans (congrArg some (by kernel_rfl))
 f165 := Tryz.func64.trans (congrArg some (by kernel_rfl))
 f166 := Tryz.func34.trans (congrArg some (by kernel_rfl))
 f169 := Tryz.func41.trans (congrArg some (by kernel_rfl))
 f170 := Tryz.func65.trans (congrArg some (by kernel_rfl))
 f206 := Tryz.func118.trans (congrArg some (by kernel_rfl))
 f212 := Tryz.func62.trans (congrArg some (by kernel_rfl))
 f240 := Tryz.func61.trans (congrArg some (by kernel_rfl))
 f241 := Tryz.func119.trans (congrArg some (by kernel_rfl))
 f263 := Tryz.func116.trans (congrArg some (by kernel_rfl))
 f264 := Tryz.func117.trans (congrArg some (by kernel_rfl))
 f276 := Tryz.func115.trans (congrArg some (by kernel_rfl))
 f277 := Tryz.func159.trans (congrArg some (by kernel_rfl))
 t0 := Tryz.underlying0
 a0 := Tryz.isAgg0
 z0 := Tryz.sizeOf0
 v0 := Tryz.zeroValue0
 t3 := Tryz.underlying3
 a3 := Tryz.isAgg3
 z3 := Tryz.sizeOf3
 v3 := Tryz.zeroValue3
 t4 := Tryz.underlying4
 a4 := Tryz.isAgg4
 z4 := Tryz.sizeOf4
 v4 := Tryz.zeroValue4
 t5 := Tryz.underlying5
 a5 := Tryz.isAgg5
 z5 := Tryz.sizeOf5
 v5 := Tryz.zeroValue5
 t9 := Tryz.underlying9
 a9 := Tryz.isAgg9
 z9 := Tryz.sizeOf9
 v9 := Tryz.zeroValue9
 t20 := Tryz.underlying20
 a20 := Tryz.isAgg20
 z20 := Tryz.sizeOf20
 v20 := Tryz.zeroValue20
 t37 := Tryz.underlying80
 a37 := Tryz.isAgg80
 z37 := Tryz.sizeOf80
 v37 := Tryz.zeroValue80
 t46 := Tryz.underlying118
 a46 := Tryz.isAgg118
 z46 := Tryz.sizeOf118
 v46 := Tryz.zeroValue118
 t51 := Tryz.underlying193
 a51 := Tryz.isAgg193
 z51 := Tryz.sizeOf193
 v51 := Tryz.zeroValue193
 t53 := Tryz.underlying196
 a53 := Tryz.isAgg196
 z53 := Tryz.sizeOf196
 v53 := Tryz.zeroValue196
 t70 := Tryz.underlying79
 a70 := Tryz.isAgg79
 z70 := Tryz.sizeOf79
 v70 := Tryz.zeroValue79
 t72 := Tryz.underlying82
 a72 := Tryz.isAgg82
 z72 := Tryz.sizeOf82
 v72 := Tryz.zeroValue82
 t75 := Tryz.underlying84
 a75 := Tryz.isAgg84
 z75 := Tryz.sizeOf84
 v75 := Tryz.zeroValue84
 t76 := Tryz.underlying85
 a76 := Tryz.isAgg85
 z76 := Tryz.sizeOf85
 v76 := Tryz.zeroValue85
 t109 := Tryz.underlying119
 a109 := Tryz.isAgg119
 z109 := Tryz.sizeOf119
 v109 := Tryz.zeroValue119
 t127 := Tryz.underlying124
 a127 := Tryz.isAgg124
 z127 := Tryz.sizeOf124
 v127 := Tryz.zeroValue124
 t146 := Tryz.underlying194
 a146 := Tryz.isAgg194
 z146 := Tryz.sizeOf194
 v146 := Tryz.zeroValue194
 t148 := Tryz.underlying197
 a148 := Tryz.isAgg197
 z148 := Tryz.sizeOf197
 v148 := Tryz.zeroValue197
 t164 := Tryz.underlying191
 a164 := Tryz.isAgg191
 z164 := Tryz.sizeOf191
 v164 := Tryz.zeroValue191 }
theorem Tryz.Builder_Extra_105 : Builder.Extra Tryz.prog Tryz.lays105_ren := {
 sizeBuilder := by kernel_rfl
 liesBuilder := by kernel_rfl
 t5 := Tryz.underlying5
 a5 := Tryz.isAgg5
 z5 := Tryz.sizeOf5
 v5 := Tryz.zeroValue5
 infoByte := by kernel_rfl
 cellsByte := by kernel_rfl
 sizeByte := by kernel_rfl
 neB5 := by decide }
open Go.RowKit Go.Lib in
theorem Tryz.strings_Repeat (s : ByteArray) (c : Nat) (w : World) (hc : c ≤ 9223372036854775807) (hlen : s.size * c ≤ 140737488355328) :
  Calls Tryz.prog 35 #[.string s,.int .i64 c] w fun e w' => e = .returned (.string ⟨(Lib.repeatL s.data.toList c).toArray⟩) ∧ Below w.heap.size w w' := Any.strings_Repeat Tryz.lays105 Tryz.Builder_Extra_105 s c w hc hlen
end Go.Proofs
namespace Go.Proofs.YtbibhcmcjldhdaaGreatDoor
open Go Go.Ax Go.RowKit
set_option maxRecDepth 100000
set_option linter.unusedSimpArgs false
set_option linter.unusedVariables false
set_option maxHeartbeats 4000000
theorem zFs {w : World} {M : Nat → Prop} {ρ : Nat → Ax.Loc} {n : Nat} {x y : AV} {vs : Array Value} (h : RepL w M ρ n [x,y] vs) : ∃ a b,vs = #[a,b] ∧ Rep w M ρ n x a ∧ Rep w M ρ n y b := by
 obtain ⟨h1,h2⟩ := h
 match vs,h1 with
 | ⟨[a,b]⟩,_ => exact ⟨a,b,rfl,h2 0 x a rfl rfl,h2 1 y b rfl rfl⟩
theorem zV2 (l : List UInt8) : (mkS l).data.toList = l := rfl
theorem zPt (l : List UInt8) : (mkS l).size = l.length := rfl
theorem zYr (xs : List (List UInt8)) (sep : List UInt8) (hn : xs.length ≤ 140737488355328) (hl : (Lib.join xs sep).length ≤ 140737488355328) (H : zA) :
  ACall Tryz.prog 36 [.sl 1 (xs.map fun x => [str x]),str sep] H fun x H' => x = str (Lib.join xs sep) ∧ H' = H := by
 refine ⟨⟨_,Tryz.func36,by kernel_rfl,by kernel_rfl⟩,fun X ρ w vs hrel hargs => ?_⟩
 obtain ⟨a,b,rfl,ha,hb⟩ := zFs hargs
 have hb := zDz hb
 subst hb
 cases xs with
 | nil =>
  simp only [zzaC] at ha
  have : ∃ ad cap,a = .slice ad 0 cap := by
   cases ha with
   | slE => exact ⟨_,_,rfl⟩
   | slN => exact ⟨_,_,rfl⟩
  obtain ⟨ad,cap,rfl⟩ := this
  refine (Tryz.strings_Join_none ad cap (mkS sep) w).mono ?_
  rintro e w' ⟨rfl,rfl⟩
  exact ⟨_,_,H,ρ,rfl,⟨rfl,rfl⟩,hrel,.v _ _,Fut.refl _ _ _⟩
 | cons x0 xr =>
  generalize hxs : x0 :: xr = xs at *
  have hne : xs.map (fun x => [str x]) ≠ [] := by rw [← hxs]; simp
  generalize hys : xs.map (fun x => [str x]) = ys at *
  cases ha with
  | slE => exact absurd rfl hne
  | slN _ _ _ b o cap c hm hb hcap hsz hcell hrep =>
   have hlen : ys.length = xs.length := by rw [← hys]; simp
   have hmm : (xs.map mkS).map (fun x => x.data.toList) = xs := by simp [Function.comp_def,zV2]
   have hcells : ∀ (j : Nat) x,(xs.map mkS)[j]? = some x → w.cell? ⟨b,o + j,none⟩ = some (.string x) := by
    intro j x hx
    simp only [zZy,zzaJ] at hx
    obtain ⟨y,hy,rfl⟩ := hx
    have hyj : ys[j]? = some [str y] := by rw [← hys]; simp [hy]
    have h1 := hcell j 0 _ (str y) hyj rfl
    have h2 := zDz (hrep j 0 _ (str y) hyj rfl)
    simp only [zzbx,zZJ] at h1
    rw [h1.1,h2]
   have := Tryz.strings_Join b o cap (xs.map mkS) (mkS sep) w hcells hb (by simpa using hn) (by simp; omega) (by rw [hmm]; exact hl)
   rw [hmm,zYV,← hlen] at this
   refine this.mono ?_
   rintro e w' ⟨rfl,hbel⟩
   obtain ⟨f1,f2⟩ := hrel.more ⟨hbel.os,hbel.tape,hbel.output,hbel.size⟩ hbel.block
   exact ⟨_,_,H,ρ,rfl,⟨rfl,rfl⟩,f1,.v _ _,f2⟩
end Go.Proofs.YtbibhcmcjldhdaaGreatDoor
namespace Go.Proofs.YtbibhcmcjldhdaaGreatDoor
open Go Go.Ax
set_option maxRecDepth 100000
set_option linter.unusedSimpArgs false
set_option maxHeartbeats 4000000
def L44 : LFn := ⟨9,[(.tmp 4)],(.seq (.ops [oX 4 (.mv (kB false))]) (.seq (.ops [oM 5 0,oM 6 1,oX 7 (cF 72 [(.t 5),(.t 6)]),oX 8 (bI .geq (.t 7) (kI 0)),oM 4 8]) .ret))⟩
theorem L44_ok : zAv Tryz.prog Tryz.f44 [] = some L44 := by kernel_rfl
def L58 : LFn := ⟨19,[(.tmp 4)],(.seq (.ops [oX 4 (.mv (kI 0))]) (.seq (.seq (.ops [oM 6 0,oX 7 (.len .slc (.t 6)),oX 8 (.mv (kI 0))]) (.block 0 (.loop (.seq (.ops [oX 9 (bI .lss (.t 8) (.t 7))]) (.seq (.cond (.t 9) .skip (.exit 0)) (.seq (.block 1 (.seq (.ops [oM 10 8,oM 5 10]) (.seq (.ops [oM 11 1,oM 12 0,oM 13 5,oI 14 1 12 13,oL 15 14,oX 16 (.bin .str .eql (.t 11) (.t 15))]) (.cond (.t 16) (.seq (.ops [oM 17 5,oM 4 17]) .ret) .skip)))) (.ops [oX 18 (bI .add (.t 8) (kI 1)),oM 8 18]))))))) (.seq (.ops [oX 4 (.mv (kI (-1)))]) .ret)))⟩
theorem L58_ok : zAv Tryz.prog Tryz.f58 [] = some L58 := by kernel_rfl
def L62 : LFn := ⟨30,[(.tmp 4),(.tmp 5)],(.seq (.ops [oX 4 (.mv (.c (.v (.int .u64 0)))),oX 5 (.mv (.c (.v (.int .u64 0))))]) (.seq (.cond (kB false) (.seq (.ops [oM 11 0,oX 12 (.conv (.toInt .u32) (.t 11)),oM 13 1,oX 14 (.conv (.toInt .u32) (.t 13)),oX 15 (cF 116 [(.t 12),(.t 14)]),oM 10 15,oE 16 10 0,oE 17 10 1,oM 6 16,oM 7 17]) (.seq (.ops [oM 18 6,oX 19 (.conv (.toInt .u64) (.t 18)),oM 20 7,oX 21 (.conv (.toInt .u64) (.t 20)),oM 4 19,oM 5 21]) .ret)) .skip) (.seq (.ops [oM 23 0,oM 24 1,oX 25 (cF 117 [(.t 23),(.t 24)]),oM 22 25,oE 26 22 0,oE 27 22 1,oM 8 26,oM 9 27]) (.seq (.ops [oM 28 8,oM 29 9,oM 4 28,oM 5 29]) .ret))))⟩
theorem L62_ok : zAv Tryz.prog Tryz.f62 [] = some L62 := by kernel_rfl
def L72 : LFn := ⟨19,[(.tmp 4)],(.seq (.ops [oX 4 (.mv (kI 0))]) (.seq (.seq (.ops [oM 6 0,oX 7 (.len .slc (.t 6)),oX 8 (.mv (kI 0))]) (.block 0 (.loop (.seq (.ops [oX 9 (bI .lss (.t 8) (.t 7))]) (.seq (.cond (.t 9) .skip (.exit 0)) (.seq (.block 1 (.seq (.ops [oM 10 8,oM 5 10]) (.seq (.ops [oM 11 1,oM 12 0,oM 13 5,oI 14 6 12 13,oA 15 6 14,oX 16 (.call (.t 11) [(.t 15)])]) (.cond (.t 16) (.seq (.ops [oM 17 5,oM 4 17]) .ret) .skip)))) (.ops [oX 18 (bI .add (.t 8) (kI 1)),oM 8 18]))))))) (.seq (.ops [oX 4 (.mv (kI (-1)))]) .ret)))⟩
theorem L72_ok : zAv Tryz.prog Tryz.f72 [] = some L72 := by kernel_rfl
def L105 : LFn := ⟨10,[(.tmp 4)],(.seq (.ops [oX 2 (.box false (.t 0)),oX 4 (.mv (kI 0))]) (.seq (.ops [oM 5 1,oA 6 3 2,oX 7 (.bsl true 3 1 [(int 0),(int 0),(.v (.string (mkS [])))] [(0,(.t 6))]),oX 8 (cF 155 [(.t 5),(.t 7)]),oX 9 (.len .slc (.t 8)),oM 4 9]) .ret))⟩
theorem L105_ok : zAv Tryz.prog Tryz.f105 [⟨1,2,.imm⟩] = some L105 := by kernel_rfl
def L117 : LFn := ⟨51,[(.tmp 4),(.tmp 5)],(.seq (.ops [oX 4 (.mv (.c (.v (.int .u64 0)))),oX 5 (.mv (.c (.v (.int .u64 0))))]) (.seq (.ops [oM 14 0,oX 15 (bI .and (.t 14) (.c (.v (.int .u64 4294967295)))),oM 6 15]) (.seq (.ops [oM 16 0,oX 17 (bI .shr (.t 16) (.c (.v (.int .u64 32)))),oM 7 17]) (.seq (.ops [oM 18 1,oX 19 (bI .and (.t 18) (.c (.v (.int .u64 4294967295)))),oM 8 19]) (.seq (.ops [oM 20 1,oX 21 (bI .shr (.t 20) (.c (.v (.int .u64 32)))),oM 9 21]) (.seq (.ops [oM 22 6,oM 23 8,oX 24 (bI .mul (.t 22) (.t 23)),oM 10 24]) (.seq (.ops [oM 25 7,oM 26 8,oX 27 (bI .mul (.t 25) (.t 26)),oM 28 10,oX 29 (bI .shr (.t 28) (.c (.v (.int .u64 32)))),oX 30 (bI .add (.t 27) (.t 29)),oM 11 30]) (.seq (.ops [oM 31 11,oX 32 (bI .and (.t 31) (.c (.v (.int .u64 4294967295)))),oM 12 32]) (.seq (.ops [oM 33 11,oX 34 (bI .shr (.t 33) (.c (.v (.int .u64 32)))),oM 13 34]) (.seq (.ops [oM 35 12,oM 36 6,oM 37 9,oX 38 (bI .mul (.t 36) (.t 37)),oX 39 (bI .add (.t 35) (.t 38)),oM 12 39]) (.seq (.ops [oM 40 7,oM 41 9,oX 42 (bI .mul (.t 40) (.t 41)),oM 43 13,oX 44 (bI .add (.t 42) (.t 43)),oM 45 12,oX 46 (bI .shr (.t 45) (.c (.v (.int .u64 32)))),oX 47 (bI .add (.t 44) (.t 46)),oM 4 47]) (.seq (.ops [oM 48 0,oM 49 1,oX 50 (bI .mul (.t 48) (.t 49)),oM 5 50]) .ret))))))))))))⟩
theorem L117_ok : zAv Tryz.prog Tryz.f117 [] = some L117 := by kernel_rfl
def L155 : LFn := ⟨30,[(.tmp 4)],(.seq (.ops [oX 4 (.mv (.c zAI))]) (.seq (.ops [oX 5 (.mv (.c zAI)),oX 5 (.own 3 (.t 5))]) (.seq (.seq (.ops [oM 8 1,oX 9 (.len .slc (.t 8)),oX 10 (.mv (kI 0))]) (.block 0 (.loop (.seq (.ops [oX 11 (bI .lss (.t 10) (.t 9))]) (.seq (.cond (.t 11) .skip (.exit 0)) (.seq (.block 1 (.seq (.ops [oI 12 3 8 10,oA 13 3 12,oX 7 (.alloc [(int 0),(int 0),(.v (.string (mkS [])))]),oS 3 7 13]) (.seq (.seq (.ops [oA 14 3 7,oM 15 0,oX 16 (cF 193 [(.t 14),(.t 15)]),oX 17 (.not (.t 16))]) (.cond (.t 17) (.seq (.ops [oX 4 (.mv (.c zAI))]) .ret) .skip)) (.draw [oM 18 5,oX 19 (cF 194 []),oD 20 0 7,oL 21 20,oX 22 (.look .int (.agg [(.v .nilFunc),(.v .nilFunc)]) false (.t 19) (.t 21)),oX 23 (.fld false 1 1 (.t 22)),oA 24 3 7,oM 25 0,oX 26 (.call (.t 23) [(.t 24),(.t 25)])] [oX 27 (.append 3 32 (.t 18) (.t 26)),oM 5 27])))) (.ops [oX 28 (bI .add (.t 10) (kI 1)),oM 10 28]))))))) (.seq (.ops [oM 29 5,oM 4 29,oX 4 (.frz (.t 4))]) .ret))))⟩
theorem L155_ok : zAv Tryz.prog Tryz.f155 [⟨9,2,(.pre 4 (.frz (.t 4)))⟩,⟨1,1,(.pre 5 (.own 3 (.t 5)))⟩,⟨7,9,.tail⟩] = some L155 := by kernel_rfl
def L193 : LFn := ⟨22,[(.tmp 4)],(.seq (.ops [oX 2 (.box false (.t 0)),oX 4 (.mv (kB false))]) (.seq (.draw [oX 8 (cF 194 []),oD 9 0 2,oL 10 9,oX 11 (.look .int (.agg [(.v .nilFunc),(.v .nilFunc)]) true (.t 8) (.t 10)),oM 7 11,oE 12 7 0,oE 13 7 1] [oX 5 (.alloc [(.v .nilFunc),(.v .nilFunc)]),oS 2 5 12,oM 6 13]) (.seq (.ops [oM 14 6,oM 15 14,oT 16 15 (.faddr 0 (.t 5)),oT 17 15 (.load false 1 (.t 16)),oT 18 15 (.load true 3 (.t 2)),oT 19 15 (.mv (.t 1)),oT 20 15 (.call (.t 17) [(.t 18),(.t 19)]),oP 21 15 (.t 20) (kB false),oM 4 21]) .ret)))⟩
theorem L193_ok : zAv Tryz.prog Tryz.f193 [⟨1,7,.tail⟩] = some L193 := by kernel_rfl
def L194 : LFn := ⟨13,[(.tmp 0)],(.seq (.ops [oX 0 (.mv (.c (.v (.map none))))]) (.seq (.ops [oX 1 (.mv (.c (.fn (.func 239) [] [])))]) (.seq (.ops [oX 2 (.mv (.c (.fn (.func 240) [] [])))]) (.seq (.ops [⟨(some 3),none,.mkmap⟩,oM 4 1,oM 5 2,oX 6 (.build [(.v .nilFunc),(.v .nilFunc)] [(0,(1,(.t 4))),(1,(1,(.t 5)))]),oN (.ins .int (.t 3) (kI 1) (.t 6)),oM 7 1,oM 8 2,oX 9 (.build [(.v .nilFunc),(.v .nilFunc)] [(0,(1,(.t 7))),(1,(1,(.t 8)))]),oN (.ins .int (.t 3) (kI 2) (.t 9)),oX 10 (.build [(.v .nilFunc),(.v .nilFunc)] [(0,(1,(.c (.fn (.func 241) [] [])))),(1,(1,(.c (.fn (.func 242) [] []))))]),oN (.ins .int (.t 3) (kI 3) (.t 10)),oX 11 (.build [(.v .nilFunc),(.v .nilFunc)] [(0,(1,(.c (.fn (.func 244) [] [])))),(1,(1,(.c (.fn (.func 246) [] []))))]),oN (.ins .int (.t 3) (kI 4) (.t 11)),oM 12 3,oM 0 12,oX 0 (.frz (.t 0))]) .ret))))⟩
theorem L194_ok : zAv Tryz.prog Tryz.f194 [⟨3,15,(.pre 0 (.frz (.t 0)))⟩] = some L194 := by kernel_rfl
def L239 : LFn := ⟨13,[(.tmp 4)],(.seq (.ops [oX 2 (.box false (.t 0)),oX 4 (.mv (kB false))]) (.seq (.ops [oD 5 1 2,oL 6 5,oX 7 (bI .eql (.t 6) (kI 0)),oM 8 7,oT 9 8 (.faddr 2 (.t 2)),oT 10 8 (.load false 1 (.t 9)),oT 11 8 (.bin .str .eql (.t 10) (.c (.v (.string (mkS []))))),oP 12 8 (.t 11) (kB false),oM 4 12]) .ret))⟩
theorem L239_ok : zAv Tryz.prog Tryz.f239 [] = some L239 := by kernel_rfl
def L240 : LFn := ⟨9,[(.tmp 4)],(.seq (.ops [oX 2 (.box false (.t 0)),oX 4 (.mv (.c zAI))]) (.seq (.ops [oD 5 0 2,oL 6 5,oX 7 (.build [(int 0),(int 0),(.v (.string (mkS [])))] [(0,(1,(.t 6)))]),oX 8 (.bsl false 3 1 [(int 0),(int 0),(.v (.string (mkS [])))] [(0,(.t 7))]),oM 4 8,oX 4 (.frz (.t 4))]) .ret))⟩
theorem L240_ok : zAv Tryz.prog Tryz.f240 [⟨1,5,(.pre 4 (.frz (.t 4)))⟩] = some L240 := by kernel_rfl
def L241 : LFn := ⟨18,[(.tmp 4)],(.seq (.ops [oX 2 (.box false (.t 0)),oX 4 (.mv (kB false))]) (.seq (.ops [oD 5 1 2,oL 6 5,oX 7 (bI .geq (.t 6) (kI 1)),oM 8 7,oT 9 8 (.faddr 1 (.t 2)),oT 10 8 (.load false 1 (.t 9)),oT 11 8 (bI .leq (.t 10) (kI 8)),oP 12 8 (.t 11) (kB false),oM 13 12,oT 14 13 (.faddr 2 (.t 2)),oT 15 13 (.load false 1 (.t 14)),oT 16 13 (.bin .str .eql (.t 15) (.c (.v (.string (mkS []))))),oP 17 13 (.t 16) (kB false),oM 4 17]) .ret))⟩
theorem L241_ok : zAv Tryz.prog Tryz.f241 [] = some L241 := by kernel_rfl
def L242 : LFn := ⟨10,[(.tmp 4)],(.seq (.ops [oX 2 (.box false (.t 0)),oX 4 (.mv (.c zAI))]) (.seq (.ops [oX 5 (.build [(int 0),(int 0),(.v (.string (mkS [])))] [(0,(1,(kI 1)))]),oX 6 (.bsl true 3 1 [(int 0),(int 0),(.v (.string (mkS [])))] [(0,(.t 5))]),oD 7 1 2,oL 8 7,oX 9 (cF 243 [(.t 6),(.t 8)]),oM 4 9,oX 4 (.frz (.t 4))]) .ret))⟩
theorem L242_ok : zAv Tryz.prog Tryz.f242 [⟨1,1,.imm⟩,⟨1,6,(.pre 4 (.frz (.t 4)))⟩] = some L242 := by kernel_rfl
def L243 : LFn := ⟨48,[(.tmp 4)],(.seq (.ops [oX 4 (.mv (.c zAI))]) (.seq (.seq (.ops [oM 9 1,oX 10 (bI .lss (.t 9) (kI 0))]) (.cond (.t 10) (.ops [oX 11 (.mkif 9 (.c (.v (.string (mkS [99,97,110,110,111,116,32,98,101,32,110,101,103,97,116,105,118,101]))))),oN (.panicv (.t 11))]) .skip)) (.seq (.ops [oM 13 0,oX 14 (.len .slc (.t 13)),oX 15 (.conv (.toInt .u64) (.t 14)),oM 16 1,oX 17 (.conv (.toInt .u64) (.t 16)),oX 18 (cF 62 [(.t 15),(.t 17)]),oM 12 18,oE 19 12 0,oE 20 12 1,oM 5 19,oM 6 20]) (.seq (.seq (.ops [oM 21 5,oX 22 (bI .gtr (.t 21) (.c (.v (.int .u64 0)))),oM 23 22,oF 24 23 (.mv (.t 6)),oF 25 23 (bI .gtr (.t 24) (.c (.v (.int .u64 9223372036854775807)))),oP 26 23 (kB true) (.t 25)]) (.cond (.t 26) (.ops [oX 27 (.mkif 9 (.c (.v (.string (mkS [116,104,101,32,114,101,115,117,108,116,32,111,102,32,40,108,101,110,40,120,41,32,42,32,99,111,117,110,116,41,32,111,118,101,114,102,108,111,119,115]))))),oN (.panicv (.t 27))]) .skip)) (.seq (.ops [oM 28 6,oX 29 (.conv (.toInt .i64) (.t 28)),oX 30 (.msl 3 32 [(int 0),(int 0),(.v (.string (mkS [])))] (.t 29) (.t 29)),oM 7 30]) (.seq (.ops [oM 31 7,oM 32 0,oX 33 (.copy 3 (.t 31) (.t 32)),oM 8 33]) (.seq (.block 0 (.loop (.seq (.seq (.ops [oM 34 8,oM 35 7,oX 36 (.len .slc (.t 35)),oX 37 (bI .lss (.t 34) (.t 36))]) (.cond (.t 37) .skip (.exit 0))) (.block 1 (.draw [oM 38 8,oM 39 7,oM 40 8,oX 41 (.slice .slc 3 (.t 39) (some (.t 40)) none),oM 42 7,oM 43 8,oX 44 (.slice .slc 3 (.t 42) none (some (.t 43)))] [oX 45 (.copy 3 (.t 41) (.t 44)),oX 46 (bI .add (.t 38) (.t 45)),oM 8 46]))))) (.seq (.ops [oM 47 7,oM 4 47,oX 4 (.frz (.t 4))]) .ret))))))))⟩
theorem L243_ok : zAv Tryz.prog Tryz.f243 [⟨10,2,(.pre 4 (.frz (.t 4)))⟩,⟨9,7,.tail⟩] = some L243 := by kernel_rfl
def L244 : LFn := ⟨20,[(.tmp 4)],(.seq (.ops [oX 2 (.box false (.t 0)),oX 4 (.mv (kB false))]) (.seq (.ops [oM 8 1,oD 9 2 2,oL 10 9,oX 11 (cF 245 [(.t 8),(.t 10)]),oM 7 11,oE 12 7 0,oE 13 7 1,oX 5 (.alloc [(.v (.string (mkS []))),zAI]),oS 2 5 12,oM 6 13]) (.seq (.ops [oD 14 1 2,oL 15 14,oX 16 (bI .eql (.t 15) (kI 0)),oM 17 16,oT 18 17 (.mv (.t 6)),oP 19 17 (.t 18) (kB false),oM 4 19]) .ret)))⟩
theorem L244_ok : zAv Tryz.prog Tryz.f244 [] = some L244 := by kernel_rfl
def L245 : LFn := ⟨17,[(.cell 4 true 2),(.tmp 5)],(.seq (.ops [oX 3 (.box false (.t 1)),oX 4 (.alloc [(.v (.string (mkS []))),zAI]),oX 5 (.mv (kB false))]) (.seq (.ops [oM 7 0,oX 8 (.mkfn (.func 276) [] [(.t 3)]),oX 9 (cF 275 [(.t 7),(.t 8)]),oM 6 9]) (.seq (.seq (.ops [oM 10 6,oX 11 (bI .lss (.t 10) (kI 0))]) (.cond (.t 11) (.seq (.ops [oX 12 (.build [(.v (.string (mkS []))),zAI] []),oS 2 4 12,oX 5 (.mv (kB false))]) .ret) .skip)) (.seq (.ops [oM 13 0,oM 14 6,oI 15 2 13 14,oA 16 2 15,oS 2 4 16,oX 5 (.mv (kB true))]) .ret))))⟩
theorem L245_ok : zAv Tryz.prog Tryz.f245 [] = some L245 := by kernel_rfl
def L246 : LFn := ⟨32,[(.tmp 4)],(.seq (.ops [oX 2 (.box false (.t 0)),oX 4 (.mv (.c zAI))]) (.seq (.ops [oX 5 (.mv (.c zAI)),oX 5 (.own 3 (.t 5))]) (.seq (.ops [oM 11 1,oD 12 2 2,oL 13 12,oX 14 (cF 245 [(.t 11),(.t 13)]),oM 10 14,oE 15 10 0,oE 16 10 1,oX 6 (.alloc [(.v (.string (mkS []))),zAI]),oS 2 6 15,oM 7 16]) (.seq (.seq (.ops [oD 17 1 6,oL 18 17,oX 19 (.len .slc (.t 18)),oX 20 (.mv (kI 0))]) (.block 0 (.loop (.seq (.ops [oX 21 (bI .lss (.t 20) (.t 19))]) (.seq (.cond (.t 21) .skip (.exit 0)) (.seq (.block 1 (.seq (.ops [oI 22 4 18 20,oA 23 4 22,oX 9 (.alloc [(.v (.string (mkS []))),(int 0),(int 0),(.v (.string (mkS [])))]),oS 4 9 23]) (.ops [oM 24 5,oD 25 1 9,oA 26 3 25,oX 27 (cF 247 [(.t 26)]),oX 28 (.bsl true 3 1 [(int 0),(int 0),(.v (.string (mkS [])))] [(0,(.t 27))]),oX 29 (.append 3 32 (.t 24) (.t 28)),oM 5 29]))) (.ops [oX 30 (bI .add (.t 20) (kI 1)),oM 20 30]))))))) (.seq (.ops [oM 31 5,oM 4 31,oX 4 (.frz (.t 4))]) .ret)))))⟩
theorem L246_ok : zAv Tryz.prog Tryz.f246 [⟨6,4,.imm⟩,⟨8,2,(.pre 4 (.frz (.t 4)))⟩,⟨1,1,(.pre 5 (.own 3 (.t 5)))⟩] = some L246 := by kernel_rfl
def L247 : LFn := ⟨8,[(.cell 2 true 3)],(.seq (.ops [oX 1 (.box false (.t 0)),oX 2 (.alloc [(int 0),(int 0),(.v (.string (mkS [])))])]) (.seq (.seq (.ops [oD 3 0 1,oL 4 3,oX 5 (bI .eql (.t 4) (kI 2))]) (.cond (.t 5) (.seq (.ops [oX 6 (.build [(int 0),(int 0),(.v (.string (mkS [])))] [(0,(1,(kI 2)))]),oS 3 2 6]) .ret) .skip)) (.seq (.ops [oX 7 (.build [(int 0),(int 0),(.v (.string (mkS [])))] [(0,(1,(kI 1)))]),oS 3 2 7]) .ret)))⟩
theorem L247_ok : zAv Tryz.prog Tryz.f247 [] = some L247 := by kernel_rfl
def L275 : LFn := ⟨19,[(.tmp 4)],(.seq (.ops [oX 4 (.mv (kI 0))]) (.seq (.seq (.ops [oM 6 0,oX 7 (.len .slc (.t 6)),oX 8 (.mv (kI 0))]) (.block 0 (.loop (.seq (.ops [oX 9 (bI .lss (.t 8) (.t 7))]) (.seq (.cond (.t 9) .skip (.exit 0)) (.seq (.block 1 (.seq (.ops [oM 10 8,oM 5 10]) (.seq (.ops [oM 11 1,oM 12 0,oM 13 5,oI 14 2 12 13,oA 15 2 14,oX 16 (.call (.t 11) [(.t 15)])]) (.cond (.t 16) (.seq (.ops [oM 17 5,oM 4 17]) .ret) .skip)))) (.ops [oX 18 (bI .add (.t 8) (kI 1)),oM 8 18]))))))) (.seq (.ops [oX 4 (.mv (kI (-1)))]) .ret)))⟩
theorem L275_ok : zAv Tryz.prog Tryz.f275 [] = some L275 := by kernel_rfl
def L276 : LFn := ⟨8,[(.tmp 3)],(.seq (.ops [oX 2 (.box false (.t 0)),oX 3 (.mv (kB false))]) (.seq (.ops [oD 4 0 2,oL 5 4,oL 6 1,oX 7 (.bin .str .eql (.t 5) (.t 6)),oM 3 7]) .ret))⟩
theorem L276_ok : zAv Tryz.prog Tryz.f276 [] = some L276 := by kernel_rfl
end Go.Proofs.YtbibhcmcjldhdaaGreatDoor
namespace Go.Ax
open Go Go.RowKit
set_option linter.unusedSimpArgs false
section
variable {P : Program} {k : List zEp} {Q : Out → Env → zA → Prop} {e : Env} {H : zA} {d : Option Nat} {l : List LO}
def goK (P : Program) (r : Res) (e : Env) (d : Option Nat) (l : List LO) (k : List zEp) (Q : Out → Env → zA → Prop) : Prop :=
 r.ok ∧ zU P (.ops l :: k) Q .normal (ups e d r.x) r.H
def opK (P : Program) (op : LOp) (e : Env) (H : zA) (d : Option Nat) (l : List LO) (k : List zEp) (Q : Out → Env → zA → Prop) : Prop :=
 aop P op e H fun x H' => zU P (.ops l :: k) Q .normal (ups e d x) H'
def zQq (P : Program) (f : AV) (args : List AV) (H : zA) (e : Env) (d : Option Nat) (l : List LO) (k : List zEp) (Q : Out → Env → zA → Prop) : Prop :=
 zGA P f args H fun x H' => zU P (.ops l :: k) Q .normal (ups e d x) H'
def zQr (P : Program) (f : FuncId) (args : List AV) (H : zA) (e : Env) (d : Option Nat) (l : List LO) (k : List zEp) (Q : Out → Env → zA → Prop) : Prop :=
 ACall P f args H fun x H' => zU P (.ops l :: k) Q .normal (ups e d x) H'
def nilK (P : Program) (neg : Bool) (x : AV) (e : Env) (H : zA) (d : Option Nat) (l : List LO) (k : List zEp) (Q : Out → Env → zA → Prop) : Prop :=
 slcK H x ∧ ∀ b,nilOk x b → zU P (.ops l :: k) Q .normal (ups e d (bool (b ^^ neg))) H
def gK (P : Program) (x : AV) (want : Bool) (op : LOp) (e : Env) (t : Nat) (H : zA) (d : Option Nat) (l : List LO) (k : List zEp) (Q : Out → Env → zA → Prop) : Prop :=
 match x with
 | .v (.bool b) => if b = true then (if want = true then opK P op (up e t (bool true)) H d l k Q else zU P (.ops l :: k) Q .normal (ups (up e t (bool true)) d zAk) H)
   else (if want = true then zU P (.ops l :: k) Q .normal (ups (up e t (bool false)) d zAk) H else opK P op (up e t (bool false)) H d l k Q)
 | .v (.tuple _) => zU P (.ops l :: k) Q .normal (ups e d zAk) H
 | _ => False
def zSh (P : Program) (c a b : AV) (e : Env) (H : zA) (d : Option Nat) (l : List LO) (k : List zEp) (Q : Out → Env → zA → Prop) : Prop :=
 match c with
 | .v (.bool t) => if t = true then zU P (.ops l :: k) Q .normal (ups e d a) H else zU P (.ops l :: k) Q .normal (ups e d b) H
 | _ => False
def cK (P : Program) (v : AV) (x : LX) (a b : LCode) (e : Env) (H : zA) (k : List zEp) (Q : Out → Env → zA → Prop) : Prop :=
 match v with
 | .v (.bool t) => if t = true then zU P (.code a :: k) Q .normal (zHB e x true) H else zU P (.code b :: k) Q .normal (zHB e x false) H
 | _ => False
@[push_cast] theorem goK_mk (p : Prop) (x : AV) (H' : zA) : goK P ⟨p,x,H'⟩ e d l k Q = (p ∧ zU P (.ops l :: k) Q .normal (ups e d x) H') := rfl
@[push_cast] theorem zYQ (p q : Prop) (x : AV) (H' : zA) : Res.also p ⟨q,x,H'⟩ = ⟨p ∧ q,x,H'⟩ := rfl
@[push_cast] theorem rk_nil (o : Out) : zU P [] Q o e H = Q o e H := rfl
@[push_cast] theorem zXC : zU P (.code .skip :: k) Q .normal e H = zU P k Q .normal e H := rfl
@[push_cast] theorem rk_seq (a b : LCode) : zU P (.code (.seq a b) :: k) Q .normal e H = zU P (.code a :: .code b :: k) Q .normal e H := by
 show awp P a e H _ = awp P a e H _
 congr 1
 funext o e' H'
 cases o <;> rfl
@[push_cast] theorem zWt (id : Nat) (c : LCode) : zU P (.code (.block id c) :: k) Q .normal e H = zU P (.code c :: .blk id :: k) Q .normal e H := by
 show awp P c e H _ = awp P c e H _
 rfl
@[push_cast] theorem zR5 (c : LCode) (v : Value) : zU P (.code c :: k) Q (.pan v) e H = zU P k Q (.pan v) e H := rfl
@[push_cast] theorem zTt (id : Nat) (v : Value) : zU P (.blk id :: k) Q (.pan v) e H = zU P k Q (.pan v) e H := rfl
@[push_cast] theorem zUz (R : Env → zA → Prop) (v : Value) : zU P (.lp R :: k) Q (.pan v) e H = zU P k Q (.pan v) e H := rfl
@[push_cast] theorem zTq (l : List LO) (v : Value) : zU P (.ops l :: k) Q (.pan v) e H = zU P k Q (.pan v) e H := rfl
@[push_cast] theorem zXD (id : Nat) : zU P (.code (.exit id) :: k) Q .normal e H = zU P k Q (.exit id) e H := rfl
@[push_cast] theorem rk_ret : zU P (.code .ret :: k) Q .normal e H = zU P k Q .ret e H := rfl
@[push_cast] theorem zQI (c : LCode) (id : Nat) : zU P (.code c :: k) Q (.exit id) e H = zU P k Q (.exit id) e H := rfl
@[push_cast] theorem zR4 (c : LCode) : zU P (.code c :: k) Q .ret e H = zU P k Q .ret e H := rfl
@[push_cast] theorem rk_blk : ∀ (id : Nat),zU P (.blk id :: k) Q .normal e H = zU P k Q .normal e H := fun _ => rfl
@[push_cast] theorem zR6 (id j : Nat) : zU P (.blk id :: k) Q (.exit j) e H = if j = id then zU P k Q .normal e H else zU P k Q (.exit j) e H := rfl
@[push_cast] theorem zTs (id : Nat) : zU P (.blk id :: k) Q .ret e H = zU P k Q .ret e H := rfl
@[push_cast] theorem rk_lp (R : Env → zA → Prop) : zU P (.lp R :: k) Q .normal e H = R e H := rfl
@[push_cast] theorem zTr (R : Env → zA → Prop) (j : Nat) : zU P (.lp R :: k) Q (.exit j) e H = zU P k Q (.exit j) e H := rfl
@[push_cast] theorem zUy (R : Env → zA → Prop) : zU P (.lp R :: k) Q .ret e H = zU P k Q .ret e H := rfl
@[push_cast] theorem rk_ops (l : List LO) : zU P (.code (.ops l) :: k) Q .normal e H = zU P (.ops l :: k) Q .normal e H := rfl
@[push_cast] theorem zUw : zU P (.ops [] :: k) Q .normal e H = zU P k Q .normal e H := rfl
@[push_cast] theorem rk_op (op : LOp) : zU P (.ops (⟨d,none,op⟩ :: l) :: k) Q .normal e H = opK P op e H d l k Q := rfl
@[push_cast] theorem rk_opg (t : Nat) (want : Bool) (op : LOp) : zU P (.ops (⟨d,some (t,want),op⟩ :: l) :: k) Q .normal e H = gK P (e t) want op e t H d l k Q := by
 simp only [zU,zAi,gK,opK]
 try (cases e t with
 | v x => cases x <;> rfl
 | _ => rfl)
@[push_cast] theorem zXF (x : LX) (a b : LCode) : zU P (.code (.cond x a b) :: k) Q .normal e H = cK P (ev e x) x a b e H k Q := by
 simp only [zU,awp,cK]
 cases ev e x with
 | v x => cases x <;> rfl
 | _ => rfl
@[push_cast] theorem zYJ (t : Bool) (x : LX) (a b : LCode) : cK P (.v (.bool t)) x a b e H k Q = if t = true then zU P (.code a :: k) Q .normal (zHB e x true) H else zU P (.code b :: k) Q .normal (zHB e x false) H := rfl
@[push_cast] theorem gK_t (b : Bool) (op : LOp) (t : Nat) : gK P (.v (.bool b)) true op e t H d l k Q = if b = true then opK P op (up e t (bool true)) H d l k Q else zU P (.ops l :: k) Q .normal (ups (up e t (bool false)) d zAk) H := by simp [gK]
@[push_cast] theorem gK_f (b : Bool) (op : LOp) (t : Nat) : gK P (.v (.bool b)) false op e t H d l k Q = if b = true then zU P (.ops l :: k) Q .normal (ups (up e t (bool true)) d zAk) H else opK P op (up e t (bool false)) H d l k Q := by simp [gK]
@[push_cast] theorem gK_u (us : Array Value) (want : Bool) (op : LOp) (t : Nat) : gK P (.v (.tuple us)) want op e t H d l k Q = zU P (.ops l :: k) Q .normal (ups e d zAk) H := rfl
@[push_cast] theorem opK_mv (x : LX) : opK P (.mv x) e H d l k Q = zU P (.ops l :: k) Q .normal (ups e d (ev e x)) H := by simp [opK,aop,zAW]
@[push_cast] theorem zWI (c a b : LX) : opK P (.pick c a b) e H d l k Q = zSh P (ev e c) (ev e a) (ev e b) e H d l k Q := by
 simp only [opK,aop,zSh]
 cases ev e c with
 | v x => cases x <;> rfl
 | _ => rfl
@[push_cast] theorem zXL (t : Bool) (a b : AV) : zSh P (.v (.bool t)) a b e H d l k Q = if t = true then zU P (.ops l :: k) Q .normal (ups e d a) H else zU P (.ops l :: k) Q .normal (ups e d b) H := rfl
@[push_cast] theorem zTK (t : TypeId) (zs : List AV) : opK P (.allocb t zs) e H d l k Q = goK P ⟨zFd (zs.headD .any) = true ∧ c1s zs = true,.ptr H.length 0 0,H ++ [.box (.bnil t :: zs.drop 1)]⟩ e d l k Q := rfl
@[push_cast] theorem zVd (zs : List AV) : opK P (.alloc zs) e H d l k Q = goK P ⟨c1s zs = true,.ptr H.length 0 0,H ++ [.box zs]⟩ e d l k Q := rfl
@[push_cast] theorem zYb (imm : Bool) (x : LX) : opK P (.box imm x) e H d l k Q = goK P (rBox imm (ev e x) H) e d l k Q := rfl
@[push_cast] theorem zVc (zs : List AV) (ps : List (Nat × Nat × LX)) : opK P (.build zs ps) e H d l k Q = goK P (rBuild zs (ps.map fun (o,n,x) => (o,n,ev e x)) H) e d l k Q := rfl
@[push_cast] theorem zYa (imm : Bool) (sz len : Nat) (zs : List AV) (ps : List (Nat × LX)) : opK P (.bsl imm sz len zs ps) e H d l k Q = goK P (rBsl imm sz len zs (ps.map fun (i,x) => (i,ev e x)) H) e d l k Q := rfl
@[push_cast] theorem zU6 : opK P .mkmap e H d l k Q = goK P ⟨True,.om H.length 0,H ++ [.map 0 [] []]⟩ e d l k Q := rfl
@[push_cast] theorem keyV_v (x : Value) : zKK (.v x) = .v x := rfl
@[push_cast] theorem zWY (a b : Value) : zKK (.agg [.v a,.v b]) = .v (.agg #[a,b]) := rfl
@[push_cast] theorem zX5 (kd : KD) (m x y : LX) : opK P (.ins kd m x y) e H d l k Q = goK P (rIns kd (ev e m) (zKK (ev e x)) (ev e y) H) e d l k Q := rfl
@[push_cast] theorem zWO (ag : Bool) (n : Nat) (p : LX) : opK P (.load ag n p) e H d l k Q = goK P (rLoad ag n (ev e p) H) e d l k Q := rfl
@[push_cast] theorem zU7 (ag : Bool) (n : Nat) (p : LX) : opK P (.loadb ag n p) e H d l k Q = goK P (zCn ag n (ev e p) H) e d l k Q := rfl
@[push_cast] theorem zU2 (n : Nat) (p x : LX) : opK P (.store n p x) e H d l k Q = goK P (rStore n (ev e p) (ev e x) H) e d l k Q := rfl
@[push_cast] theorem zTF (x : LX) : opK P (.nilchk x) e H d l k Q = goK P (rNil (ev e x) H) e d l k Q := rfl
@[push_cast] theorem zYc (kd : KD) (op : BinOp) (x y : LX) : opK P (.bin kd op x y) e H d l k Q = goK P (rBin kd op (ev e x) (ev e y) H) e d l k Q := rfl
@[push_cast] theorem zXZ (x : LX) : opK P (.not x) e H d l k Q = goK P (rNot (ev e x) H) e d l k Q := rfl
@[push_cast] theorem zX0 (x : LX) : opK P (.neg x) e H d l k Q = goK P (rNeg (ev e x) H) e d l k Q := rfl
@[push_cast] theorem zWR (c : Cv) (x : LX) : opK P (.conv c x) e H d l k Q = goK P (rConv c (ev e x) H) e d l k Q := rfl
@[push_cast] theorem zWL (f : Fn) (a b : List LX) : opK P (.mkfn f a b) e H d l k Q = goK P ⟨True,.fn f (a.map (ev e)) (b.map (ev e)),H⟩ e d l k Q := rfl
@[push_cast] theorem zX1 (sz bytes : Nat) (zs : List AV) (len cap : LX) : opK P (.msl sz bytes zs len cap) e H d l k Q = goK P (rMsl sz bytes zs (ev e len) (ev e cap) H) e d l k Q := rfl
@[push_cast] theorem zU4 (lk : LK) (n : Nat) (x : LX) (lo hi : Option LX) : opK P (.slice lk n x lo hi) e H d l k Q = goK P (rSlice lk n (ev e x) (lo.map (ev e)) (hi.map (ev e)) H) e d l k Q := rfl
@[push_cast] theorem zTD (lk : LK) (n : Nat) (x : LX) (lo hi : Option LX) : opK P (.slicev lk n x lo hi) e H d l k Q = goK P (zDg lk n (ev e x) (lo.map (ev e)) (hi.map (ev e)) H) e d l k Q := rfl
@[push_cast] theorem zVa (off : Nat) (p : LX) : opK P (.faddr off p) e H d l k Q = goK P (rFaddr off (ev e p) H) e d l k Q := rfl
@[push_cast] theorem zX8 (ag : Bool) (off n : Nat) (x : LX) : opK P (.fld ag off n x) e H d l k Q = goK P (rFld ag off n (ev e x) H) e d l k Q := rfl
@[push_cast] theorem zU9 (sz : Nat) (x i : LX) : opK P (.iaddr sz x i) e H d l k Q = goK P (rIaddr sz (ev e x) (ev e i) H) e d l k Q := rfl
@[push_cast] theorem zTG (sz : Nat) (x i : LX) : opK P (.iaddrv sz x i) e H d l k Q = goK P (zDh sz (ev e x) (ev e i) H) e d l k Q := rfl
@[push_cast] theorem zTH (off : Nat) (p : LX) : opK P (.faddrb off p) e H d l k Q = goK P (zBB off (ev e p) H) e d l k Q := rfl
@[push_cast] theorem zX6 (x i : LX) : opK P (.idx x i) e H d l k Q = goK P (rIdx (ev e x) (ev e i) H) e d l k Q := rfl
@[push_cast] theorem zWN (kd : KD) (zero : AV) (ok : Bool) (m x : LX) : opK P (.look kd zero ok m x) e H d l k Q = goK P (rLook kd zero ok (ev e m) (zKK (ev e x)) H) e d l k Q := rfl
@[push_cast] theorem zX9 (x : LX) (i : Nat) : opK P (.ext x i) e H d l k Q = goK P (rExt (ev e x) i H) e d l k Q := rfl
@[push_cast] theorem zX4 (lk : LK) (x : LX) : opK P (.len lk x) e H d l k Q = goK P (rLen lk (ev e x) H) e d l k Q := rfl
@[push_cast] theorem zTJ (sz bytes : Nat) (s x : LX) : opK P (.append sz bytes s x) e H d l k Q = goK P (rAppend sz bytes (ev e s) (ev e x) H) e d l k Q := rfl
@[push_cast] theorem zSm (t : TypeId) (s x : LX) : opK P (.appendb t s x) e H d l k Q = goK P (zCI t (ev e s) (ev e x) H) e d l k Q := rfl
@[push_cast] theorem zWQ (sz : Nat) (s x : LX) : opK P (.copy sz s x) e H d l k Q = goK P (rCopy sz (ev e s) (ev e x) H) e d l k Q := rfl
@[push_cast] theorem zX2 (x y : LX) : opK P (.min2 x y) e H d l k Q = goK P (rMin (ev e x) (ev e y) H) e d l k Q := rfl
@[push_cast] theorem zWJ (neg : Bool) (x : LX) : opK P (.nili neg x) e H d l k Q = goK P (rNilI neg (ev e x) H) e d l k Q := rfl
@[push_cast] theorem zWT (t : TypeId) (z : AV) (x : LX) : opK P (.asrt t z x) e H d l k Q = goK P (rAsrt t z (ev e x) H) e d l k Q := rfl
@[push_cast] theorem zTE (x : LX) : opK P (.rangem x) e H d l k Q = goK P (rRangeM (ev e x) H) e d l k Q := rfl
@[push_cast] theorem zTI (x : LX) : opK P (.entrym x) e H d l k Q = goK P (rEntryM (ev e x) H) e d l k Q := rfl
def zYj (P : Program) (x : AV) (e : Env) (H : zA) (d : Option Nat) (l : List LO) (k : List zEp) (Q : Out → Env → zA → Prop) : Prop :=
 nextA x H fun x H' => zU P (.ops l :: k) Q .normal (ups e d x) H'
@[push_cast] theorem zU5 (x : LX) : opK P (.nextm x) e H d l k Q = zYj P (ev e x) e H d l k Q := rfl
@[push_cast] theorem zU3 (n : Nat) (p x : LX) : opK P (.stchk n p x) e H d l k Q = goK P (zFT n (ev e p) (ev e x) H) e d l k Q := rfl
@[push_cast] theorem zWK (t : TypeId) (x : LX) : opK P (.mkif t x) e H d l k Q = goK P (rMkif t (ev e x) H) e d l k Q := rfl
@[push_cast] theorem zWM (x y z : LX) : opK P (.max3 x y z) e H d l k Q = goK P (rMax3 (ev e x) (ev e y) (ev e z) H) e d l k Q := rfl
@[push_cast] theorem zX3 (x y : LX) : opK P (.max2 x y) e H d l k Q = goK P (rMax (ev e x) (ev e y) H) e d l k Q := rfl
@[push_cast] theorem zX7 (x : LX) : opK P (.frz x) e H d l k Q = goK P (rFrz (ev e x) H) e d l k Q := rfl
@[push_cast] theorem zWP (sz off : Nat) (x : LX) : opK P (.frzf sz off x) e H d l k Q = goK P (rFrzf sz off (ev e x) H) e d l k Q := rfl
@[push_cast] theorem zXY (sz : Nat) (x : LX) : opK P (.own sz x) e H d l k Q = goK P (rOwn sz (ev e x) H) e d l k Q := rfl
@[push_cast] theorem zYd : opK P .bad e H d l k Q = goK P (.no H) e d l k Q := rfl
@[push_cast] theorem zU8 (neg : Bool) (x : LX) : opK P (.isnil neg x) e H d l k Q = nilK P neg (ev e x) e H d l k Q := rfl
@[push_cast] theorem zVb (f : LX) (args : List LX) : opK P (.callh f args) e H d l k Q = zQq P (ev e f) (args.map (ev e)) H e d l k Q := rfl
@[push_cast] theorem zWS (f : LX) (args : List LX) : opK P (.call f args) e H d l k Q = zQq P (ev e f) (args.map (ev e)) H e d l k Q := rfl
@[push_cast] theorem zW9 (f : FuncId) (a b args : List AV) : zQq P (.fn (.func f) a b) args H e d l k Q = zQr P f (a ++ args ++ b) H e d l k Q := rfl
def zVS (P : Program) (f : Nat) (args : List AV) (H : zA) (e : Env) (d : Option Nat) (l : List LO) (k : List zEp) (Q : Out → Env → zA → Prop) : Prop :=
 AYield P f args H fun x H' => zU P (.ops l :: k) Q .normal (ups e d x) H'
@[push_cast] theorem zS5 (f : Nat) (args : List AV) : zQq P (.v (.func (.yield f) #[] #[])) args H e d l k Q = zVS P f args H e d l k Q := rfl
theorem zHc {f : Nat} {args : List AV} {R : AV → zA → Prop} (h : AYield P f args H R) (hk : ∀ y H',R y H' → zU P (.ops l :: k) Q .normal (ups e d y) H') : zVS P f args H e d l k Q :=
 h.mono hk
@[push_cast] theorem rk_bgn (l0 : Nat) (lr : Go.Loop) (e0 : Env) (r : Nat) : zU P (.bgn l0 lr e0 r :: k) Q .normal e H = (H[r]? = some (.lp l0 lr e0 .ready) ∧ zU P k Q .normal e (H.set r (.lp l0 lr e0 .busy))) := rfl
@[push_cast] theorem zR3 (l0 : Nat) (lr : Go.Loop) (e0 : Env) (r : Nat) (R : AV → zA → Prop) : zQG l0 lr e0 r R .normal e H = (H[r]? = some (.lp l0 lr e0 .busy) ∧ R (bool true) (H.set r (.lp l0 lr e0 .ready))) := rfl
@[push_cast] theorem zUv (l0 : Nat) (lr : Go.Loop) (e0 : Env) (r id : Nat) (R : AV → zA → Prop) : zQG l0 lr e0 r R (.exit id) e H = (H[r]? = some (.lp l0 lr e0 .busy) ∧ R (bool false) (H.set r (.lp l0 lr e0 (.done (some id))))) := rfl
@[push_cast] theorem zWo (l0 : Nat) (lr : Go.Loop) (e0 : Env) (r : Nat) (R : AV → zA → Prop) : zQG l0 lr e0 r R .ret e H = (H[r]? = some (.lp l0 lr e0 .busy) ∧ R (bool false) (H.set r (.lp l0 lr e0 (.done none)))) := rfl
@[push_cast] theorem zWm (p : Nat) (ps : List Nat) (x : AV) (xs : List AV) : upL e (p :: ps) (x :: xs) = upL (up e p x) ps xs := rfl
@[push_cast] theorem zXu (xs : List AV) : upL e [] xs = e := by cases xs <;> rfl
def zRj (P : Program) (f : AV) (args : List AV) (H : zA) (e : Env) (d : Option Nat) (k : List zEp) (Q : Out → Env → zA → Prop) : Prop :=
 zEc P f args H (fun y H' => zU P k Q .normal (ups e d y) H') fun v H' => zU P k Q (.pan v) e H'
def zK3 (P : Program) (f : FuncId) (args : List AV) (H : zA) (e : Env) (d : Option Nat) (k : List zEp) (Q : Out → Env → zA → Prop) : Prop :=
 ACallX P f args H (fun y H' => zU P k Q .normal (ups e d y) H') fun v H' => zU P k Q (.pan v) e H'
@[push_cast] theorem zWs (f : LX) (args : List LX) : zU P (.code (.callp d f args) :: k) Q .normal e H = zRj P (ev e f) (args.map (ev e)) H e d k Q := rfl
@[push_cast] theorem zVU (f : FuncId) (a b args : List AV) : zRj P (.fn (.func f) a b) args H e d k Q = zK3 P f (a ++ args ++ b) H e d k Q := rfl
theorem zF {f : FuncId} {args : List AV} {R : AV → zA → Prop} {Z : Value → zA → Prop} (h : ACallX P f args H R Z) (hk : ∀ y H',R y H' → zU P k Q .normal (ups e d y) H') (hz : ∀ v H',Z v H' → zU P k Q (.pan v) e H') : zK3 P f args H e d k Q := h.mono hk hz
theorem zD {f : FuncId} {args : List AV} {x : AV} (h : ACall P f args H fun y H' => y = x ∧ H' = H) (hk : zU P k Q .normal (ups e d x) H) : zK3 P f args H e d k Q :=
 (h.mono (R' := fun y H' => zU P k Q .normal (ups e d y) H') fun y H' ⟨h1,h2⟩ => by subst h1; subst h2; exact hk).x _
def zXM (P : Program) (d : Nat) (t : TypeId) (x : Option Value) (e : Env) (H : zA) (k : List zEp) (Q : Out → Env → zA → Prop) : Prop := ∃ v,x = some v ∧ zU P k Q (.pan (.iface t v)) (up e d (.v (.iface t v))) H
@[push_cast] theorem rk_pan (d0 : Nat) (t : TypeId) (x : LX) : zU P (.code (.pan d0 t x) :: k) Q .normal e H = zXM P d0 t (zO5 (ev e x)) e H k Q := rfl
@[push_cast] theorem zUP (d0 : Nat) (t : TypeId) (v : Value) : zXM P d0 t (some v) e H k Q = zU P k Q (.pan (.iface t v)) (up e d0 (.v (.iface t v))) H := by simp [zXM]
def tiK (P : Program) (c : Bool) (o : LO) (e : Env) (H : zA) (em : Env) (k : List zEp) (Q : Out → Env → zA → Prop) : Prop :=
 aTI P c o e H (fun e' H' => zU P k Q .normal e' H') fun v H' => zU P k Q (.pan v) em H'
def tiG (P : Program) (x : AV) (want : Bool) (f : LX) (args : List LX) (e : Env) (H : zA) (d : Option Nat) (em : Env) (k : List zEp) (Q : Out → Env → zA → Prop) : Prop :=
 match x with
 | .v (.bool b) => if b = want then zEc P (ev e f) (args.map (ev e)) H (fun y H' => zU P k Q .normal (ups e d y) H') (fun v H' => zU P k Q (.pan v) em H') else zU P k Q .normal (ups e d zAk) H
 | .v (.tuple _) => zU P k Q .normal (ups e d zAk) H
 | _ => False
def zOw (P : Program) (f : AV) (args : List AV) (H : zA) (e : Env) (d : Option Nat) (em : Env) (k : List zEp) (Q : Out → Env → zA → Prop) : Prop :=
 zEc P f args H (fun y H' => zU P k Q .normal (ups e d y) H') fun v H' => zU P k Q (.pan v) em H'
def zOv (P : Program) (f : FuncId) (args : List AV) (H : zA) (e : Env) (d : Option Nat) (em : Env) (k : List zEp) (Q : Out → Env → zA → Prop) : Prop :=
 ACallX P f args H (fun y H' => zU P k Q .normal (ups e d y) H') fun v H' => zU P k Q (.pan v) em H'
@[push_cast] theorem zVT (f : FuncId) (em : Env) (a b args : List AV) : zOw P (.fn (.func f) a b) args H e d em k Q = zOv P f (a ++ args ++ b) H e d em k Q := rfl
theorem zDQ {f : FuncId} {em : Env} {args : List AV} {R : AV → zA → Prop} {Z : Value → zA → Prop} (h : ACallX P f args H R Z) (hk : ∀ y H',R y H' → zU P k Q .normal (ups e d y) H') (hz : ∀ v H',Z v H' → zU P k Q (.pan v) em H') : zOv P f args H e d em k Q := h.mono hk hz
@[push_cast] theorem rk_ti (o : LO) : zU P (.code (.ti o) :: k) Q .normal e H = tiK P true o e H e k Q := rfl
@[push_cast] theorem zWn (f : LX) (args : List LX) (em : Env) : tiK P true ⟨d,none,.call f args⟩ e H em k Q = zOw P (ev e f) (args.map (ev e)) H e d em k Q := rfl
@[push_cast] theorem zUc (t : Nat) (want : Bool) (f : LX) (args : List LX) (em : Env) : tiK P true ⟨d,some (t,want),.call f args⟩ e H em k Q = tiG P (e t) want f args e H d em k Q := rfl
def panX (P : Program) (x : AV) (em : Env) (H : zA) (k : List zEp) (Q : Out → Env → zA → Prop) : Prop := ∃ t z,x = .v (.iface t z) ∧ zU P k Q (.pan (.iface t z)) em H
@[push_cast] theorem zXw (x : LX) (em : Env) : tiK P true ⟨d,none,.panicv x⟩ e H em k Q = panX P (ev e x) em H k Q := rfl
@[push_cast] theorem panX_v (t : TypeId) (z : Value) (em : Env) : panX P (.v (.iface t z)) em H k Q = zU P k Q (.pan (.iface t z)) em H := propext ⟨by rintro ⟨_,_,h,h2⟩; cases h; exact h2,fun h => ⟨_,_,rfl,h⟩⟩
@[push_cast] theorem tiG_b (b want : Bool) (f : LX) (args : List LX) (em : Env) : tiG P (.v (.bool b)) want f args e H d em k Q = if b = want then zOw P (ev e f) (args.map (ev e)) H e d em k Q else zU P k Q .normal (ups e d zAk) H := rfl
@[push_cast] theorem tiG_u (us : Array Value) (want : Bool) (f : LX) (args : List LX) (em : Env) : tiG P (.v (.tuple us)) want f args e H d em k Q = zU P k Q .normal (ups e d zAk) H := rfl
@[push_cast] theorem zWq (hd : List LO) (tl : List (LO × Bool × List Nat)) (gs : List LO) : zU P (.code (.drawX hd tl gs) :: k) Q .normal e H = zU P (.opq hd [] :: .opx hd tl gs (zPT e hd tl) :: k) Q .normal e H := rfl
@[push_cast] theorem zTp (hd : List LO) (gs : List LO) (em : Env) : zU P (.opx hd [] gs em :: k) Q .normal e H = zU P (.ops gs :: k) Q .normal e H := rfl
@[push_cast] theorem zWp (hd : List LO) (e1 : Env) (js : List Nat) (gs : List LO) (em : Env) : zU P (.keepx hd e1 js [] gs em :: k) Q .normal e H = (zC2 P hd e1 H js ∧ zU P (.ops gs :: k) Q .normal e H) := rfl
@[push_cast] theorem rk_opx (c : Bool) (o : LO) (js : List Nat) (tl : List (LO × Bool × List Nat)) (hd gs : List LO) (em : Env) : zU P (.opx hd ((o,c,js) :: tl) gs em :: k) Q .normal e H = tiK P c o e H em (.keepx hd e js tl gs em :: k) Q := rfl
@[push_cast] theorem zUA (c : Bool) (o : LO) (js js1 : List Nat) (tl : List (LO × Bool × List Nat)) (hd gs : List LO) (e1 em : Env) : zU P (.keepx hd e1 js1 ((o,c,js) :: tl) gs em :: k) Q .normal e H = (zC2 P hd e1 H js1 ∧ tiK P c o e H em (.keepx hd e1 js tl gs em :: k) Q) := rfl
@[push_cast] theorem tiK_f (o : LO) (em : Env) : tiK P false o e H em k Q = zU P (.ops [o] :: k) Q .normal e H := rfl
@[push_cast] theorem zTo (hd : List LO) (tl : List (LO × Bool × List Nat)) (gs : List LO) (em : Env) (v : Value) : zU P (.opx hd tl gs em :: k) Q (.pan v) e H = zU P k Q (.pan v) e H := rfl
@[push_cast] theorem zQH (hd : List LO) (e1 : Env) (js : List Nat) (tl : List (LO × Bool × List Nat)) (gs : List LO) (em : Env) (v : Value) : zU P (.keepx hd e1 js tl gs em :: k) Q (.pan v) e H = zU P k Q (.pan v) e H := rfl
@[push_cast] theorem zVw (hd : List LO) (e1 : Env) : zC2 P hd e1 H [] = True := by simp [zC2]
def zD4 (P : Program) (o : LO) (e1 : Env) (H : zA) : Prop := zAF P [o] e1 H fun e' => e' = e1
@[push_cast] theorem zTO (hd : List LO) (e1 : Env) (j : Nat) (js : List Nat) : zC2 P hd e1 H (j :: js) = (zD4 P (hd.getD j default) e1 H ∧ zC2 P hd e1 H js) := by simp [zC2,zD4]
theorem zEg (e1 : Env) (t : Nat) (x : AV) : (up e1 t x = e1) = (e1 t = x) := by
 apply propext
 constructor
 ·intro h; have := congrFun h t; simpa [up] using this.symm
 ·intro h; funext u; simp only [up]; split <;> simp_all
def zEl (r : Res) (e1 : Env) (t : Nat) (H : zA) : Prop := r.ok ∧ r.H = H ∧ e1 t = r.x
@[push_cast] theorem zWZ (p : Prop) (x : AV) (H' : zA) (e1 : Env) (t : Nat) : zEl ⟨p,x,H'⟩ e1 t H = (p ∧ H' = H ∧ e1 t = x) := rfl
@[push_cast] theorem zTQ (e1 : Env) (t : Nat) (ag : Bool) (m : Nat) (p : LX) : zD4 P ⟨some t,none,.load ag m p⟩ e1 H = zEl (rLoad ag m (ev e1 p) H) e1 t H := by
 simp only [zD4,zAF,zDb,zAW,ups,zEl,zEg]
@[push_cast] theorem zQ8 (e1 : Env) (t : Nat) (p : LX) : zD4 P ⟨some t,none,.nilchk p⟩ e1 H = zEl (rNil (ev e1 p) H) e1 t H := by
 simp only [zD4,zAF,zDb,zAW,ups,zEl,zEg]
@[push_cast] theorem zSy (e1 : Env) (t : Nat) (m : Nat) (p : LX) : zD4 P ⟨some t,none,.faddr m p⟩ e1 H = zEl (rFaddr m (ev e1 p) H) e1 t H := by
 simp only [zD4,zAF,zDb,zAW,ups,zEl,zEg]
@[push_cast] theorem zSx (e1 : Env) (t : Nat) (m : Nat) (p i : LX) : zD4 P ⟨some t,none,.iaddr m p i⟩ e1 H = zEl (rIaddr m (ev e1 p) (ev e1 i) H) e1 t H := by
 simp only [zD4,zAF,zDb,zAW,ups,zEl,zEg]
@[push_cast] theorem zVx (e1 : Env) (t : Nat) (lk : LK) (p : LX) : zD4 P ⟨some t,none,.len lk p⟩ e1 H = zEl (rLen lk (ev e1 p) H) e1 t H := by
 simp only [zD4,zAF,zDb,zAW,ups,zEl,zEg]
@[push_cast] theorem zTP (e1 : Env) (t : Nat) (kd : KD) (z : AV) (ok : Bool) (p i : LX) : zD4 P ⟨some t,none,.look kd z ok p i⟩ e1 H = zEl (rLook kd z ok (ev e1 p) (zKK (ev e1 i)) H) e1 t H := by
 simp only [zD4,zAF,zDb,zAW,ups,zEl,zEg]
@[push_cast] theorem zSw (e1 : Env) (t : Nat) (lk : LK) (n : Nat) (x : LX) (lo hi : Option LX) : zD4 P ⟨some t,none,.slice lk n x lo hi⟩ e1 H = zEl (rSlice lk n (ev e1 x) (lo.map (ev e1)) (hi.map (ev e1)) H) e1 t H := by
 simp only [zD4,zAF,zDb,zAW,ups,zEl,zEg]
@[push_cast] theorem valA_v (v : Value) : zO5 (.v v) = some v := rfl
@[push_cast] theorem zO4 (cs : List AV) : zO5 (.agg cs) = (zHl cs).map fun l => .agg l.toArray := rfl
@[push_cast] theorem zMn : zHl [] = some [] := rfl
@[push_cast] theorem zTf (v : Value) (l : List AV) : zHl (.v v :: l) = (zHl l).map (v :: ·) := rfl
theorem zC {f : FuncId} {args : List AV} {x : AV} (h : ACall P f args H fun y H' => y = x ∧ H' = H) (hk : zU P (.ops l :: k) Q .normal (ups e d x) H) : zQr P f args H e d l k Q :=
 h.mono fun y H' ⟨hy,hH⟩ => by subst hy; subst hH; exact hk
theorem zAm {f : FuncId} {args : List AV} {R : AV → zA → Prop} (h : ACall P f args H R) (hk : ∀ y H',R y H' → zU P (.ops l :: k) Q .normal (ups e d y) H') : zQr P f args H e d l k Q :=
 h.mono hk
theorem zMM {c : LCode} (I : Env → zA → Prop) (μ : Env → zA → Nat) (h0 : I e H)
  (h : ∀ e H,I e H → zU P (.code c :: .lp (fun e' H' => I e' H' ∧ μ e' H' < μ e H) :: k) Q .normal e H) : zU P (.code (.loop c) :: k) Q .normal e H := by
 refine ⟨I,μ,h0,fun e H hI => ?_⟩
 have h1 : awp P c e H (zU P (.lp (fun e' H' => I e' H' ∧ μ e' H' < μ e H) :: k) Q) := h e H hI
 have : (zU P (.lp (fun e' H' => I e' H' ∧ μ e' H' < μ e H) :: k) Q) = (fun o e' H' => match o with | .normal => I e' H' ∧ μ e' H' < μ e H | o => zU P k Q o e' H') := by
  funext o e' H'; cases o <;> rfl
 rw [this] at h1
 exact h1
def gqK (P : Program) (r : Res) (e : Env) (H : zA) (d : Option Nat) (l tl : List LO) (k : List zEp) (Q : Out → Env → zA → Prop) : Prop :=
 r.ok ∧ r.H = H ∧ zU P (.opq l tl :: k) Q .normal (ups e d r.x) H
def oqK (P : Program) (op : LOp) (e : Env) (H : zA) (d : Option Nat) (l tl : List LO) (k : List zEp) (Q : Out → Env → zA → Prop) : Prop :=
 zDb P op e H fun x => zU P (.opq l tl :: k) Q .normal (ups e d x) H
def zS4 (P : Program) (f : AV) (args : List AV) (H : zA) (e : Env) (d : Option Nat) (l tl : List LO) (k : List zEp) (Q : Out → Env → zA → Prop) : Prop :=
 match f with
 | .fn (.func f) a b => ∃ x,APure P f (a ++ args ++ b) x ∧ clL (a ++ args ++ b) = true ∧ zU P (.opq l tl :: k) Q .normal (ups e d x) H
 | _ => False
def zRk (P : Program) (f : FuncId) (args : List AV) (H : zA) (e : Env) (d : Option Nat) (l tl : List LO) (k : List zEp) (Q : Out → Env → zA → Prop) : Prop :=
 ∃ x,APure P f args x ∧ clL args = true ∧ zU P (.opq l tl :: k) Q .normal (ups e d x) H
def gqG (P : Program) (x : AV) (want : Bool) (op : LOp) (e : Env) (t : Nat) (H : zA) (d : Option Nat) (l tl : List LO) (k : List zEp) (Q : Out → Env → zA → Prop) : Prop :=
 match x with
 | .v (.bool b) => if b = true then (if want = true then oqK P op (up e t (bool true)) H d l tl k Q else zU P (.opq l tl :: k) Q .normal (ups (up e t (bool true)) d zAk) H)
   else (if want = true then zU P (.opq l tl :: k) Q .normal (ups (up e t (bool false)) d zAk) H else oqK P op (up e t (bool false)) H d l tl k Q)
 | .v (.tuple _) => zU P (.opq l tl :: k) Q .normal (ups e d zAk) H
 | _ => False
variable {tl : List LO}
@[push_cast] theorem gqK_mk (p : Prop) (x : AV) (H' : zA) : gqK P ⟨p,x,H'⟩ e H d l tl k Q = (p ∧ H' = H ∧ zU P (.opq l tl :: k) Q .normal (ups e d x) H) := rfl
@[push_cast] theorem zXE (hd tl : List LO) : zU P (.code (.draw hd tl) :: k) Q .normal e H = zU P (.opq hd tl :: k) Q .normal e H := rfl
@[push_cast] theorem zUx : zU P (.opq [] tl :: k) Q .normal e H = zU P (.ops tl :: k) Q .normal e H := rfl
@[push_cast] theorem rk_oq (op : LOp) : zU P (.opq (⟨d,none,op⟩ :: l) tl :: k) Q .normal e H = oqK P op e H d l tl k Q := rfl
@[push_cast] theorem rk_oqg (t : Nat) (want : Bool) (op : LOp) : zU P (.opq (⟨d,some (t,want),op⟩ :: l) tl :: k) Q .normal e H = gqG P (e t) want op e t H d l tl k Q := by
 simp only [zU,zAF,gqG,oqK]
 cases e t with
 | v x => cases x <;> rfl
 | _ => rfl
@[push_cast] theorem gqG_t (b : Bool) (op : LOp) (t : Nat) : gqG P (.v (.bool b)) true op e t H d l tl k Q = if b = true then oqK P op (up e t (bool true)) H d l tl k Q else zU P (.opq l tl :: k) Q .normal (ups (up e t (bool false)) d zAk) H := by simp [gqG]
@[push_cast] theorem gqG_f (b : Bool) (op : LOp) (t : Nat) : gqG P (.v (.bool b)) false op e t H d l tl k Q = if b = true then zU P (.opq l tl :: k) Q .normal (ups (up e t (bool true)) d zAk) H else oqK P op (up e t (bool false)) H d l tl k Q := by simp [gqG]
@[push_cast] theorem gqG_u (us : Array Value) (want : Bool) (op : LOp) (t : Nat) : gqG P (.v (.tuple us)) want op e t H d l tl k Q = zU P (.opq l tl :: k) Q .normal (ups e d zAk) H := rfl
@[push_cast] theorem oqK_mv (x : LX) : oqK P (.mv x) e H d l tl k Q = zU P (.opq l tl :: k) Q .normal (ups e d (ev e x)) H := by simp [oqK,zDb,zAW]
@[push_cast] theorem zWB (c a b : LX) : oqK P (.pick c a b) e H d l tl k Q = match ev e c with | .v (.bool t) => (if t = true then zU P (.opq l tl :: k) Q .normal (ups e d (ev e a)) H else zU P (.opq l tl :: k) Q .normal (ups e d (ev e b)) H) | _ => False := rfl
@[push_cast] theorem zXW (imm : Bool) (x : LX) : oqK P (.box imm x) e H d l tl k Q = gqK P (rBox imm (ev e x) H) e H d l tl k Q := rfl
@[push_cast] theorem zUX (zs : List AV) (ps : List (Nat × Nat × LX)) : oqK P (.build zs ps) e H d l tl k Q = gqK P (rBuild zs (ps.map fun (o,n,x) => (o,n,ev e x)) H) e H d l tl k Q := rfl
@[push_cast] theorem zXV (imm : Bool) (sz len : Nat) (zs : List AV) (ps : List (Nat × LX)) : oqK P (.bsl imm sz len zs ps) e H d l tl k Q = gqK P (rBsl imm sz len zs (ps.map fun (i,x) => (i,ev e x)) H) e H d l tl k Q := rfl
@[push_cast] theorem zWF (ag : Bool) (n : Nat) (p : LX) : oqK P (.load ag n p) e H d l tl k Q = gqK P (rLoad ag n (ev e p) H) e H d l tl k Q := rfl
@[push_cast] theorem zUT (ag : Bool) (n : Nat) (p : LX) : oqK P (.loadb ag n p) e H d l tl k Q = gqK P (zCn ag n (ev e p) H) e H d l tl k Q := rfl
@[push_cast] theorem zTA (x : LX) : oqK P (.nilchk x) e H d l tl k Q = gqK P (rNil (ev e x) H) e H d l tl k Q := rfl
@[push_cast] theorem zXX (kd : KD) (op : BinOp) (x y : LX) : oqK P (.bin kd op x y) e H d l tl k Q = gqK P (rBin kd op (ev e x) (ev e y) H) e H d l tl k Q := rfl
@[push_cast] theorem zXN (x : LX) : oqK P (.not x) e H d l tl k Q = gqK P (rNot (ev e x) H) e H d l tl k Q := rfl
@[push_cast] theorem zXO (x : LX) : oqK P (.neg x) e H d l tl k Q = gqK P (rNeg (ev e x) H) e H d l tl k Q := rfl
@[push_cast] theorem zWG (c : Cv) (x : LX) : oqK P (.conv c x) e H d l tl k Q = gqK P (rConv c (ev e x) H) e H d l tl k Q := rfl
@[push_cast] theorem zWC (f : Fn) (a b : List LX) : oqK P (.mkfn f a b) e H d l tl k Q = gqK P ⟨True,.fn f (a.map (ev e)) (b.map (ev e)),H⟩ e H d l tl k Q := rfl
@[push_cast] theorem zUS (lk : LK) (n : Nat) (x : LX) (lo hi : Option LX) : oqK P (.slice lk n x lo hi) e H d l tl k Q = gqK P (rSlice lk n (ev e x) (lo.map (ev e)) (hi.map (ev e)) H) e H d l tl k Q := rfl
@[push_cast] theorem zTz (lk : LK) (n : Nat) (x : LX) (lo hi : Option LX) : oqK P (.slicev lk n x lo hi) e H d l tl k Q = gqK P (zDg lk n (ev e x) (lo.map (ev e)) (hi.map (ev e)) H) e H d l tl k Q := rfl
@[push_cast] theorem zUV (off : Nat) (p : LX) : oqK P (.faddr off p) e H d l tl k Q = gqK P (rFaddr off (ev e p) H) e H d l tl k Q := rfl
@[push_cast] theorem zXT (ag : Bool) (off n : Nat) (x : LX) : oqK P (.fld ag off n x) e H d l tl k Q = gqK P (rFld ag off n (ev e x) H) e H d l tl k Q := rfl
@[push_cast] theorem zUU (sz : Nat) (x i : LX) : oqK P (.iaddr sz x i) e H d l tl k Q = gqK P (rIaddr sz (ev e x) (ev e i) H) e H d l tl k Q := rfl
@[push_cast] theorem zTB (sz : Nat) (x i : LX) : oqK P (.iaddrv sz x i) e H d l tl k Q = gqK P (zDh sz (ev e x) (ev e i) H) e H d l tl k Q := rfl
@[push_cast] theorem zTC (off : Nat) (p : LX) : oqK P (.faddrb off p) e H d l tl k Q = gqK P (zBB off (ev e p) H) e H d l tl k Q := rfl
@[push_cast] theorem zXS (x i : LX) : oqK P (.idx x i) e H d l tl k Q = gqK P (rIdx (ev e x) (ev e i) H) e H d l tl k Q := rfl
@[push_cast] theorem zWE (kd : KD) (zero : AV) (ok : Bool) (m x : LX) : oqK P (.look kd zero ok m x) e H d l tl k Q = gqK P (rLook kd zero ok (ev e m) (zKK (ev e x)) H) e H d l tl k Q := rfl
@[push_cast] theorem zXU (x : LX) (i : Nat) : oqK P (.ext x i) e H d l tl k Q = gqK P (rExt (ev e x) i H) e H d l tl k Q := rfl
@[push_cast] theorem zXR (lk : LK) (x : LX) : oqK P (.len lk x) e H d l tl k Q = gqK P (rLen lk (ev e x) H) e H d l tl k Q := rfl
@[push_cast] theorem zXP (x y : LX) : oqK P (.min2 x y) e H d l tl k Q = gqK P (rMin (ev e x) (ev e y) H) e H d l tl k Q := rfl
@[push_cast] theorem zWD (x y z : LX) : oqK P (.max3 x y z) e H d l tl k Q = gqK P (rMax3 (ev e x) (ev e y) (ev e z) H) e H d l tl k Q := rfl
@[push_cast] theorem zXQ (x y : LX) : oqK P (.max2 x y) e H d l tl k Q = gqK P (rMax (ev e x) (ev e y) H) e H d l tl k Q := rfl
@[push_cast] theorem zWH (f : LX) (args : List LX) : oqK P (.call f args) e H d l tl k Q = zS4 P (ev e f) (args.map (ev e)) H e d l tl k Q := by
 simp only [oqK,zDb,zS4]
 cases ev e f with
 | fn f a b => cases f <;> rfl
 | _ => rfl
def zS7 (P : Program) (f : AV) (args : List AV) (H : zA) (e : Env) (d : Option Nat) (l tl : List LO) (k : List zEp) (Q : Out → Env → zA → Prop) : Prop :=
 match f with
 | .fn (.func f) a b => ∃ x,ACall P f (a ++ args ++ b) H (fun y H' => y = x ∧ H' = H) ∧ zU P (.opq l tl :: k) Q .normal (ups e d x) H
 | _ => False
def zVW (P : Program) (f : FuncId) (args : List AV) (H : zA) (e : Env) (d : Option Nat) (l tl : List LO) (k : List zEp) (Q : Out → Env → zA → Prop) : Prop :=
 ∃ x,ACall P f args H (fun y H' => y = x ∧ H' = H) ∧ zU P (.opq l tl :: k) Q .normal (ups e d x) H
@[push_cast] theorem zUW (f : LX) (args : List LX) : oqK P (.callh f args) e H d l tl k Q = zS7 P (ev e f) (args.map (ev e)) H e d l tl k Q := by
 simp only [oqK,zDb,zS7]
 cases ev e f with
 | fn f a b => cases f <;> rfl
 | _ => rfl
@[push_cast] theorem zXa (f : FuncId) (a b args : List AV) : zS7 P (.fn (.func f) a b) args H e d l tl k Q = zVW P f (a ++ args ++ b) H e d l tl k Q := rfl
@[push_cast] theorem zW8 (f : FuncId) (a b args : List AV) : zS4 P (.fn (.func f) a b) args H e d l tl k Q = zRk P f (a ++ args ++ b) H e d l tl k Q := rfl
theorem zQ {f : FuncId} {args : List AV} {x : AV} (h : APure P f args x) (hc : clL args = true) (hk : zU P (.opq l tl :: k) Q .normal (ups e d x) H) : zRk P f args H e d l tl k Q := ⟨x,h,hc,hk⟩
@[push_cast] theorem zWk (t : Nat) (x : AV) : ups e (some t) x = up e t x := rfl
@[push_cast] theorem zWl (x : AV) : ups e none x = e := rfl
@[push_cast] theorem zRG (t : Nat) (x : AV) : up e t x t = x := by simp [up]
@[push_cast] theorem up_at (t u : Nat) (x : AV) : up e t x u = if u = t then x else e u := rfl
@[push_cast] theorem ev_t (n : Nat) : ev e (.t n) = e n := rfl
@[push_cast] theorem ev_c (x : AV) : ev e (.c x) = x := rfl
@[push_cast] theorem zYm (n : Nat) (b : Bool) : zHB e (.t n) b = up e n (bool b) := rfl
@[push_cast] theorem zYn (x : AV) (b : Bool) : zHB e (.c x) b = e := rfl
@[push_cast] theorem zUB (res : List RV) (R : AV → zA → Prop) (Z : Value → zA → Prop) : zLs res R Z .ret e H = ((zAA e H res).ok ∧ R (zAA e H res).x H) := rfl
@[push_cast] theorem zQK (res : List RV) (R : AV → zA → Prop) (Z : Value → zA → Prop) : zLs res R Z .normal e H = ((zAA e H res).ok ∧ R (zAA e H res).x H) := rfl
@[push_cast] theorem zUC (res : List RV) (R : AV → zA → Prop) (Z : Value → zA → Prop) (v : Value) : zLs res R Z (.pan v) e H = Z v H := rfl
@[push_cast] theorem zWu (res : List RV) (R : AV → zA → Prop) : zUD res R .ret e H = ((zAA e H res).ok ∧ R (zAA e H res).x H) := rfl
@[push_cast] theorem zR7 (res : List RV) (R : AV → zA → Prop) : zUD res R .normal e H = ((zAA e H res).ok ∧ R (zAA e H res).x H) := rfl
@[push_cast] theorem zXJ (r : RV) : zAA e H [r] = zCH e H r := rfl
@[push_cast] theorem zXI (a b : RV) : zAA e H [a,b] = ⟨(zCH e H a).ok ∧ (zCH e H b).ok,.tup [(zCH e H a).x,(zCH e H b).x],H⟩ := by simp [zAA]
@[push_cast] theorem zXH (a b c : RV) : zAA e H [a,b,c] = ⟨(zCH e H a).ok ∧ (zCH e H b).ok ∧ (zCH e H c).ok,.tup [(zCH e H a).x,(zCH e H b).x,(zCH e H c).x],H⟩ := by simp [zAA]
@[push_cast] theorem zXG (a b c d : RV) : zAA e H [a,b,c,d] = ⟨(zCH e H a).ok ∧ (zCH e H b).ok ∧ (zCH e H c).ok ∧ (zCH e H d).ok,.tup [(zCH e H a).x,(zCH e H b).x,(zCH e H c).x,(zCH e H d).x],H⟩ := by simp [zAA]
@[push_cast] theorem zWv (t : Nat) : zCH e H (.tmp t) = ⟨True,e t,H⟩ := rfl
@[push_cast] theorem zUE (t : Nat) (ag : Bool) (n : Nat) : zCH e H (.cell t ag n) = rLoad ag n (e t) H := rfl
@[push_cast] theorem zVI (i : Nat) : zC6 [] i = e0 := rfl
@[push_cast] theorem zTT (x : AV) (l : List AV) (i : Nat) : zC6 (x :: l) i = up (zC6 l (i + 1)) i x := rfl
end
@[push_cast] theorem zTw (sz a : Nat) (b : List (List AV)) (i : AV) (H : zA) : zDh sz (.sl a b) i H = rIaddr sz (.sl a b) i H := rfl
@[push_cast] theorem zTu (lk : LK) (n a : Nat) (b : List (List AV)) (lo hi : Option AV) (H : zA) : zDg lk n (.sl a b) lo hi H = rSlice lk n (.sl a b) lo hi H := rfl
@[push_cast] theorem zUJ (lk : LK) (n : Nat) (v : Value) (lo hi : Option AV) (H : zA) : zDg lk n (.v v) lo hi H = rSlice lk n (.v v) lo hi H := rfl
@[push_cast] theorem zSd (off r v o : Nat) (H : zA) : zBB off (.ptr r v o) H = rFaddr off (.ptr r v o) H := rfl
@[push_cast] theorem zTx (off : Nat) (cs : List AV) (o : Nat) (H : zA) : zBB off (.vp cs o) H = rFaddr off (.vp cs o) H := rfl
@[push_cast] theorem zTv (ag : Bool) (n r v o : Nat) (H : zA) : zCn ag n (.ptr r v o) H = rLoad ag n (.ptr r v o) H := rfl
@[push_cast] theorem zUK (ag : Bool) (n : Nat) (cs : List AV) (o : Nat) (H : zA) : zCn ag n (.vp cs o) H = rLoad ag n (.vp cs o) H := rfl
attribute [push_cast] rBox.eq_1 fillA.eq_1 fillA.eq_2 rBuild.eq_1 fillS.eq_1 fillS.eq_2 rBsl.eq_1 rIns.eq_1 rIns.eq_2 rLoadO.eq_1 rLoadO.eq_2 rLoadO.eq_3 isVer.eq_1 isVer.eq_2 isVer.eq_3 isVer.eq_4 isBox.eq_1 isBox.eq_2 isArr.eq_1 isArr.eq_2 rLoad.eq_1 rLoad.eq_2 rLoad.eq_3 rLoad.eq_4 rStoreO.eq_1 rStoreO.eq_2 rStoreO.eq_3 rStore.eq_1 rStore.eq_2 rStore.eq_3 rNil.eq_1 rNil.eq_2 rNil.eq_3 rNil.eq_4 rNil.eq_5 rNil.eq_6 cEq.eq_1 cEq.eq_2 cEq.eq_3 iBin.eq_1 iBin.eq_2 iBin.eq_3 iBin.eq_4 iBin.eq_5 iBin.eq_6 iBin.eq_7 iBin.eq_8 iBin.eq_9 iBin.eq_10 iBin.eq_11 iBin.eq_12 iBin.eq_13 iBin.eq_14 iBin.eq_15 iBin.eq_16 sBin.eq_1 sBin.eq_2 sBin.eq_3 sBin.eq_4 sBin.eq_5 sBin.eq_6 sBin.eq_7 sBin.eq_8 eqRes.eq_1 eqRes.eq_2 eqRes.eq_3 isKD.eq_1 isKD.eq_2 isKD.eq_3 isKD.eq_4 rBin.eq_1 rBin.eq_2 rBin.eq_3 rBin.eq_4 rBin.eq_5 rBin.eq_6 rBin.eq_7 rNot.eq_1 rNot.eq_2 rNeg.eq_1 rNeg.eq_2 rConv.eq_1 rConv.eq_2 rConv.eq_3 rConv.eq_4 rConv.eq_5 rConv.eq_6 rConv.eq_7 rConv.eq_8 rMsl.eq_1 rMsl.eq_2 bnd.eq_1 bnd.eq_2 bnd.eq_3 rSliceN.eq_1 rSliceN.eq_2 rSliceN.eq_3 rSliceN.eq_4 rSliceN.eq_5 lenOf.eq_1 lenOf.eq_2 lenOf.eq_3 lenOf.eq_4 lenOf.eq_5 lenOf.eq_6 lenOf.eq_7 lenOf.eq_8 rSlice.eq_1 lkOk.eq_1 lkOk.eq_2 lkOk.eq_3 lkOk.eq_4 lkOk.eq_5 lkOk.eq_6 lkOk.eq_7 verOk.eq_1 verOk.eq_2 rLen.eq_1 rFaddr.eq_1 rFaddr.eq_2 rFaddr.eq_3 rFaddr.eq_4 rFld.eq_1 rFld.eq_2 rIaddr.eq_1 rIaddr.eq_2 rIaddr.eq_3 rIdx.eq_1 rIdx.eq_2 lookV.eq_1 lookV.eq_2 rLookN.eq_1 rLook.eq_1 rLook.eq_2 rLook.eq_3 rExt.eq_1 rExt.eq_2 rAppendO.eq_1 rAppendO.eq_2 rAppendO.eq_3 rAppendN.eq_1 rAppendN.eq_2 rAppend.eq_1 rAppend.eq_2 rAppend.eq_3 rAppend.eq_4 rAppendC.eq_1 rAppendC.eq_2 rCopy.eq_1 rCopy.eq_2 rMin.eq_1 rMin.eq_2 rMax.eq_1 rMax3.eq_1 rNilI.eq_1 rMkif.eq_1 rNilI.eq_2 rAsrt.eq_1 rAsrt.eq_2 vA.eq_1 rRangeM.eq_1 rEntryM.eq_1 rEntryO.eq_1 rMax.eq_2 rFrz.eq_1 rFrz.eq_2 rFrz.eq_3 rFrz.eq_4 rFrz.eq_5 rFrz.eq_6 rFrz.eq_7 rFrzN.eq_1 rFrzN.eq_2 rFrzN.eq_3 rFrzO.eq_1 rFrzfO.eq_1 rFrzfO.eq_2 rFrzf.eq_1 rFrzf.eq_2 rFrzB.eq_1 rFrzQ.eq_1 rFrzP.eq_1 rOwn.eq_1 rOwn.eq_2 cellsOf.eq_1 cellsOf.eq_2 c1.eq_1 c1.eq_2 c1.eq_3 c1.eq_4 one.eq_1 one.eq_2 one.eq_3 cellsV.eq_1 splice.eq_1 osRows.eq_1 rowsOf.eq_1 rowsOf.eq_2 rowsOf.eq_3 rowsOf.eq_4 rowsOf.eq_5 rowsOf.eq_6 szOk.eq_1 szOk.eq_2 szOk.eq_3 szOk.eq_4 szOk.eq_5 szOk.eq_6 nilOk.eq_1 nilOk.eq_2 nilOk.eq_3 nilOk.eq_4 slcK.eq_1 slcK.eq_2 slcK.eq_3 slcK.eq_4 slcK.eq_5 kIs.eq_1 kIs.eq_2 kIs.eq_3 kIs.eq_4 AV.cl.eq_1 AV.cl.eq_2 AV.cl.eq_3 AV.cl.eq_4 AV.cl.eq_5 AV.cl.eq_6 AV.cl.eq_7 AV.cl.eq_8 kCmp.eq_1 kCmp.eq_2 kCmp.eq_3 kCmp.eq_4
@[push_cast] theorem zXm (H : zA) (x : Value) : verOk H (.v x) = True := rfl
@[push_cast] theorem zV8 (H : zA) (sz : Nat) (xs : List (List AV)) : verOk H (.sl sz xs) = True := rfl
@[push_cast] theorem zWa (H : zA) (ks : List Value) (vs : List AV) : verOk H (.mp ks vs) = True := rfl
@[push_cast] theorem zV9 (H : zA) : verOk H .nc = True := rfl
@[push_cast] theorem zRm (l : List UInt8) : bs (mkS l) = l := by simp [bs,mkS]
theorem zNA (s : ByteArray) : mkS (bs s) = s := by cases s; simp [bs,mkS]
@[push_cast] theorem zYN : c1s [] = true := rfl
@[push_cast] theorem zXb (x : AV) (l : List AV) : c1s (x :: l) = (c1 x && c1s l) := rfl
@[push_cast] theorem zW5 : zHa [] = true := rfl
@[push_cast] theorem zVQ (x : List AV) (l : List (List AV)) : zHa (x :: l) = (clL x && zHa l) := by simp [zHa]
@[push_cast] theorem zW6 (a b : List (List AV)) : zHa (a ++ b) = (zHa a && zHa b) := by simp [zHa]
theorem zBA {α : Type} {f : α → List AV} (h : ∀ x,clL (f x) = true) (l : List α) : zHa (l.map f) = true := by simp [zHa,h]
@[push_cast] theorem zTU (l : List UInt8) : zHa (l.map zBv) = true := zBA (fun _ => rfl) l
@[push_cast] theorem zYD : clL [] = true := rfl
@[push_cast] theorem zW7 (x : AV) (l : List AV) : clL (x :: l) = (x.cl && clL l) := by simp [clL]
@[push_cast] theorem zMk (n : Int) (h : -9223372036854775808 ≤ n) (h' : n < 9223372036854775808) : IntKind.i64.wrap n = n := by
 simp [IntKind.wrap,IntKind.bits,IntKind.signed]
 split <;> omega
@[push_cast] theorem zV5 (n : Int) (h : 0 ≤ n) (h' : n < 256) : IntKind.u8.wrap n = n := by
 simp [IntKind.wrap,IntKind.bits,IntKind.signed]
 omega
@[push_cast] theorem zT5 (n : Int) (h : -2147483648 ≤ n) (h' : n < 2147483648) : IntKind.i32.wrap n = n := by
 simp [IntKind.wrap,IntKind.bits,IntKind.signed]
 split <;> omega
@[push_cast] theorem zK9 (n : Int) (h : 0 ≤ n) (h' : n < 18446744073709551616) : IntKind.u64.wrap n = n := by
 simp [IntKind.wrap,IntKind.bits,IntKind.signed]
 omega
attribute [push_cast] List.map_cons List.map_nil List.cons_append List.nil_append List.append_nil List.length_cons List.length_nil List.take_zero List.take_nil List.take_succ_cons List.drop_zero List.drop_nil List.drop_succ_cons List.headD_cons
 zY6 zY7 zZg zZf zzaE zzam List.replicate_succ List.replicate_zero zY3 zYV
 if_true if_false ite_true ite_false true_and and_true zZt Option.map_none zZR Option.getD_none Option.isSome_some zY5 decide_eq_false_iff_not zZL zYX zZM zzax ne_eq not_true not_false_eq_true
 false_and and_false zZn Bool.not_true zzbw zzbl Bool.and_false Bool.true_and Bool.false_and Bool.or_true Bool.or_false Bool.true_or Bool.false_or Bool.not_not Bool.not_eq_eq_eq_not ite_not
 zZr List.mem_nil_iff zZ1 forall_eq forall_eq_or_imp forall_const or_true true_or or_false false_or implies_true and_self or_self zZc zZ2 eq_self
@[push_cast] theorem zVR (x : Value) : cellsOf (.v x) = [(.v x)] := rfl
@[push_cast] theorem cl_v (x : Value) : AV.cl (.v x) = true := by simp [AV.cl]
@[push_cast] theorem zTW (a : Nat) (b : List (List AV)) : cellsOf (.sl a b) = [(.sl a b)] := rfl
@[push_cast] theorem c1_sl (a : Nat) (b : List (List AV)) : c1 (.sl a b) = true := rfl
@[push_cast] theorem cl_sl (a : Nat) (b : List (List AV)) : AV.cl (.sl a b) = true := by simp [AV.cl]
@[push_cast] theorem zTV (a : List AV) (b : Nat) : cellsOf (.vp a b) = [(.vp a b)] := rfl
@[push_cast] theorem c1_vp (a : List AV) (b : Nat) : c1 (.vp a b) = true := rfl
@[push_cast] theorem cl_vp (a : List AV) (b : Nat) : AV.cl (.vp a b) = true := by simp [AV.cl]
@[push_cast] theorem zT2 (a : Fn) (b c : List AV) : cellsOf (.fn a b c) = [(.fn a b c)] := rfl
@[push_cast] theorem c1_fn (a : Fn) (b c : List AV) : c1 (.fn a b c) = true := rfl
@[push_cast] theorem zT1 (a : List Value) (b : List AV) : cellsOf (.mp a b) = [(.mp a b)] := rfl
@[push_cast] theorem c1_mp (a : List Value) (b : List AV) : c1 (.mp a b) = true := rfl
@[push_cast] theorem cl_mp (a : List Value) (b : List AV) : AV.cl (.mp a b) = true := by simp [AV.cl]
@[push_cast] theorem zTY (a b c d : Nat) : cellsOf (.os a b c d) = [(.os a b c d)] := rfl
@[push_cast] theorem c1_os (a b c d : Nat) : c1 (.os a b c d) = true := rfl
@[push_cast] theorem zS3 (a b c : Nat) : cellsOf (.ptr a b c) = [(.ptr a b c)] := rfl
@[push_cast] theorem c1_ptr (a b c : Nat) : c1 (.ptr a b c) = true := rfl
@[push_cast] theorem zTX (a b c d : Nat) : cellsOf (.pe a b c d) = [(.pe a b c d)] := rfl
@[push_cast] theorem c1_pe (a b c d : Nat) : c1 (.pe a b c d) = true := rfl
@[push_cast] theorem zTZ (a b : Nat) : cellsOf (.om a b) = [(.om a b)] := rfl
@[push_cast] theorem c1_om (a b : Nat) : c1 (.om a b) = true := rfl
@[push_cast] theorem zQN (t : TypeId) (s : AV) (y : List UInt8) (H : zA) : zCI t s (str y) H = zB7 t s y H := rfl
@[push_cast] theorem zQO (t : TypeId) (r ver len : Nat) (y : List UInt8) (H : zA) : zB7 t (.os r ver 0 len) y H = zB8 t r ver len y H H[r]? := rfl
@[push_cast] theorem zPE (t : TypeId) (y : List UInt8) (H : zA) : zB7 t zAI y H = zB6 t y H := rfl
@[push_cast] theorem zPD (t : TypeId) (H : zA) : zB6 t [] H = ⟨True,zAI,H⟩ := rfl
theorem zFb (t : TypeId) {y : List UInt8} (hy : y ≠ []) (H : zA) : zB6 t y H = ⟨y.length ≤ 140737488355328,.os H.length 0 0 y.length,H ++ [.barr t 0 y]⟩ := if_neg hy
@[push_cast] theorem zOV (t : TypeId) (r ver len : Nat) (y : List UInt8) (H : zA) (t' ver' : Nat) (l : List UInt8) : zB8 t r ver len y H (some (.barr t' ver' l)) = ⟨ver = ver' ∧ t = t' ∧ len = l.length ∧ len + y.length ≤ 140737488355328,.os r (ver + 1) 0 (len + y.length),H.set r (.barr t (ver + 1) (l ++ y))⟩ := rfl
@[push_cast] theorem zTR : zFd (.v (.pointer none)) = true := rfl
@[push_cast] theorem zRi (t : TypeId) : cellsOf (.bnil t) = [.bnil t] := rfl
@[push_cast] theorem zYO (t : TypeId) : c1 (.bnil t) = false := rfl
@[push_cast] theorem zYC (t : TypeId) : AV.cl (.bnil t) = true := by simp [AV.cl]
@[push_cast] theorem zT0  : cellsOf .nc = [.nc] := rfl
@[push_cast] theorem c1_nc  : c1 .nc = true := rfl
@[push_cast] theorem cl_nc  : AV.cl .nc = true := by simp [AV.cl]
@[push_cast] theorem c1_v (x : Value) : c1 (.v x) = one x := rfl
@[push_cast] theorem zYf (k : IntKind) (n : Int) : one (.int k n) = true := rfl
@[push_cast] theorem zWV (b : Bool) : one (.bool b) = true := rfl
@[push_cast] theorem zTL (s : ByteArray) : one (.string s) = true := rfl
@[push_cast] theorem zVe (a : Option Addr) (l c : Nat) : one (.slice a l c) = true := rfl
@[push_cast] theorem zYe (a : Option Nat) : one (.map a) = true := rfl
@[push_cast] theorem zSn (a : Option Addr) : one (.pointer a) = true := rfl
@[push_cast] theorem zDl {α : Type} (H : List α) (x : α) (l : List α) : (H ++ x :: l)[H.length]? = some x := by simp
@[push_cast] theorem zEP {α : Type} (H : List α) (x y : α) (l : List α) : (H ++ x :: l).set H.length y = H ++ y :: l := by simp
@[push_cast] theorem zA6 {α : Type} (H l : List α) (k : Nat) : (H ++ l)[H.length + k]? = l[k]? := by rw [zYY (by omega)]; congr 1; omega
@[push_cast] theorem zEQ {α : Type} (H l : List α) (k : Nat) (y : α) : (H ++ l).set (H.length + k) y = H ++ l.set k y := by rw [zzao _ _ (by omega)]; congr 2; omega
attribute [push_cast] List.append_assoc
set_option linter.unusedVariables false
section
variable {P : Program} {k : List zEp} {Q : Out → Env → zA → Prop} {e : Env} {H : zA}
theorem zBl : ∀ {l : List LO} {e : Env} {H : zA} {K K' : Env → zA → Prop},zAi P l e H K → (∀ e H,K e H → K' e H) → zAi P l e H K'
 | [],_,_,_,_,h,hK => hK _ _ h
 | o :: l,_,_,_,_,h,hK => by
  refine zB1 ?_
  rcases zCg h with ⟨h1,h2⟩ | ⟨h1,h2⟩
  ·exact .inl ⟨h1,zBr h2 fun x H' hh => zBl hh hK⟩
  ·exact .inr ⟨h1,zBl h2 hK⟩
theorem zJa {op : LOp} {K K' : AV → Prop} (h : zDb P op e H K) (hK : ∀ x,K x → K' x) : zDb P op e H K' := by
 cases op <;> simp only [zDb] at h ⊢ <;> first | exact ⟨h.1,h.2.1,hK _ h.2.2⟩ | exact h.elim | skip
 case call f args =>
  split at h
  ·obtain ⟨x,h1,h2,h3⟩ := h; exact ⟨x,h1,h2,hK _ h3⟩
  ·exact h.elim
 case callh f args =>
  split at h
  ·obtain ⟨x,h1,h3⟩ := h; exact ⟨x,h1,hK _ h3⟩
  ·exact h.elim
 case pick c a b =>
  split at h
  ·split at h
   ·rename_i hb; rw [if_pos hb]; exact hK _ h
   ·rename_i hb; rw [if_neg hb]; exact hK _ h
  ·exact h.elim
theorem zBJ : ∀ {l : List LO} {e : Env} {K K' : Env → Prop},zAF P l e H K → (∀ e,K e → K' e) → zAF P l e H K'
 | [],_,_,_,h,hK => hK _ h
 | o :: l,e,_,_,h,hK => by
  simp only [zAF] at h ⊢
  split at h
  ·exact zJa h fun x hh => zBJ hh hK
  ·rename_i t want hg
   split at h
   ·rename_i b hb
    cases b <;> cases want <;> simp only [if_true,zZn,if_false] at h ⊢ <;> first | exact zBJ h hK | exact zJa h fun x hh => zBJ hh hK
   ·exact zBJ h hK
   ·exact h.elim
theorem zGS {st : zRp} {K K' : Out → Prop} (h : zLC st K) (hK : ∀ o,K o → K' o) : zLC st K' := by
 cases st with
 | ready => exact hK _ h
 | busy => exact h
 | done o => cases o <;> exact hK _ h
theorem zHg {hd : List LO} {e1 : Env} : ∀ {l : List (LO × List Nat)} {e : Env} {H : zA} {K K' : Env → zA → Prop},zDa P hd e1 l e H K → (∀ e H,K e H → K' e H) → zDa P hd e1 l e H K'
 | [],_,_,_,_,h,hK => hK _ _ h
 | (o,js) :: l,_,_,_,_,h,hK => zBl (h : zAi P [o] _ _ _) fun e H hh => ⟨hh.1,zHg hh.2 hK⟩
theorem zK6 {c : Bool} {lo : LO} {K K' : Env → zA → Prop} {Z Z' : Value → zA → Prop} (h : aTI P c lo e H K Z) (hK : ∀ e H,K e H → K' e H) (hZ : ∀ v H',Z v H' → Z' v H') : aTI P c lo e H K' Z' := by
 unfold aTI at h ⊢
 split at h
 ·exact zDS h (fun h => zGp h (fun _ _ => hK _ _) hZ) (hK _ _)
 ·exact zDS h (fun ⟨t,z,h1,h2⟩ => ⟨t,z,h1,hZ _ _ h2⟩) (hK _ _)
 ·exact zBl h fun _ _ => hK _ _
theorem zHe {hd : List LO} {e1 : Env} : ∀ {l : List (LO × Bool × List Nat)} {e : Env} {H : zA} {K K' : Env → zA → Prop} {Z Z' : Value → zA → Prop},zEI P hd e1 l e H K Z → (∀ e H,K e H → K' e H) → (∀ v H',Z v H' → Z' v H') → zEI P hd e1 l e H K' Z'
 | [],_,_,_,_,_,_,h,hK,_ => hK _ _ h
 | (o,c,js) :: l,_,_,_,_,_,_,h,hK,hZ => zK6 (h : aTI P c o _ _ _ _) (fun e H hh => ⟨hh.1,zHe hh.2 hK hZ⟩) hZ
theorem zDr : ∀ {c : LCode} {e : Env} {H : zA} {K K' : Out → Env → zA → Prop},awp P c e H K → (∀ o e H,K o e H → K' o e H) → awp P c e H K' := by
 intro c
 induction c with
 | skip => intro e H K K' h hK; exact hK _ _ _ h
 | ops l => intro e H K K' h hK; exact zBl h fun e H hh => hK _ _ _ hh
 | draw hd tl => intro e H K K' h hK; exact zBJ h fun e hh => zBl hh fun e H hh => hK _ _ _ hh
 | drawM hd pre mid post => intro e H K K' h hK; exact zBJ h fun e hh σ hσ => zBl (hh σ hσ) fun e H hh => hK _ _ _ hh
 | drawA hd tl gs => intro e H K K' h hK; exact zBJ h fun e hh => zHg hh fun e H hh => zBl hh fun e H hh => hK _ _ _ hh
 | seq a b iha ihb =>
  intro e H K K' h hK
  refine iha h fun o e' H' hh => ?_
  cases o with
  | normal => exact ihb hh hK
  | exit id => exact hK _ _ _ hh
  | ret => exact hK _ _ _ hh
  | pan v => exact hK _ _ _ hh
 | cond x a b iha ihb =>
  intro e H K K' h hK
  simp only [awp] at h ⊢
  split at h
  ·rename_i t ht
   cases t with
   | true => rw [if_pos rfl] at h ⊢; exact iha h hK
   | false => rw [if_neg (by simp)] at h ⊢; exact ihb h hK
  ·exact h.elim
 | block id c ih =>
  intro e H K K' h hK
  refine ih h fun o e' H' hh => ?_
  cases o with
  | normal => exact hK _ _ _ hh
  | exit j =>
   simp only at hh ⊢
   split
   ·rename_i hj; rw [if_pos hj] at hh; exact hK _ _ _ hh
   ·rename_i hj; rw [if_neg hj] at hh; exact hK _ _ _ hh
  | ret => exact hK _ _ _ hh
  | pan v => exact hK _ _ _ hh
 | loop c ih =>
  intro e H K K' h hK
  obtain ⟨I,μ,h1,h2⟩ := h
  refine ⟨I,μ,h1,fun e H hI => ih (h2 e H hI) fun o e' H' hh => ?_⟩
  cases o with
  | normal => exact hh
  | exit id => exact hK _ _ _ hh
  | ret => exact hK _ _ _ hh
  | pan v => exact hK _ _ _ hh
 | range g ps a b iha ihb =>
  intro e H K K' h hK
  simp only [awp] at h ⊢
  split at h
  ·intro l lr hy
   exact (h l lr hy).mono fun x H' ⟨st,h1,h2⟩ => ⟨st,h1,zGS h2 fun o => hK _ _ _⟩
  ·exact h.elim
 | exit id => intro e H K K' h hK; exact hK _ _ _ h
 | ret => intro e H K K' h hK; exact hK _ _ _ h
 | callp d f args =>
  intro e H K K' h hK
  simp only [awp] at h ⊢
  cases hf : ev e f with
  | fn g first caps =>
   rw [hf] at h
   cases g with
   | func k => exact ACallX.mono h (fun _ _ hh => hK _ _ _ hh) fun _ _ hh => hK _ _ _ hh
   | _ => exact h.elim
  | _ => rw [hf] at h; exact h.elim
 | pan d t x => intro e H K K' ⟨v,h1,h2⟩ hK; exact ⟨v,h1,hK _ _ _ h2⟩
 | ti o => intro e H K K' h hK; exact zK6 h (fun _ _ hh => hK _ _ _ hh) fun _ _ hh => hK _ _ _ hh
 | drawX hd tl gs => intro e H K K' h hK; exact zBJ h fun e hh => zHe hh (fun e H hh => zBl hh fun e H hh => hK _ _ _ hh) fun _ _ hh => hK _ _ _ hh
theorem zYo {p : Nat → Prop} (h : ∃ n,p n) : ∃ n,p n ∧ ∀ m,p m → n ≤ m := by
 obtain ⟨n,hn⟩ := h
 induction n using Nat.strongRecOn with
 | _ n ih =>
  by_cases hh : ∃ m,m < n ∧ p m
  ·obtain ⟨m,hm,hp⟩ := hh; exact ih m hm hp
  ·exact ⟨n,hn,fun m hm => zzaW fun hlt => hh ⟨m,hlt,hm⟩⟩
inductive Nx {σ : Type} (I : σ → Env → zA → Prop) (μ : σ → Nat) (s : σ) (e : Env) (H : zA) : Prop where
 | mk (s' : σ) (h : I s' e H) (hm : μ s' < μ s)
open Classical in
theorem zAd {σ : Type} {c : LCode} (I : σ → Env → zA → Prop) (μ : σ → Nat) (s : σ) (h0 : I s e H)
  (h : ∀ s e H,I s e H → zU P (.code c :: .lp (Nx I μ s) :: k) Q .normal e H) : zU P (.code (.loop c) :: k) Q .normal e H := by
 have hex : ∀ e H,(∃ s,I s e H) → ∃ n,(∃ s,I s e H ∧ μ s = n) ∧ ∀ m,(∃ s,I s e H ∧ μ s = m) → n ≤ m := fun e H ⟨s,hs⟩ => zYo ⟨_,s,hs,rfl⟩
 refine zMM (fun e H => ∃ s,I s e H) (fun e H => if hx : ∃ s,I s e H then Classical.choose (hex e H hx) else 0) ⟨s,h0⟩ ?_
 intro e H hs
 obtain ⟨⟨s,hI,hm⟩,_⟩ := zzaf (hex e H hs)
 refine zDr (h s e H hI) fun o e' H' hh => ?_
 cases o with
 | normal =>
  obtain ⟨s',hI',hlt⟩ := hh
  refine ⟨⟨s',hI'⟩,?_⟩
  rw [dif_pos ⟨s',hI'⟩,dif_pos hs]
  have := (zzaf (hex e' H' ⟨s',hI'⟩)).2 _ ⟨s',hI',rfl⟩
  omega
 | exit id => exact hh
 | ret => exact hh
 | pan v => exact hh
end
@[push_cast] theorem zTm (i : Nat) : ((i : Int) + 1).toNat = i + 1 := by omega
@[push_cast] theorem zTl (i : Nat) : ((i : Int) + 2).toNat = i + 2 := by omega
@[push_cast] theorem zTk (i : Nat) : ((i : Int) + 3).toNat = i + 3 := by omega
@[push_cast] theorem zTj (i : Nat) : ((i : Int) + 4).toNat = i + 4 := by omega
@[push_cast] theorem zTi (i : Nat) : ((i : Int) + 5).toNat = i + 5 := by omega
@[push_cast] theorem zTh (i j : Nat) : ((i : Int) + (j : Int)).toNat = i + j := by omega
attribute [push_cast] Nat.add_sub_cancel_left
@[push_cast] theorem zQE {α β : Type} (f : α → β) (l : List α) : (l.map f).take l.length = l.map f := by
 rw [zZu (by simp)]
@[push_cast] theorem zPi {α β : Type} (f : α → β) (l : List α) : ((l.map f).drop 0).take l.length = l.map f := by
 rw [zzal,zZu (by simp)]
def LCode.sub : List Nat → LCode → LCode
 | [],c => c
 | 0 :: l,.seq a _ => a.sub l
 | 1 :: l,.seq _ b => b.sub l
 | 0 :: l,.cond _ a _ => a.sub l
 | 1 :: l,.cond _ _ b => b.sub l
 | _ :: l,.block _ c => c.sub l
 | _ :: l,.loop c => c.sub l
 | _,c => c
section
variable {P : Program} {t e : TypeId} {xs : List AV}
def zLN (n : Int) : Prop := -9223372036854775808 ≤ n ∧ n ≤ 9223372036854775807
theorem zEf (hu : P.underlying t = some (.int .i64)) (h : Val P t xs) : ∃ n : Int,xs = [int n] ∧ zLN n := by
 cases h with
 | int hu' hw =>
  rw [hu] at hu'
  cases hu'
  refine ⟨_,rfl,?_⟩
  simp [Lit.wf,IntKind.min,IntKind.max,IntKind.signed,IntKind.bits] at hw
  unfold zLN; omega
 | bool hu' => rw [hu] at hu'; cases hu'
 | str hu' => rw [hu] at hu'; cases hu'
 | sl hu' => rw [hu] at hu'; cases hu'
 | st hu' => rw [hu] at hu'; cases hu'
theorem zRs (hu : P.underlying t = some .string) (h : Val P t xs) : ∃ s : List UInt8,xs = [str s] ∧ s.length ≤ 9223372036854775807 := by
 cases h with
 | str hu' hs =>
  rename_i s
  refine ⟨bs s,by rw [str,zNA],?_⟩
  have : (bs s).length = s.size := by simp [bs]
  unfold maxLen at hs
  omega
 | int hu' => rw [hu] at hu'; cases hu'
 | bool hu' => rw [hu] at hu'; cases hu'
 | sl hu' => rw [hu] at hu'; cases hu'
 | st hu' => rw [hu] at hu'; cases hu'
theorem zIa {k : Nat} (hu : P.underlying t = some (.slice e)) (hk : P.cellsOf e = k) (h : Val P t xs) : ∃ rows,xs = [.sl k rows] ∧ rows.length ≤ 9223372036854775807 ∧ ∀ x ∈ rows,Val P e x := by
 cases h with
 | sl hu' hl hr =>
  rw [hu] at hu'
  cases hu'
  subst hk
  unfold maxLen at hl
  exact ⟨_,rfl,by omega,hr⟩
 | int hu' => rw [hu] at hu'; cases hu'
 | bool hu' => rw [hu] at hu'; cases hu'
 | str hu' => rw [hu] at hu'; cases hu'
 | st hu' => rw [hu] at hu'; cases hu'
theorem zKb {fs : Array Field} {k : Nat} (hu : P.underlying t = some (.struct fs)) (hk : P.cellsOf t = k) (h : Val P t xs) : xs.length = k ∧ ∀ (i : Nat) (f : Field),fs[i]? = some f → Val P f.type ((xs.drop f.offset).take (P.cellsOf f.type)) := by
 cases h with
 | st hu' hl hr =>
  rw [hu] at hu'
  cases hu'
  exact ⟨hl.trans hk,hr⟩
 | int hu' => rw [hu] at hu'; cases hu'
 | bool hu' => rw [hu] at hu'; cases hu'
 | str hu' => rw [hu] at hu'; cases hu'
 | sl hu' => rw [hu] at hu'; cases hu'
theorem zCh {fs : Array Field} (hf : ∀ (i : Nat) (f : Field),fs[i]? = some f → Val P f.type ((xs.drop f.offset).take (P.cellsOf f.type))) (i t' off k : Nat) (h : (fs[i]?).map (fun f => (f.type,f.offset)) = some (t',off)) (hk : P.cellsOf t' = k) : Val P t' ((xs.drop off).take k) := by
 cases hh : fs[i]? with
 | none => rw [hh] at h; cases h
 | some f =>
  rw [hh] at h
  simp only [zZt,zYT,zZi] at h
  have := hf i f hh
  rw [h.1,h.2,hk] at this
  exact this
theorem zKc {α : Type} {enc : α → List AV} {ok : α → Prop} {rows : List (List AV)} (h : ∀ x ∈ rows,Val P e x) (ho : ∀ x,Val P e x → ∃ a,x = enc a ∧ ok a) : ∃ l : List α,rows = l.map enc ∧ ∀ a ∈ l,ok a := by
 induction rows with
 | nil => exact ⟨[],rfl,by simp⟩
 | cons x rows ih =>
  obtain ⟨a,rfl,ha⟩ := ho x (h x (by simp))
  obtain ⟨l,rfl,hl⟩ := ih fun y hy => h y (by simp [hy])
  exact ⟨a :: l,rfl,by simp only [zZr,forall_eq_or_imp]; exact ⟨ha,hl⟩⟩
end
@[push_cast] theorem zSo : one .nilFunc = true := rfl
@[push_cast] theorem zWU (f : Fn) (a b : Array Value) : one (.func f a b) = true := rfl
@[push_cast] theorem zOU (r ver off len : Nat) (H : zA) : rConv .bytesStr (.os r ver off len) H = ⟨szOk H 1 (.os r ver off len) ∧ ((rowsOf H (.os r ver off len)).bind zAH).isSome = true,str (((rowsOf H (.os r ver off len)).bind zAH).getD []),H⟩ := rfl
@[push_cast] theorem zOT (sz : Nat) (xs : List (List AV)) (H : zA) : rConv .bytesStr (.sl sz xs) H = ⟨szOk H 1 (.sl sz xs) ∧ ((rowsOf H (.sl sz xs)).bind zAH).isSome = true,str (((rowsOf H (.sl sz xs)).bind zAH).getD []),H⟩ := rfl
attribute [push_cast] Option.bind_some Bool.true_xor Bool.false_xor Bool.xor_false Bool.xor_true
def zKt (sz r ver off len : Nat) (ys : List (List AV)) (x : AV) (H : zA) : Option HO → Res
 | some (.arr ver' sz' xs) => ⟨ver = ver' ∧ sz' = sz ∧ szOk H sz x ∧ off + len ≤ xs.length,int (min ys.length len : Nat),H.set r (.arr ver sz (xs.take off ++ ys.take (min ys.length len) ++ xs.drop (off + min ys.length len)))⟩
 | _ => .no H
def zM3 (sz : Nat) (s x : AV) (H : zA) : Option (List (List AV)) → Res
 | some ys => match s with
  | .os r ver off len => zKt sz r ver off len ys x H H[r]?
  | _ => .no H
 | none => .no H
@[push_cast] theorem zWz (sz : Nat) (s x : AV) (H : zA) : rCopy sz s x H = zM3 sz s x H (rowsOf H x) := by
 unfold rCopy zM3 zKt
 cases rowsOf H x with
 | none => cases s <;> rfl
 | some ys => cases s <;> rfl
@[push_cast] theorem zUL (sz r ver off len : Nat) (x : AV) (H : zA) (ys : List (List AV)) : zM3 sz (.os r ver off len) x H (some ys) = zKt sz r ver off len ys x H H[r]? := rfl
@[push_cast] theorem zTy (sz r ver off len ver' sz' : Nat) (ys xs : List (List AV)) (x : AV) (H : zA) : zKt sz r ver off len ys x H (some (.arr ver' sz' xs)) = ⟨ver = ver' ∧ sz' = sz ∧ szOk H sz x ∧ off + len ≤ xs.length,int (min ys.length len : Nat),H.set r (.arr ver sz (xs.take off ++ ys.take (min ys.length len) ++ xs.drop (off + min ys.length len)))⟩ := rfl
attribute [push_cast] List.length_replicate
def zNi (ver off len : Nat) : Option HO → Option (List (List AV))
 | some (.arr ver' _ xs) => if ver = ver' ∧ off + len ≤ xs.length then some ((xs.drop off).take len) else none
 | _ => none
theorem zNh (r ver off len : Nat) (H : zA) : osRows r ver off len H = zNi ver off len H[r]? := rfl
theorem zJD {ver off len ver' sz : Nat} {xs : List (List AV)} (h : ver = ver' ∧ off + len ≤ xs.length) : zNi ver off len (some (.arr ver' sz xs)) = some ((xs.drop off).take len) := if_pos h
theorem zN {α : Type} [Inhabited α] {l : List α} {enc : α → List AV} {j : Nat} (h : j < l.length) : (l.map enc).getD j [] = enc (l.getD j default) := by
 simp [zZd,h]
theorem zAt {α : Type} [Inhabited α] {l : List α} {j : Nat} (h : j < l.length) : l.getD j default ∈ l := by
 simp [zZd,h]
theorem zBf {α : Type} [Inhabited α] {l : List α} {j : Nat} (h : j < l.length) : l.take (j + 1) = l.take j ++ [l.getD j default] := by
 rw [List.take_succ_eq_append_getElem h]; simp [zZd,h]
theorem zOk {α : Type} [Inhabited α] {l : List α} {j : Nat} (h : j < l.length) : l.drop j = l.getD j default :: l.drop (j + 1) := by
 rw [zZV h]; simp [zZd,h]
theorem zYu {x : AV} {a : Int} {b : Int} (h : x = int a) (h2 : a = b) : x = int b := h.trans (by rw [h2])
theorem zCv {j : Nat} {p : Nat → Prop} (h : ∀ i,i < j → p i) (hj : p j) : ∀ i,i < j + 1 → p i := fun i hi => by
 by_cases e : i = j
 ·rw [e]; exact hj
 ·exact h i (by omega)
theorem zS {a b : Int} (h : a < b) : decide (a < b) = true := zZz h
theorem zAQ {a b : Int} (h : ¬ a < b) : decide (a < b) = false := zzad h
theorem zAj {a b : Int} (h : a ≤ b) : decide (a ≤ b) = true := zZz h
theorem zAK {a b : Int} (h : ¬ a ≤ b) : decide (a ≤ b) = false := zzad h
theorem zAz {a b : Int} (h : a = b) : decide (a = b) = true := zZz h
theorem zAx {a b : Int} (h : ¬ a = b) : decide (a = b) = false := zzad h
attribute [push_cast] decide_true decide_false
def zOY : Option Nat → Int
 | some i => i
 | none => -1
theorem zIU {α : Type} [Inhabited α] {l : List α} {p : α → Bool} {j : Nat} (h : j < l.length) (hp : p (l.getD j default) = true) (hb : ∀ i,i < j → p (l.getD i default) = false) : l.findIdx? p = some j := by
 rw [zZ6]
 have e : ∀ i (hi : i < l.length),l.getD i default = l[i] := fun i hi => by simp [zZd,hi]
 refine ⟨h,by rw [← e j h]; exact hp,fun i hi => ?_⟩
 have := hb i hi
 rw [e i (by omega)] at this
 simp [this]
theorem zIV {α : Type} [Inhabited α] {l : List α} {p : α → Bool} (hb : ∀ i,i < l.length → p (l.getD i default) = false) : l.findIdx? p = none := by
 rw [zzaQ]
 intro x hx
 obtain ⟨i,hi,rfl⟩ := zZY.1 hx
 have := hb i hi
 simpa [zZd,hi] using this
theorem zJT {α : Type} [Inhabited α] {l : List α} {p : α → Bool} {j : Nat} (h : l.findIdx? p = some j) : j < l.length ∧ p (l.getD j default) = true := by
 rw [zZ6] at h
 obtain ⟨h1,h2,_⟩ := h
 exact ⟨h1,by simpa [zZd,h1] using h2⟩
theorem zFH {α : Type} (l : List α) {n : Nat} (h : l.length ≤ n) : l.take n = l := zZu h
end Go.Ax
