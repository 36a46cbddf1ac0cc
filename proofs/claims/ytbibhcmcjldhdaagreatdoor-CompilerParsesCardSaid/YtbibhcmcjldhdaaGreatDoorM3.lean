/- Parts,merged by a program (wip/tools/merge2.py): Ax20k Ax21 Ax22 Ax24 Ax25 Ax27 Ax4b Ax4c Fv Shelf Vl1 Ft Ax3 Ax23 Ax26 Ty1 Ty2 Ty3 Va1 Va2 Va3 Ty4 Ty5 Va4 Va5 Va6 Va7 Vb2 Mc1 Fl Lx1 Lx2 Lx3 Lx4 Lx5 Lx6 Mc2 Cp1. -/
import Derived.Test.YtbibhcmcjldhdaaGreatDoorM2
import Derived.RangeFuncIn
import Derived.RangeFuncLeaves
import Derived.RangeFuncRecord
import Derived.Below
import Derived.ChangeSame
import Derived.Carry
import Derived.ChangeArms
import Derived.ProofKit
import Derived.HandedShaped
import Derived.Shelf.Vars
import Derived.Test.YtbibhcmcjldhdaaGreatDoorRows
import Derived.JoinedCond
import Derived.Test.YtbibhcmcjldhdaaGreatDoorChecked
import Derived.Shelf.Strings.Builder1
import Derived.Shelf.Strings.Builder2
import Derived.Shelf.Strings.OnBuilder
import Derived.Shelf.Strings.BuilderF
import Derived.Shelf.Strings.Search1
import Derived.Shelf.Strings.Search2
import Derived.Shelf.Strings.Search3
import Derived.Shelf.LaysM
import Derived.Shelf.Strings.Shaped
import Derived.Shelf.Strings.Prefix
import Derived.Shelf.Bits.Mul64
import Derived.Shelf.Strings.Repeat
import Derived.Shelf.Unicode.DecodeSlow
import Derived.Test.YtbibhcmcjldhdaaGreatDoorProg
import Derived.KernelRfl
namespace Go.Ax
open Go Go.RowKit
set_option linter.unusedSimpArgs false
set_option linter.unusedVariables false
section
variable {B : DB} {P : Program} {w w0 w2 : World} {X : Nat → Prop} {ρ ρ0 : Nat → Loc} {H H' ext : zB} {e e1 : Env} {a a2 : Act} {n n0 : Nat}
variable {ops : Array Oper} {T : List Nat} {hs : List Hn} {reg : Nat}
def St1 (B : DB) (X : Nat->Prop) (w0 : World) (ρ0 : Nat->Loc) (n0 n d0 : Nat) (zs : List AV) (e : Env) (H : zB) (a : Act) (w : World) : Prop :=
 ∃ (b : Nat) (c : Array Value) (t : TypeId) (fr : Nat × Nat) (ρ : Nat->Loc),a.tmps.size = n/\HRel w (fun x => X x\/x = b) ρ H/\ER w (fun x => X x\/x = b) ρ H n (up e d0 (.v (.pointer (some ⟨b,0,none⟩)))) a/\Fut w0 ρ0 n0 w ρ H.length/\Mk B w0 w ρ H.length a.defers /\
  w.heap[b]? = some (.cells c t fr)/\zLY fr c.size/\zs.length = c.size/\(∀ t',zs[0]? ≠ some (.bnil t'))/\¬ X b/\(Own ρ0 n0 b\/w0.heap.size <= b)/\(∀ g ∈ glbs,g ≠ b) /\
  ∀ (j : Nat) (y : AV) (u : Value),zs[j]? = some y->c[j]? = some u->Rep w (Mut (fun x => X x\/x = b) ρ H.length) ρ H.length y u/\one u = true
theorem St.disown {d0 : Nat} {zs : List AV} (hd : d0 < n) (hn0 : n0 <= H.length) (hO : ∀ (r : Nat) (o : HO),H[r]? = some o->∃ w' M ρ' l,ObjOk w' M ρ' H.length l o) (hS : ∀ t,t < n->t ≠ d0->∃ w' M ρ' u,Rep w' M ρ' H.length (e t) u)
  (hZ : ∀ (j : Nat) (y : AV),zs[j]? = some y->∃ w' M ρ' u,Rep w' M ρ' H.length y u) (hbn : ∀ t',zs[0]? ≠ some (.bnil t')) (h2 : St B X w0 ρ0 n0 n (up e d0 (.ptr H.length 0 0)) (H ++ [.box zs]) a2 w2) : St1 B X w0 ρ0 n0 n d0 zs e H a2 w2 := by
 obtain ⟨hn2,ρ2,hrel2,he2,hf2,hm2⟩ := h2;have hlen2 : (H ++ [HO.box zs]).length = H.length + 1 := by simp
 have ob2 := hrel2.objs;have inj2 := hrel2.inj;have lt2 := hrel2.lt;have gl2 := hrel2.gl;rw [hlen2] at ob2 hf2 hm2 inj2 lt2 gl2;have he2 : ∀ t,t < n->Rep w2 (Mut X ρ2 (H.length + 1)) ρ2 (H.length + 1) (up e d0 (.ptr H.length 0 0) t) (a2.tmps.getD t undef) := by
  have := he2;unfold ER at this
  rwa [hlen2] at this
 obtain ⟨hv,b,c,t,fr,hblk,hheap,hlc,hfr,hcells⟩ := ob2 H.length (.box zs) (by simp);have hown : ∀ b',Own ρ2 (H.length + 1) b' ↔ (Own ρ2 H.length b'\/b' = b) := fun b' =>
  ⟨fun ⟨r,o,hr,hb⟩ => by
   by_cases hrl : r = H.length
   ·subst hrl; rw [hblk] at hb; cases hb; exact .inr rfl
   ·exact .inl ⟨r,o,by omega,hb⟩,fun h => h.elim (fun ⟨r,o,hr,hb⟩ => ⟨r,o,by omega,hb⟩) fun h => ⟨H.length,0,by omega,by rw [h]; exact hblk⟩⟩
 have hM : Mut (fun x => X x\/x = b) ρ2 H.length = Mut X ρ2 (H.length + 1) := by
  funext b'
  refine propext ⟨fun h => ?_,fun h => ?_⟩
  ·rcases h with (h | h) | h
   ·exact .inl h
   ·exact .inr ((hown b').2 (.inr h))
   ·exact .inr ((hown b').2 (.inl h))
  ·rcases h with h | h
   ·exact .inl (.inl h)
   ·rcases (hown b').1 h with h | h
    ·exact .inr h
    ·exact .inl (.inr h)
 have hltb := lt2 H.length b 0 (by omega) hblk;refine ⟨b,c,t,fr,ρ2,hn2,⟨?_,?_,?_,?_,?_⟩,?_,?_,?_,hheap,hfr.1,hlc,hbn,hltb.2,hf2.own b ⟨H.length,0,by omega,hblk⟩,fun g hg hgb => (gl2 g hg).1 ⟨H.length,0,by omega,by rw [hgb]; exact hblk⟩,fun j y u hy hu => ?_⟩
 ·intro r o hr;rw [hM];have hlt : r < H.length := (zYr.1 hr).1;obtain ⟨w',M,ρ',l,ho⟩ := hO r o hr;exact ho.scope (fun _ h => h) (ob2 r o (by rw [zYD hlt]; exact hr))
 ·exact fun r r' b1 o1 b2 o2 hr hr' => inj2 r r' b1 o1 b2 o2 (by omega) (by omega)
 ·intro r b1 o1 hr hb1;refine ⟨(lt2 r b1 o1 (by omega) hb1).1,fun h => ?_⟩;rcases h with h | h
  ·exact (lt2 r b1 o1 (by omega) hb1).2 h
  ·exact inj2 r H.length b1 o1 b 0 (by omega) (by omega) (by omega) hb1 hblk h
 ·intro b1 h;rcases h with h | h
  ·exact hrel2.xlt b1 h
  ·rw [h]; exact hltb.1
 ·exact fun g hg => ⟨fun ho => (gl2 g hg).1 ((hown g).2 (.inl ho)),(gl2 g hg).2⟩
 ·intro t' ht';rw [hM];have g := he2 t' ht';by_cases htd : t' = d0
  ·subst htd;simp only [up,if_true] at g ⊢;generalize hu : a2.tmps.getD t' undef = u at g;cases g with
   | ptr _ _ _ _ _ hr hle hone hp =>
    obtain ⟨b',o',hb',hu'⟩ := hp hv.symm;rw [hblk] at hb';cases hb';rw [hu'];exact .v _ _
  ·simp only [up,if_neg htd] at g ⊢;obtain ⟨w',M,ρ',u,ho⟩ := hS t' ht' htd;exact ho.scope (fun _ h => h) g
 ·exact ⟨hf2.os,hf2.tape,hf2.output,hf2.size,hf2.keep,fun b1 hb1 => hf2.own b1 ((hown b1).2 (.inl hb1)),hn0,hf2.loc⟩
 ·obtain ⟨ds,k1,k2,k3,k4⟩ := hm2;exact ⟨ds,k1,k2,k3,fun D hD => ⟨(k4 D hD).1,(k4 D hD).2.1,fun ho => (k4 D hD).2.2.1 ((hown D).2 (.inl ho)),(k4 D hD).2.2.2⟩⟩
 ·rw [hM];obtain ⟨w',M,ρ',u',ho⟩ := hZ j y hy;exact ⟨ho.scope (fun _ h => h) (hcells j y u hy hu).1,(hcells j y u hy hu).2⟩
theorem St1.adopt {d0 : Nat} {zs : List AV} (h : St1 B X w0 ρ0 n0 n d0 zs e H a w) : St B X w0 ρ0 n0 n (up e d0 (.ptr H.length 0 0)) (H ++ [.box zs]) a w := by
 obtain ⟨b,c,t,fr,ρ,hn,hrel,he,hf,hm,hheap,hfr,hlc,hbn,hxb,hob,hgb,hcells⟩ := h;have hlen2 : (H ++ [HO.box zs]).length = H.length + 1 := by simp
 obtain ⟨ρ',hρ⟩ : ∃ ρ' : Nat->Loc,ρ' = fun i => if i = H.length then { blk := some (b,0) } else ρ i := ⟨_,rfl⟩
 have p0 : ρ' H.length = { blk := some (b,0) } := by subst hρ; simp
 have po : ∀ i,i < H.length->ρ' i = ρ i := fun i hi => by subst hρ; simp only; rw [if_neg (by omega)]
 have hown : ∀ b',Own ρ' (H.length + 1) b' ↔ (Own ρ H.length b'\/b' = b) := fun b' =>
  ⟨fun ⟨r,o,hr,hb⟩ => by
   by_cases hrl : r = H.length
   ·subst hrl; rw [p0] at hb; cases hb; exact .inr rfl
   ·exact .inl ⟨r,o,by omega,by rw [<- po r (by omega)]; exact hb⟩,fun h => h.elim (fun ⟨r,o,hr,hb⟩ => ⟨r,o,by omega,by rw [po r hr]; exact hb⟩) fun h => ⟨H.length,0,by omega,by rw [p0,h]⟩⟩
 have hM : Mut X ρ' (H.length + 1) = Mut (fun x => X x\/x = b) ρ H.length := by
  funext b'
  refine propext ⟨fun h => ?_,fun h => ?_⟩
  ·rcases h with h | h
   ·exact .inl (.inl h)
   ·rcases (hown b').1 h with h | h
    ·exact .inr h
    ·exact .inl (.inr h)
  ·rcases h with (h | h) | h
   ·exact .inl h
   ·exact .inr ((hown b').2 (.inr h))
   ·exact .inr ((hown b').2 (.inl h))
 have hF : Fut w ρ H.length w ρ' H.length := ⟨rfl,rfl,rfl,zYH _,fun _ _ _ => rfl,fun b ⟨r,o,hr,hb⟩ => .inl ⟨r,o,hr,by rw [<- po r hr]; exact hb⟩,zYH _,fun r hr => .inl (po r hr)⟩;have reloc : ∀ k,k <= H.length->∀ x u,Rep w (Mut (fun x => X x\/x = b) ρ H.length) ρ k x u->Rep w (Mut (fun x => X x\/x = b) ρ H.length) ρ' k x u := fun k hk x u hx =>
  hx.fut hF (fun b _ hb => hb) (fun b hb ho => hb (.inr ho)) hk
 have hltb := hrel.xlt b (.inr rfl);refine ⟨hn,ρ',⟨?_,?_,?_,fun b1 hb1 => hrel.xlt b1 (.inl hb1),?_⟩,?_,?_,?_⟩
 ·intro r o hr;rw [hlen2,hM];by_cases hrl : r < H.length
  ·rw [zYD hrl] at hr;rw [po r hrl];exact (hrel.objs r o hr).map (fun x u hx => (reloc _ (zYH _) x u hx).mono (by omega)) (fun x u hx => reloc 0 (zYO _) x u hx)
  ·have hlt := (zYr.1 hr).1;rw [hlen2] at hlt;obtain rfl : r = H.length := by omega
   have ho : o = .box zs := by simpa using hr.symm
   subst ho;rw [p0];exact ⟨rfl,b,c,t,fr,rfl,hheap,hlc,⟨hfr,fun t' ht => absurd ht (hbn t')⟩,fun j y u hy hu => ⟨(reloc _ (zYH _) y u (hcells j y u hy hu).1).mono (by omega),(hcells j y u hy hu).2⟩⟩
 ·intro r r' b1 o1 b2 o2 hr hr' hne hb1 hb2;rw [hlen2] at hr hr';by_cases h1 : r = H.length
  ·subst h1;rw [p0] at hb1;cases hb1;rw [po r' (by omega)] at hb2;rintro rfl;exact (hrel.lt r' _ _ (by omega) hb2).2 (.inr rfl)
  ·rw [po r (by omega)] at hb1;by_cases h2 : r' = H.length
   ·subst h2;rw [p0] at hb2;cases hb2;rintro rfl;exact (hrel.lt r _ _ (by omega) hb1).2 (.inr rfl)
   ·rw [po r' (by omega)] at hb2;exact hrel.inj r r' b1 o1 b2 o2 (by omega) (by omega) hne hb1 hb2
 ·intro r b1 o1 hr hb1;rw [hlen2] at hr;by_cases h1 : r = H.length
  ·subst h1;rw [p0] at hb1;cases hb1;exact ⟨hltb,hxb⟩
  ·rw [po r (by omega)] at hb1;exact ⟨(hrel.lt r b1 o1 (by omega) hb1).1,fun hx => (hrel.lt r b1 o1 (by omega) hb1).2 (.inl hx)⟩
 ·rw [hlen2];exact fun g hg => ⟨fun ho => ((hown g).1 ho).elim (hrel.gl g hg).1 (hgb g hg),(hrel.gl g hg).2⟩
 ·intro t' ht';rw [hlen2,hM];have g := he t' ht';by_cases htd : t' = d0
  ·subst htd;simp only [up,if_true] at g ⊢;generalize hu : a.tmps.getD t' undef = u at g;cases g;exact .ptr _ _ _ _ _ (by omega) (by rw [p0]; exact zYH _) rfl fun _ => ⟨b,0,by rw [p0],rfl⟩
  ·simp only [up,if_neg htd] at g ⊢;exact (reloc _ (zYH _) _ _ g).mono (by omega)
 ·rw [hlen2];exact ⟨hf.os,hf.tape,hf.output,hf.size,hf.keep,fun b1 hb1 => ((hown b1).1 hb1).elim (hf.own b1) fun h => by rw [h]; exact hob,Nat.le_succ_of_le hf.len,fun r hr => by
   have := hf.len;rw [po r (by omega)];exact hf.loc r hr⟩
 ·rw [hlen2];obtain ⟨ds,k1,k2,k3,k4⟩ := hm;refine ⟨ds,k1,k2,k3,fun D hD => ⟨(k4 D hD).1,(k4 D hD).2.1,fun ho => ?_,(k4 D hD).2.2.2⟩⟩;rcases (hown D).1 ho with h | h
  ·exact (k4 D hD).2.2.1 h
  ·have := (k4 D hD).2.2.2;rw [h,hheap] at this;cases this
theorem zQc {d0 : Nat} {p x : AV} {d : Option Nat} (h : d ≠ some d0) : ups (up e d0 p) d x = up (ups e d x) d0 p := by
 cases d with
 | none => rfl
 | some d =>
  funext t
  simp only [ups,up];by_cases h1 : t = d
  ·rw [if_pos h1,if_neg (fun h2 => h (by rw [<- h1,h2])),if_pos h1]
  ·rw [if_neg h1,if_neg h1]
theorem St1.step {r : Option Nat} {m0 : Nat} {imm : Bool} {o : Oper} {lo : LO} {d0 : Nat} {zs : List AV} {K1 : Env->zB->Prop} {next : Act->World->Prop} {Q : Exit->Act->World->Prop} (hl : zAP P n imm ops o = some lo) (hd : lo.d ≠ some d0) (hr : d0 ∉ lo.rd)
  (h : zAD P [lo] e H K1) (hs : St1 B X w0 ρ0 n0 n d0 zs e H a w) (hn : ∀ e2 H2 a2 w2,K1 e2 H2->(∀ t,lo.d ≠ some t->e2 t = e t)->St1 B X w0 ρ0 n0 n d0 zs e2 H2 a2 w2->next a2 w2) :
  if Region.wanted o (yielded ops a.tmps) then o.wpIn (WR r) m0 P a w next Q else (∀ f,o.about P w a.eval = some f->(WR r).fn f)/\next (a.put o.dst undef) w := by
 obtain ⟨b,c,t,fr,ρ,hn1,hrel,he,hf,hm,hheap,hfr,hlc,hbn,hxb,hob,hgb,hcells⟩ := hs;have hrd : ∀ t ∈ lo.rd,e t = up e d0 (.v (.pointer (some ⟨b,0,none⟩))) t := fun t ht => by
  simp only [up];rw [if_neg (by rintro rfl; exact hr ht)]
 have hone : zAD P [lo] (up e d0 (.v (.pointer (some ⟨b,0,none⟩)))) H fun e2 H2 => ∃ e2',e2 = up e2' d0 (.v (.pointer (some ⟨b,0,none⟩)))/\K1 e2' H2/\∀ t,lo.d ≠ some t->e2' t = e t := by
  have hw : zBi lo.g e = zBi lo.g (up e d0 (.v (.pointer (some ⟨b,0,none⟩)))) := zBV fun t want hg => hrd t (by simp [LO.rd,hg]);refine zCm ?_;rcases zCg h with ⟨g1,g2⟩ | ⟨g1,g2⟩
  ·refine .inl ⟨by rw [<- hw]; exact g1,?_⟩;have g3 := zDX (fun t ht => hrd t (by simp [LO.rd,ht])) g2;refine zBF g3 fun x H2 hx2 => ?_;simp only [zAD] at hx2 ⊢;exact ⟨_,zQc hd,hx2,fun t ht => zBJ ht⟩
  ·refine .inr ⟨by rw [<- hw]; exact g1,?_⟩;simp only [zAD] at g2 ⊢;exact ⟨_,zQc hd,g2,fun t ht => zBJ ht⟩
 have st1 : St ⟨a.defers,False⟩ (fun x => X x\/x = b) w ρ H.length n (up e d0 (.v (.pointer (some ⟨b,0,none⟩)))) H a w := ⟨hn1,ρ,hrel,he,Fut.refl _ _ _,Mk.nil⟩;refine zBl (r := r) (m0 := m0) hl hone st1 fun e'' H'' a'' w'' hK'' hs'' => ?_;obtain ⟨e2,rfl,hK,hkeep⟩ := hK'';obtain ⟨q1,ρ2,q2,q3,q4,ds,k1,k2,k3,k4⟩ := hs'';have hds : ds = [] := k2.resolve_left (fun h => h);subst hds;have hdf : a''.defers = a.defers := by rw [k1]; rfl
 have hbo : ¬ Own ρ H.length b := fun ⟨r,o,hr,hb⟩ => (hrel.lt r b o hr hb).2 (.inr rfl);refine hn e2 H'' a'' w'' hK hkeep ⟨b,c,t,fr,ρ2,q1,q2,q3,hf.trans q4,?_,?_,hfr,hlc,hbn,hxb,hob,hgb,fun j y u hy hu => ⟨(hcells j y u hy hu).1.nextN q4,(hcells j y u hy hu).2⟩⟩
 ·rw [hdf]; exact hm.fut q4
 ·rw [q4.keep b (hrel.xlt b (.inr rfl)) hbo]; exact hheap
theorem zOG {ia is : Nat} (hk : zOH P n hs reg ops ia is = true) : ia < is/\is < ops.size/\(∀ j o,ops[j]? = some o->∃ imm,zAP P n imm ops o = some (zAS P n hs reg ops j))/\((Region.before ops).getD is 0).testBit ia = true /\
  ∃ d0 zs sz tv,zAS P n hs reg ops ia = ⟨some d0,none,.alloc zs⟩/\zAS P n hs reg ops is = ⟨none,none,.store sz (.t d0) (.t tv)⟩/\d0 < n/\(zOF zs = true/\c1s zs = true)/\zs.length = sz/\tv ≠ d0/\tv < n /\
   ∀ i,i < ops.size->i ≠ ia->i ≠ is->(zAS P n hs reg ops i).d ≠ some d0/\d0 ∉ (zAS P n hs reg ops i).rd/\(((Region.before ops).getD is 0).testBit i = true\/(zAS P n hs reg ops i).d ≠ some tv) := by
 unfold zOH at hk;simp only [zYA,zYR,zY9,zZq,zYy] at hk;obtain ⟨⟨⟨⟨h1,h2⟩,h3⟩,h4⟩,h5⟩ := hk;refine ⟨h1.1,h1.2,fun j o ho => ?_,h4,?_⟩
 ·refine ⟨zBn hs reg j,?_⟩;have g1 := h2 j (zYJ.1 ho).1;rw [ho] at g1;unfold zAS;rw [ho];simp only [zYZ,zZ7,zYq] at g1 ⊢;cases hl : zAP P n (zBn hs reg j) ops o with
  | none => rw [hl] at g1; simp at g1
  | some lo => rfl
 ·unfold zJT at h3;split at h3
  ·rename_i d0 zs sz d1 tv e1 e2;simp only [zYA,zZi,zZ7,beq_eq_false_iff_ne,ne_eq,zYy] at h3;obtain ⟨⟨⟨⟨⟨rfl,g2⟩,g3⟩,g4⟩,g5⟩,g6⟩ := h3;refine ⟨_,_,_,_,e1,e2,g2,g3,g4,g5,g6,fun i hi ha hs => ?_⟩;rcases h5 i hi with g | g
   ·omega
   ·rw [e1,e2] at g;simp only [LX.rd,zzaA,List.all_nil,zzaP,zYA,zZi,beq_eq_false_iff_ne,ne_eq,List.contains_eq_mem,zYY,zZq] at g;exact ⟨g.1.1,g.1.2,g.2⟩
  ·cases h3
theorem zPV {ia is : Nat} {r : Option Nat} {m0 : Nat} {K : Env->zB->Prop} {Q : Exit->Act->World->Prop} (hD : zEt (zKV P n hs reg ops ia is) ops T = true) (hE : zAx ops = true) (hc : zOH P n hs reg ops ia is = true)
  (hK : zAR P (hdF (zKV P n hs reg ops ia is) ops.size T) e H fun e1 => zDb P (hdF (zKV P n hs reg ops ia is) ops.size T) e1 (tlF (zKV P n hs reg ops ia is) ops T 0) e1 H fun e' H' => zAD P [zJU P n hs reg ops ia is] e' H' K) (hst : St B X w0 ρ0 n0 n e H a w)
  (hQ : ∀ e' H' a' w',K e' H'->St B X w0 ρ0 n0 n e' H' a' w'->Q .normal a' w') : wpAnyIn (WR r) m0 P .any ops Q ops.size (Array.replicate ops.size false) a { w with drawn := w.drawn + 1 } := by
 obtain ⟨k1,k2,kl,kb,d0,zs,sz,tv,ta,ts,q1,q2,q3,q4,q5,q6⟩ := zOG hc;have hne : ia ≠ is := by omega
 have fa : zKV P n hs reg ops ia is ia = zFg := by simp [zKV]
 have fs : zKV P n hs reg ops ia is is = ⟨some n,none,.build (List.replicate sz (.v (.bool false))) [(0,sz,.t tv)]⟩ := by unfold zKV; rw [if_neg (fun h => hne h.symm),if_pos rfl,ts]
 have fo : ∀ i,i ≠ ia->i ≠ is->zKV P n hs reg ops ia is i = zAS P n hs reg ops i := fun i h1 h2 => by simp [zKV,h1,h2]
 have fe : zJU P n hs reg ops ia is = ⟨some d0,none,.box false (.t tv)⟩ := by simp [zJU,ts,ta]
 rw [fe] at hK;refine zGd (S := fun l e H a w => n0 <= H.length/\(l.getD ia false = false->St B X w0 ρ0 n0 n e H a w)/\(l.getD ia false = true->l.getD is false = false->St1 B X w0 ρ0 n0 n d0 zs e H a w) /\
   (l.getD is false = true->l.getD ia false = true/\(cellsOf (e tv)).length = sz/\c1s (cellsOf (e tv)) = true/\St1 B X w0 ρ0 n0 n d0 (cellsOf (e tv)) e H a w)) hD hE hK ?_ ?_ ?_
 ·obtain ⟨_,_,_,_,hf,_⟩ := id hst;exact ⟨hf.len,fun _ => hst.still ⟨rfl,rfl,rfl,zYH _⟩ rfl,fun h => (by rw [getD_replicate_false] at h; cases h),fun h => (by rw [getD_replicate_false] at h; cases h)⟩
 ·intro l e' H' a' w' hall hsz hk ⟨_,_,_,h3⟩;obtain ⟨_,g4,g5,g6⟩ := h3 (by rw [zV (by omega)]; exact hall is k2);have hk : c1s (cellsOf (e' tv)) = true/\K (up e' d0 (.ptr H'.length 0 0)) (H' ++ [.box (cellsOf (e' tv))]) := hk;exact hQ _ _ _ _ hk.2 g6.adopt
 ·intro i oi e' H' a' w' l K1 next hoi hsz hun hcl hbef ⟨hlen,h0,h1,h2⟩ hone hnext
  have his := (zYJ.1 hoi).1;obtain ⟨imm,hlow⟩ := kl i oi hoi;have gset : ∀ j,(l.setIfInBounds i true).getD j false = if j = i then true else l.getD j false := fun j => by
   rw [zAc];by_cases hji : j = i
   ·rw [if_pos ⟨hji,by omega⟩,if_pos hji]
   ·rw [if_neg fun hh => hji hh.1,if_neg hji]
  have run : ∀ {e3 : Env} {H3 : zB} {K3 : Env->zB->Prop},zAD P [zAS P n hs reg ops i] e3 H3 K3->St B X w0 ρ0 n0 n e3 H3 a' w'->(∀ e2 H2 a2 w2,K3 e2 H2->St B X w0 ρ0 n0 n e2 H2 a2 w2->next a2 w2)->wpOpIn (WR r) m0 P ops Q i next a' w' := fun hone3 hst3 hn3 => by
   have hnx := zBl (r := r) (m0 := m0) hlow hone3 hst3 (next := next) (Q := Q) fun e'' H'' a'' w'' hK'' hs'' => hn3 _ _ _ _ hK'' hs'';unfold wpOpIn;rw [hoi];simp only;exact hnx
  have run1 : ∀ {z : List AV},i ≠ ia->i ≠ is->zAD P [zAS P n hs reg ops i] e' H' K1->St1 B X w0 ρ0 n0 n d0 z e' H' a' w'->(∀ e2 H2 a2 w2,K1 e2 H2->(∀ t,(zAS P n hs reg ops i).d ≠ some t->e2 t = e' t)->St1 B X w0 ρ0 n0 n d0 z e2 H2 a2 w2->next a2 w2)->wpOpIn (WR r) m0 P ops Q i next a' w' := fun hia his2 hone3 hst3 hn3 => by
   obtain ⟨s1,s2,_⟩ := q6 i his hia his2;have hnx := St1.step (r := r) (m0 := m0) (ops := ops) hlow s1 s2 hone3 hst3 (next := next) (Q := Q) hn3;unfold wpOpIn;rw [hoi];simp only;exact hnx
  have len1 : ∀ {z : List AV} {e2 : Env} {H2 : zB} {a2 : Act} {w2 : World},St1 B X w0 ρ0 n0 n d0 z e2 H2 a2 w2->n0 <= H2.length := fun ⟨_,_,_,_,_,_,_,_,hf,_⟩ => hf.len;have len0 : ∀ {e2 : Env} {H2 : zB} {a2 : Act} {w2 : World},St B X w0 ρ0 n0 n e2 H2 a2 w2->n0 <= H2.length := fun ⟨_,_,_,_,hf,_⟩ => hf.len;by_cases hia : i = ia
  ·subst hia;have hisf : l.getD is false = false := by
    cases hb : l.getD is false with
    | false => rfl
    | true => rw [hun] at h2; have := (h2 hb).1; cases this
   have hs0 := h0 hun;rw [fa] at hone;have hone : True/\K1 e' H' := hone;have hone := hone.2;refine run (e3 := e') (H3 := H') (K3 := fun e2 H2 => e2 = up e' d0 (.ptr H'.length 0 0)/\H2 = H' ++ [.box zs]) (by rw [ta,zB2]; exact ⟨q2.2,rfl,rfl⟩) hs0 ?_;rintro e2 H2 a2 w2 ⟨rfl,rfl⟩ hs2;obtain ⟨_,ρ1,hrel1,he1,_,_⟩ := hs0;have hS1 := St.disown q1 hlen (fun r o ho => ⟨_,_,_,_,hrel1.objs r o ho⟩) (fun t ht _ => ⟨_,_,_,_,he1 t ht⟩) (fun j y hy => by obtain ⟨u,rfl⟩ := zHR q2.1 hy; exact ⟨default,fun _ => False,fun _ => {},u,.v _ _⟩) (fun t' ht => by obtain ⟨u,hu⟩ := zHR q2.1 ht; cases hu) hs2;refine hnext _ _ a2 w2 hone ⟨hlen,fun hh => (by rw [gset,if_pos rfl] at hh; cases hh),fun _ _ => hS1,fun hh => (by rw [gset,if_neg (fun h => hne h.symm),hisf] at hh; cases hh)⟩
  ·by_cases his2 : i = is
   ·subst his2;have hial : l.getD ia false = true := zP hcl i oi ia hoi kb hbef;obtain ⟨b,c,t,fr,ρ1,p1,hrel1,he1,p4,p5,p6,p7,p8,p9,p10,p11,p12,p13⟩ := id (h1 hial hun);have hs1 := (h1 hial hun).adopt;rw [fs] at hone;have hone : (((cellsOf (e' tv)).length = sz/\0 + sz <= (List.replicate sz (AV.v (.bool false))).length/\c1s (cellsOf (e' tv)) = true)/\True)/\K1 (up e' n (.agg (splice (List.replicate sz (.v (.bool false))) 0 (cellsOf (e' tv))))) H' := hone;obtain ⟨⟨⟨g1,_,g3⟩,_⟩,hK1⟩ := hone;have hev : up e' d0 (.ptr H'.length 0 0) tv = e' tv := by simp only [up]; rw [if_neg q4]
    have hspl : splice zs 0 (cellsOf (e' tv)) = cellsOf (e' tv) := by
     simp only [splice,zZ8,zYG,zY0];rw [List.drop_of_length_le (by omega),zY1]
    refine run (e3 := up e' d0 (.ptr H'.length 0 0)) (H3 := H' ++ [.box zs]) (K3 := fun e2 H2 => e2 = up e' d0 (.ptr H'.length 0 0)/\H2 = H' ++ [.box (cellsOf (e' tv))]) ?_ hs1 ?_
    ·rw [ts];show (rStore sz (up e' d0 (.ptr H'.length 0 0) d0) (up e' d0 (.ptr H'.length 0 0) tv) (H' ++ [.box zs])).ok/\_ = _/\(rStore sz (up e' d0 (.ptr H'.length 0 0) d0) (up e' d0 (.ptr H'.length 0 0) tv) (H' ++ [.box zs])).H = _;rw [hev];simp only [up,if_true];have hget : (H' ++ [HO.box zs])[H'.length]? = some (.box zs) := by simp
     simp only [rStore,Res.also,hget,rStoreO,hspl];refine ⟨⟨⟨trivial,rfl⟩,by omega,g1,g3⟩,rfl,?_⟩;simp
    ·rintro e2 H2 a2 w2 ⟨rfl,rfl⟩ hs2;have hee : ∀ t,t < n->t ≠ d0->Rep w' (Mut (fun x => X x\/x = b) ρ1 H'.length) ρ1 H'.length (e' t) (a'.tmps.getD t undef) := fun t ht htd => by
      have := he1 t ht;simp only [up,if_neg htd] at this;exact this
     have hcv : ∀ (j : Nat) (y : AV),(cellsOf (e' tv))[j]? = some y->∃ w' M ρ' u,Rep w' M ρ' H'.length y u := fun j y hy => by
      have hrx : ∃ u,Rep w' (Mut (fun x => X x\/x = b) ρ1 H'.length) ρ1 H'.length (e' tv) u := ⟨_,hee tv q5 q4⟩;obtain ⟨u,hu⟩ := hrx;obtain ⟨hcl,hcr⟩ := zB6 hu g3;have hj := (zYr.1 hy).1;exact ⟨_,_,_,_,(hcr j y (u.cells[j]'(by omega)) hy (by simp [show j < u.cells.size by omega])).1⟩
     have hS1 := St.disown q1 hlen (fun r o ho => ⟨_,_,_,_,hrel1.objs r o ho⟩) (fun t ht htd => ⟨_,_,_,_,hee t ht htd⟩) hcv (fun t' ht => by
      have := zYR.1 g3 _ (zYW ht);cases this) hs2
     have hev2 : up e' n (.agg (splice (List.replicate sz (.v (.bool false))) 0 (cellsOf (e' tv)))) tv = e' tv := by simp only [up]; rw [if_neg (by omega)]
     have hS2 : St1 B X w0 ρ0 n0 n d0 (cellsOf (e' tv)) (up e' n (.agg (splice (List.replicate sz (.v (.bool false))) 0 (cellsOf (e' tv))))) H' a2 w2 := by
      obtain ⟨b,c,t,fr,ρ1,p1,hrel1,he1,p4⟩ := hS1;refine ⟨b,c,t,fr,ρ1,p1,hrel1,fun t' ht' => ?_,p4⟩;have := he1 t' ht';simp only [up] at this ⊢;by_cases h : t' = d0
      ·rw [if_pos h] at this ⊢; exact this
      ·rw [if_neg h] at this ⊢;rw [if_neg (by omega)];exact this
     refine hnext _ _ a2 w2 hK1 ⟨hlen,fun hh => (by rw [gset,if_neg hne,hial] at hh; cases hh),fun _ hh => (by rw [gset,if_pos rfl] at hh; cases hh),fun _ => ⟨by rw [gset,if_neg hne]; exact hial,by rw [hev2]; exact g1,by rw [hev2]; exact g3,by rw [hev2]; exact hS2⟩⟩
   ·rw [fo i hia his2] at hone;have ga : (l.setIfInBounds i true).getD ia false = l.getD ia false := by rw [gset,if_neg (fun h => hia h.symm)]
    have gs : (l.setIfInBounds i true).getD is false = l.getD is false := by rw [gset,if_neg (fun h => his2 h.symm)]
    cases hla : l.getD ia false with
    | false =>
     refine run hone (h0 hla) fun e2 H2 a2 w2 hK hs => hnext _ _ _ _ hK ⟨len0 hs,fun _ => hs,fun hh => (by rw [ga,hla] at hh; cases hh),fun hh => ?_⟩;rw [gs] at hh;have := (h2 hh).1;rw [hla] at this;cases this
    | true =>
     cases hls : l.getD is false with
     | false => exact run1 hia his2 hone (h1 hla hls) fun e2 H2 a2 w2 hK _ hs => hnext _ _ _ _ hK ⟨len1 hs,fun hh => (by rw [ga,hla] at hh; cases hh),fun _ _ => hs,fun hh => (by rw [gs,hls] at hh; cases hh)⟩
     | true =>
      obtain ⟨_,g4,g5,g6⟩ := h2 hls;refine run1 hia his2 hone g6 fun e2 H2 a2 w2 hK hkeep hs => ?_;have hev : e2 tv = e' tv := hkeep tv ?_
      ·exact hnext _ _ _ _ hK ⟨len1 hs,fun hh => (by rw [ga,hla] at hh; cases hh),fun _ hh => (by rw [gs,hls] at hh; cases hh),fun _ => ⟨by rw [ga]; exact hla,by rw [hev]; exact g4,by rw [hev]; exact g5,by rw [hev]; exact hs⟩⟩
      ·rcases (q6 i his hia his2).2.2 with g | g
       ·obtain ⟨os,hos⟩ : ∃ os,ops[is]? = some os := ⟨ops[is]'(by omega),by simp [k2]⟩;have := zP hcl is os i hos g (hcl is os hos hls);rw [hun] at this;cases this
       ·exact g
end
section
variable {B : DB} {P : Program} {w w0 : World} {X : Nat → Prop} {ρ ρ0 : Nat → Loc} {H : zB} {e : Env} {a : Act} {n n0 : Nat}
def zUr : Out → Exit
 | .normal => .normal
 | .exit id => .exit id
 | .ret => .ret
 | .pan v => .panic [{ v,recovered := false }]
theorem zHw {x : LX} {b : Bool} (h : ev e x = bool b) : zHx e x b = e := by
 cases x with
 | t k => exact zK2 h
 | c _ => rfl
theorem zNu {p : Nat → Prop} (h : ∃ n,p n) : ∃ n,p n ∧ ∀ m,p m → n ≤ m := by
 obtain ⟨n,hn⟩ := h
 induction n using Nat.strongRecOn with
 | _ n ih =>
  by_cases hh : ∃ m,m < n ∧ p m
  ·obtain ⟨m,hm,hp⟩ := hh; exact ih m hm hp
  ·exact ⟨n,hn,fun m hm => zzay fun hlt => hh ⟨m,hlt,hm⟩⟩
open Classical in
theorem zFD {F : Fence} {m0 : Nat} {c : Code} {Q : Exit → Act → World → Prop} (I : Nat → Act → World → Prop) (k : Nat) (h0 : I k a w)
  (round : ∀ k a w,I k a w → c.wpIn F m0 P (Exit.then (fun a' w' => ∃ k',k' < k ∧ I k' a' w') Q) a w) : (Code.loop c).wpIn F m0 P Q a w := by
 refine wpIn_loop (fun a w => ∃ k,I k a w) (fun a w => if hx : ∃ k,I k a w then Classical.choose (zNu hx) else 0) ⟨k,h0⟩ ?_
 intro a w hs
 obtain ⟨hI,hl⟩ := zZO (zNu hs)
 refine wpIn_mono (round _ a w hI) fun e a' w' hh => ?_
 cases e with
 | normal =>
  obtain ⟨k',hk,hI'⟩ := hh
  refine ⟨⟨k',hI'⟩,?_⟩
  rw [dif_pos ⟨k',hI'⟩,dif_pos hs]
  exact zzaJ ((zZO (zNu ⟨k',hI'⟩)).2 _ hI') hk
 | _ => exact hh
theorem zJa {M : Nat → Prop} {N k : Nat} : ∀ (ps : List Nat) (xs : List AV) (us : List Value) {e : Env} {tmps : Array Value},xs.length = us.length → xs.length = ps.length → tmps.size = N → (∀ p ∈ ps,p < N) →
  (∀ t,t < N → Rep w M ρ k (e t) (tmps.getD t undef)) → (∀ (i : Nat) (x : AV) (u : Value),xs[i]? = some x → us[i]? = some u → Rep w M ρ k x u) →
  ((ps.zip us).foldl (fun tmps (t,a) => tmps.setIfInBounds t a) tmps).size = N ∧ ∀ t,t < N → Rep w M ρ k (upL e ps xs t) (((ps.zip us).foldl (fun tmps (t,a) => tmps.setIfInBounds t a) tmps).getD t undef)
 | [],xs,us,e,tmps,h1,h2,h3,_,h4,_ => by
  cases xs with
  | nil => exact ⟨h3,h4⟩
  | cons x xs => simp at h2
 | p :: ps,[],us,e,tmps,h1,h2,h3,_,h4,_ => by simp at h2
 | p :: ps,x :: xs,[],e,tmps,h1,h2,h3,_,h4,_ => by simp at h1
 | p :: ps,x :: xs,u :: us,e,tmps,h1,h2,h3,hp,h4,h5 => by
  simp only [List.zip_cons_cons,zzam,upL]
  refine zJa ps xs us (by simpa using h1) (by simpa using h2) (by simpa using h3) (fun q hq => hp q (by simp [hq])) (fun t ht => ?_) (fun i x u hx hu => h5 (i + 1) x u (by simpa using hx) (by simpa using hu))
  simp only [up]
  by_cases htp : t = p
  ·subst htp
   rw [if_pos rfl]
   have : (tmps.setIfInBounds t u).getD t undef = u := by simp [zYV,h3,ht]
   rw [this]
   exact h5 0 x u rfl rfl
  ·rw [if_neg htp]
   have : (tmps.setIfInBounds p u).getD t undef = tmps.getD t undef := by
    simp only [zYV]
    rw [zZr (fun e => htp e.symm)]
   rw [this]
   exact h4 t ht
theorem zJ5 (w : World) (b : Nat) (o : Obj) : Same w (w.putObj b o) := ⟨rfl,rfl,rfl,by simp⟩
theorem HRel.setLp (h : HRel w X ρ H) {r l : Nat} {lr : Go.Loop} {e0 : Env} {st : zQY} (st' : zQY) (hr : H[r]? = some (.lp l lr e0 st)) :
  ∃ ρ',HRel (w.putObj l (.loop (zCj lr st'))) X ρ' (H.set r (.lp l lr e0 st')) ∧ Fut w ρ H.length (w.putObj l (.loop (zCj lr st'))) ρ' (H.set r (.lp l lr e0 st')).length := by
 have hlt : r < H.length := (zYr.1 hr).1
 obtain ⟨h1,h2,h3,h4⟩ := h.objs r _ hr
 have hb := (h.lt r l 0 hlt h2).1
 obtain ⟨ρ',_,g2,g3⟩ := h.setAt (w' := w.putObj l (.loop (zCj lr st'))) hlt (ρ r) (.lp l lr e0 st') (zJ5 _ _ _) (.inl rfl) (fun b o hbl => .inl ⟨o,hbl⟩)
  (fun b _ hne => World.putObj_heap_other fun e => by subst e; exact hne 0 h2)
  (fun ρ' _ hf => ⟨h1,h2,World.putObj_heap_same hb,fun t u hu => (h4 t u hu).nextN hf⟩)
 exact ⟨ρ',g2,g3⟩
theorem HRel.setDead (h : HRel w X ρ H) {r l : Nat} {lr : Go.Loop} {e0 : Env} {st : zQY} (o : Obj) (hr : H[r]? = some (.lp l lr e0 st)) :
  ∃ ρ',HRel (w.putObj l o) X ρ' (H.set r .dead) ∧ Fut w ρ H.length (w.putObj l o) ρ' (H.set r .dead).length := by
 have hlt : r < H.length := (zYr.1 hr).1
 obtain ⟨h1,h2,h3,h4⟩ := h.objs r _ hr
 obtain ⟨ρ',_,g2,g3⟩ := h.setAt (w' := w.putObj l o) hlt (ρ r) .dead (zJ5 _ _ _) (.inl rfl) (fun b o hbl => .inl ⟨o,hbl⟩)
  (fun b _ hne => World.putObj_heap_other fun e => by subst e; exact hne 0 h2) (fun ρ' _ hf => trivial)
 exact ⟨ρ',g2,g3⟩
theorem zB1 {hs : List Hn} : ∀ (c : Code) {B : DB} {X : Nat → Prop} {w0 : World} {ρ0 : Nat → Loc} {n0 : Nat} {rd : Option Nat} {m0 : Nat} {lc : LCode} {e : Env} {H : zB} {a : Act} {w : World} {K : Out → Env → zB → Prop} {Q : Exit → Act → World → Prop},zEv P n hs c = some lc → (rd = none ∧ B.ok ∨ nr lc = true) → awp P lc e H K → St B X w0 ρ0 n0 n e H a w →
  (∀ o e' H' a' w',K o e' H' → St B X w0 ρ0 n0 n e' H' a' w' → Q (zUr o) a' w') → c.wpIn (WR rd) m0 P Q a w := by
 intro c
 induction c with
 | skip =>
  intro B X w0 ρ0 n0 rd m0 lc e H a w K Q hl hrd h hst hQ
  simp only [zEv,zYq] at hl
  subst hl
  exact wpIn_skip (hQ .normal _ _ _ _ h hst)
 | region id ops b =>
  intro B X w0 ρ0 n0 rd m0 lc e H a w K Q hl hrd h hst hQ
  cases b with
  | false =>
   simp only [zEv] at hl
   split at hl
   ·exact wpIn_region_list (zD4 (fun e' H' a' w' hk hs' => hQ .normal _ _ _ _ hk hs') (fun v e' H' a' w' hk hs' => hQ (.pan v) _ _ _ _ hk hs') _ _ _ _ _ _ _ hl h hst)
   obtain ⟨los,h1,rfl⟩ := zAo hl
   exact wpIn_region_list (zIn (fun e' H' a' w' hk hs' => hQ .normal _ _ _ _ hk hs') _ _ _ _ _ _ _ h1 h hst)
  | true =>
   simp only [zEv] at hl
   split at hl
   ·rename_i T hT
    split at hl
    ·unfold zQQ at hl
     split at hl
     ·rename_i hc
      simp only [zYA] at hc
      obtain ⟨⟨⟨c1,c2⟩,c3⟩,c4⟩ := hc
      simp only [zYq] at hl
      subst hl
      refine zBH (hs := hs) c4 ?_
      exact zLL c1 c2 c3 h hst fun e' H' a' w' hk hs' => hQ .normal _ _ _ _ hk hs'
     ·cases hl
    split at hl
    ·unfold varC at hl
     split at hl
     ·rename_i hc
      simp only [zYA] at hc
      obtain ⟨⟨⟨c1,c2⟩,c3⟩,c4⟩ := hc
      simp only [zYq] at hl
      subst hl
      refine zBH (hs := hs) c4 ?_
      exact zPV c1 c2 c3 h hst fun e' H' a' w' hk hs' => hQ .normal _ _ _ _ hk hs'
     ·cases hl
    split at hl
    ·split at hl
     ·rename_i hc
      simp only [zYA] at hc
      obtain ⟨⟨⟨⟨⟨⟨⟨c1,c2⟩,c2'⟩,c5⟩,c6⟩,c7⟩,c3⟩,c4⟩ := hc
      simp only [zYq] at hl
      subst hl
      refine zBH (hs := hs) c3 ?_
      exact zN3 c1 c2 c2' c5 c6 c7 c4 h hst (fun e' H' a' w' hk hs' => hQ .normal _ _ _ _ hk hs') fun v H' a' w' hk hs' => hQ (.pan v) _ _ _ _ hk hs'
     ·unfold zUq at hl
      split at hl
      ·rename_i los hlo
       split at hl
       ·rename_i hc
        simp only [zYA] at hc
        obtain ⟨⟨⟨⟨⟨⟨c1,c2⟩,c2'⟩,c5⟩,c6⟩,c7⟩,c3⟩ := hc
        simp only [zYq] at hl
        subst hl
        refine zBH (hs := hs) c3 ?_
        exact zN2 c1 c2 c2' c5 c6 c7 hlo h hst fun e' H' a' w' hk hs' => hQ .normal _ _ _ _ hk hs'
       ·cases hl
      ·cases hl
    split at hl
    ·split at hl
     ·rename_i hc
      simp only [zYA] at hc
      obtain ⟨⟨⟨c1,c2⟩,c3⟩,c4⟩ := hc
      simp only [zYq] at hl
      subst hl
      refine zBH (hs := hs) c3 ?_
      exact zGc c1 c2 c4 h hst (fun e' H' a' w' hk hs' => hQ .normal _ _ _ _ hk hs') fun v H' a' w' hk hs' => hQ (.pan v) _ _ _ _ hk hs'
     ·cases hl
    split at hl
    ·rename_i hc
     simp only [zYA] at hc
     obtain ⟨⟨⟨c1,c2⟩,c3⟩,c4⟩ := hc
     simp only [zYq] at hl
     subst hl
     refine zBH (hs := hs) c3 ?_
     exact zGe c1 c2 c4 h hst fun e' H' a' w' hk hs' => hQ .normal _ _ _ _ hk hs'
    ·cases hl
   split at hl
   ·cases hl
   ·split at hl
    ·rename_i hd tl h1 h2
     split at hl
     ·rename_i hc
      simp only [zYA,zZq,zYy] at hc
      obtain ⟨⟨⟨c1,c2⟩,c3⟩,c4⟩ := hc
      simp only [zYq] at hl
      subst hl
      refine zBH (hs := hs) c3 ?_
      rcases c1 with c1 | c1
      ·exact zLK h1 h2 c1 c2 c3 c4 h hst fun e' H' a' w' hk hs' => hQ .normal _ _ _ _ hk hs'
      ·exact zJL h1 h2 c1 c2 c3 c4 h hst fun e' H' a' w' hk hs' => hQ .normal _ _ _ _ hk hs'
     ·cases hl
    ·cases hl
 | seq x y ihx ihy =>
  intro B X w0 ρ0 n0 rd m0 lc e H a w K Q hl hrd h hst hQ
  simp only [zEv] at hl
  split at hl
  ·rename_i lx ly h1 h2
   simp only [zYq] at hl
   subst hl
   simp only [nr,zYA] at hrd
   refine wpIn_seq (ihx h1 (hrd.imp id (·.1)) h hst fun o e' H' a' w' hk hs' => ?_)
   cases o with
   | normal => exact ihy h2 (hrd.imp id (·.2)) hk hs' hQ
   | exit id => exact hQ (.exit id) _ _ _ _ hk hs'
   | ret => exact hQ .ret _ _ _ _ hk hs'
   | pan v => exact hQ (.pan v) _ _ _ _ hk hs'
  ·cases hl
 | cond c x y ihx ihy =>
  intro B X w0 ρ0 n0 rd m0 lc e H a w K Q hl hrd h hst hQ
  simp only [zEv] at hl
  split at hl
  ·rename_i lcx lx ly h0 h1 h2
   simp only [zYq] at hl
   subst hl
   simp only [nr,zYA] at hrd
   simp only [awp] at h
   have hst' := hst
   obtain ⟨_,ρ,_,he,_⟩ := hst'
   have hr := zAd he h0
   split at h
   ·rename_i t ht
    rw [ht] at hr
    have hv := zAV hr
    refine wpIn_cond hv ?_
    cases t with
    | true =>
     rw [if_pos rfl,zHw ht] at h
     exact ihx h1 (hrd.imp id (·.1)) h hst hQ
    | false =>
     rw [if_neg (by simp),zHw ht] at h
     exact ihy h2 (hrd.imp id (·.2)) h hst hQ
   ·exact h.elim
  ·cases hl
 | block id c ih =>
  intro B X w0 ρ0 n0 rd m0 lc e H a w K Q hl hrd h hst hQ
  simp only [zEv] at hl
  obtain ⟨lb,h1,rfl⟩ := zAo hl
  simp only [nr] at hrd
  refine wpIn_block (ih h1 hrd h hst fun o e' H' a' w' hk hs' => ?_)
  cases o with
  | normal => exact hQ .normal _ _ _ _ hk hs'
  | exit j =>
   simp only at hk
   simp only [zUr,Exit.inBlock]
   split
   ·rename_i hj; rw [if_pos hj] at hk; exact hQ .normal _ _ _ _ hk hs'
   ·rename_i hj; rw [if_neg hj] at hk; exact hQ (.exit j) _ _ _ _ hk hs'
  | ret => exact hQ .ret _ _ _ _ hk hs'
  | pan v => exact hQ (.pan v) _ _ _ _ hk hs'
 | loop c ih =>
  intro B X w0 ρ0 n0 rd m0 lc e H a w K Q hl hrd h hst hQ
  simp only [zEv] at hl
  obtain ⟨lb,h1,rfl⟩ := zAo hl
  simp only [nr] at hrd
  obtain ⟨I,μ,h2,h3⟩ := h
  refine zFD (fun k a w => ∃ e H,I e H ∧ μ e H = k ∧ St B X w0 ρ0 n0 n e H a w) (μ e H) ⟨e,H,h2,rfl,hst⟩ ?_
  rintro k a w ⟨e,H,hI,rfl,hst⟩
  refine ih h1 hrd (h3 e H hI) hst fun o e' H' a' w' hk hs' => ?_
  cases o with
  | normal => exact ⟨_,hk.2,e',H',hk.1,rfl,hs'⟩
  | exit id => exact hQ (.exit id) _ _ _ _ hk hs'
  | ret => exact hQ .ret _ _ _ _ hk hs'
  | pan v => exact hQ (.pan v) _ _ _ _ hk hs'
 | exit id =>
  intro B X w0 ρ0 n0 rd m0 lc e H a w K Q hl hrd h hst hQ
  simp only [zEv,zYq] at hl
  subst hl
  exact wpIn_exit (hQ (.exit id) _ _ _ _ h hst)
 | ret =>
  intro B X w0 ρ0 n0 rd m0 lc e H a w K Q hl hrd h hst hQ
  simp only [zEv,zYq] at hl
  subst hl
  exact wpIn_ret (hQ .ret _ _ _ _ h hst)
 | rangeFunc g ps asg bdy iha ihb =>
  intro B X w0 ρ0 n0 rd m0 lc e H a w K Q hl hrd h hst hQ
  simp only [zEv] at hl
  split at hl
  ·rename_i g' la lb hg ha hb
   split at hl
   ·rename_i hc
    simp only [zYA,zYR,zYy] at hc
    obtain ⟨⟨nra,nrb⟩,hps⟩ := hc
    simp only [zYq] at hl
    subst hl
    obtain ⟨rfl,hok⟩ : rd = none ∧ B.ok := hrd.resolve_right (by simp [nr])
    simp only [awp] at h
    obtain ⟨hn,ρ,hrel,he,hf,hm⟩ := hst
    have rf := zAd he hg
    split at h
    ·rename_i k first caps hev
     rw [hev] at rf
     generalize hfe : a.eval g = fv at rf
     cases rf with
     | fn _ _ _ _ fs us h1 h2 h3 h4 =>
      refine wpIn_rangeFunc fun fn _ => ?_
      obtain ⟨lr,hlr⟩ : ∃ lr : Go.Loop,lr = { state := .ready,pending := none,fn,tmps := a.tmps,params := ps,assign := asg,body := bdy,defers := w.heap.size } := ⟨_,rfl⟩
      have hlr0 : (lr.state = .ready ∧ lr.pending = none) ∧ (lr.tmps = a.tmps ∧ lr.params = ps) ∧ lr.assign = asg ∧ lr.body = bdy := by subst hlr; exact ⟨⟨rfl,rfl⟩,⟨rfl,rfl⟩,rfl,rfl⟩
      obtain ⟨⟨l1,l2⟩,⟨l3,l4⟩,l5,l6⟩ := hlr0
      have hlb : ∀ st o,zCj { zCj lr st with state := .done,pending := some (zQE o) } .ready = zCj lr (.done o) := by intro st o; cases st <;> rfl
      obtain ⟨w1,hw1⟩ : ∃ w1,(w.alloc (.deferred (some []))).alloc (.loop lr) = w1 := ⟨_,rfl⟩
      obtain ⟨a1,a2⟩ := hrel.more (Same.alloc w (.deferred (some []))) (zAW w _)
      obtain ⟨ρ1,p1,p2,p3⟩ := a1.push (w' := w1) { blk := some (w.heap.size + 1,0) } (.lp (w.heap.size + 1) lr e .ready) (by rw [← hw1]; exact Same.alloc _ _) (fun b o hbl => by simp at hbl; obtain ⟨rfl,_⟩ := hbl; rw [← hw1]; simp) (by rw [← hw1]; exact zAW _ _)
       (fun ρ' hf' hl' => ⟨rfl,rfl,by rw [← hw1]; have := World.alloc_heap_new (w.alloc (.deferred (some []))) (.loop lr); rwa [World.size_alloc] at this,fun t u hu => by
        rw [l3] at hu
        have htl : t < n := by rw [← hn]; exact (zYJ.1 hu).1
        have := he t htl
        rw [show a.tmps.getD t undef = u by simp [zYV,hu]] at this
        exact (this.nextN a2).nextN hf'⟩)
      have hfw := a2.trans p3
      have hD1 : w1.heap[w.heap.size]? = some (.deferred (some [])) := by rw [← hw1]; exact (Below.heap_alloc _ _ _ (by simp)).trans (World.alloc_heap_new w _)
      have hDs : w.heap.size < w1.heap.size := by rw [← hw1]; simp; omega
      have hDo : ¬ Own ρ1 (H ++ [HO.lp (w.heap.size + 1) lr e .ready]).length w.heap.size := by
       rintro ⟨r,o,hr,hbl⟩
       by_cases hrl : r = H.length
       ·subst hrl; rw [p1] at hbl; simp at hbl
       ·have hr' : r < H.length := by simp at hr; omega
        rcases p3.loc r hr' with h' | h'
        ·rw [h'] at hbl
         have := (hrel.lt r _ _ hr' hbl).1
         omega
        ·have h9 : ∃ b o,(ρ1 r).blk = some (b,o) := ⟨_,_,hbl⟩
         have := p2.lt r _ _ hr hbl
         rcases p3.own _ ⟨r,o,hr,hbl⟩ with ⟨r',o',hr2,hbl2⟩ | h'
         ·have := (hrel.lt r' _ _ hr2 hbl2).1; omega
         ·rw [World.size_alloc] at h'; omega
      have hmk : Mk B w0 w1 ρ1 (H ++ [HO.lp (w.heap.size + 1) lr e .ready]).length (zKk w.heap.size :: a.defers) := by
       obtain ⟨ds,d1,d0,d2,d3⟩ := hm.fut hfw
       obtain ⟨ds',d1',d0',d2',d3'⟩ := hm
       have hdd : ds = ds' := by
        rw [d1] at d1'
        replace d1' := zzaQ d1'
        clear d2 d3 d2' d3' d1 d0 d0'
        induction ds generalizing ds' with
        | nil => cases ds' with
         | nil => rfl
         | cons _ _ => simp at d1'
        | cons D ds ih => cases ds' with
         | nil => simp at d1'
         | cons D' ds' => simp [zKk] at d1'; rw [d1'.1,ih ds' (by simpa [zKk] using d1'.2)]
       subst hdd
       refine ⟨w.heap.size :: ds,by rw [zZA,zYB,d1],.inl hok,zzaD.2 ⟨fun hin => ?_,d2⟩,fun D hD => ?_⟩
       ·have := (d3' _ hin).2.1; omega
       ·rcases zY5.1 hD with rfl | hD
        ·exact ⟨hf.size,hDs,hDo,hD1⟩
        ·exact d3 D hD
      have hY : ∀ (args : List AV) (H1 : zB) (r : Nat) (R : AV → zB → Prop),args.length = ps.toList.length → H1[r]? = some (.lp (w.heap.size + 1) lr e .ready) →
        (awp P la (upL e ps.toList args) H1 fun o e1 H2 => match o with
         | .normal => H2[r]? = some (.lp (w.heap.size + 1) lr e .ready) ∧ awp P lb e1 (H2.set r (.lp (w.heap.size + 1) lr e .busy)) (zQh (w.heap.size + 1) lr e r R)
         | _ => False) → AYield P (w.heap.size + 1) args H1 R := by
       intro args H1 r R hal hr1 hrun X' ρ' w' vs hrel' hargs'
       obtain ⟨_,_,q3,q4⟩ := hrel'.objs r _ hr1
       have q3' : w'.heap[w.heap.size + 1]? = some (.loop lr) := q3
       refine ⟨lr.fn,_,lr.assign,lr.body,run_yield q3' (by rw [← hargs'.1,hal,l4]; simp),roundIn_of_wpIn trivial ?_⟩
       rw [l5,l6,l3,l4,← zzaj,Array.toList_zip]
       obtain ⟨u1,u2⟩ := zJa (w := w') (M := Mut X' ρ' H1.length) (ρ := ρ') (k := H1.length) (N := n) (e := e) (tmps := a.tmps) ps.toList args vs.toList (by simpa using hargs'.1) hal hn (fun p hp => hps p hp)
        (fun t ht => q4 t _ (by rw [l3]; simp [zYV,hn,ht])) (fun i x u hx hu => hargs'.2 i x u hx (by simpa using hu))
       refine iha (B := ⟨[],True⟩) (X := X') (w0 := w') (ρ0 := ρ') (n0 := H1.length) (rd := some (w.heap.size + 1)) ha (.inr nra) hrun ⟨u1,ρ',hrel',u2,Fut.refl _ _ _,Mk.nil⟩ ?_
       intro o e1 H2 a1 w1' hk hs1
       cases o with
       | normal =>
        obtain ⟨hr2,hk2⟩ := hk
        obtain ⟨s1,ρ2,s2,s3,s4,s5⟩ := hs1
        have q5 : w1'.heap[w.heap.size + 1]? = some (.loop lr) := (s2.objs r _ hr2).2.2.1
        obtain ⟨ρ3,t2,t3⟩ := s2.setLp .busy hr2
        refine ⟨_,run_beginRound q5 l1,ihb (B := ⟨[],True⟩) (X := X') (w0 := w') (ρ0 := ρ') (n0 := H1.length) (rd := some (w.heap.size + 1)) hb (.inr nrb) hk2 ⟨s1,ρ3,t2,fun t ht => (s3 t ht).nextN t3,s4.trans t3,s5.fut t3⟩ ?_⟩
        intro o e2 H3 a2 w2' hk3 hs3
        obtain ⟨hr3,hR⟩ := hk3
        obtain ⟨_,ρ4,v2,_,v4,_⟩ := hs3
        have q6 : w2'.heap[w.heap.size + 1]? = some (.loop (zCj lr .busy)) := (v2.objs r _ hr3).2.2.1
        cases o with
        | normal =>
         obtain ⟨ρ5,x2,x3⟩ := v2.setLp .ready hr3
         have hrec : ({ zCj lr .busy with state := if (none : Option Code).isNone then LoopState.ready else .done,pending := none } : Go.Loop) = zCj lr .ready := by
          cases lr; simp only at l1 l2; subst l1; subst l2; rfl
         refine ⟨_,_,run_endRound none q6,?_⟩
         rw [hrec]
         exact ⟨_,bool true,_,ρ5,rfl,hR,x2,.v _ _,v4.trans x3⟩
        | exit id =>
         obtain ⟨ρ5,x2,x3⟩ := v2.setLp (.done (some id)) hr3
         exact ⟨_,_,run_endRound (some (.exit id)) q6,_,bool false,_,ρ5,rfl,hR,x2,.v _ _,v4.trans x3⟩
        | ret =>
         obtain ⟨ρ5,x2,x3⟩ := v2.setLp (.done none) hr3
         exact ⟨_,_,run_endRound (some .ret) q6,_,bool false,_,ρ5,rfl,hR,x2,.v _ _,v4.trans x3⟩
        | pan v => exact hR.elim
       | exit id => exact hk.elim
       | ret => exact hk.elim
       | pan v => exact hk.elim
      obtain ⟨⟨fn',hfn,hbody,hname⟩,hcall⟩ := h (w.heap.size + 1) lr hY
      refine ⟨w.heap.size + 1,[zKk w.heap.size],w1,{ target := .fn (.func k) us,args := fs ++ #[.func (.yield (w.heap.size + 1)) #[] #[]] },w1,k,fs ++ #[.func (.yield (w.heap.size + 1)) #[] #[]] ++ us,w1,?_,?_,?_,?_,zEw,?_⟩
      ·rw [← hw1,hlr]; exact run_enterLoop_outer _ _ _ _ _
      ·simp only [resolve,hfe,Deferred.ofValue,Sem.run_bind,Sem.run_pure,Result.andThen_ok]
       simp [Act.eval]
      ·intro f' _; trivial
      ·simp only [Sem.run_bind,Sem.run_pure,Result.andThen_ok,invoke,callFunc,run_program,hfn,hname,zYM,if_false,hbody]
      ·refine zD9 ((hcall X ρ1 w1 _ p2 ⟨by simp [h1,h2]; omega,?_⟩).mono ?_)
       ·intro i x u hx hu
        rw [zY8,zY7] at hx
        rw [zzak,zZc] at hu
        by_cases hi : i < first.length
        ·rw [if_pos hi] at hx
         rw [if_pos (by omega)] at hu
         exact (h3 i x u hx hu).nextN hfw
        ·rw [if_neg hi,zY7] at hx
         rw [if_neg (by omega),zZc] at hu
         by_cases hj : i - first.length < 1
         ·rw [if_pos (by simpa using hj)] at hx
          rw [if_pos (by simp; omega)] at hu
          have e1 : i - first.length = 0 := by omega
          have e2 : i - fs.size = 0 := by omega
          rw [e1] at hx
          rw [e2] at hu
          simp at hx hu
          subst hx; subst hu
          exact .v _ _
         ·rw [if_neg (by simpa using hj)] at hx
          rw [if_neg (by simp; omega)] at hu
          simp only [zYs,zYw,zzaO] at hx hu
          exact (h4 (i - first.length - 1) x u hx (by rw [← h1] at hu; exact hu)).nextN hfw
       ·rintro en w3 ⟨v,x,H',ρ',rfl,⟨st,hst1,hout⟩,g1,g2,g3⟩
        have q7 : w3.heap[w.heap.size + 1]? = some (.loop (zCj lr st)) := (g1.objs _ _ hst1).2.2.1
        obtain ⟨ρ4,g4,g5⟩ := g1.setDead (.loop { zCj lr st with state := .exhausted }) hst1
        have hfut := hfw.trans (g3.trans g5)
        have hSt : St B X w0 ρ0 n0 n e (H'.set H.length .dead) { a with defers := [zKk w.heap.size] ++ a.defers } (w3.putObj (w.heap.size + 1) (.loop { zCj lr st with state := .exhausted })) :=
         ⟨hn,ρ4,g4,fun t ht => (he t ht).nextN hfut,hf.trans hfut,hmk.fut (g3.trans g5)⟩
        cases st with
        | ready => exact ⟨_,_,run_endLoop q7 (by show lr.state ≠ _; rw [l1]; simp),by show (match lr.pending with | none => _ | some c => _); rw [l2]; exact hQ .normal _ _ _ _ hout hSt⟩
        | busy => exact hout.elim
        | done o =>
         cases o with
         | none => exact ⟨_,_,run_endLoop q7 (by simp [zCj]),wpIn_ret (hQ .ret _ _ _ _ hout hSt)⟩
         | some id => exact ⟨_,_,run_endLoop q7 (by simp [zCj]),wpIn_exit (hQ (.exit id) _ _ _ _ hout hSt)⟩
    ·exact h.elim
   ·cases hl
  ·cases hl
 | _ => intro B X w0 ρ0 n0 rd m0 lc e H a w K Q hl; simp [zEv] at hl
theorem zDR : ∀ (l : List AV) (i t : Nat),zC7 l i t = if i ≤ t then (l[t - i]?).getD .any else .any
 | [],i,t => by simp [zC7,e0]
 | x :: l,i,t => by
  simp only [zC7,up]
  by_cases h : t = i
  ·subst h; simp
  ·rw [if_neg h,zDR l (i + 1) t]
   by_cases h2 : i ≤ t
   ·rw [if_pos (by omega),if_pos h2,show t - i = t - (i + 1) + 1 by omega]
    simp
   ·rw [if_neg (by omega),if_neg h2]
def zP6 (P : Program) (s : Sem Value) (w : World) (X : Nat → Prop) (ρ : Nat → Loc) (H : zB) (r : Res) : Prop :=
 r.ok → r.H = H ∧ ∃ u,s.run P w = .ok u w ∧ Rep w (Mut X ρ H.length) ρ H.length r.x u
theorem zET {s : Sem Value} {p : Prop} {x : AV} (f : p → ∃ u,s.run P w = .ok u w ∧ Rep w (Mut X ρ H.length) ρ H.length x u) : zP6 P s w X ρ H ⟨p,x,H⟩ := fun hp => ⟨rfl,f hp⟩
theorem zGA {s : Sem Value} {p : Prop} {r : Res} (f : p → zP6 P s w X ρ H r) : zP6 P s w X ρ H (r.also p) := fun ⟨hp,hr⟩ => f hp hr
theorem zPf {t : TypeId} {ag : Bool} {n : Nat} (hag : zE6 P t = some ag) (hsz : zCz P t = some n) (h : HRel w X ρ H) {p : AV} {u : Value} (hp : Rep w (Mut X ρ H.length) ρ H.length p u) :
  zP6 P (do loadVar t (← asAddr u)) w X ρ H (rLoad ag n p H) := by
 have at_ : ∀ a : Addr,(do loadVar t (← asAddr (.pointer (some a)))) = loadVar t a := fun a => rfl
 cases p with
 | vp cs off =>
  simp only [rLoad]
  refine zET fun ⟨h1,h2⟩ => ?_
  cases hp with
  | vp _ _ _ b o c hm hb hcell hrep =>
   rw [at_]
   refine zCs hag hsz (cs := cs.drop off) (by simp; omega) h2 (fun j => c (off + j)) (fun j hj => ?_) (fun j y hj hy => ?_)
   ·have hlt : off + j < cs.length := by omega
    have := hcell (off + j) cs[off + j] (by simp [hlt])
    rw [zZX]
    exact this.1
   ·rw [zZh] at hy
    exact (hrep _ _ hy).mono (zYO _)
 | ptr r ver off =>
  simp only [rLoad]
  refine zGA fun ⟨hb,hv⟩ => ?_
  obtain ⟨cs,ho⟩ := zC4 hb
  rw [ho] at hv ⊢
  simp only [isVer] at hv
  simp only [rLoadO]
  refine zET fun ⟨h1,h2⟩ => ?_
  obtain ⟨hr,b,c,e,fr,hblk,rfl,hh,hl,hfr,_,hrep⟩ := zCN h hp ho hv
  rw [at_]
  refine zCs hag hsz (cs := cs.drop off) (by simp; omega) h2 (fun j => c.getD (off + j) undef) (fun j hj => ?_) (fun j y hj hy => ?_)
  ·rw [zAJ hh]
   have hlt : off + j < c.size := by omega
   simp [hlt]
  ·rw [zZh] at hy
   have hlt : off + j < c.size := by omega
   exact (hrep _ _ _ hy (by simp [hlt])).1
 | pe r ver i off =>
  simp only [rLoad]
  refine zGA fun ⟨hb,hv⟩ => ?_
  obtain ⟨v,sz,xs,ho⟩ := zBr hb
  rw [ho] at hv ⊢
  simp only [isVer] at hv
  simp only [rLoadO]
  refine zET fun ⟨h0,h1,h2⟩ => ?_
  obtain ⟨hr,b,o,c,e,fr,hblk,rfl,hh,hext,hfr,hle,hrow,hsz0,_,_,hrep⟩ := zMT h hp ho hv h0
  rw [at_]
  have hx : xs[i]? = some (xs.getD i []) := by simp [h0]
  have hxl : (xs.getD i []).length = sz := hrow _ (zYW hx)
  have hlt : ∀ j,j < n → o + i * sz + (off + j) < c.size := fun j hj => by
   have := zA2 (sz := sz) (j := off + j) h0 (by omega)
   omega
  refine zCs hag hsz (cs := (xs.getD i []).drop off) (by simp only [zZB]; omega) h2 (fun j => c.getD (o + i * sz + (off + j)) undef) (fun j hj => ?_) (fun j y hj hy => ?_)
  ·rw [zAJ hh]
   have := hlt j hj
   rw [show o + (i * sz + off) + j = o + i * sz + (off + j) by omega]
   simp [this]
  ·rw [zZh] at hy
   exact (hrep i (off + j) _ _ _ hx hy (by simp [hlt j hj])).1
 | _ => exact fun h => h.elim
def zUf (tmps : Array Value) : ResultVar → Sem Value
 | .tmp t => pure (tmps.getD t undef)
 | .cell a t => do loadVar t (← asAddr (tmps.getD a undef))
theorem zHp (h : HRel w X ρ H) (he : ER w X ρ H n e a) : ∀ (l : List ResultVar) (rs : List RV),zEo P n l = some rs → (∀ r ∈ rs,(zCF e H r).ok) →
  ∃ us : List Value,(l.mapM (zUf a.tmps)).run P w = .ok us w ∧ us.length = rs.length ∧ (∀ r ∈ rs,(zCF e H r).H = H) ∧ ∀ (i : Nat) (r : RV) (u : Value),rs[i]? = some r → us[i]? = some u → Rep w (Mut X ρ H.length) ρ H.length (zCF e H r).x u
 | [],rs,hl,_ => by
  simp only [zEo,zYq] at hl
  subst hl
  exact ⟨[],by simp,rfl,by simp,by simp⟩
 | .tmp t :: l,rs,hl,hok => by
  simp only [zEo] at hl
  split at hl
  ·rename_i m hm
   split at hl
   ·rename_i ht
    simp only [zYq] at hl
    subst hl
    obtain ⟨us,h1,h2,h3,h4⟩ := zHp h he l m hm fun r hr => hok r (by simp [hr])
    refine ⟨a.tmps.getD t undef :: us,by simp [zUf,h1],by simp [h2],?_,?_⟩
    ·intro r hr
     simp only [zY5] at hr
     rcases hr with rfl | hr
     ·rfl
     ·exact h3 r hr
    ·intro i r u hr hu
     cases i with
     | zero => simp only [zYv,zYq] at hr hu; subst hr; subst hu; exact he t ht
     | succ i => exact h4 i r u (by simpa using hr) (by simpa using hu)
   ·cases hl
  ·cases hl
 | .cell t ty :: l,rs,hl,hok => by
  simp only [zEo] at hl
  split at hl
  ·rename_i m ag sz hm hag hsz
   split at hl
   ·rename_i ht
    simp only [zYq] at hl
    subst hl
    obtain ⟨us,h1,h2,h3,h4⟩ := zHp h he l m hm fun r hr => hok r (by simp [hr])
    obtain ⟨g0,u0,g1,g2⟩ := zPf hag hsz h (he t ht) (hok (.cell t ag sz) (by simp))
    refine ⟨u0 :: us,?_,by simp [h2],?_,?_⟩
    ·have g1' : (zUf a.tmps (.cell t ty)).run P w = .ok u0 w := g1
     simp only [List.mapM_cons,Sem.run_bind]
     rw [g1']
     simp [h1]
    ·intro r hr
     simp only [zY5] at hr
     rcases hr with rfl | hr
     ·exact g0
     ·exact h3 r hr
    ·intro i r u hr hu
     cases i with
     | zero => simp only [zYv,zYq] at hr hu; subst hr; subst hu; exact g2
     | succ i => exact h4 i r u (by simpa using hr) (by simpa using hu)
   ·cases hl
  ·cases hl
theorem zD1 {fn : Func} {rs : List RV} (hl : zEo P n fn.results.toList = some rs) (h : HRel w X ρ H) (he : ER w X ρ H n e a) (hok : (zAH e H rs).ok) :
  (zAH e H rs).H = H ∧ ∃ v,(results fn a.tmps).run P w = .ok v w ∧ Rep w (Mut X ρ H.length) ρ H.length (zAH e H rs).x v := by
 have hall : ∀ r ∈ rs,(zCF e H r).ok := by
  unfold zAH at hok
  split at hok
  ·intro r hr; simp at hr; subst hr; exact hok
  ·exact hok
 obtain ⟨us,h1,h2,h3,h4⟩ := zHp h he _ _ hl hall
 have hrun : (results fn a.tmps).run P w = .ok (if hh : us.toArray.size = 1 then us.toArray[0] else .tuple us.toArray) w := by
  unfold results
  rw [zzaL]
  simp only [Sem.run_bind]
  have h5 : (List.toArray <$> fn.results.toList.mapM (zUf a.tmps)).run P w = .ok us.toArray w := by
   rw [map_eq_pure_bind]
   simp [h1]
  change ((Sem.run P (List.toArray <$> fn.results.toList.mapM (zUf a.tmps)) w).andThen _) = _
  rw [h5]
  simp
 rw [hrun]
 match rs,h2,h3,h4 with
 | [r],h2,h3,h4 =>
  match us,h2,h4 with
  | [u],_,h4 => exact ⟨h3 r (by simp),u,rfl,h4 0 r u rfl rfl⟩
 | [],h2,h3,h4 =>
  match us,h2 with
  | [],_ => exact ⟨rfl,_,by simp; rfl,.tup _ _ _ rfl (by simp)⟩
 | r :: r' :: rs,h2,h3,h4 =>
  refine ⟨rfl,_,rfl,?_⟩
  rw [dif_neg (by simp [h2])]
  refine .tup _ _ _ (by simp [h2]) fun i x u hx hu => ?_
  rw [zY6] at hx
  cases hr : (r :: r' :: rs)[i]? with
  | none => rw [hr] at hx; cases hx
  | some r0 =>
   rw [hr] at hx
   simp at hx
   subst hx
   exact h4 i r0 u hr (by simpa using hu)
theorem zGj {D : Nat} {o : Option (List Deferred)} {o' : Obj} (hD : w.heap[D]? = some (.deferred o)) {x : Addr} {u : Value} (h : w.cell? x = some u) : (w.putObj D o').cell? x = some u := by
 by_cases hb : x.block = D
 ·exfalso
  obtain ⟨b,i,sp⟩ := x
  simp only at hb
  subst hb
  simp [World.cell?,hD] at h
 ·obtain ⟨b,i,sp⟩ := x
  rw [← h]
  unfold World.cell?
  rw [World.putObj_heap_other hb]
theorem Rep.poke {D : Nat} {o : Option (List Deferred)} {o' : Obj} (hD : w.heap[D]? = some (.deferred o)) {M : Nat → Prop} {k : Nat} {x : AV} {u : Value} (h : Rep w M ρ k x u) : Rep (w.putObj D o') M ρ k x u := by
 induction h with
 | any => exact .any _ _
 | v => exact .v _ _
 | agg n cs us hl _ ih => exact .agg _ _ _ hl ih
 | tup n cs us hl _ ih => exact .tup _ _ _ hl ih
 | nc => exact .nc _ _
 | bnil => exact .bnil _ _
 | slE => exact .slE _ _ _ _
 | slN n sz xs b o cap c hm hb hcap hsz hcell _ ih => exact .slN _ _ _ _ _ _ c hm (by simpa using hb) hcap hsz (fun i j x y hx hy => ⟨zGj hD (hcell i j x y hx hy).1,(hcell i j x y hx hy).2⟩) ih
 | vp n cs off b o c hm hb hcell _ ih => exact .vp _ _ _ _ _ c hm (by simpa using hb) (fun j y hy => ⟨zGj hD (hcell j y hy).1,(hcell j y hy).2⟩) ih
 | fn n f first caps fs us h1 h2 _ _ ih1 ih2 => exact .fn _ _ _ _ _ _ h1 h2 ih1 ih2
 | mp n ks vs b es clock hm hb hh hks hvs _ ih => exact .mp _ _ _ _ es clock hm (by simpa using hb) (by rw [World.putObj_heap_other (fun e => by subst e; rw [hD] at hh; cases hh)]; exact hh) hks hvs ih
 | os n r ver off len u hr hle h1 hp => exact .os _ _ _ _ _ _ hr hle h1 hp
 | ptr n r ver off u hr hle h1 hp => exact .ptr _ _ _ _ _ hr hle h1 hp
 | pe n r ver i off u hr hle h1 hp => exact .pe _ _ _ _ _ _ hr hle h1 hp
 | om n r ver u hr hle h1 hp => exact .om _ _ _ _ hr hle h1 hp
theorem ObjOk.poke {D : Nat} {o0 : Option (List Deferred)} {o' : Obj} (hD : w.heap[D]? = some (.deferred o0)) {M : Nat → Prop} {k : Nat} {l : Loc} {o : HO} (h : ObjOk w M ρ k l o) : ObjOk (w.putObj D o') M ρ k l o := by
 have hk : ∀ b ob,w.heap[b]? = some ob → (∀ d,ob ≠ Obj.deferred d) → (w.putObj D o').heap[b]? = some ob := fun b ob hb hne => by
  rw [World.putObj_heap_other (fun e => by subst e; rw [hD] at hb; cases hb; exact hne _ rfl)]; exact hb
 cases o with
 | dead => trivial
 | box cs =>
  obtain ⟨h1,b,c,e,fr,h2,h3,h4,h5,h6⟩ := h
  exact ⟨h1,b,c,e,fr,h2,hk _ _ h3 (by simp),h4,h5,fun j y u hy hu => ⟨(h6 j y u hy hu).1.poke hD,(h6 j y u hy hu).2⟩⟩
 | arr ver sz xs =>
  obtain ⟨h1,h2,h3,h4,h5,h6⟩ := h
  refine ⟨h1,h2,h3,h4,h5,?_⟩
  split
  ·rename_i hl; rw [hl] at h6; exact h6
  ·rename_i b o hl
   rw [hl] at h6
   obtain ⟨c,e,fr,g1,g2,g3,g4⟩ := h6
   exact ⟨c,e,fr,hk _ _ g1 (by simp),g2,g3,fun i j x y u hx hy hu => ⟨(g4 i j x y u hx hy hu).1.poke hD,(g4 i j x y u hx hy hu).2⟩⟩
 | map ver ks vs =>
  obtain ⟨h1,b,es,clock,h2,h3,h4,h5,h6⟩ := h
  exact ⟨h1,b,es,clock,h2,hk _ _ h3 (by simp),h4,h5,fun i x e hx he => (h6 i x e hx he).poke hD⟩
 | iter s pos =>
  obtain ⟨h1,b,h2,h3⟩ := h
  exact ⟨h1,b,h2,hk _ _ h3 (by simp)⟩
 | lp b lr e st =>
  obtain ⟨h1,h2,h3,h4⟩ := h
  exact ⟨h1,h2,hk _ _ h3 (by simp),fun t u hu => (h4 t u hu).poke hD⟩
 | mit ks vs left cur =>
  obtain ⟨h1,b,m,es,clock,since,seen,c0,h2,h3,h4,h5,h6⟩ := h
  exact ⟨h1,b,m,es,clock,since,seen,c0,h2,hk _ _ h3 (by simp),hk _ _ h4 (by simp),h5.poke hD,h6⟩
 | barr t ver bl =>
  obtain ⟨h1,h2,h3,h4⟩ := h
  refine ⟨h1,h2,h3,?_⟩
  split
  ·rename_i hl; rw [hl] at h4; exact h4
  ·rename_i b o hl
   rw [hl] at h4
   obtain ⟨c,fr,g1,g2,g3,g4⟩ := h4
   exact ⟨c,fr,hk _ _ g1 (by simp),g2,g3,g4⟩
theorem HRel.poke {D : Nat} {o0 : Option (List Deferred)} {o' : Obj} (hD : w.heap[D]? = some (.deferred o0)) (h : HRel w X ρ H) : HRel (w.putObj D o') X ρ H :=
 ⟨fun r o hr => (h.objs r o hr).poke hD,h.inj,fun r b o hr hb => by simpa using h.lt r b o hr hb,fun b hb => by simpa using h.xlt b hb,fun g hg => ⟨(h.gl g hg).1,by obtain ⟨m,hm⟩ := (h.gl g hg).2; exact ⟨m,zGj hD hm⟩⟩⟩
theorem Fut.poke {D : Nat} {o' : Obj} (h : Fut w0 ρ0 n0 w ρ n) (hD : w0.heap.size ≤ D) : Fut w0 ρ0 n0 (w.putObj D o') ρ n :=
 ⟨h.os,h.tape,h.output,by simpa using h.size,fun b hb ho => by rw [World.putObj_heap_other (by omega)]; exact h.keep b hb ho,h.own,h.len,h.loc⟩
def zMS : List Nat → World → World
 | [],w => w
 | D :: ds,w => zMS ds (w.putObj D (.deferred none))
theorem zBm {fn : Func} {tmps : Array Value} {R : Ending → World → Prop} {u : FrameMode} (hu : u ≠ .run) {B : List Deferred} : ∀ (ds : List Nat) (w : World),ds.Nodup → (∀ D ∈ ds,w.heap[D]? = some (.deferred (some []))) → LeavesInM Fence.wide 0 P fn tmps R B u (zMS ds w) →
  LeavesInM Fence.wide 0 P fn tmps R (ds.map zKk ++ B) u w
 | [],w,_,_,h => h
 | D :: ds,w,hn,hd,h => by
  obtain ⟨n1,n2⟩ := zzaD.1 hn
  refine ⟨hu,.inl ⟨D,_,rfl,run_takeDeferred (hd D (by simp)),zBm hu ds _ n2 (fun D' hD' => ?_) h⟩⟩
  rw [World.putObj_heap_other (fun e => by subst e; exact n1 hD')]
  exact hd D' (by simp [hD'])
theorem zD2 : ∀ (ds : List Nat) {w : World},ds.Nodup → (∀ D ∈ ds,w0.heap.size ≤ D ∧ w.heap[D]? = some (.deferred (some []))) → HRel w X ρ H → ER w X ρ H n e a → Fut w0 ρ0 n0 w ρ H.length →
  HRel (zMS ds w) X ρ H ∧ ER (zMS ds w) X ρ H n e a ∧ Fut w0 ρ0 n0 (zMS ds w) ρ H.length
 | [],w,_,_,h1,h2,h3 => ⟨h1,h2,h3⟩
 | D :: ds,w,hn,hd,h1,h2,h3 => by
  obtain ⟨n1,n2⟩ := zzaD.1 hn
  have hD := hd D (by simp)
  refine zD2 ds n2 (fun D' hD' => ⟨(hd D' (by simp [hD'])).1,?_⟩) (h1.poke hD.2) (fun t ht => (h2 t ht).poke hD.2) (h3.poke hD.1)
  rw [World.putObj_heap_other (fun e => by subst e; exact n1 hD')]
  exact (hd D' (by simp [hD'])).2
theorem zGZ {k : FuncId} {fn : Func} {hs : List Hn} {L : LFn} {args : List AV} {R : AV → zB → Prop} {Z : Value → zB → Prop} (hf : P.funcs[k]? = some fn) (hl : zAi P fn hs = some L) (ha : args.length ≤ L.n)
  (h : zAa P [.code L.body] (zLd L.res R Z) .normal (zC7 args 0) H) : ACallX P k args H R Z := by
 unfold zAi at hl
 cases hb : fn.body with
 | none => simp [hb] at hl
 | some c =>
  cases hr : zEo P fn.ntmps fn.results.toList with
  | none => simp [hb,hr] at hl
  | some rs =>
   simp only [hb,hr] at hl
   split at hl
   ·rename_i b hc
    split at hl
    ·rename_i hcond
     simp only [zYq] at hl
     subst hl
     refine ⟨⟨fn,hf,by simp [hb],hcond.2⟩,fun X ρ w vs hrel hargs => (callsIn_wide (n := 0)).1 (callsIn_of_wp_marks hf hb trivial ?_)⟩
     have hvs : vs.size ≤ fn.ntmps := by rw [← hargs.1]; exact ha
     refine zB1 (B := ⟨[],True⟩) (X := X) (w0 := w) (ρ0 := ρ) (n0 := H.length) (rd := none) (m0 := 0) (H := H) (e := zC7 args 0) c hc (.inl ⟨rfl,trivial⟩) h ⟨by simp; omega,ρ,hrel,fun t ht => ?_,Fut.refl _ _ _,Mk.nil⟩ ?_
     ·rw [zDR,if_pos (zYO _),zzal]
      by_cases htl : t < vs.size
      ·have hx : args[t]? = some (args[t]'(by rw [hargs.1]; exact htl)) := by simp
       rw [hx,zZj]
       refine hargs.2 t _ _ hx ?_
       simp [zYV,zZc,htl]
      ·rw [zZu (by rw [hargs.1]; omega)]
       exact .any _ _
     ·intro o e' H' a' w' hk hst
      obtain ⟨hn,ρ',g1,g2,g3,ds,d1,_,d2,d3⟩ := hst
      obtain ⟨f1,f2,f3⟩ := zD2 ds d2 (fun D hD => ⟨(d3 D hD).1,(d3 D hD).2.2.2⟩) g1 g2 g3
      have fin : (zAH e' H' rs).ok ∧ R (zAH e' H' rs).x H' → LeavesInM Fence.wide 0 P fn a'.tmps (fun en w' => (∃ v x H' ρ',en = .returned v ∧ R x H' ∧ HRel w' X ρ' H' ∧ Rep w' (Mut X ρ' H'.length) ρ' H'.length x v ∧ Fut w ρ H.length w' ρ' H'.length) ∨
        ∃ z H' ρ',en = .panicked [{ v := z,recovered := false }] ∧ Z z H' ∧ HRel w' X ρ' H' ∧ Fut w ρ H.length w' ρ' H'.length) a'.defers .returning w' := by
       rintro ⟨k1,k2⟩
       obtain ⟨_,v,k3,k4⟩ := zD1 hr f1 f2 k1
       rw [d1]
       exact zBm (by simp) ds w' d2 (fun D hD => (d3 D hD).2.2.2) ⟨v,k3,.inl ⟨v,_,H',ρ',rfl,k2,f1,k4,f3⟩⟩
      cases o with
      | normal => exact fin hk
      | exit id => exact hk.elim
      | ret => exact fin hk
      | pan z =>
       show LeavesInM Fence.wide 0 P fn a'.tmps _ a'.defers (.panicking [{ v := z,recovered := false }]) w'
       rw [d1]
       exact zBm (by simp) ds w' d2 (fun D hD => (d3 D hD).2.2.2) (.inr ⟨z,H',ρ',rfl,hk,f1,f3⟩)
    ·cases hl
   ·cases hl
theorem enter {k : FuncId} {fn : Func} {hs : List Hn} {L : LFn} {args : List AV} {R : AV → zB → Prop} (hf : P.funcs[k]? = some fn) (hl : zAi P fn hs = some L) (ha : args.length ≤ L.n)
  (h : zAa P [.code L.body] (zUd L.res R) .normal (zC7 args 0) H) : ACall P k args H R :=
 (zGZ hf hl ha (by
  have : zUd L.res R = zLd L.res R fun _ _ => False := by
   funext o e H
   cases o <;> rfl
  rw [← this]
  exact h)).calm
end
section
variable {P : Program} {w w' : World} {X M M' M'' : Nat → Prop} {ρ ρ' : Nat → Loc} {H : zB} {n n' : Nat}
theorem ACall.drop {k : FuncId} {args : List AV} {R : AV->Prop} (h : ACall P k args H fun x H' => R x/\x.cl = true/\∃ rest,H' = H ++ rest) : ACall P k args H fun x H' => R x/\H' = H := by
 refine ⟨h.1,fun X ρ w vs hrel hargs => (h.2 X ρ w vs hrel hargs).mono ?_⟩;rintro en w' ⟨v,x,H',ρ',rfl,⟨hR,hcl,rest,rfl⟩,g1,g2,g3⟩;have hle : H.length <= (H ++ rest).length := by simp
 have hM : ∀ b,Mut X ρ' H.length b->Mut X ρ' (H ++ rest).length b := fun b hb => hb.imp id fun ⟨r,o,hr,hbl⟩ => ⟨r,o,by omega,hbl⟩;refine ⟨v,x,H,ρ',rfl,⟨hR,rfl⟩,⟨fun r o hr => ?_,fun r r' b o b' o' hr hr' => g1.inj r r' b o b' o' (by omega) (by omega),fun r b o hr => g1.lt r b o (by omega),g1.xlt,fun g hg => ⟨fun ⟨r,o,hr,hbl⟩ => (g1.gl g hg).1 ⟨r,o,by omega,hbl⟩,(g1.gl g hg).2⟩⟩,?_,?_⟩
 ·have hlt : r < H.length := (zYr.1 hr).1;exact (hrel.objs r o hr).scope hM (g1.objs r o (by rw [zYD hlt]; exact hr))
 ·exact ((g2.of_cl hcl).narrow hM).closed rfl _ _
 ·exact ⟨g3.os,g3.tape,g3.output,g3.size,g3.keep,fun b ⟨r,o,hr,hbl⟩ => g3.own b ⟨r,o,by omega,hbl⟩,zYH _,g3.loc⟩
end
theorem zAN {a b : Bool} (h : a = true ↔ b = true) : bool a = bool b := by rw [zZJ.2 h]
end Go.Ax
namespace Go.Ax
open Go Go.RowKit Go.WideShapes Go.ChangeShapes
set_option linter.unusedSimpArgs false
set_option linter.unusedVariables false
abbrev X0 : Nat->Prop := fun _ => False
theorem zPI (w : World) (ρ : Nat->Loc) (hg : ∀ g ∈ glbs,∃ m,w.cell? ⟨g,0,none⟩ = some (.int .i64 m)) : HRel w X0 ρ [] where
 objs := fun r o h => by simp at h
 inj := fun r _ _ _ _ _ h => by simp at h
 lt := fun r _ _ h => by simp at h
 xlt := fun b h => h.elim
 gl := fun g h => ⟨fun ⟨r,o,hr,_⟩ => by simp at hr,hg g h⟩
theorem Fut.below {w w' : World} {ρ ρ' : Nat->Loc} {n' : Nat} (h : Fut w ρ 0 w' ρ' n') : Below w.heap.size w w' :=
 ⟨h.os,h.tape,h.output,h.size,fun k hk => h.keep k hk fun ⟨r,o,hr,_⟩ => by omega⟩
theorem ACall.top {P : Program} {k : FuncId} {args : List AV} {R : AV->zB->Prop} (h : ACall P k args [] R) {w : World} {vs : Array Value} (hargs : RepL w X0 (fun _ => {}) 0 args vs) (hg : ∀ g ∈ glbs,∃ m,w.cell? ⟨g,0,none⟩ = some (.int .i64 m)) :
  Calls P k vs w fun e w' => ∃ v x H' ρ',e = .returned v/\R x H'/\Rep w' (Mut X0 ρ' H'.length) ρ' H'.length x v/\Below w.heap.size w w' := by
 have hm : Mut X0 (fun _ => ({} : Loc)) 0 = X0 := by
  funext b
  simp [Mut,Own,X0]
 refine (h.2 X0 (fun _ => {}) w vs (zPI _ _ hg) ?_).mono ?_
 ·simpa [hm] using hargs
 ·rintro e w' ⟨v,x,H',ρ',he,hR,_,hx,hf⟩;exact ⟨v,x,H',ρ',he,hR,hx,hf.below⟩
section
variable {H : Type} {enc : TypeId × Value->H} {P : Program}
theorem zPk {f : Func} {s : ChangeSpec} {apart zIG handsOn again : Bool} {W W' : World} {args : Array Value} {ds : List (DataW H)} {before : List MemPlace} {tb : TypeId}
  (hW : DataW.Whole enc P f.params.toList s.vars apart W args.toList ds [] before) (hv : s.vars = [])
  (hf : f.resultTypes = #[tb]) (htb : P.underlying tb = some .bool) (hs : s.fn H ds = ⟨[.lit (.bool true)],ds,[]⟩)
  (hargs : ∀ sp : Nat->Bool,(∀ p ∈ before,sp p.block = true)->DataW.TrodAll enc P W' 0 sp true f.params.toList args.toList ds before)
  (hb : Below W.heap.size W W') : s.post enc P f apart zIG handsOn again W args (.bool true) W' := by
 have hlt : ∀ p ∈ before,p.block < W.heap.size := fun p hp => hW.lt p hp;have hold : ∀ p ∈ before,(fun b => decide (b < W.heap.size)) p.block = true := fun p hp => by simpa using hlt p hp
 have hs' : s.fn H (ds ++ []) = ⟨[.lit (.bool true)],ds,[]⟩ := by rw [zY1]; exact hs
 have hres : ∀ (b : Nat) (sp : Nat->Bool) (hd : Bool),DataW.TrodAll enc P W' b sp hd f.resultTypes.toList ((Value.bool true).resultList f.resultTypes.size) (s.fn H (ds ++ [])).results [] := by
  intro b sp hd;rw [hs',hf];exact trodAll_mk1 (shut_bool htb true)
 have hvars : ∀ sp : Nat->Bool,DataW.TrodVars enc P W' sp s.vars (s.fn H (ds ++ [])).vars [] := by
  intro sp; rw [hs',hv]; rfl
 have hk : W.keptBut W' (· ∈ before) := hb.frame _;refine ⟨ds,[],before,[],before,[],hW,hres _ _ _,?_,hvars _,World.keptBut_mono (fun p hp => ⟨hp,.inr (.inl hp)⟩) hk,fun _ => ?_⟩
 ·rw [hs']; exact hargs _ hold
 ·obtain ⟨_,_,_,_,_,hz,hn⟩ := hW;refine ⟨?_,_,_,([] ++ before) ++ [],⟨[] ++ before,[],trodAll_append (hargs _ fun _ _ => rfl) (hres 0 (fun _ => true) true),hvars _,rfl,?_,?_⟩,?_⟩
  ·intro j t r h1 h2;rw [hf] at h1 h2;cases j with
   | zero => simp [Value.resultList] at h1 h2; subst h1; subst h2; exact okWide_bool_mk htb true
   | succ j => simp at h1
  ·intro b off hp;have hin : MemPlace.cell b off ∈ before := by simpa using hp
   rw [hb.frozen (hlt _ hin)];exact hz b off (by simpa using hin)
  ·intro ha
   simpa using hn ha
  ·intro p hp _
   simpa using hp
end
inductive Val (P : Program) : TypeId->List AV->Prop
 | int {t : TypeId} {k : IntKind} {n : Int} : P.underlying t = some (.int k)->(Lit.int k n).wf = true->Val P t [.v (.int k n)]
 | bool {t : TypeId} {b : Bool} : P.underlying t = some .bool->Val P t [.v (.bool b)]
 | str {t : TypeId} {s : ByteArray} : P.underlying t = some .string->s.size <= maxLen->Val P t [.v (.string s)]
 | sl {t e : TypeId} {rows : List (List AV)} : P.underlying t = some (.slice e)->rows.length <= maxLen->(∀ x ∈ rows,Val P e x)->Val P t [.sl (P.cellsOf e) rows]
 | st {t : TypeId} {fs : Array Field} {xs : List AV} : P.underlying t = some (.struct fs)->xs.length = P.cellsOf t->(∀ (i : Nat) (f : Field),fs[i]? = some f->Val P f.type ((xs.drop f.offset).take (P.cellsOf f.type)))->Val P t xs
def zFd (P : Program) : Nat->List Field->Option Nat
 | o,[] => some o
 | o,f :: fs => if f.offset = o then zFd P (o + P.cellsOf f.type) fs else none
def zGG (P : Program) (S : List TypeId) : Bool := S.all fun t =>
 match P.underlying t with
 | some (.int _) => decide (P.cellsOf t = 1)
 | some .bool => decide (P.cellsOf t = 1)
 | some .string => decide (P.cellsOf t = 1)
 | some (.slice e) => decide (P.cellsOf t = 1) && S.contains e && decide (0 < P.cellsOf e)
 | some (.struct fs) => decide (zFd P 0 fs.toList = some (P.cellsOf t)) && fs.toList.all fun f => S.contains f.type
 | _ => false
section
variable {H : Type} {enc : TypeId × Value->H} {P : Program} {w : World} {sp : Nat->Bool} {held : Bool}
def zSL (w : World) (xs : List AV) (cs : List Value) : Prop := xs.length = cs.length/\∀ (i : Nat) (x : AV) (u : Value),xs[i]? = some x->cs[i]? = some u->Rep w X0 (fun _ => {}) 0 x u/\one u = true
theorem zIT : ∀ (fl : List Field) {o n : Nat},zFd P o fl = some n->o <= n/\∀ f ∈ fl,o <= f.offset/\f.offset + P.cellsOf f.type <= n
 | [],o,n,h => by simp [zFd] at h; subst h; simp
 | f :: fs,o,n,h => by
  simp only [zFd] at h;split at h
  ·rename_i hf;obtain ⟨h1,h2⟩ := zIT fs h;refine ⟨by omega,fun g hg => ?_⟩;rcases zY5.1 hg with rfl | hg
   ·omega
   ·have := h2 g hg; omega
  ·cases h
theorem zF9 (cs : List Value) : ∀ (fl : List Field) {o n : Nat},zFd P o fl = some n->n <= cs.length->(∀ f ∈ fl,∃ ys,zSL w ys ((cs.drop f.offset).take (P.cellsOf f.type))/\Val P f.type ys) ->
  ∃ xs,zSL w xs ((cs.drop o).take (n - o))/\∀ f ∈ fl,Val P f.type ((xs.drop (f.offset - o)).take (P.cellsOf f.type))
 | [],o,n,h,_,_ => by
  simp [zFd] at h; subst h;exact ⟨[],⟨by simp,fun i x u hx => by simp at hx⟩,by simp⟩
 | f :: fs,o,n,h,hn,hf => by
  simp only [zFd] at h;split at h
  ·rename_i hfo;obtain ⟨h1,h2⟩ := zIT fs h;obtain ⟨ys,⟨hyl,hyr⟩,hyv⟩ := hf f (by simp);obtain ⟨zs,⟨hzl,hzr⟩,hzv⟩ := zF9 cs fs h hn fun g hg => hf g (by simp [hg]);rw [hfo] at hyl hyr;have hyl' : ys.length = P.cellsOf f.type := by rw [hyl]; simp; omega
   have hzl' : zs.length = n - (o + P.cellsOf f.type) := by rw [hzl]; simp; omega
   refine ⟨ys ++ zs,⟨by simp [hyl',hzl']; omega,fun i x u hx hu => ?_⟩,fun g hg => ?_⟩
   ·have hu' : cs[o + i]? = some u := by
     rw [zZp] at hu;split at hu
     ·simpa using hu
     ·cases hu
    by_cases hi : i < ys.length
    ·rw [zYD hi] at hx;refine hyr i x u hx ?_;rw [zZp,if_pos (by omega)]
     simpa using hu'
    ·rw [zYz (by omega)] at hx;refine hzr (i - ys.length) x u hx ?_;have hlt := (zYr.1 hx).1;rw [zZp,if_pos (by omega)];simp only [zZh];rw [<- hu']
     congr 1
     omega
   ·rcases zY5.1 hg with rfl | hg
    ·rw [hfo,zzaF,zZ9,zzaV hyl'];exact hyv
    ·have := h2 g hg;have e : (ys ++ zs).drop (g.offset - o) = zs.drop (g.offset - (o + P.cellsOf f.type)) := by
      rw [show g.offset - o = ys.length + (g.offset - (o + P.cellsOf f.type)) by omega,<- List.drop_drop,List.drop_left]
     rw [e];exact hzv g hg
  ·cases h
theorem zIY (a : Addr) : a.add 0 = a := rfl
theorem zOq (b o n : Nat) : (⟨b,o,none⟩ : Addr).add n = ⟨b,o + n,none⟩ := by
 unfold Addr.add;split
 ·rename_i h; rw [h]; rfl
 ·rfl
theorem zP1 {t : TypeId} {a : Addr} {u : Value} (h : w.cell? a = some u) : a.spot = none := by
 unfold World.cell? at h;split at h
 ·split at h
  ·cases h
  ·rename_i hs; simpa using hs
 ·cases h
theorem zLk {S : List TypeId} (hS : zGG P S = true) : ∀ (fuel : Nat) {t : TypeId} {cs : List Value} {x : DataW H × List MemPlace},t ∈ S->DataW.trod enc P w 0 sp held fuel t cs = some x->∃ xs,zSL w xs cs/\Val P t xs := by
 intro fuel;induction fuel with
 | zero => intro t cs x _ h; simp [DataW.trod] at h
 | succ fuel ih =>
  intro t cs x ht h;have hS0 := hS;unfold zGG at hS;rw [zYR] at hS;have h1 := hS t ht;have single : ∀ (u : Value),one u = true->zSL w [.v u] [u] := fun u hu => ⟨rfl,fun i x y hx hy => by
   cases i with
   | zero => simp at hx hy; subst hx; subst hy; exact ⟨.v _ _,hu⟩
   | succ i => simp at hx⟩
  split at h1
  ·rename_i k hu;obtain ⟨n,rfl,-,hw⟩ := DataW.trod_int hu h;exact ⟨_,single _ rfl,.int hu hw⟩
  ·rename_i hu;obtain ⟨b,rfl,-⟩ := DataW.trod_bool hu h;exact ⟨_,single _ rfl,.bool hu⟩
  ·rename_i hu;obtain ⟨s,rfl,-,hs⟩ := DataW.trod_string hu h;exact ⟨_,single _ rfl,.str hu hs⟩
  ·rename_i e hu;simp only [zYA,zYy,List.contains_iff_mem] at h1;obtain ⟨⟨_,he⟩,hpos⟩ := h1;have wrap : ∀ (y : AV) (u : Value),one u = true->Rep w X0 (fun _ => {}) 0 y u->zSL w [y] [u] := fun y u h1 hu => ⟨rfl,fun i x z hx hz => by
    cases i with
    | zero => simp at hx hz; subst hx; subst hz; exact ⟨hu,h1⟩
    | succ i => simp at hx⟩
   rcases DataW.trod_slice hu h with ⟨rfl,-⟩ | ⟨a,len,cap,elems,rest,n,hn,rfl,-,_,hlc,hcap,hel,helems,-,-⟩
   ·exact ⟨[.sl (P.cellsOf e) []],wrap _ _ rfl (.slE _ _ _ _),.sl hu (by simp) (by simp)⟩
   ·obtain rfl : n = fuel := by omega
    by_cases hlen : len = 0
    ·subst hlen;exact ⟨[.sl (P.cellsOf e) []],wrap _ _ rfl (.slE _ _ _ _),.sl hu (by simp) (by simp)⟩
    ·have hrow : ∀ i,i < len->∃ (cs : List Value) (xs : List AV),w.cells? 0 (a.add (i * P.cellsOf e)) (P.cellsOf e) = some cs/\zSL w xs cs/\Val P e xs := by
      intro i hi;have hg := helems i hi;rw [zYK (by omega)] at hg;cases hc : w.cells? 0 (a.add (i * P.cellsOf e)) (P.cellsOf e) with
      | none => rw [hc] at hg; cases hg
      | some cs =>
       rw [hc] at hg;obtain ⟨xs,h1,h2⟩ := ih he hg;exact ⟨cs,xs,rfl,h1,h2⟩
     have hcell : ∀ i cs,w.cells? 0 (a.add (i * P.cellsOf e)) (P.cellsOf e) = some cs->cs.length = P.cellsOf e/\∀ j,j < P.cellsOf e->w.cell? ((a.add (i * P.cellsOf e)).add j) = cs[j]? := by
      intro i cs hc;obtain ⟨_,h2,h3⟩ := World.cells?_some hc;exact ⟨h2,h3⟩
     obtain ⟨f,hf⟩ : ∃ f : Nat->List Value × List AV,∀ i,i < len->w.cells? 0 (a.add (i * P.cellsOf e)) (P.cellsOf e) = some (f i).1/\zSL w (f i).2 (f i).1/\Val P e (f i).2 := by
      refine ⟨fun i => if hi : i < len then (Classical.choose (hrow i hi),Classical.choose (zZO (hrow i hi))) else ([],[]),fun i hi => ?_⟩;simp only [dif_pos hi];exact zZO (zZO (hrow i hi))
     have hfl : ∀ i,i < len->(f i).2.length = P.cellsOf e := fun i hi => (hf i hi).2.1.1.trans (hcell i _ (hf i hi).1).1;have hspot : a.spot = none := by
      have h0 := (hcell 0 _ (hf 0 (by omega)).1).2 0 hpos;rw [zYK (by rw [(hcell 0 _ (hf 0 (by omega)).1).1]; exact hpos)] at h0;simp only [zzaT,zIY] at h0;exact zP1 (t := t) h0
     have hblk : a.block < w.heap.size := by
      have := World.cells?_block (hf 0 (by omega)).1 hpos
      simpa only [zzaT,zIY] using this
     obtain ⟨b,o,spot⟩ := a;simp only at hspot hblk;subst hspot;have hget : ∀ i x,((List.range len).map fun i => (f i).2)[i]? = some x->i < len/\x = (f i).2 := by
      intro i x hx;simp only [zY6,List.getElem?_range] at hx;by_cases hi : i < len
      ·simp [hi] at hx; exact ⟨hi,hx.symm⟩
      ·simp [hi] at hx
     have hc : ∀ (i j : Nat) (x : List AV) (y : AV),((List.range len).map fun i => (f i).2)[i]? = some x->x[j]? = some y->w.cell? ⟨b,o + i * P.cellsOf e + j,none⟩ = some ((f i).1.getD j default)/\Rep w X0 (fun _ => {}) 0 y ((f i).1.getD j default)/\one ((f i).1.getD j default) = true := by
      intro i j x y hx hy;obtain ⟨hi,rfl⟩ := hget i x hx;have hj : j < (f i).2.length := (zYr.1 hy).1;have hl := hcell i _ (hf i hi).1;have hj' : j < (f i).1.length := by rw [hl.1,<- hfl i hi]; exact hj
      have hgd : (f i).1[j]? = some ((f i).1.getD j default) := by simp [zYI,hj']
      refine ⟨?_,(hf i hi).2.1.2 j y _ hy hgd⟩;have := hl.2 j (by rw [<- hfl i hi]; exact hj);rw [hgd,zOq,zOq] at this;exact this
     refine ⟨[.sl (P.cellsOf e) ((List.range len).map fun i => (f i).2)],wrap _ _ rfl ?_,.sl hu (by simp; omega) fun x hx => ?_⟩
     ·have := Rep.slN (w := w) (M := X0) (ρ := fun _ => {}) 0 (P.cellsOf e) ((List.range len).map fun i => (f i).2) b o cap (fun i j => (f i).1.getD j default) (fun h => h.elim) hblk (by simpa using hlc)
       (fun x hx => by obtain ⟨i,hi,rfl⟩ := zZl.1 hx; exact hfl i (by simpa using hi)) (fun i j x y hx hy => ⟨(hc i j x y hx hy).1,(hc i j x y hx hy).2.2⟩) (fun i j x y hx hy => (hc i j x y hx hy).2.1)
      simpa using this
     ·obtain ⟨i,hi,rfl⟩ := zZl.1 hx;exact (hf i (by simpa using hi)).2.2
  ·rename_i fs hu;simp only [zYA,zYy,zYR,List.contains_iff_mem] at h1;obtain ⟨ys,n,hn,-,hcl,hyl,hy⟩ := DataW.trod_struct hu h;obtain rfl : n = fuel := by omega
   obtain ⟨xs,hxr,hxv⟩ := zF9 (w := w) cs fs.toList h1.1 (by omega) fun f hf => by
    obtain ⟨i,hi,hif⟩ := zZd.1 hf;have hg := hy i f (by rw [<- hif]; simp at hi; simp [hi]);rw [zYK (by simp at hi; omega)] at hg;exact ih (h1.2 f hf) hg
   rw [zzal,zZ9,zYN (by omega)] at hxr;refine ⟨xs,hxr,.st hu (by rw [hxr.1]; exact hcl) fun i f hf => ?_⟩;have := hxv f (by rw [<- zZn] at hf; exact zYW hf)
   simpa using this
  ·cases h1
def zQd (P : Program) (t : TypeId) (xs : List AV) : AV := match P.underlying t with | some (.struct _) => .agg xs | _ => xs.headD .any
theorem zPs {S : List TypeId} (hS : zGG P S = true) {t : TypeId} {v : Value} {d : DataW H} {ps : List MemPlace} {r : Reach} {base : Nat} (ht : t ∈ S) (hval : Value.okWide P w r base t v) (h : DataW.Trod enc P w 0 sp held t v d ps) :
  ∃ xs,Val P t xs/\Rep w X0 (fun _ => {}) 0 (zQd P t xs) v := by
 obtain ⟨fuel,hf⟩ := h;obtain ⟨xs,hx,hv⟩ := zLk hS fuel ht hf;refine ⟨xs,hv,?_⟩;unfold zGG at hS;rw [zYR] at hS;have h1 := hS t ht;have single : v.cells = #[v]->(∀ fs,P.underlying t ≠ some (.struct fs))->Rep w X0 (fun _ => {}) 0 (zQd P t xs) v := by
  intro hc hn;have e : zQd P t xs = xs.headD .any := by
   unfold zQd;split
   ·rename_i fs hu; exact absurd hu (hn fs)
   ·rfl
  rw [e];rw [hc] at hx;obtain ⟨hl,hr⟩ := hx
  match xs,hl with
  | [x],_ => exact (hr 0 x v rfl rfl).1
 split at h1
 ·rename_i k hu;obtain ⟨n,rfl⟩ := okWide_int hu hval;exact single rfl fun fs => by rw [hu]; simp
 ·rename_i hu;obtain ⟨n,rfl⟩ := okWide_bool hu hval;exact single rfl fun fs => by rw [hu]; simp
 ·rename_i hu;obtain ⟨n,rfl⟩ := okWide_string hu hval;exact single rfl fun fs => by rw [hu]; simp
 ·rename_i e hu;obtain ⟨a,len,cap,rfl⟩ := okWide_slice hu hval;exact single rfl fun fs => by rw [hu]; simp
 ·rename_i fs hu;obtain ⟨cs,rfl,hsz⟩ := okWide_struct hu hval;have e : zQd P t xs = .agg xs := by unfold zQd; rw [hu]
  rw [e];exact .agg _ _ _ (by rw [hx.1]; simp [Value.cells]) fun i x u hxi hui => (hx.2 i x u hxi (by simpa [Value.cells] using hui)).1
 ·cases h1
def zKQ (P : Program) : List TypeId->List (List AV)->Prop
 | [],[] => True
 | t :: ts,xs :: l => Val P t xs/\zKQ P ts l
 | _,_ => False
def zDC (P : Program) : List TypeId->List (List AV)->List AV
 | t :: ts,xs :: l => zQd P t xs :: zDC P ts l
 | _,_ => []
theorem zKd {S : List TypeId} (hS : zGG P S = true) : ∀ {ts : List TypeId} {vs : List Value} {ds : List (DataW H)} {ps : List MemPlace},(∀ t ∈ ts,t ∈ S)->(∀ (j : Nat) t v,ts[j]? = some t->vs[j]? = some v->∃ r base,Value.okWide P w r base t v) ->
  DataW.TrodAll enc P w 0 sp held ts vs ds ps->∃ l,zKQ P ts l/\(zDC P ts l).length = vs.length/\∀ (i : Nat) (x : AV) (u : Value),(zDC P ts l)[i]? = some x->vs[i]? = some u->Rep w X0 (fun _ => {}) 0 x u
 | [],vs,ds,ps,_,_,h => by
  obtain ⟨rfl,rfl,rfl⟩ := trodAll_nil h;exact ⟨[],trivial,rfl,fun i x u hx => by simp [zDC] at hx⟩
 | t :: ts,vs,ds,ps,hts,hv,h => by
  obtain ⟨v,vs1,d,ds1,a,b,rfl,rfl,rfl,h1,h2⟩ := trodAll_cons h;obtain ⟨r,base,hok⟩ := hv 0 t v rfl rfl;obtain ⟨xs,hx,hr⟩ := zPs hS (hts t (by simp)) hok h1;obtain ⟨l,hl,hlen,hrep⟩ := zKd hS (fun t ht => hts t (by simp [ht])) (fun j t v ht hv' => hv (j + 1) t v (by simpa using ht) (by simpa using hv')) h2;refine ⟨xs :: l,⟨hx,hl⟩,by simp [zDC,hlen],fun i x u hxi hui => ?_⟩;cases i with
  | zero => simp [zDC] at hxi hui; subst hxi; subst hui; exact hr
  | succ i => exact hrep i x u (by simpa [zDC] using hxi) (by simpa using hui)
theorem zH8 (hl : laidOutB P = true) {w' : World} {sp' : Nat->Bool} : ∀ {ts : List TypeId} {vs : List Value} {ds : List (DataW H)} {ps : List MemPlace},(∀ t ∈ ts,P.readableRec t = true/\t < P.types.size) ->
  DataW.TrodAll enc P w 0 (fun _ => true) true ts vs ds ps->(∀ p ∈ ps,w.sameAt w' p)->(∀ p ∈ ps,sp' p.block = true)->DataW.TrodAll enc P w' 0 sp' true ts vs ds ps
 | [],vs,ds,ps,_,h,_,_ => by
  obtain ⟨rfl,rfl,rfl⟩ := trodAll_nil h;exact trodAll_mk0
 | t :: ts,vs,ds,ps,hts,h,hsame,hs => by
  obtain ⟨v,vs1,d,ds1,a,b,rfl,rfl,rfl,h1,h2⟩ := trodAll_cons h;have ht := hts t (by simp);exact ⟨a,b,WideElems.Trod_stays hl ht.1 ht.2 h1 (fun p hp => hsame p (by simp [hp])) (fun p hp => hs p (by simp [hp])),zH8 hl (fun t ht => hts t (by simp [ht])) h2 (fun p hp => hsame p (by simp [hp])) (fun p hp => hs p (by simp [hp])),rfl⟩
end
def zNC (P : Program) : Bool := glbs.all fun g => decide (g < P.globals.size) &&
 match ((begin P (fun _ _ => 0) default).world.heap[g]?).bind Obj.row? with
 | some (zero,t) => zero.size == 1 && P.buildable t && P.cellTypes P.depth t == some [t] && (match P.underlying t with | some (.int .i64) => true | _ => false)
 | none => false
theorem zJG {P : Program} {w : World} (h : zNC P = true) (hsh : w.ShapedOpen P) : ∀ g ∈ glbs,∃ m,w.cell? ⟨g,0,none⟩ = some (.int .i64 m) := by
 intro g hg;have h1 := zYR.1 h g hg;rw [zYA,zYy] at h1;obtain ⟨h1,h2⟩ := h1;split at h2
 ·rename_i zero t h0;simp only [zYA,zZ7] at h2;obtain ⟨⟨⟨h3,h4⟩,h5⟩,h6⟩ := h2;refine Go.Proofs.cell_of_shapedOpen_int hsh h1 h0 h3 h4 h5 ?_;split at h6
  ·assumption
  ·cases h6
 ·cases h2
end Go.Ax
namespace Go.Ax
open Go Go.RowKit Go.WideShapes Go.ChangeShapes
open Go.Proofs.YtbibhcmcjldhdaaGreatDoor
set_option linter.unusedSimpArgs false
set_option linter.unusedVariables false
section
variable {H : Type} {enc : TypeId × Value->H} {P : Program} {w : World} {sp : Nat->Bool} {held : Bool}
end
end Go.Ax
/- Short words for the operations of lowered functions (wip/tools/pack.py writes them). -/
namespace Go.Ax
open Go
abbrev oM (d a : Nat) : LO := ⟨some d,none,.mv (.t a)⟩
abbrev oX (d : Nat) (o : LOp) : LO := ⟨some d,none,o⟩
abbrev oT (d g : Nat) (o : LOp) : LO := ⟨some d,some (g,true),o⟩
abbrev oF (d g : Nat) (o : LOp) : LO := ⟨some d,some (g,false),o⟩
abbrev oN (o : LOp) : LO := ⟨none,none,o⟩
abbrev oL (d a : Nat) : LO := ⟨some d,none,.load false 1 (.t a)⟩
abbrev oA (d k a : Nat) : LO := ⟨some d,none,.load true k (.t a)⟩
abbrev oD (d k a : Nat) : LO := ⟨some d,none,.faddr k (.t a)⟩
abbrev oE (d a k : Nat) : LO := ⟨some d,none,.ext (.t a) k⟩
abbrev oI (d k a b : Nat) : LO := ⟨some d,none,.iaddr k (.t a) (.t b)⟩
abbrev oK (d a : Nat) : LO := ⟨some d,none,.nilchk (.t a)⟩
abbrev oP (d a : Nat) (x y : LX) : LO := ⟨some d,none,.pick (.t a) x y⟩
abbrev oS (k a b : Nat) : LO := ⟨none,none,.store k (.t a) (.t b)⟩
abbrev kI (n : Int) : LX := .c (.v (.int .i64 n))
abbrev kB (b : Bool) : LX := .c (.v (.bool b))
abbrev cF (f : FuncId) (l : List LX) : LOp := .call (.c (.fn (.func f) [] [])) l
abbrev bI (o : BinOp) (x y : LX) : LOp := .bin .int o x y
end Go.Ax
/- More short words for the operations of lowered functions (wip/tools/pack2.py writes them). -/
namespace Go.Ax
open Go
abbrev oC (d : Nat) (n : Int) : LO := ⟨some d,none,.mv (.c (.v (.int .i64 n)))⟩
abbrev oB (d : Nat) (o : BinOp) (a b : Nat) : LO := ⟨some d,none,.bin .int o (.t a) (.t b)⟩
abbrev oV (d : Nat) (o : BinOp) (a : Nat) (n : Int) : LO := ⟨some d,none,.bin .int o (.t a) (.c (.v (.int .i64 n)))⟩
abbrev oU (d g a : Nat) : LO := ⟨some d,some (g,true),.mv (.t a)⟩
abbrev oW (d g a : Nat) : LO := ⟨some d,some (g,false),.mv (.t a)⟩
abbrev cD (n : Nat) (a b : LCode) : LCode := .cond (.t n) a b
abbrev sO (l : List LO) (c : LCode) : LCode := .seq (.ops l) c
abbrev i0 : AV := .v (.int .i64 0)
abbrev s0 : AV := .v (.string (mkS []))
abbrev y0 (f : FuncId) : LOp := .call (.c (.fn (.func f) [] [])) []
abbrev y1 (f : FuncId) (a : Nat) : LOp := .call (.c (.fn (.func f) [] [])) [.t a]
abbrev y2 (f : FuncId) (a b : Nat) : LOp := .call (.c (.fn (.func f) [] [])) [.t a,.t b]
abbrev y4 (f : FuncId) (a b c d : Nat) : LOp := .call (.c (.fn (.func f) [] [])) [.t a,.t b,.t c,.t d]
end Go.Ax
namespace Go.Proofs.YtbibhcmcjldhdaaGreatDoor
open Go Go.Ax
set_option maxRecDepth 100000
set_option linter.unusedSimpArgs false
set_option maxHeartbeats 4000000
def L23 : LFn := ⟨8,[(.tmp 4)],(sO [oX 4 (.mv (.c (.v .nilFunc)))] (sO [oM 5 0,oM 6 1,oX 7 (cF 55 [(.t 5),(.t 6),(kI 0)]),oM 4 7] .ret))⟩
theorem L23_ok : zAi Tryz.prog Tryz.f23 [] = some L23 := by kernel_rfl
def L31 : LFn := ⟨26,[(.tmp 4)],(sO [oX 4 (.mv (kB false))] (.seq (sO [oM 6 0,oX 7 (.len .slc (.t 6)),oM 8 1,oX 9 (.len .slc (.t 8)),oB 10 .neq 7 9] (cD 10 (sO [oX 4 (.mv (kB false))] .ret) .skip)) (.seq (sO [oC 5 0] (.block 0 (.loop (.seq (sO [oM 11 5,oM 12 0,oX 13 (.len .slc (.t 12)),oB 14 .lss 11 13] (cD 14 .skip (.exit 0))) (.seq (.block 1 (.seq (.draw [oM 17 0,oM 18 5,oI 19 1 17 18,oL 20 19,oM 21 1,oM 22 5,oI 23 1 21 22,oL 24 23,oB 25 .neq 20 24] []) (cD 25 (sO [oX 4 (.mv (kB false))] .ret) .skip))) (.ops [oM 15 5,oV 16 .add 15 1,oM 5 16])))))) (sO [oX 4 (.mv (kB true))] .ret))))⟩
theorem L31_ok : zAi Tryz.prog Tryz.f31 [] = some L31 := by kernel_rfl
def L34 : LFn := ⟨19,[(.tmp 4),(.tmp 5)],(sO [oC 4 0,oX 5 (.mv (.c (.v .nilIface)))] (sO [oM 6 0,oX 7 (y1 61 6)] (sO [oM 8 0,oM 9 0,oK 10 9,oD 11 1 10,oL 12 11,oM 13 1,oX 14 (.appendb 5 (.t 12) (.t 13)),oK 15 8,oD 16 1 15,oS 1 16 14] (sO [oM 17 1,oX 18 (.len .str (.t 17)),oM 4 18,oX 5 (.mv (.c (.v .nilIface)))] .ret))))⟩
theorem L34_ok : zAi Tryz.prog Tryz.f34 [⟨2,6,.imm⟩] = some L34 := by kernel_rfl
def L55 : LFn := ⟨8,[(.tmp 6)],(sO [oX 3 (.box false (.t 0)),oX 4 (.box false (.t 1)),oX 5 (.box false (.t 2)),oX 6 (.mv (.c (.v .nilFunc)))] (sO [oX 7 (.mkfn (.func 110) [] [(.t 4),(.t 3),(.t 5)]),oM 6 7] .ret))⟩
theorem L55_ok : zAi Tryz.prog Tryz.f55 [] = some L55 := by kernel_rfl
def L110 : LFn := ⟨52,[],(.seq (sO [oL 9 1,oX 10 (.len .str (.t 9)),oV 11 .eql 10 0] (cD 11 (.seq (.block 0 (.loop (.seq (sO [oL 12 2,oX 13 (.len .str (.t 12)),oV 14 .gtr 13 0] (cD 14 .skip (.exit 0))) (.block 1 (sO [oL 16 2,oX 17 (y1 111 16),oM 15 17,oE 18 15 0,oE 19 15 1,oM 5 18,oM 6 19] (.seq (sO [oM 20 0,oL 21 2,oM 22 6,oX 23 (.slice .str 1 (.t 21) none (some (.t 22))),oX 24 (.call (.t 20) [(.t 23)]),oX 25 (.not (.t 24))] (cD 25 .ret .skip)) (.ops [oL 26 2,oM 27 6,oX 28 (.slice .str 1 (.t 26) (some (.t 27)) none),oS 1 2 28]))))))) .ret) .skip)) (.seq (.block 2 (.loop (.block 3 (sO [oL 29 2,oL 30 1,oX 31 (y2 112 29 30),oM 7 31] (.seq (sO [oM 32 7,oV 33 .lss 32 0] (cD 33 (.exit 2) .skip)) (sO [oL 34 2,oM 35 7,oL 36 3,oB 37 .add 35 36,oX 38 (.slice .str 1 (.t 34) none (some (.t 37))),oM 8 38] (.seq (sO [oM 39 0,oM 40 8,oX 41 (.call (.t 39) [(.t 40)]),oX 42 (.not (.t 41))] (cD 42 .ret .skip)) (.ops [oL 43 2,oM 44 7,oL 45 1,oX 46 (.len .str (.t 45)),oB 47 .add 44 46,oX 48 (.slice .str 1 (.t 43) (some (.t 47)) none),oS 1 2 48])))))))) (.ops [oM 49 0,oL 50 2,oX 51 (.call (.t 49) [(.t 50)])])))⟩
theorem L110_ok : zAi Tryz.prog Tryz.f110 [] = some L110 := by kernel_rfl
end Go.Proofs.YtbibhcmcjldhdaaGreatDoor
namespace Go.Proofs
open Go.Shelf
set_option linter.unusedSimpArgs false
set_option maxHeartbeats 4000000
def Tryz.lays156_ren : Go.Shelf.Ren := ⟨fun | 156 => 36 | 165 => 64 | 166 => 34 | 169 => 41 | 240 => 61 | 241 => 119 | 276 => 115 | 277 => 159 | n => n,fun | 31 => 64 | 9 => 9 | 3 => 3 | 4 => 4 | 0 => 0 | 20 => 20 | 72 => 82 | 76 => 85 | 70 => 79 | 37 => 80 | 75 => 84 | 127 => 124 | 164 => 191 | 5 => 5 | 80 => 95 | n => n,fun | n => n⟩
theorem Tryz.lays156 : Go.Proofs.Lays.n156 Tryz.prog Tryz.lays156_ren := {
 mixed := by kernel_rfl
 f156 := Tryz.func36.trans (congrArg some (by kernel_rfl))
 f165 := Tryz.func64.trans (congrArg some (by kernel_rfl))
 f166 := Tryz.func34.trans (congrArg some (by kernel_rfl))
 f169 := Tryz.func41.trans (congrArg some (by kernel_rfl))
 f240 := Tryz.func61.trans (congrArg some (by kernel_rfl))
 f241 := Tryz.func119.trans (congrArg some (by kernel_rfl))
 f276 := Tryz.func115.trans (congrArg some (by kernel_rfl))
 f277 := Tryz.func159.trans (congrArg some (by kernel_rfl))
 t0 := Tryz.underlying0
 a0 := Tryz.isAgg0
 z0 := Tryz.sizeOf0
 v0 := Tryz.zeroValue0
 t3 := Tryz.underlying3
 a3 := Tryz.isAgg3
 z3 := Tryz.sizeOf3
 v3 := Tryz.zeroValue3
 t4 := Tryz.underlying4
 a4 := Tryz.isAgg4
 z4 := Tryz.sizeOf4
 v4 := Tryz.zeroValue4
 t9 := Tryz.underlying9
 a9 := Tryz.isAgg9
 z9 := Tryz.sizeOf9
 v9 := Tryz.zeroValue9
 t20 := Tryz.underlying20
 a20 := Tryz.isAgg20
 z20 := Tryz.sizeOf20
 v20 := Tryz.zeroValue20
 t31 := Tryz.underlying64
 a31 := Tryz.isAgg64
 z31 := Tryz.sizeOf64
 v31 := Tryz.zeroValue64
 t37 := Tryz.underlying80
 a37 := Tryz.isAgg80
 z37 := Tryz.sizeOf80
 v37 := Tryz.zeroValue80
 t70 := Tryz.underlying79
 a70 := Tryz.isAgg79
 z70 := Tryz.sizeOf79
 v70 := Tryz.zeroValue79
 t72 := Tryz.underlying82
 a72 := Tryz.isAgg82
 z72 := Tryz.sizeOf82
 v72 := Tryz.zeroValue82
 t75 := Tryz.underlying84
 a75 := Tryz.isAgg84
 z75 := Tryz.sizeOf84
 v75 := Tryz.zeroValue84
 t76 := Tryz.underlying85
 a76 := Tryz.isAgg85
 z76 := Tryz.sizeOf85
 v76 := Tryz.zeroValue85
 t127 := Tryz.underlying124
 a127 := Tryz.isAgg124
 z127 := Tryz.sizeOf124
 v127 := Tryz.zeroValue124
 t164 := Tryz.underlying191
 a164 := Tryz.isAgg191
 z164 := Tryz.sizeOf191
 v164 := Tryz.zeroValue191 }
theorem Tryz.Builder_Extra_156 : Builder.Extra Tryz.prog Tryz.lays156_ren := {
 sizeBuilder := by kernel_rfl
 liesBuilder := by kernel_rfl
 t5 := Tryz.underlying5
 a5 := Tryz.isAgg5
 z5 := Tryz.sizeOf5
 v5 := Tryz.zeroValue5
 infoByte := by kernel_rfl
 cellsByte := by kernel_rfl
 sizeByte := by kernel_rfl
 neB5 := by decide }
open Go.RowKit in
theorem Tryz.strings_Join_none (a : Option Addr) (c : Nat) (sep : ByteArray) (w : World) :
  Calls Tryz.prog 36 #[.slice a 0 c,.string sep] w fun e w' => e = .returned (.string ⟨#[]⟩)/\w' = w := Any.strings_Join_none Tryz.lays156 Tryz.Builder_Extra_156 a c sep w
open Go.RowKit in
theorem Tryz.strings_Join (bk o c : Nat) (xs : List ByteArray) (sep : ByteArray) (w : World) (hcells : ∀ (j : Nat) x,xs[j]? = some x->w.cell? ⟨bk,o + j,none⟩ = some (.string x)) (hbk : bk < w.heap.size) (hN : xs.length <= 140737488355328) (hcap : xs.length <= c) (hlen : (Lib.join (xs.map (·.data.toList)) sep.data.toList).length <= 140737488355328) :
  Calls Tryz.prog 36 #[.slice (some ⟨bk,o,none⟩) xs.length c,.string sep] w fun e w' => e = .returned (.string ⟨(Lib.join (xs.map (·.data.toList)) sep.data.toList).toArray⟩)/\Below w.heap.size w w' := Any.strings_Join Tryz.lays156 Tryz.Builder_Extra_156 bk o c xs sep w hcells hbk hN hcap hlen
def Tryz.lays143_ren : Go.Shelf.Ren := ⟨fun | 143 => 112 | 219 => 158 | 217 => 208 | 225 => 209 | 224 => 210 | 267 => 211 | 266 => 260 | 314 => 261 | n => n,fun | 9 => 9 | 3 => 3 | 4 => 4 | 5 => 5 | 46 => 118 | 146 => 194 | 51 => 193 | n => n,fun | 1 => 2 | n => n⟩
theorem Tryz.lays143 : Go.Proofs.Lays.n143 Tryz.prog Tryz.lays143_ren := {
 mixed := by kernel_rfl
 f143 := Tryz.func112.trans (congrArg some (by kernel_rfl))
 f217 := Tryz.func208.trans (congrArg some (by kernel_rfl))
 f219 := Tryz.func158.trans (congrArg some (by kernel_rfl))
 f224 := Tryz.func210.trans (congrArg some (by kernel_rfl))
 f225 := Tryz.func209.trans (congrArg some (by kernel_rfl))
 f266 := Tryz.func260.trans (congrArg some (by kernel_rfl))
 f267 := Tryz.func211.trans (congrArg some (by kernel_rfl))
 f314 := Tryz.func261.trans (congrArg some (by kernel_rfl))
 t3 := Tryz.underlying3
 a3 := Tryz.isAgg3
 z3 := Tryz.sizeOf3
 v3 := Tryz.zeroValue3
 t4 := Tryz.underlying4
 a4 := Tryz.isAgg4
 z4 := Tryz.sizeOf4
 v4 := Tryz.zeroValue4
 t5 := Tryz.underlying5
 a5 := Tryz.isAgg5
 z5 := Tryz.sizeOf5
 v5 := Tryz.zeroValue5
 t9 := Tryz.underlying9
 a9 := Tryz.isAgg9
 z9 := Tryz.sizeOf9
 v9 := Tryz.zeroValue9
 t46 := Tryz.underlying118
 a46 := Tryz.isAgg118
 z46 := Tryz.sizeOf118
 v46 := Tryz.zeroValue118
 t51 := Tryz.underlying193
 a51 := Tryz.isAgg193
 z51 := Tryz.sizeOf193
 v51 := Tryz.zeroValue193
 t146 := Tryz.underlying194
 a146 := Tryz.isAgg194
 z146 := Tryz.sizeOf194
 v146 := Tryz.zeroValue194
 g1 := by kernel_rfl }
open Go.RowKit Go.Lib in
theorem Tryz.strings_Index_one (s : ByteArray) (c : UInt8) (w : World) :
  Calls Tryz.prog 112 #[.string s,.string ⟨#[c]⟩] w fun e w' => e = .returned (.int .i64 (Lib.indexByte s.data.toList c))/\w' = w := Any.strings_Index_one Tryz.lays143 s c w
def Tryz.lays101_ren : Go.Shelf.Ren := ⟨fun | 101 => 56 | 208 => 113 | 206 => 118 | n => n,fun | 9 => 9 | 4 => 4 | 3 => 3 | n => n,fun | n => n⟩
theorem Tryz.lays101 : Go.Proofs.Lays.n101 Tryz.prog Tryz.lays101_ren := {
 mixed := by kernel_rfl
 f101 := Tryz.func56.trans (congrArg some (by kernel_rfl))
 f206 := Tryz.func118.trans (congrArg some (by kernel_rfl))
 f208 := Tryz.func113.trans (congrArg some (by kernel_rfl))
 t3 := Tryz.underlying3
 a3 := Tryz.isAgg3
 z3 := Tryz.sizeOf3
 v3 := Tryz.zeroValue3
 t4 := Tryz.underlying4
 a4 := Tryz.isAgg4
 z4 := Tryz.sizeOf4
 v4 := Tryz.zeroValue4
 t9 := Tryz.underlying9
 a9 := Tryz.isAgg9
 z9 := Tryz.sizeOf9
 v9 := Tryz.zeroValue9 }
open Go.RowKit Go.Lib in
theorem Tryz.strings_TrimPrefix (s p : ByteArray) (w : World) :
  Calls Tryz.prog 56 #[.string s,.string p] w fun e w' => e = .returned (.string ⟨(Lib.trimPrefix s.data.toList p.data.toList).toArray⟩)/\w' = w := Any.strings_TrimPrefix Tryz.lays101 s p w
def Tryz.lays105_ren : Go.Shelf.Ren := ⟨fun | 105 => 35 | 212 => 62 | 99 => 63 | 165 => 64 | 166 => 34 | 170 => 65 | 169 => 41 | 263 => 116 | 264 => 117 | 206 => 118 | 240 => 61 | 241 => 119 | 276 => 115 | 277 => 159 | n => n,fun | 9 => 9 | 3 => 3 | 4 => 4 | 20 => 20 | 0 => 0 | 46 => 118 | 109 => 119 | 5 => 5 | 72 => 82 | 76 => 85 | 51 => 193 | 146 => 194 | 53 => 196 | 148 => 197 | 70 => 79 | 37 => 80 | 75 => 84 | 127 => 124 | 164 => 191 | 80 => 95 | n => n,fun | n => n⟩
theorem Tryz.lays105 : Go.Proofs.Lays.n105 Tryz.prog Tryz.lays105_ren := {
 mixed := by kernel_rfl
 f99 := Tryz.func63.trans (congrArg some (by kernel_rfl))
 f105 := Tryz.func35.trans (congrArg some (by kernel_rfl))
 f165 := Tryz.func64.trans (congrArg some (by kernel_rfl))
 f166 := Tryz.func34.trans (congrArg some (by kernel_rfl))
 f169 := Tryz.func41.trans (congrArg some (by kernel_rfl))
 f170 := Tryz.func65.trans (congrArg some (by kernel_rfl))
 f206 := Tryz.func118.trans (congrArg some (by kernel_rfl))
 f212 := Tryz.func62.trans (congrArg some (by kernel_rfl))
 f240 := Tryz.func61.trans (congrArg some (by kernel_rfl))
 f241 := Tryz.func119.trans (congrArg some (by kernel_rfl))
 f263 := Tryz.func116.trans (congrArg some (by kernel_rfl))
 f264 := Tryz.func117.trans (congrArg some (by kernel_rfl))
 f276 := Tryz.func115.trans (congrArg some (by kernel_rfl))
 f277 := Tryz.func159.trans (congrArg some (by kernel_rfl))
 t0 := Tryz.underlying0
 a0 := Tryz.isAgg0
 z0 := Tryz.sizeOf0
 v0 := Tryz.zeroValue0
 t3 := Tryz.underlying3
 a3 := Tryz.isAgg3
 z3 := Tryz.sizeOf3
 v3 := Tryz.zeroValue3
 t4 := Tryz.underlying4
 a4 := Tryz.isAgg4
 z4 := Tryz.sizeOf4
 v4 := Tryz.zeroValue4
 t5 := Tryz.underlying5
 a5 := Tryz.isAgg5
 z5 := Tryz.sizeOf5
 v5 := Tryz.zeroValue5
 t9 := Tryz.underlying9
 a9 := Tryz.isAgg9
 z9 := Tryz.sizeOf9
 v9 := Tryz.zeroValue9
 t20 := Tryz.underlying20
 a20 := Tryz.isAgg20
 z20 := Tryz.sizeOf20
 v20 := Tryz.zeroValue20
 t37 := Tryz.underlying80
 a37 := Tryz.isAgg80
 z37 := Tryz.sizeOf80
 v37 := Tryz.zeroValue80
 t46 := Tryz.underlying118
 a46 := Tryz.isAgg118
 z46 := Tryz.sizeOf118
 v46 := Tryz.zeroValue118
 t51 := Tryz.underlying193
 a51 := Tryz.isAgg193
 z51 := Tryz.sizeOf193
 v51 := Tryz.zeroValue193
 t53 := Tryz.underlying196
 a53 := Tryz.isAgg196
 z53 := Tryz.sizeOf196
 v53 := Tryz.zeroValue196
 t70 := Tryz.underlying79
 a70 := Tryz.isAgg79
 z70 := Tryz.sizeOf79
 v70 := Tryz.zeroValue79
 t72 := Tryz.underlying82
 a72 := Tryz.isAgg82
 z72 := Tryz.sizeOf82
 v72 := Tryz.zeroValue82
 t75 := Tryz.underlying84
 a75 := Tryz.isAgg84
 z75 := Tryz.sizeOf84
 v75 := Tryz.zeroValue84
 t76 := Tryz.underlying85
 a76 := Tryz.isAgg85
 z76 := Tryz.sizeOf85
 v76 := Tryz.zeroValue85
 t109 := Tryz.underlying119
 a109 := Tryz.isAgg119
 z109 := Tryz.sizeOf119
 v109 := Tryz.zeroValue119
 t127 := Tryz.underlying124
 a127 := Tryz.isAgg124
 z127 := Tryz.sizeOf124
 v127 := Tryz.zeroValue124
 t146 := Tryz.underlying194
 a146 := Tryz.isAgg194
 z146 := Tryz.sizeOf194
 v146 := Tryz.zeroValue194
 t148 := Tryz.underlying197
 a148 := Tryz.isAgg197
 z148 := Tryz.sizeOf197
 v148 := Tryz.zeroValue197
 t164 := Tryz.underlying191
 a164 := Tryz.isAgg191
 z164 := Tryz.sizeOf191
 v164 := Tryz.zeroValue191 }
theorem Tryz.Builder_Extra_105 : Builder.Extra Tryz.prog Tryz.lays105_ren := {
 sizeBuilder := by kernel_rfl
 liesBuilder := by kernel_rfl
 t5 := Tryz.underlying5
 a5 := Tryz.isAgg5
 z5 := Tryz.sizeOf5
 v5 := Tryz.zeroValue5
 infoByte := by kernel_rfl
 cellsByte := by kernel_rfl
 sizeByte := by kernel_rfl
 neB5 := by decide }
open Go.RowKit Go.Lib in
theorem Tryz.strings_Repeat (s : ByteArray) (c : Nat) (w : World) (hc : c <= 9223372036854775807) (hlen : s.size * c <= 140737488355328) :
  Calls Tryz.prog 35 #[.string s,.int .i64 c] w fun e w' => e = .returned (.string ⟨(Lib.repeatL s.data.toList c).toArray⟩)/\Below w.heap.size w w' := Any.strings_Repeat Tryz.lays105 Tryz.Builder_Extra_105 s c w hc hlen
end Go.Proofs
namespace Go.Proofs.YtbibhcmcjldhdaaGreatDoor
open Go Go.Ax Go.RowKit
set_option maxRecDepth 100000
set_option linter.unusedSimpArgs false
set_option linter.unusedVariables false
set_option maxHeartbeats 4000000
theorem zFr {w : World} {M : Nat->Prop} {ρ : Nat->Ax.Loc} {n : Nat} {x y : AV} {vs : Array Value} (h : RepL w M ρ n [x,y] vs) : ∃ a b,vs = #[a,b]/\Rep w M ρ n x a/\Rep w M ρ n y b := by
 obtain ⟨h1,h2⟩ := h
 match vs,h1 with
 | ⟨[a,b]⟩,_ => exact ⟨a,b,rfl,h2 0 x a rfl rfl,h2 1 y b rfl rfl⟩
theorem zVA (l : List UInt8) : (mkS l).data.toList = l := rfl
theorem zO8 (l : List UInt8) : (mkS l).size = l.length := rfl
theorem zX2 (xs : List (List UInt8)) (sep : List UInt8) (hn : xs.length <= 140737488355328) (hl : (Lib.join xs sep).length <= 140737488355328) (H : zB) :
  ACall Tryz.prog 36 [.sl 1 (xs.map fun x => [str x]),str sep] H fun x H' => x = str (Lib.join xs sep)/\H' = H := by
 refine ⟨⟨_,Tryz.func36,by kernel_rfl,by kernel_rfl⟩,fun X ρ w vs hrel hargs => ?_⟩
 obtain ⟨a,b,rfl,ha,hb⟩ := zFr hargs
 have hb := zEg hb
 subst hb
 cases xs with
 | nil =>
  simp only [zZQ] at ha
  have : ∃ ad cap,a = .slice ad 0 cap := by
   cases ha with
   | slE => exact ⟨_,_,rfl⟩
   | slN => exact ⟨_,_,rfl⟩
  obtain ⟨ad,cap,rfl⟩ := this
  refine (Tryz.strings_Join_none ad cap (mkS sep) w).mono ?_
  rintro e w' ⟨rfl,rfl⟩
  exact ⟨_,_,H,ρ,rfl,⟨rfl,rfl⟩,hrel,.v _ _,Fut.refl _ _ _⟩
 | cons x0 xr =>
  generalize hxs : x0 :: xr = xs at *
  have hne : xs.map (fun x => [str x]) ≠ [] := by rw [<- hxs]; simp
  generalize hys : xs.map (fun x => [str x]) = ys at *
  cases ha with
  | slE => exact absurd rfl hne
  | slN _ _ _ b o cap c hm hb hcap hsz hcell hrep =>
   have hlen : ys.length = xs.length := by rw [<- hys]; simp
   have hmm : (xs.map mkS).map (fun x => x.data.toList) = xs := by simp [Function.comp_def,zVA]
   have hcells : ∀ (j : Nat) x,(xs.map mkS)[j]? = some x->w.cell? ⟨b,o + j,none⟩ = some (.string x) := by
    intro j x hx
    simp only [zY6,Option.map_eq_some_iff] at hx
    obtain ⟨y,hy,rfl⟩ := hx
    have hyj : ys[j]? = some [str y] := by rw [<- hys]; simp [hy]
    have h1 := hcell j 0 _ (str y) hyj rfl
    have h2 := zEg (hrep j 0 _ (str y) hyj rfl)
    simp only [zzaX,zZg] at h1
    rw [h1.1,h2]
   have := Tryz.strings_Join b o cap (xs.map mkS) (mkS sep) w hcells hb (by simpa using hn) (by simp; omega) (by rw [hmm]; exact hl)
   rw [hmm,zYo,<- hlen] at this
   refine this.mono ?_
   rintro e w' ⟨rfl,hbel⟩
   obtain ⟨f1,f2⟩ := hrel.more ⟨hbel.os,hbel.tape,hbel.output,hbel.size⟩ hbel.block
   exact ⟨_,_,H,ρ,rfl,⟨rfl,rfl⟩,f1,.v _ _,f2⟩
end Go.Proofs.YtbibhcmcjldhdaaGreatDoor
namespace Go.Proofs.YtbibhcmcjldhdaaGreatDoor
open Go Go.Ax
set_option maxRecDepth 100000
set_option linter.unusedSimpArgs false
set_option maxHeartbeats 4000000
def L44 : LFn := ⟨9,[(.tmp 4)],(sO [oX 4 (.mv (kB false))] (sO [oM 5 0,oM 6 1,oX 7 (y2 72 5 6),oV 8 .geq 7 0,oM 4 8] .ret))⟩
theorem L44_ok : zAi Tryz.prog Tryz.f44 [] = some L44 := by kernel_rfl
def L58 : LFn := ⟨19,[(.tmp 4)],(sO [oC 4 0] (.seq (sO [oM 6 0,oX 7 (.len .slc (.t 6)),oC 8 0] (.block 0 (.loop (sO [oB 9 .lss 8 7] (.seq (cD 9 .skip (.exit 0)) (.seq (.block 1 (sO [oM 10 8,oM 5 10] (sO [oM 11 1,oM 12 0,oM 13 5,oI 14 1 12 13,oL 15 14,oX 16 (.bin .str .eql (.t 11) (.t 15))] (cD 16 (sO [oM 17 5,oM 4 17] .ret) .skip)))) (.ops [oV 18 .add 8 1,oM 8 18]))))))) (sO [oC 4 (-1)] .ret)))⟩
theorem L58_ok : zAi Tryz.prog Tryz.f58 [] = some L58 := by kernel_rfl
def L62 : LFn := ⟨30,[(.tmp 4),(.tmp 5)],(sO [oX 4 (.mv (.c (.v (.int .u64 0)))),oX 5 (.mv (.c (.v (.int .u64 0))))] (.seq (.cond (kB false) (sO [oM 11 0,oX 12 (.conv (.toInt .u32) (.t 11)),oM 13 1,oX 14 (.conv (.toInt .u32) (.t 13)),oX 15 (y2 116 12 14),oM 10 15,oE 16 10 0,oE 17 10 1,oM 6 16,oM 7 17] (sO [oM 18 6,oX 19 (.conv (.toInt .u64) (.t 18)),oM 20 7,oX 21 (.conv (.toInt .u64) (.t 20)),oM 4 19,oM 5 21] .ret)) .skip) (sO [oM 23 0,oM 24 1,oX 25 (y2 117 23 24),oM 22 25,oE 26 22 0,oE 27 22 1,oM 8 26,oM 9 27] (sO [oM 28 8,oM 29 9,oM 4 28,oM 5 29] .ret))))⟩
theorem L62_ok : zAi Tryz.prog Tryz.f62 [] = some L62 := by kernel_rfl
def L72 : LFn := ⟨19,[(.tmp 4)],(sO [oC 4 0] (.seq (sO [oM 6 0,oX 7 (.len .slc (.t 6)),oC 8 0] (.block 0 (.loop (sO [oB 9 .lss 8 7] (.seq (cD 9 .skip (.exit 0)) (.seq (.block 1 (sO [oM 10 8,oM 5 10] (sO [oM 11 1,oM 12 0,oM 13 5,oI 14 6 12 13,oA 15 6 14,oX 16 (.call (.t 11) [(.t 15)])] (cD 16 (sO [oM 17 5,oM 4 17] .ret) .skip)))) (.ops [oV 18 .add 8 1,oM 8 18]))))))) (sO [oC 4 (-1)] .ret)))⟩
theorem L72_ok : zAi Tryz.prog Tryz.f72 [] = some L72 := by kernel_rfl
def L105 : LFn := ⟨10,[(.tmp 4)],(sO [oX 2 (.box false (.t 0)),oC 4 0] (sO [oM 5 1,oA 6 3 2,oX 7 (.bsl true 3 1 [(int 0),(int 0),(.v (.string (mkS [])))] [(0,(.t 6))]),oX 8 (y2 155 5 7),oX 9 (.len .slc (.t 8)),oM 4 9] .ret))⟩
theorem L105_ok : zAi Tryz.prog Tryz.f105 [⟨1,2,.imm⟩] = some L105 := by kernel_rfl
def L117 : LFn := ⟨51,[(.tmp 4),(.tmp 5)],(sO [oX 4 (.mv (.c (.v (.int .u64 0)))),oX 5 (.mv (.c (.v (.int .u64 0))))] (sO [oM 14 0,oX 15 (bI .and (.t 14) (.c (.v (.int .u64 4294967295)))),oM 6 15] (sO [oM 16 0,oX 17 (bI .shr (.t 16) (.c (.v (.int .u64 32)))),oM 7 17] (sO [oM 18 1,oX 19 (bI .and (.t 18) (.c (.v (.int .u64 4294967295)))),oM 8 19] (sO [oM 20 1,oX 21 (bI .shr (.t 20) (.c (.v (.int .u64 32)))),oM 9 21] (sO [oM 22 6,oM 23 8,oB 24 .mul 22 23,oM 10 24] (sO [oM 25 7,oM 26 8,oB 27 .mul 25 26,oM 28 10,oX 29 (bI .shr (.t 28) (.c (.v (.int .u64 32)))),oB 30 .add 27 29,oM 11 30] (sO [oM 31 11,oX 32 (bI .and (.t 31) (.c (.v (.int .u64 4294967295)))),oM 12 32] (sO [oM 33 11,oX 34 (bI .shr (.t 33) (.c (.v (.int .u64 32)))),oM 13 34] (sO [oM 35 12,oM 36 6,oM 37 9,oB 38 .mul 36 37,oB 39 .add 35 38,oM 12 39] (sO [oM 40 7,oM 41 9,oB 42 .mul 40 41,oM 43 13,oB 44 .add 42 43,oM 45 12,oX 46 (bI .shr (.t 45) (.c (.v (.int .u64 32)))),oB 47 .add 44 46,oM 4 47] (sO [oM 48 0,oM 49 1,oB 50 .mul 48 49,oM 5 50] .ret))))))))))))⟩
theorem L117_ok : zAi Tryz.prog Tryz.f117 [] = some L117 := by kernel_rfl
def L155 : LFn := ⟨30,[(.tmp 4)],(sO [oX 4 (.mv (.c zAl))] (sO [oX 5 (.mv (.c zAl)),oX 5 (.own 3 (.t 5))] (.seq (sO [oM 8 1,oX 9 (.len .slc (.t 8)),oC 10 0] (.block 0 (.loop (sO [oB 11 .lss 10 9] (.seq (cD 11 .skip (.exit 0)) (.seq (.block 1 (sO [oI 12 3 8 10,oA 13 3 12,oX 7 (.alloc [(int 0),(int 0),(.v (.string (mkS [])))]),oS 3 7 13] (.seq (sO [oA 14 3 7,oM 15 0,oX 16 (y2 193 14 15),oX 17 (.not (.t 16))] (cD 17 (sO [oX 4 (.mv (.c zAl))] .ret) .skip)) (.draw [oM 18 5,oX 19 (y0 194),oD 20 0 7,oL 21 20,oX 22 (.look .int (.agg [(.v .nilFunc),(.v .nilFunc)]) false (.t 19) (.t 21)),oX 23 (.fld false 1 1 (.t 22)),oA 24 3 7,oM 25 0,oX 26 (.call (.t 23) [(.t 24),(.t 25)])] [oX 27 (.append 3 32 (.t 18) (.t 26)),oM 5 27])))) (.ops [oV 28 .add 10 1,oM 10 28]))))))) (sO [oM 29 5,oM 4 29,oX 4 (.frz (.t 4))] .ret))))⟩
theorem L155_ok : zAi Tryz.prog Tryz.f155 [⟨9,2,(.pre 4 (.frz (.t 4)))⟩,⟨1,1,(.pre 5 (.own 3 (.t 5)))⟩,⟨7,9,.tail⟩] = some L155 := by kernel_rfl
def L193 : LFn := ⟨22,[(.tmp 4)],(sO [oX 2 (.box false (.t 0)),oX 4 (.mv (kB false))] (.seq (.draw [oX 8 (y0 194),oD 9 0 2,oL 10 9,oX 11 (.look .int (.agg [(.v .nilFunc),(.v .nilFunc)]) true (.t 8) (.t 10)),oM 7 11,oE 12 7 0,oE 13 7 1] [oX 5 (.alloc [(.v .nilFunc),(.v .nilFunc)]),oS 2 5 12,oM 6 13]) (sO [oM 14 6,oM 15 14,oT 16 15 (.faddr 0 (.t 5)),oT 17 15 (.load false 1 (.t 16)),oT 18 15 (.load true 3 (.t 2)),oU 19 15 1,oT 20 15 (.call (.t 17) [(.t 18),(.t 19)]),oP 21 15 (.t 20) (kB false),oM 4 21] .ret)))⟩
theorem L193_ok : zAi Tryz.prog Tryz.f193 [⟨1,7,.tail⟩] = some L193 := by kernel_rfl
def L194 : LFn := ⟨13,[(.tmp 0)],(sO [oX 0 (.mv (.c (.v (.map none))))] (sO [oX 1 (.mv (.c (.fn (.func 239) [] [])))] (sO [oX 2 (.mv (.c (.fn (.func 240) [] [])))] (sO [⟨(some 3),none,.mkmap⟩,oM 4 1,oM 5 2,oX 6 (.build [(.v .nilFunc),(.v .nilFunc)] [(0,(1,(.t 4))),(1,(1,(.t 5)))]),oN (.ins .int (.t 3) (kI 1) (.t 6)),oM 7 1,oM 8 2,oX 9 (.build [(.v .nilFunc),(.v .nilFunc)] [(0,(1,(.t 7))),(1,(1,(.t 8)))]),oN (.ins .int (.t 3) (kI 2) (.t 9)),oX 10 (.build [(.v .nilFunc),(.v .nilFunc)] [(0,(1,(.c (.fn (.func 241) [] [])))),(1,(1,(.c (.fn (.func 242) [] []))))]),oN (.ins .int (.t 3) (kI 3) (.t 10)),oX 11 (.build [(.v .nilFunc),(.v .nilFunc)] [(0,(1,(.c (.fn (.func 244) [] [])))),(1,(1,(.c (.fn (.func 246) [] []))))]),oN (.ins .int (.t 3) (kI 4) (.t 11)),oM 12 3,oM 0 12,oX 0 (.frz (.t 0))] .ret))))⟩
theorem L194_ok : zAi Tryz.prog Tryz.f194 [⟨3,15,(.pre 0 (.frz (.t 0)))⟩] = some L194 := by kernel_rfl
def L239 : LFn := ⟨13,[(.tmp 4)],(sO [oX 2 (.box false (.t 0)),oX 4 (.mv (kB false))] (sO [oD 5 1 2,oL 6 5,oV 7 .eql 6 0,oM 8 7,oT 9 8 (.faddr 2 (.t 2)),oT 10 8 (.load false 1 (.t 9)),oT 11 8 (.bin .str .eql (.t 10) (.c (.v (.string (mkS []))))),oP 12 8 (.t 11) (kB false),oM 4 12] .ret))⟩
theorem L239_ok : zAi Tryz.prog Tryz.f239 [] = some L239 := by kernel_rfl
def L240 : LFn := ⟨9,[(.tmp 4)],(sO [oX 2 (.box false (.t 0)),oX 4 (.mv (.c zAl))] (sO [oD 5 0 2,oL 6 5,oX 7 (.build [(int 0),(int 0),(.v (.string (mkS [])))] [(0,(1,(.t 6)))]),oX 8 (.bsl false 3 1 [(int 0),(int 0),(.v (.string (mkS [])))] [(0,(.t 7))]),oM 4 8,oX 4 (.frz (.t 4))] .ret))⟩
theorem L240_ok : zAi Tryz.prog Tryz.f240 [⟨1,5,(.pre 4 (.frz (.t 4)))⟩] = some L240 := by kernel_rfl
def L241 : LFn := ⟨18,[(.tmp 4)],(sO [oX 2 (.box false (.t 0)),oX 4 (.mv (kB false))] (sO [oD 5 1 2,oL 6 5,oV 7 .geq 6 1,oM 8 7,oT 9 8 (.faddr 1 (.t 2)),oT 10 8 (.load false 1 (.t 9)),oT 11 8 (bI .leq (.t 10) (kI 8)),oP 12 8 (.t 11) (kB false),oM 13 12,oT 14 13 (.faddr 2 (.t 2)),oT 15 13 (.load false 1 (.t 14)),oT 16 13 (.bin .str .eql (.t 15) (.c (.v (.string (mkS []))))),oP 17 13 (.t 16) (kB false),oM 4 17] .ret))⟩
theorem L241_ok : zAi Tryz.prog Tryz.f241 [] = some L241 := by kernel_rfl
def L242 : LFn := ⟨10,[(.tmp 4)],(sO [oX 2 (.box false (.t 0)),oX 4 (.mv (.c zAl))] (sO [oX 5 (.build [(int 0),(int 0),(.v (.string (mkS [])))] [(0,(1,(kI 1)))]),oX 6 (.bsl true 3 1 [(int 0),(int 0),(.v (.string (mkS [])))] [(0,(.t 5))]),oD 7 1 2,oL 8 7,oX 9 (y2 243 6 8),oM 4 9,oX 4 (.frz (.t 4))] .ret))⟩
theorem L242_ok : zAi Tryz.prog Tryz.f242 [⟨1,1,.imm⟩,⟨1,6,(.pre 4 (.frz (.t 4)))⟩] = some L242 := by kernel_rfl
def L243 : LFn := ⟨48,[(.tmp 4)],(sO [oX 4 (.mv (.c zAl))] (.seq (sO [oM 9 1,oV 10 .lss 9 0] (cD 10 (.ops [oX 11 (.mkif 9 (.c (.v (.string (mkS [99,97,110,110,111,116,32,98,101,32,110,101,103,97,116,105,118,101]))))),oN (.panicv (.t 11))]) .skip)) (sO [oM 13 0,oX 14 (.len .slc (.t 13)),oX 15 (.conv (.toInt .u64) (.t 14)),oM 16 1,oX 17 (.conv (.toInt .u64) (.t 16)),oX 18 (y2 62 15 17),oM 12 18,oE 19 12 0,oE 20 12 1,oM 5 19,oM 6 20] (.seq (sO [oM 21 5,oX 22 (bI .gtr (.t 21) (.c (.v (.int .u64 0)))),oM 23 22,oW 24 23 6,oF 25 23 (bI .gtr (.t 24) (.c (.v (.int .u64 9223372036854775807)))),oP 26 23 (kB true) (.t 25)] (cD 26 (.ops [oX 27 (.mkif 9 (.c (.v (.string (mkS [116,104,101,32,114,101,115,117,108,116,32,111,102,32,40,108,101,110,40,120,41,32,42,32,99,111,117,110,116,41,32,111,118,101,114,102,108,111,119,115]))))),oN (.panicv (.t 27))]) .skip)) (sO [oM 28 6,oX 29 (.conv (.toInt .i64) (.t 28)),oX 30 (.msl 3 32 [(int 0),(int 0),(.v (.string (mkS [])))] (.t 29) (.t 29)),oM 7 30] (sO [oM 31 7,oM 32 0,oX 33 (.copy 3 (.t 31) (.t 32)),oM 8 33] (.seq (.block 0 (.loop (.seq (sO [oM 34 8,oM 35 7,oX 36 (.len .slc (.t 35)),oB 37 .lss 34 36] (cD 37 .skip (.exit 0))) (.block 1 (.draw [oM 38 8,oM 39 7,oM 40 8,oX 41 (.slice .slc 3 (.t 39) (some (.t 40)) none),oM 42 7,oM 43 8,oX 44 (.slice .slc 3 (.t 42) none (some (.t 43)))] [oX 45 (.copy 3 (.t 41) (.t 44)),oB 46 .add 38 45,oM 8 46]))))) (sO [oM 47 7,oM 4 47,oX 4 (.frz (.t 4))] .ret))))))))⟩
theorem L243_ok : zAi Tryz.prog Tryz.f243 [⟨10,2,(.pre 4 (.frz (.t 4)))⟩,⟨9,7,.tail⟩] = some L243 := by kernel_rfl
def L244 : LFn := ⟨20,[(.tmp 4)],(sO [oX 2 (.box false (.t 0)),oX 4 (.mv (kB false))] (sO [oM 8 1,oD 9 2 2,oL 10 9,oX 11 (y2 245 8 10),oM 7 11,oE 12 7 0,oE 13 7 1,oX 5 (.alloc [(.v (.string (mkS []))),zAl]),oS 2 5 12,oM 6 13] (sO [oD 14 1 2,oL 15 14,oV 16 .eql 15 0,oM 17 16,oU 18 17 6,oP 19 17 (.t 18) (kB false),oM 4 19] .ret)))⟩
theorem L244_ok : zAi Tryz.prog Tryz.f244 [] = some L244 := by kernel_rfl
def L245 : LFn := ⟨17,[(.cell 4 true 2),(.tmp 5)],(sO [oX 3 (.box false (.t 1)),oX 4 (.alloc [(.v (.string (mkS []))),zAl]),oX 5 (.mv (kB false))] (sO [oM 7 0,oX 8 (.mkfn (.func 276) [] [(.t 3)]),oX 9 (y2 275 7 8),oM 6 9] (.seq (sO [oM 10 6,oV 11 .lss 10 0] (cD 11 (sO [oX 12 (.build [(.v (.string (mkS []))),zAl] []),oS 2 4 12,oX 5 (.mv (kB false))] .ret) .skip)) (sO [oM 13 0,oM 14 6,oI 15 2 13 14,oA 16 2 15,oS 2 4 16,oX 5 (.mv (kB true))] .ret))))⟩
theorem L245_ok : zAi Tryz.prog Tryz.f245 [] = some L245 := by kernel_rfl
def L246 : LFn := ⟨32,[(.tmp 4)],(sO [oX 2 (.box false (.t 0)),oX 4 (.mv (.c zAl))] (sO [oX 5 (.mv (.c zAl)),oX 5 (.own 3 (.t 5))] (sO [oM 11 1,oD 12 2 2,oL 13 12,oX 14 (y2 245 11 13),oM 10 14,oE 15 10 0,oE 16 10 1,oX 6 (.alloc [(.v (.string (mkS []))),zAl]),oS 2 6 15,oM 7 16] (.seq (sO [oD 17 1 6,oL 18 17,oX 19 (.len .slc (.t 18)),oC 20 0] (.block 0 (.loop (sO [oB 21 .lss 20 19] (.seq (cD 21 .skip (.exit 0)) (.seq (.block 1 (sO [oI 22 4 18 20,oA 23 4 22,oX 9 (.alloc [(.v (.string (mkS []))),(int 0),(int 0),(.v (.string (mkS [])))]),oS 4 9 23] (.ops [oM 24 5,oD 25 1 9,oA 26 3 25,oX 27 (y1 247 26),oX 28 (.bsl true 3 1 [(int 0),(int 0),(.v (.string (mkS [])))] [(0,(.t 27))]),oX 29 (.append 3 32 (.t 24) (.t 28)),oM 5 29]))) (.ops [oV 30 .add 20 1,oM 20 30]))))))) (sO [oM 31 5,oM 4 31,oX 4 (.frz (.t 4))] .ret)))))⟩
theorem L246_ok : zAi Tryz.prog Tryz.f246 [⟨6,4,.imm⟩,⟨8,2,(.pre 4 (.frz (.t 4)))⟩,⟨1,1,(.pre 5 (.own 3 (.t 5)))⟩] = some L246 := by kernel_rfl
def L247 : LFn := ⟨8,[(.cell 2 true 3)],(sO [oX 1 (.box false (.t 0)),oX 2 (.alloc [(int 0),(int 0),(.v (.string (mkS [])))])] (.seq (sO [oD 3 0 1,oL 4 3,oV 5 .eql 4 2] (cD 5 (sO [oX 6 (.build [(int 0),(int 0),(.v (.string (mkS [])))] [(0,(1,(kI 2)))]),oS 3 2 6] .ret) .skip)) (sO [oX 7 (.build [(int 0),(int 0),(.v (.string (mkS [])))] [(0,(1,(kI 1)))]),oS 3 2 7] .ret)))⟩
theorem L247_ok : zAi Tryz.prog Tryz.f247 [] = some L247 := by kernel_rfl
def L275 : LFn := ⟨19,[(.tmp 4)],(sO [oC 4 0] (.seq (sO [oM 6 0,oX 7 (.len .slc (.t 6)),oC 8 0] (.block 0 (.loop (sO [oB 9 .lss 8 7] (.seq (cD 9 .skip (.exit 0)) (.seq (.block 1 (sO [oM 10 8,oM 5 10] (sO [oM 11 1,oM 12 0,oM 13 5,oI 14 2 12 13,oA 15 2 14,oX 16 (.call (.t 11) [(.t 15)])] (cD 16 (sO [oM 17 5,oM 4 17] .ret) .skip)))) (.ops [oV 18 .add 8 1,oM 8 18]))))))) (sO [oC 4 (-1)] .ret)))⟩
theorem L275_ok : zAi Tryz.prog Tryz.f275 [] = some L275 := by kernel_rfl
def L276 : LFn := ⟨8,[(.tmp 3)],(sO [oX 2 (.box false (.t 0)),oX 3 (.mv (kB false))] (sO [oD 4 0 2,oL 5 4,oL 6 1,oX 7 (.bin .str .eql (.t 5) (.t 6)),oM 3 7] .ret))⟩
theorem L276_ok : zAi Tryz.prog Tryz.f276 [] = some L276 := by kernel_rfl
end Go.Proofs.YtbibhcmcjldhdaaGreatDoor
namespace Go.Ax
open Go Go.RowKit
set_option linter.unusedSimpArgs false
section
variable {P : Program} {k : List zEu} {Q : Out → Env → zB → Prop} {e : Env} {H : zB} {d : Option Nat} {l : List LO}
def goK (P : Program) (r : Res) (e : Env) (d : Option Nat) (l : List LO) (k : List zEu) (Q : Out->Env->zB->Prop) : Prop :=
 r.ok/\zAa P (.ops l :: k) Q .normal (ups e d r.x) r.H
def opK (P : Program) (op : LOp) (e : Env) (H : zB) (d : Option Nat) (l : List LO) (k : List zEu) (Q : Out->Env->zB->Prop) : Prop :=
 aop P op e H fun x H' => zAa P (.ops l :: k) Q .normal (ups e d x) H'
def zP2 (P : Program) (f : AV) (args : List AV) (H : zB) (e : Env) (d : Option Nat) (l : List LO) (k : List zEu) (Q : Out->Env->zB->Prop) : Prop :=
 zGx P f args H fun x H' => zAa P (.ops l :: k) Q .normal (ups e d x) H'
def zP3 (P : Program) (f : FuncId) (args : List AV) (H : zB) (e : Env) (d : Option Nat) (l : List LO) (k : List zEu) (Q : Out->Env->zB->Prop) : Prop :=
 ACall P f args H fun x H' => zAa P (.ops l :: k) Q .normal (ups e d x) H'
def nilK (P : Program) (neg : Bool) (x : AV) (e : Env) (H : zB) (d : Option Nat) (l : List LO) (k : List zEu) (Q : Out->Env->zB->Prop) : Prop :=
 slcK H x/\∀ b,nilOk x b->zAa P (.ops l :: k) Q .normal (ups e d (bool (b ^^ neg))) H
def gK (P : Program) (x : AV) (want : Bool) (op : LOp) (e : Env) (t : Nat) (H : zB) (d : Option Nat) (l : List LO) (k : List zEu) (Q : Out->Env->zB->Prop) : Prop :=
 match x with
 | .v (.bool b) => if b = true then (if want = true then opK P op (up e t (bool true)) H d l k Q else zAa P (.ops l :: k) Q .normal (ups (up e t (bool true)) d zAu) H)
   else (if want = true then zAa P (.ops l :: k) Q .normal (ups (up e t (bool false)) d zAu) H else opK P op (up e t (bool false)) H d l k Q)
 | .v (.tuple _) => zAa P (.ops l :: k) Q .normal (ups e d zAu) H
 | _ => False
def zRR (P : Program) (c a b : AV) (e : Env) (H : zB) (d : Option Nat) (l : List LO) (k : List zEu) (Q : Out->Env->zB->Prop) : Prop :=
 match c with
 | .v (.bool t) => if t = true then zAa P (.ops l :: k) Q .normal (ups e d a) H else zAa P (.ops l :: k) Q .normal (ups e d b) H
 | _ => False
def cK (P : Program) (v : AV) (x : LX) (a b : LCode) (e : Env) (H : zB) (k : List zEu) (Q : Out->Env->zB->Prop) : Prop :=
 match v with
 | .v (.bool t) => if t = true then zAa P (.code a :: k) Q .normal (zHx e x true) H else zAa P (.code b :: k) Q .normal (zHx e x false) H
 | _ => False
@[push_cast] theorem goK_mk (p : Prop) (x : AV) (H' : zB) : goK P ⟨p,x,H'⟩ e d l k Q = (p/\zAa P (.ops l :: k) Q .normal (ups e d x) H') := rfl
@[push_cast] theorem zYl (p q : Prop) (x : AV) (H' : zB) : Res.also p ⟨q,x,H'⟩ = ⟨p/\q,x,H'⟩ := rfl
@[push_cast] theorem rk_nil (o : Out) : zAa P [] Q o e H = Q o e H := rfl
@[push_cast] theorem zXe : zAa P (.code .skip :: k) Q .normal e H = zAa P k Q .normal e H := rfl
@[push_cast] theorem rk_seq (a b : LCode) : zAa P (.code (.seq a b) :: k) Q .normal e H = zAa P (.code a :: .code b :: k) Q .normal e H := by
 show awp P a e H _ = awp P a e H _
 congr 1
 funext o e' H'
 cases o <;> rfl
@[push_cast] theorem zV2 (id : Nat) (c : LCode) : zAa P (.code (.block id c) :: k) Q .normal e H = zAa P (.code c :: .blk id :: k) Q .normal e H := by
 show awp P c e H _ = awp P c e H _;rfl
@[push_cast] theorem zRH (c : LCode) (v : Value) : zAa P (.code c :: k) Q (.pan v) e H = zAa P k Q (.pan v) e H := rfl
@[push_cast] theorem zS1 (id : Nat) (v : Value) : zAa P (.blk id :: k) Q (.pan v) e H = zAa P k Q (.pan v) e H := rfl
@[push_cast] theorem zT9 (R : Env->zB->Prop) (v : Value) : zAa P (.lp R :: k) Q (.pan v) e H = zAa P k Q (.pan v) e H := rfl
@[push_cast] theorem zSY (l : List LO) (v : Value) : zAa P (.ops l :: k) Q (.pan v) e H = zAa P k Q (.pan v) e H := rfl
@[push_cast] theorem zXf (id : Nat) : zAa P (.code (.exit id) :: k) Q .normal e H = zAa P k Q (.exit id) e H := rfl
@[push_cast] theorem rk_ret : zAa P (.code .ret :: k) Q .normal e H = zAa P k Q .ret e H := rfl
@[push_cast] theorem zQj (c : LCode) (id : Nat) : zAa P (.code c :: k) Q (.exit id) e H = zAa P k Q (.exit id) e H := rfl
@[push_cast] theorem zRG (c : LCode) : zAa P (.code c :: k) Q .ret e H = zAa P k Q .ret e H := rfl
@[push_cast] theorem rk_blk : ∀ (id : Nat),zAa P (.blk id :: k) Q .normal e H = zAa P k Q .normal e H := fun _ => rfl
@[push_cast] theorem zRI (id j : Nat) : zAa P (.blk id :: k) Q (.exit j) e H = if j = id then zAa P k Q .normal e H else zAa P k Q (.exit j) e H := rfl
@[push_cast] theorem zS0 (id : Nat) : zAa P (.blk id :: k) Q .ret e H = zAa P k Q .ret e H := rfl
@[push_cast] theorem rk_lp (R : Env->zB->Prop) : zAa P (.lp R :: k) Q .normal e H = R e H := rfl
@[push_cast] theorem zSZ (R : Env->zB->Prop) (j : Nat) : zAa P (.lp R :: k) Q (.exit j) e H = zAa P k Q (.exit j) e H := rfl
@[push_cast] theorem zT8 (R : Env->zB->Prop) : zAa P (.lp R :: k) Q .ret e H = zAa P k Q .ret e H := rfl
@[push_cast] theorem rk_ops (l : List LO) : zAa P (.code (.ops l) :: k) Q .normal e H = zAa P (.ops l :: k) Q .normal e H := rfl
@[push_cast] theorem zT6 : zAa P (.ops [] :: k) Q .normal e H = zAa P k Q .normal e H := rfl
@[push_cast] theorem rk_op (op : LOp) : zAa P (.ops (⟨d,none,op⟩ :: l) :: k) Q .normal e H = opK P op e H d l k Q := rfl
@[push_cast] theorem rk_opg (t : Nat) (want : Bool) (op : LOp) : zAa P (.ops (⟨d,some (t,want),op⟩ :: l) :: k) Q .normal e H = gK P (e t) want op e t H d l k Q := by
 simp only [zAa,zAD,gK,opK];try (cases e t with
 | v x => cases x <;> rfl
 | _ => rfl)
@[push_cast] theorem zXh (x : LX) (a b : LCode) : zAa P (.code (.cond x a b) :: k) Q .normal e H = cK P (ev e x) x a b e H k Q := by
 simp only [zAa,awp,cK];cases ev e x with
 | v x => cases x <;> rfl
 | _ => rfl
@[push_cast] theorem zYe (t : Bool) (x : LX) (a b : LCode) : cK P (.v (.bool t)) x a b e H k Q = if t = true then zAa P (.code a :: k) Q .normal (zHx e x true) H else zAa P (.code b :: k) Q .normal (zHx e x false) H := rfl
@[push_cast] theorem gK_t (b : Bool) (op : LOp) (t : Nat) : gK P (.v (.bool b)) true op e t H d l k Q = if b = true then opK P op (up e t (bool true)) H d l k Q else zAa P (.ops l :: k) Q .normal (ups (up e t (bool false)) d zAu) H := by simp [gK]
@[push_cast] theorem gK_f (b : Bool) (op : LOp) (t : Nat) : gK P (.v (.bool b)) false op e t H d l k Q = if b = true then zAa P (.ops l :: k) Q .normal (ups (up e t (bool true)) d zAu) H else opK P op (up e t (bool false)) H d l k Q := by simp [gK]
@[push_cast] theorem gK_u (us : Array Value) (want : Bool) (op : LOp) (t : Nat) : gK P (.v (.tuple us)) want op e t H d l k Q = zAa P (.ops l :: k) Q .normal (ups e d zAu) H := rfl
@[push_cast] theorem opK_mv (x : LX) : opK P (.mv x) e H d l k Q = zAa P (.ops l :: k) Q .normal (ups e d (ev e x)) H := by simp [opK,aop,zBb]
@[push_cast] theorem zWh (c a b : LX) : opK P (.pick c a b) e H d l k Q = zRR P (ev e c) (ev e a) (ev e b) e H d l k Q := by
 simp only [opK,aop,zRR];cases ev e c with
 | v x => cases x <;> rfl
 | _ => rfl
@[push_cast] theorem zXn (t : Bool) (a b : AV) : zRR P (.v (.bool t)) a b e H d l k Q = if t = true then zAa P (.ops l :: k) Q .normal (ups e d a) H else zAa P (.ops l :: k) Q .normal (ups e d b) H := rfl
@[push_cast] theorem zTi (t : TypeId) (zs : List AV) : opK P (.allocb t zs) e H d l k Q = goK P ⟨zFb (zs.headD .any) = true/\c1s zs = true,.ptr H.length 0 0,H ++ [.box (.bnil t :: zs.drop 1)]⟩ e d l k Q := rfl
@[push_cast] theorem zUN (zs : List AV) : opK P (.alloc zs) e H d l k Q = goK P ⟨c1s zs = true,.ptr H.length 0 0,H ++ [.box zs]⟩ e d l k Q := rfl
@[push_cast] theorem zXN (imm : Bool) (x : LX) : opK P (.box imm x) e H d l k Q = goK P (rBox imm (ev e x) H) e d l k Q := rfl
@[push_cast] theorem zUM (zs : List AV) (ps : List (Nat × Nat × LX)) : opK P (.build zs ps) e H d l k Q = goK P (rBuild zs (ps.map fun (o,n,x) => (o,n,ev e x)) H) e d l k Q := rfl
@[push_cast] theorem zXM (imm : Bool) (sz len : Nat) (zs : List AV) (ps : List (Nat × LX)) : opK P (.bsl imm sz len zs ps) e H d l k Q = goK P (rBsl imm sz len zs (ps.map fun (i,x) => (i,ev e x)) H) e d l k Q := rfl
@[push_cast] theorem zUG : opK P .mkmap e H d l k Q = goK P ⟨True,.om H.length 0,H ++ [.map 0 [] []]⟩ e d l k Q := rfl
@[push_cast] theorem keyV_v (x : Value) : zKt (.v x) = .v x := rfl
@[push_cast] theorem zWx (a b : Value) : zKt (.agg [.v a,.v b]) = .v (.agg #[a,b]) := rfl
@[push_cast] theorem zXH (kd : KD) (m x y : LX) : opK P (.ins kd m x y) e H d l k Q = goK P (rIns kd (ev e m) (zKt (ev e x)) (ev e y) H) e d l k Q := rfl
@[push_cast] theorem zWn (ag : Bool) (n : Nat) (p : LX) : opK P (.load ag n p) e H d l k Q = goK P (rLoad ag n (ev e p) H) e d l k Q := rfl
@[push_cast] theorem zUH (ag : Bool) (n : Nat) (p : LX) : opK P (.loadb ag n p) e H d l k Q = goK P (zCo ag n (ev e p) H) e d l k Q := rfl
@[push_cast] theorem zUC (n : Nat) (p x : LX) : opK P (.store n p x) e H d l k Q = goK P (rStore n (ev e p) (ev e x) H) e d l k Q := rfl
@[push_cast] theorem zTd (x : LX) : opK P (.nilchk x) e H d l k Q = goK P (rNil (ev e x) H) e d l k Q := rfl
@[push_cast] theorem zXO (kd : KD) (op : BinOp) (x y : LX) : opK P (.bin kd op x y) e H d l k Q = goK P (rBin kd op (ev e x) (ev e y) H) e d l k Q := rfl
@[push_cast] theorem zXB (x : LX) : opK P (.not x) e H d l k Q = goK P (rNot (ev e x) H) e d l k Q := rfl
@[push_cast] theorem zXC (x : LX) : opK P (.neg x) e H d l k Q = goK P (rNeg (ev e x) H) e d l k Q := rfl
@[push_cast] theorem zWq (c : Cv) (x : LX) : opK P (.conv c x) e H d l k Q = goK P (rConv c (ev e x) H) e d l k Q := rfl
@[push_cast] theorem zWk (f : Fn) (a b : List LX) : opK P (.mkfn f a b) e H d l k Q = goK P ⟨True,.fn f (a.map (ev e)) (b.map (ev e)),H⟩ e d l k Q := rfl
@[push_cast] theorem zXD (sz bytes : Nat) (zs : List AV) (len cap : LX) : opK P (.msl sz bytes zs len cap) e H d l k Q = goK P (rMsl sz bytes zs (ev e len) (ev e cap) H) e d l k Q := rfl
@[push_cast] theorem zUE (lk : LK) (n : Nat) (x : LX) (lo hi : Option LX) : opK P (.slice lk n x lo hi) e H d l k Q = goK P (rSlice lk n (ev e x) (lo.map (ev e)) (hi.map (ev e)) H) e d l k Q := rfl
@[push_cast] theorem zTb (lk : LK) (n : Nat) (x : LX) (lo hi : Option LX) : opK P (.slicev lk n x lo hi) e H d l k Q = goK P (zDi lk n (ev e x) (lo.map (ev e)) (hi.map (ev e)) H) e d l k Q := rfl
@[push_cast] theorem zUK (off : Nat) (p : LX) : opK P (.faddr off p) e H d l k Q = goK P (rFaddr off (ev e p) H) e d l k Q := rfl
@[push_cast] theorem zXK (ag : Bool) (off n : Nat) (x : LX) : opK P (.fld ag off n x) e H d l k Q = goK P (rFld ag off n (ev e x) H) e d l k Q := rfl
@[push_cast] theorem zUJ (sz : Nat) (x i : LX) : opK P (.iaddr sz x i) e H d l k Q = goK P (rIaddr sz (ev e x) (ev e i) H) e d l k Q := rfl
@[push_cast] theorem zTe (sz : Nat) (x i : LX) : opK P (.iaddrv sz x i) e H d l k Q = goK P (zDj sz (ev e x) (ev e i) H) e d l k Q := rfl
@[push_cast] theorem zTf (off : Nat) (p : LX) : opK P (.faddrb off p) e H d l k Q = goK P (zBG off (ev e p) H) e d l k Q := rfl
@[push_cast] theorem zXI (x i : LX) : opK P (.idx x i) e H d l k Q = goK P (rIdx (ev e x) (ev e i) H) e d l k Q := rfl
@[push_cast] theorem zWm (kd : KD) (zero : AV) (ok : Bool) (m x : LX) : opK P (.look kd zero ok m x) e H d l k Q = goK P (rLook kd zero ok (ev e m) (zKt (ev e x)) H) e d l k Q := rfl
@[push_cast] theorem zXL (x : LX) (i : Nat) : opK P (.ext x i) e H d l k Q = goK P (rExt (ev e x) i H) e d l k Q := rfl
@[push_cast] theorem zXG (lk : LK) (x : LX) : opK P (.len lk x) e H d l k Q = goK P (rLen lk (ev e x) H) e d l k Q := rfl
@[push_cast] theorem zTh (sz bytes : Nat) (s x : LX) : opK P (.append sz bytes s x) e H d l k Q = goK P (rAppend sz bytes (ev e s) (ev e x) H) e d l k Q := rfl
@[push_cast] theorem zRX (t : TypeId) (s x : LX) : opK P (.appendb t s x) e H d l k Q = goK P (zCG t (ev e s) (ev e x) H) e d l k Q := rfl
@[push_cast] theorem zWp (sz : Nat) (s x : LX) : opK P (.copy sz s x) e H d l k Q = goK P (rCopy sz (ev e s) (ev e x) H) e d l k Q := rfl
@[push_cast] theorem zXE (x y : LX) : opK P (.min2 x y) e H d l k Q = goK P (rMin (ev e x) (ev e y) H) e d l k Q := rfl
@[push_cast] theorem zWi (neg : Bool) (x : LX) : opK P (.nili neg x) e H d l k Q = goK P (rNilI neg (ev e x) H) e d l k Q := rfl
@[push_cast] theorem zWs (t : TypeId) (z : AV) (x : LX) : opK P (.asrt t z x) e H d l k Q = goK P (rAsrt t z (ev e x) H) e d l k Q := rfl
@[push_cast] theorem zTc (x : LX) : opK P (.rangem x) e H d l k Q = goK P (rRangeM (ev e x) H) e d l k Q := rfl
@[push_cast] theorem zTg (x : LX) : opK P (.entrym x) e H d l k Q = goK P (rEntryM (ev e x) H) e d l k Q := rfl
def zXU (P : Program) (x : AV) (e : Env) (H : zB) (d : Option Nat) (l : List LO) (k : List zEu) (Q : Out->Env->zB->Prop) : Prop :=
 nextA x H fun x H' => zAa P (.ops l :: k) Q .normal (ups e d x) H'
@[push_cast] theorem zUF (x : LX) : opK P (.nextm x) e H d l k Q = zXU P (ev e x) e H d l k Q := rfl
@[push_cast] theorem zUD (n : Nat) (p x : LX) : opK P (.stchk n p x) e H d l k Q = goK P (zFR n (ev e p) (ev e x) H) e d l k Q := rfl
@[push_cast] theorem zWj (t : TypeId) (x : LX) : opK P (.mkif t x) e H d l k Q = goK P (rMkif t (ev e x) H) e d l k Q := rfl
@[push_cast] theorem zWl (x y z : LX) : opK P (.max3 x y z) e H d l k Q = goK P (rMax3 (ev e x) (ev e y) (ev e z) H) e d l k Q := rfl
@[push_cast] theorem zXF (x y : LX) : opK P (.max2 x y) e H d l k Q = goK P (rMax (ev e x) (ev e y) H) e d l k Q := rfl
@[push_cast] theorem zXJ (x : LX) : opK P (.frz x) e H d l k Q = goK P (rFrz (ev e x) H) e d l k Q := rfl
@[push_cast] theorem zWo (sz off : Nat) (x : LX) : opK P (.frzf sz off x) e H d l k Q = goK P (rFrzf sz off (ev e x) H) e d l k Q := rfl
@[push_cast] theorem zXA (sz : Nat) (x : LX) : opK P (.own sz x) e H d l k Q = goK P (rOwn sz (ev e x) H) e d l k Q := rfl
@[push_cast] theorem zXP : opK P .bad e H d l k Q = goK P (.no H) e d l k Q := rfl
@[push_cast] theorem zUI (neg : Bool) (x : LX) : opK P (.isnil neg x) e H d l k Q = nilK P neg (ev e x) e H d l k Q := rfl
@[push_cast] theorem zUL (f : LX) (args : List LX) : opK P (.callh f args) e H d l k Q = zP2 P (ev e f) (args.map (ev e)) H e d l k Q := rfl
@[push_cast] theorem zWr (f : LX) (args : List LX) : opK P (.call f args) e H d l k Q = zP2 P (ev e f) (args.map (ev e)) H e d l k Q := rfl
@[push_cast] theorem zWJ (f : FuncId) (a b args : List AV) : zP2 P (.fn (.func f) a b) args H e d l k Q = zP3 P f (a ++ args ++ b) H e d l k Q := rfl
def zVs (P : Program) (f : Nat) (args : List AV) (H : zB) (e : Env) (d : Option Nat) (l : List LO) (k : List zEu) (Q : Out->Env->zB->Prop) : Prop :=
 AYield P f args H fun x H' => zAa P (.ops l :: k) Q .normal (ups e d x) H'
@[push_cast] theorem zSD (f : Nat) (args : List AV) : zP2 P (.v (.func (.yield f) #[] #[])) args H e d l k Q = zVs P f args H e d l k Q := rfl
theorem zG8 {f : Nat} {args : List AV} {R : AV->zB->Prop} (h : AYield P f args H R) (hk : ∀ y H',R y H'->zAa P (.ops l :: k) Q .normal (ups e d y) H') : zVs P f args H e d l k Q :=
 h.mono hk
@[push_cast] theorem rk_bgn (l0 : Nat) (lr : Go.Loop) (e0 : Env) (r : Nat) : zAa P (.bgn l0 lr e0 r :: k) Q .normal e H = (H[r]? = some (.lp l0 lr e0 .ready)/\zAa P k Q .normal e (H.set r (.lp l0 lr e0 .busy))) := rfl
@[push_cast] theorem zRF (l0 : Nat) (lr : Go.Loop) (e0 : Env) (r : Nat) (R : AV->zB->Prop) : zQh l0 lr e0 r R .normal e H = (H[r]? = some (.lp l0 lr e0 .busy)/\R (bool true) (H.set r (.lp l0 lr e0 .ready))) := rfl
@[push_cast] theorem zT5 (l0 : Nat) (lr : Go.Loop) (e0 : Env) (r id : Nat) (R : AV->zB->Prop) : zQh l0 lr e0 r R (.exit id) e H = (H[r]? = some (.lp l0 lr e0 .busy)/\R (bool false) (H.set r (.lp l0 lr e0 (.done (some id))))) := rfl
@[push_cast] theorem zVX (l0 : Nat) (lr : Go.Loop) (e0 : Env) (r : Nat) (R : AV->zB->Prop) : zQh l0 lr e0 r R .ret e H = (H[r]? = some (.lp l0 lr e0 .busy)/\R (bool false) (H.set r (.lp l0 lr e0 (.done none)))) := rfl
@[push_cast] theorem zVV (p : Nat) (ps : List Nat) (x : AV) (xs : List AV) : upL e (p :: ps) (x :: xs) = upL (up e p x) ps xs := rfl
@[push_cast] theorem zW6 (xs : List AV) : upL e [] xs = e := by cases xs <;> rfl
def zQS (P : Program) (f : AV) (args : List AV) (H : zB) (e : Env) (d : Option Nat) (k : List zEu) (Q : Out->Env->zB->Prop) : Prop :=
 zEk P f args H (fun y H' => zAa P k Q .normal (ups e d y) H') fun v H' => zAa P k Q (.pan v) e H'
def zKL (P : Program) (f : FuncId) (args : List AV) (H : zB) (e : Env) (d : Option Nat) (k : List zEu) (Q : Out->Env->zB->Prop) : Prop :=
 ACallX P f args H (fun y H' => zAa P k Q .normal (ups e d y) H') fun v H' => zAa P k Q (.pan v) e H'
@[push_cast] theorem zV1 (f : LX) (args : List LX) : zAa P (.code (.callp d f args) :: k) Q .normal e H = zQS P (ev e f) (args.map (ev e)) H e d k Q := rfl
@[push_cast] theorem zVu (f : FuncId) (a b args : List AV) : zQS P (.fn (.func f) a b) args H e d k Q = zKL P f (a ++ args ++ b) H e d k Q := rfl
theorem zG {f : FuncId} {args : List AV} {R : AV->zB->Prop} {Z : Value->zB->Prop} (h : ACallX P f args H R Z) (hk : ∀ y H',R y H'->zAa P k Q .normal (ups e d y) H') (hz : ∀ v H',Z v H'->zAa P k Q (.pan v) e H') : zKL P f args H e d k Q := h.mono hk hz
theorem zD {f : FuncId} {args : List AV} {x : AV} (h : ACall P f args H fun y H' => y = x/\H' = H) (hk : zAa P k Q .normal (ups e d x) H) : zKL P f args H e d k Q :=
 (h.mono (R' := fun y H' => zAa P k Q .normal (ups e d y) H') fun y H' ⟨h1,h2⟩ => by subst h1; subst h2; exact hk).x _
def zXo (P : Program) (d : Nat) (t : TypeId) (x : Option Value) (e : Env) (H : zB) (k : List zEu) (Q : Out->Env->zB->Prop) : Prop := ∃ v,x = some v/\zAa P k Q (.pan (.iface t v)) (up e d (.v (.iface t v))) H
@[push_cast] theorem rk_pan (d0 : Nat) (t : TypeId) (x : LX) : zAa P (.code (.pan d0 t x) :: k) Q .normal e H = zXo P d0 t (zOJ (ev e x)) e H k Q := rfl
@[push_cast] theorem zUp (d0 : Nat) (t : TypeId) (v : Value) : zXo P d0 t (some v) e H k Q = zAa P k Q (.pan (.iface t v)) (up e d0 (.v (.iface t v))) H := by simp [zXo]
def tiK (P : Program) (c : Bool) (o : LO) (e : Env) (H : zB) (em : Env) (k : List zEu) (Q : Out->Env->zB->Prop) : Prop :=
 aTI P c o e H (fun e' H' => zAa P k Q .normal e' H') fun v H' => zAa P k Q (.pan v) em H'
def tiG (P : Program) (x : AV) (want : Bool) (f : LX) (args : List LX) (e : Env) (H : zB) (d : Option Nat) (em : Env) (k : List zEu) (Q : Out->Env->zB->Prop) : Prop :=
 match x with
 | .v (.bool b) => if b = want then zEk P (ev e f) (args.map (ev e)) H (fun y H' => zAa P k Q .normal (ups e d y) H') (fun v H' => zAa P k Q (.pan v) em H') else zAa P k Q .normal (ups e d zAu) H
 | .v (.tuple _) => zAa P k Q .normal (ups e d zAu) H
 | _ => False
def zOd (P : Program) (f : AV) (args : List AV) (H : zB) (e : Env) (d : Option Nat) (em : Env) (k : List zEu) (Q : Out->Env->zB->Prop) : Prop :=
 zEk P f args H (fun y H' => zAa P k Q .normal (ups e d y) H') fun v H' => zAa P k Q (.pan v) em H'
def zOc (P : Program) (f : FuncId) (args : List AV) (H : zB) (e : Env) (d : Option Nat) (em : Env) (k : List zEu) (Q : Out->Env->zB->Prop) : Prop :=
 ACallX P f args H (fun y H' => zAa P k Q .normal (ups e d y) H') fun v H' => zAa P k Q (.pan v) em H'
@[push_cast] theorem zVt (f : FuncId) (em : Env) (a b args : List AV) : zOd P (.fn (.func f) a b) args H e d em k Q = zOc P f (a ++ args ++ b) H e d em k Q := rfl
theorem zDW {f : FuncId} {em : Env} {args : List AV} {R : AV->zB->Prop} {Z : Value->zB->Prop} (h : ACallX P f args H R Z) (hk : ∀ y H',R y H'->zAa P k Q .normal (ups e d y) H') (hz : ∀ v H',Z v H'->zAa P k Q (.pan v) em H') : zOc P f args H e d em k Q := h.mono hk hz
@[push_cast] theorem rk_ti (o : LO) : zAa P (.code (.ti o) :: k) Q .normal e H = tiK P true o e H e k Q := rfl
@[push_cast] theorem zVW (f : LX) (args : List LX) (em : Env) : tiK P true ⟨d,none,.call f args⟩ e H em k Q = zOd P (ev e f) (args.map (ev e)) H e d em k Q := rfl
@[push_cast] theorem zTP (t : Nat) (want : Bool) (f : LX) (args : List LX) (em : Env) : tiK P true ⟨d,some (t,want),.call f args⟩ e H em k Q = tiG P (e t) want f args e H d em k Q := rfl
def panX (P : Program) (x : AV) (em : Env) (H : zB) (k : List zEu) (Q : Out->Env->zB->Prop) : Prop := ∃ t z,x = .v (.iface t z)/\zAa P k Q (.pan (.iface t z)) em H
@[push_cast] theorem zW8 (x : LX) (em : Env) : tiK P true ⟨d,none,.panicv x⟩ e H em k Q = panX P (ev e x) em H k Q := rfl
@[push_cast] theorem panX_v (t : TypeId) (z : Value) (em : Env) : panX P (.v (.iface t z)) em H k Q = zAa P k Q (.pan (.iface t z)) em H := propext ⟨by rintro ⟨_,_,h,h2⟩; cases h; exact h2,fun h => ⟨_,_,rfl,h⟩⟩
@[push_cast] theorem tiG_b (b want : Bool) (f : LX) (args : List LX) (em : Env) : tiG P (.v (.bool b)) want f args e H d em k Q = if b = want then zOd P (ev e f) (args.map (ev e)) H e d em k Q else zAa P k Q .normal (ups e d zAu) H := rfl
@[push_cast] theorem tiG_u (us : Array Value) (want : Bool) (f : LX) (args : List LX) (em : Env) : tiG P (.v (.tuple us)) want f args e H d em k Q = zAa P k Q .normal (ups e d zAu) H := rfl
@[push_cast] theorem zVZ (hd : List LO) (tl : List (LO × Bool × List Nat)) (gs : List LO) : zAa P (.code (.drawX hd tl gs) :: k) Q .normal e H = zAa P (.opq hd [] :: .opx hd tl gs (zPx e hd tl) :: k) Q .normal e H := rfl
@[push_cast] theorem zSX (hd : List LO) (gs : List LO) (em : Env) : zAa P (.opx hd [] gs em :: k) Q .normal e H = zAa P (.ops gs :: k) Q .normal e H := rfl
@[push_cast] theorem zVY (hd : List LO) (e1 : Env) (js : List Nat) (gs : List LO) (em : Env) : zAa P (.keepx hd e1 js [] gs em :: k) Q .normal e H = (zC3 P hd e1 H js/\zAa P (.ops gs :: k) Q .normal e H) := rfl
@[push_cast] theorem rk_opx (c : Bool) (o : LO) (js : List Nat) (tl : List (LO × Bool × List Nat)) (hd gs : List LO) (em : Env) : zAa P (.opx hd ((o,c,js) :: tl) gs em :: k) Q .normal e H = tiK P c o e H em (.keepx hd e js tl gs em :: k) Q := rfl
@[push_cast] theorem zUa (c : Bool) (o : LO) (js js1 : List Nat) (tl : List (LO × Bool × List Nat)) (hd gs : List LO) (e1 em : Env) : zAa P (.keepx hd e1 js1 ((o,c,js) :: tl) gs em :: k) Q .normal e H = (zC3 P hd e1 H js1/\tiK P c o e H em (.keepx hd e1 js tl gs em :: k) Q) := rfl
@[push_cast] theorem tiK_f (o : LO) (em : Env) : tiK P false o e H em k Q = zAa P (.ops [o] :: k) Q .normal e H := rfl
@[push_cast] theorem zSW (hd : List LO) (tl : List (LO × Bool × List Nat)) (gs : List LO) (em : Env) (v : Value) : zAa P (.opx hd tl gs em :: k) Q (.pan v) e H = zAa P k Q (.pan v) e H := rfl
@[push_cast] theorem zQi (hd : List LO) (e1 : Env) (js : List Nat) (tl : List (LO × Bool × List Nat)) (gs : List LO) (em : Env) (v : Value) : zAa P (.keepx hd e1 js tl gs em :: k) Q (.pan v) e H = zAa P k Q (.pan v) e H := rfl
@[push_cast] theorem zU6 (hd : List LO) (e1 : Env) : zC3 P hd e1 H [] = True := by simp [zC3]
def zEb (P : Program) (o : LO) (e1 : Env) (H : zB) : Prop := zAR P [o] e1 H fun e' => e' = e1
@[push_cast] theorem zTm (hd : List LO) (e1 : Env) (j : Nat) (js : List Nat) : zC3 P hd e1 H (j :: js) = (zEb P (hd.getD j default) e1 H/\zC3 P hd e1 H js) := by simp [zC3,zEb]
theorem zEl (e1 : Env) (t : Nat) (x : AV) : (up e1 t x = e1) = (e1 t = x) := by
 apply propext;constructor
 ·intro h; have := congrFun h t; simpa [up] using this.symm
 ·intro h; funext u; simp only [up]; split <;> simp_all
def zEq (r : Res) (e1 : Env) (t : Nat) (H : zB) : Prop := r.ok/\r.H = H/\e1 t = r.x
@[push_cast] theorem zWy (p : Prop) (x : AV) (H' : zB) (e1 : Env) (t : Nat) : zEq ⟨p,x,H'⟩ e1 t H = (p/\H' = H/\e1 t = x) := rfl
@[push_cast] theorem zTo (e1 : Env) (t : Nat) (ag : Bool) (m : Nat) (p : LX) : zEb P ⟨some t,none,.load ag m p⟩ e1 H = zEq (rLoad ag m (ev e1 p) H) e1 t H := by
 simp only [zEb,zAR,zDc,zBb,ups,zEq,zEl]
@[push_cast] theorem zQH (e1 : Env) (t : Nat) (p : LX) : zEb P ⟨some t,none,.nilchk p⟩ e1 H = zEq (rNil (ev e1 p) H) e1 t H := by
 simp only [zEb,zAR,zDc,zBb,ups,zEq,zEl]
@[push_cast] theorem zR8 (e1 : Env) (t : Nat) (m : Nat) (p : LX) : zEb P ⟨some t,none,.faddr m p⟩ e1 H = zEq (rFaddr m (ev e1 p) H) e1 t H := by
 simp only [zEb,zAR,zDc,zBb,ups,zEq,zEl]
@[push_cast] theorem zR7 (e1 : Env) (t : Nat) (m : Nat) (p i : LX) : zEb P ⟨some t,none,.iaddr m p i⟩ e1 H = zEq (rIaddr m (ev e1 p) (ev e1 i) H) e1 t H := by
 simp only [zEb,zAR,zDc,zBb,ups,zEq,zEl]
@[push_cast] theorem zU7 (e1 : Env) (t : Nat) (lk : LK) (p : LX) : zEb P ⟨some t,none,.len lk p⟩ e1 H = zEq (rLen lk (ev e1 p) H) e1 t H := by
 simp only [zEb,zAR,zDc,zBb,ups,zEq,zEl]
@[push_cast] theorem zTn (e1 : Env) (t : Nat) (kd : KD) (z : AV) (ok : Bool) (p i : LX) : zEb P ⟨some t,none,.look kd z ok p i⟩ e1 H = zEq (rLook kd z ok (ev e1 p) (zKt (ev e1 i)) H) e1 t H := by
 simp only [zEb,zAR,zDc,zBb,ups,zEq,zEl]
@[push_cast] theorem zR6 (e1 : Env) (t : Nat) (lk : LK) (n : Nat) (x : LX) (lo hi : Option LX) : zEb P ⟨some t,none,.slice lk n x lo hi⟩ e1 H = zEq (rSlice lk n (ev e1 x) (lo.map (ev e1)) (hi.map (ev e1)) H) e1 t H := by
 simp only [zEb,zAR,zDc,zBb,ups,zEq,zEl]
@[push_cast] theorem valA_v (v : Value) : zOJ (.v v) = some v := rfl
@[push_cast] theorem zOI (cs : List AV) : zOJ (.agg cs) = (zHh cs).map fun l => .agg l.toArray := rfl
@[push_cast] theorem zL2 : zHh [] = some [] := rfl
@[push_cast] theorem zSM (v : Value) (l : List AV) : zHh (.v v :: l) = (zHh l).map (v :: ·) := rfl
theorem zA {f : FuncId} {args : List AV} {x : AV} (h : ACall P f args H fun y H' => y = x/\H' = H) (hk : zAa P (.ops l :: k) Q .normal (ups e d x) H) : zP3 P f args H e d l k Q :=
 h.mono fun y H' ⟨hy,hH⟩ => by subst hy; subst hH; exact hk
theorem zAb {f : FuncId} {args : List AV} {R : AV->zB->Prop} (h : ACall P f args H R) (hk : ∀ y H',R y H'->zAa P (.ops l :: k) Q .normal (ups e d y) H') : zP3 P f args H e d l k Q :=
 h.mono hk
theorem zJf {c : LCode} (I : Env->zB->Prop) (μ : Env->zB->Nat) (h0 : I e H)
  (h : ∀ e H,I e H->zAa P (.code c :: .lp (fun e' H' => I e' H'/\μ e' H' < μ e H) :: k) Q .normal e H) : zAa P (.code (.loop c) :: k) Q .normal e H := by
 refine ⟨I,μ,h0,fun e H hI => ?_⟩;have h1 : awp P c e H (zAa P (.lp (fun e' H' => I e' H'/\μ e' H' < μ e H) :: k) Q) := h e H hI;have : (zAa P (.lp (fun e' H' => I e' H'/\μ e' H' < μ e H) :: k) Q) = (fun o e' H' => match o with | .normal => I e' H'/\μ e' H' < μ e H | o => zAa P k Q o e' H') := by
  funext o e' H'; cases o <;> rfl
 rw [this] at h1;exact h1
def gqK (P : Program) (r : Res) (e : Env) (H : zB) (d : Option Nat) (l tl : List LO) (k : List zEu) (Q : Out->Env->zB->Prop) : Prop :=
 r.ok/\r.H = H/\zAa P (.opq l tl :: k) Q .normal (ups e d r.x) H
def oqK (P : Program) (op : LOp) (e : Env) (H : zB) (d : Option Nat) (l tl : List LO) (k : List zEu) (Q : Out->Env->zB->Prop) : Prop :=
 zDc P op e H fun x => zAa P (.opq l tl :: k) Q .normal (ups e d x) H
def zSC (P : Program) (f : AV) (args : List AV) (H : zB) (e : Env) (d : Option Nat) (l tl : List LO) (k : List zEu) (Q : Out->Env->zB->Prop) : Prop :=
 match f with
 | .fn (.func f) a b => ∃ x,APure P f (a ++ args ++ b) x/\clL (a ++ args ++ b) = true/\zAa P (.opq l tl :: k) Q .normal (ups e d x) H
 | _ => False
def zQT (P : Program) (f : FuncId) (args : List AV) (H : zB) (e : Env) (d : Option Nat) (l tl : List LO) (k : List zEu) (Q : Out->Env->zB->Prop) : Prop :=
 ∃ x,APure P f args x/\clL args = true/\zAa P (.opq l tl :: k) Q .normal (ups e d x) H
def gqG (P : Program) (x : AV) (want : Bool) (op : LOp) (e : Env) (t : Nat) (H : zB) (d : Option Nat) (l tl : List LO) (k : List zEu) (Q : Out->Env->zB->Prop) : Prop :=
 match x with
 | .v (.bool b) => if b = true then (if want = true then oqK P op (up e t (bool true)) H d l tl k Q else zAa P (.opq l tl :: k) Q .normal (ups (up e t (bool true)) d zAu) H)
   else (if want = true then zAa P (.opq l tl :: k) Q .normal (ups (up e t (bool false)) d zAu) H else oqK P op (up e t (bool false)) H d l tl k Q)
 | .v (.tuple _) => zAa P (.opq l tl :: k) Q .normal (ups e d zAu) H
 | _ => False
variable {tl : List LO}
@[push_cast] theorem gqK_mk (p : Prop) (x : AV) (H' : zB) : gqK P ⟨p,x,H'⟩ e H d l tl k Q = (p/\H' = H/\zAa P (.opq l tl :: k) Q .normal (ups e d x) H) := rfl
@[push_cast] theorem zXg (hd tl : List LO) : zAa P (.code (.draw hd tl) :: k) Q .normal e H = zAa P (.opq hd tl :: k) Q .normal e H := rfl
@[push_cast] theorem zT7 : zAa P (.opq [] tl :: k) Q .normal e H = zAa P (.ops tl :: k) Q .normal e H := rfl
@[push_cast] theorem rk_oq (op : LOp) : zAa P (.opq (⟨d,none,op⟩ :: l) tl :: k) Q .normal e H = oqK P op e H d l tl k Q := rfl
@[push_cast] theorem rk_oqg (t : Nat) (want : Bool) (op : LOp) : zAa P (.opq (⟨d,some (t,want),op⟩ :: l) tl :: k) Q .normal e H = gqG P (e t) want op e t H d l tl k Q := by
 simp only [zAa,zAR,gqG,oqK];cases e t with
 | v x => cases x <;> rfl
 | _ => rfl
@[push_cast] theorem gqG_t (b : Bool) (op : LOp) (t : Nat) : gqG P (.v (.bool b)) true op e t H d l tl k Q = if b = true then oqK P op (up e t (bool true)) H d l tl k Q else zAa P (.opq l tl :: k) Q .normal (ups (up e t (bool false)) d zAu) H := by simp [gqG]
@[push_cast] theorem gqG_f (b : Bool) (op : LOp) (t : Nat) : gqG P (.v (.bool b)) false op e t H d l tl k Q = if b = true then zAa P (.opq l tl :: k) Q .normal (ups (up e t (bool true)) d zAu) H else oqK P op (up e t (bool false)) H d l tl k Q := by simp [gqG]
@[push_cast] theorem gqG_u (us : Array Value) (want : Bool) (op : LOp) (t : Nat) : gqG P (.v (.tuple us)) want op e t H d l tl k Q = zAa P (.opq l tl :: k) Q .normal (ups e d zAu) H := rfl
@[push_cast] theorem oqK_mv (x : LX) : oqK P (.mv x) e H d l tl k Q = zAa P (.opq l tl :: k) Q .normal (ups e d (ev e x)) H := by simp [oqK,zDc,zBb]
@[push_cast] theorem zWa (c a b : LX) : oqK P (.pick c a b) e H d l tl k Q = match ev e c with | .v (.bool t) => (if t = true then zAa P (.opq l tl :: k) Q .normal (ups e d (ev e a)) H else zAa P (.opq l tl :: k) Q .normal (ups e d (ev e b)) H) | _ => False := rfl
@[push_cast] theorem zXy (imm : Bool) (x : LX) : oqK P (.box imm x) e H d l tl k Q = gqK P (rBox imm (ev e x) H) e H d l tl k Q := rfl
@[push_cast] theorem zUx (zs : List AV) (ps : List (Nat × Nat × LX)) : oqK P (.build zs ps) e H d l tl k Q = gqK P (rBuild zs (ps.map fun (o,n,x) => (o,n,ev e x)) H) e H d l tl k Q := rfl
@[push_cast] theorem zXx (imm : Bool) (sz len : Nat) (zs : List AV) (ps : List (Nat × LX)) : oqK P (.bsl imm sz len zs ps) e H d l tl k Q = gqK P (rBsl imm sz len zs (ps.map fun (i,x) => (i,ev e x)) H) e H d l tl k Q := rfl
@[push_cast] theorem zWe (ag : Bool) (n : Nat) (p : LX) : oqK P (.load ag n p) e H d l tl k Q = gqK P (rLoad ag n (ev e p) H) e H d l tl k Q := rfl
@[push_cast] theorem zUt (ag : Bool) (n : Nat) (p : LX) : oqK P (.loadb ag n p) e H d l tl k Q = gqK P (zCo ag n (ev e p) H) e H d l tl k Q := rfl
@[push_cast] theorem zS8 (x : LX) : oqK P (.nilchk x) e H d l tl k Q = gqK P (rNil (ev e x) H) e H d l tl k Q := rfl
@[push_cast] theorem zXz (kd : KD) (op : BinOp) (x y : LX) : oqK P (.bin kd op x y) e H d l tl k Q = gqK P (rBin kd op (ev e x) (ev e y) H) e H d l tl k Q := rfl
@[push_cast] theorem zXp (x : LX) : oqK P (.not x) e H d l tl k Q = gqK P (rNot (ev e x) H) e H d l tl k Q := rfl
@[push_cast] theorem zXq (x : LX) : oqK P (.neg x) e H d l tl k Q = gqK P (rNeg (ev e x) H) e H d l tl k Q := rfl
@[push_cast] theorem zWf (c : Cv) (x : LX) : oqK P (.conv c x) e H d l tl k Q = gqK P (rConv c (ev e x) H) e H d l tl k Q := rfl
@[push_cast] theorem zWb (f : Fn) (a b : List LX) : oqK P (.mkfn f a b) e H d l tl k Q = gqK P ⟨True,.fn f (a.map (ev e)) (b.map (ev e)),H⟩ e H d l tl k Q := rfl
@[push_cast] theorem zUs (lk : LK) (n : Nat) (x : LX) (lo hi : Option LX) : oqK P (.slice lk n x lo hi) e H d l tl k Q = gqK P (rSlice lk n (ev e x) (lo.map (ev e)) (hi.map (ev e)) H) e H d l tl k Q := rfl
@[push_cast] theorem zS7 (lk : LK) (n : Nat) (x : LX) (lo hi : Option LX) : oqK P (.slicev lk n x lo hi) e H d l tl k Q = gqK P (zDi lk n (ev e x) (lo.map (ev e)) (hi.map (ev e)) H) e H d l tl k Q := rfl
@[push_cast] theorem zUv (off : Nat) (p : LX) : oqK P (.faddr off p) e H d l tl k Q = gqK P (rFaddr off (ev e p) H) e H d l tl k Q := rfl
@[push_cast] theorem zXv (ag : Bool) (off n : Nat) (x : LX) : oqK P (.fld ag off n x) e H d l tl k Q = gqK P (rFld ag off n (ev e x) H) e H d l tl k Q := rfl
@[push_cast] theorem zUu (sz : Nat) (x i : LX) : oqK P (.iaddr sz x i) e H d l tl k Q = gqK P (rIaddr sz (ev e x) (ev e i) H) e H d l tl k Q := rfl
@[push_cast] theorem zS9 (sz : Nat) (x i : LX) : oqK P (.iaddrv sz x i) e H d l tl k Q = gqK P (zDj sz (ev e x) (ev e i) H) e H d l tl k Q := rfl
@[push_cast] theorem zTa (off : Nat) (p : LX) : oqK P (.faddrb off p) e H d l tl k Q = gqK P (zBG off (ev e p) H) e H d l tl k Q := rfl
@[push_cast] theorem zXu (x i : LX) : oqK P (.idx x i) e H d l tl k Q = gqK P (rIdx (ev e x) (ev e i) H) e H d l tl k Q := rfl
@[push_cast] theorem zWd (kd : KD) (zero : AV) (ok : Bool) (m x : LX) : oqK P (.look kd zero ok m x) e H d l tl k Q = gqK P (rLook kd zero ok (ev e m) (zKt (ev e x)) H) e H d l tl k Q := rfl
@[push_cast] theorem zXw (x : LX) (i : Nat) : oqK P (.ext x i) e H d l tl k Q = gqK P (rExt (ev e x) i H) e H d l tl k Q := rfl
@[push_cast] theorem zXt (lk : LK) (x : LX) : oqK P (.len lk x) e H d l tl k Q = gqK P (rLen lk (ev e x) H) e H d l tl k Q := rfl
@[push_cast] theorem zXr (x y : LX) : oqK P (.min2 x y) e H d l tl k Q = gqK P (rMin (ev e x) (ev e y) H) e H d l tl k Q := rfl
@[push_cast] theorem zWc (x y z : LX) : oqK P (.max3 x y z) e H d l tl k Q = gqK P (rMax3 (ev e x) (ev e y) (ev e z) H) e H d l tl k Q := rfl
@[push_cast] theorem zXs (x y : LX) : oqK P (.max2 x y) e H d l tl k Q = gqK P (rMax (ev e x) (ev e y) H) e H d l tl k Q := rfl
@[push_cast] theorem zWg (f : LX) (args : List LX) : oqK P (.call f args) e H d l tl k Q = zSC P (ev e f) (args.map (ev e)) H e d l tl k Q := by
 simp only [oqK,zDc,zSC];cases ev e f with
 | fn f a b => cases f <;> rfl
 | _ => rfl
def zSF (P : Program) (f : AV) (args : List AV) (H : zB) (e : Env) (d : Option Nat) (l tl : List LO) (k : List zEu) (Q : Out->Env->zB->Prop) : Prop :=
 match f with
 | .fn (.func f) a b => ∃ x,ACall P f (a ++ args ++ b) H (fun y H' => y = x/\H' = H)/\zAa P (.opq l tl :: k) Q .normal (ups e d x) H
 | _ => False
def zVw (P : Program) (f : FuncId) (args : List AV) (H : zB) (e : Env) (d : Option Nat) (l tl : List LO) (k : List zEu) (Q : Out->Env->zB->Prop) : Prop :=
 ∃ x,ACall P f args H (fun y H' => y = x/\H' = H)/\zAa P (.opq l tl :: k) Q .normal (ups e d x) H
@[push_cast] theorem zUw (f : LX) (args : List LX) : oqK P (.callh f args) e H d l tl k Q = zSF P (ev e f) (args.map (ev e)) H e d l tl k Q := by
 simp only [oqK,zDc,zSF];cases ev e f with
 | fn f a b => cases f <;> rfl
 | _ => rfl
@[push_cast] theorem zWK (f : FuncId) (a b args : List AV) : zSF P (.fn (.func f) a b) args H e d l tl k Q = zVw P f (a ++ args ++ b) H e d l tl k Q := rfl
@[push_cast] theorem zWI (f : FuncId) (a b args : List AV) : zSC P (.fn (.func f) a b) args H e d l tl k Q = zQT P f (a ++ args ++ b) H e d l tl k Q := rfl
theorem zF {f : FuncId} {args : List AV} {x : AV} (h : APure P f args x) (hc : clL args = true) (hk : zAa P (.opq l tl :: k) Q .normal (ups e d x) H) : zQT P f args H e d l tl k Q := ⟨x,h,hc,hk⟩
@[push_cast] theorem zVT (t : Nat) (x : AV) : ups e (some t) x = up e t x := rfl
@[push_cast] theorem zVU (x : AV) : ups e none x = e := rfl
@[push_cast] theorem zRg (t : Nat) (x : AV) : up e t x t = x := by simp [up]
@[push_cast] theorem up_at (t u : Nat) (x : AV) : up e t x u = if u = t then x else e u := rfl
@[push_cast] theorem ev_t (n : Nat) : ev e (.t n) = e n := rfl
@[push_cast] theorem ev_c (x : AV) : ev e (.c x) = x := rfl
@[push_cast] theorem zXX (n : Nat) (b : Bool) : zHx e (.t n) b = up e n (bool b) := rfl
@[push_cast] theorem zXY (x : AV) (b : Bool) : zHx e (.c x) b = e := rfl
@[push_cast] theorem zUb (res : List RV) (R : AV->zB->Prop) (Z : Value->zB->Prop) : zLd res R Z .ret e H = ((zAH e H res).ok/\R (zAH e H res).x H) := rfl
@[push_cast] theorem zQl (res : List RV) (R : AV->zB->Prop) (Z : Value->zB->Prop) : zLd res R Z .normal e H = ((zAH e H res).ok/\R (zAH e H res).x H) := rfl
@[push_cast] theorem zUc (res : List RV) (R : AV->zB->Prop) (Z : Value->zB->Prop) (v : Value) : zLd res R Z (.pan v) e H = Z v H := rfl
@[push_cast] theorem zV3 (res : List RV) (R : AV->zB->Prop) : zUd res R .ret e H = ((zAH e H res).ok/\R (zAH e H res).x H) := rfl
@[push_cast] theorem zRJ (res : List RV) (R : AV->zB->Prop) : zUd res R .normal e H = ((zAH e H res).ok/\R (zAH e H res).x H) := rfl
@[push_cast] theorem zXl (r : RV) : zAH e H [r] = zCF e H r := rfl
@[push_cast] theorem zXk (a b : RV) : zAH e H [a,b] = ⟨(zCF e H a).ok/\(zCF e H b).ok,.tup [(zCF e H a).x,(zCF e H b).x],H⟩ := by simp [zAH]
@[push_cast] theorem zXj (a b c : RV) : zAH e H [a,b,c] = ⟨(zCF e H a).ok/\(zCF e H b).ok/\(zCF e H c).ok,.tup [(zCF e H a).x,(zCF e H b).x,(zCF e H c).x],H⟩ := by simp [zAH]
@[push_cast] theorem zXi (a b c d : RV) : zAH e H [a,b,c,d] = ⟨(zCF e H a).ok/\(zCF e H b).ok/\(zCF e H c).ok/\(zCF e H d).ok,.tup [(zCF e H a).x,(zCF e H b).x,(zCF e H c).x,(zCF e H d).x],H⟩ := by simp [zAH]
@[push_cast] theorem zV4 (t : Nat) : zCF e H (.tmp t) = ⟨True,e t,H⟩ := rfl
@[push_cast] theorem zUe (t : Nat) (ag : Bool) (n : Nat) : zCF e H (.cell t ag n) = rLoad ag n (e t) H := rfl
@[push_cast] theorem zVi (i : Nat) : zC7 [] i = e0 := rfl
@[push_cast] theorem zTq (x : AV) (l : List AV) (i : Nat) : zC7 (x :: l) i = up (zC7 l (i + 1)) i x := rfl
end
@[push_cast] theorem zS4 (sz a : Nat) (b : List (List AV)) (i : AV) (H : zB) : zDj sz (.sl a b) i H = rIaddr sz (.sl a b) i H := rfl
@[push_cast] theorem zS2 (lk : LK) (n a : Nat) (b : List (List AV)) (lo hi : Option AV) (H : zB) : zDi lk n (.sl a b) lo hi H = rSlice lk n (.sl a b) lo hi H := rfl
@[push_cast] theorem zUj (lk : LK) (n : Nat) (v : Value) (lo hi : Option AV) (H : zB) : zDi lk n (.v v) lo hi H = rSlice lk n (.v v) lo hi H := rfl
@[push_cast] theorem zRP (off r v o : Nat) (H : zB) : zBG off (.ptr r v o) H = rFaddr off (.ptr r v o) H := rfl
@[push_cast] theorem zS5 (off : Nat) (cs : List AV) (o : Nat) (H : zB) : zBG off (.vp cs o) H = rFaddr off (.vp cs o) H := rfl
@[push_cast] theorem zS3 (ag : Bool) (n r v o : Nat) (H : zB) : zCo ag n (.ptr r v o) H = rLoad ag n (.ptr r v o) H := rfl
@[push_cast] theorem zUk (ag : Bool) (n : Nat) (cs : List AV) (o : Nat) (H : zB) : zCo ag n (.vp cs o) H = rLoad ag n (.vp cs o) H := rfl
attribute [push_cast] rBox.eq_1 fillA.eq_1 fillA.eq_2 rBuild.eq_1 fillS.eq_1 fillS.eq_2 rBsl.eq_1 rIns.eq_1 rIns.eq_2 rLoadO.eq_1 rLoadO.eq_2 rLoadO.eq_3 isVer.eq_1 isVer.eq_2 isVer.eq_3 isVer.eq_4 isBox.eq_1 isBox.eq_2 isArr.eq_1 isArr.eq_2 rLoad.eq_1 rLoad.eq_2 rLoad.eq_3 rLoad.eq_4 rStoreO.eq_1 rStoreO.eq_2 rStoreO.eq_3 rStore.eq_1 rStore.eq_2 rStore.eq_3 rNil.eq_1 rNil.eq_2 rNil.eq_3 rNil.eq_4 rNil.eq_5 rNil.eq_6 cEq.eq_1 cEq.eq_2 cEq.eq_3 iBin.eq_1 iBin.eq_2 iBin.eq_3 iBin.eq_4 iBin.eq_5 iBin.eq_6 iBin.eq_7 iBin.eq_8 iBin.eq_9 iBin.eq_10 iBin.eq_11 iBin.eq_12 iBin.eq_13 iBin.eq_14 iBin.eq_15 iBin.eq_16 sBin.eq_1 sBin.eq_2 sBin.eq_3 sBin.eq_4 sBin.eq_5 sBin.eq_6 sBin.eq_7 sBin.eq_8 eqRes.eq_1 eqRes.eq_2 eqRes.eq_3 isKD.eq_1 isKD.eq_2 isKD.eq_3 isKD.eq_4 rBin.eq_1 rBin.eq_2 rBin.eq_3 rBin.eq_4 rBin.eq_5 rBin.eq_6 rBin.eq_7 rNot.eq_1 rNot.eq_2 rNeg.eq_1 rNeg.eq_2 rConv.eq_1 rConv.eq_2 rConv.eq_3 rConv.eq_4 rConv.eq_5 rConv.eq_6 rConv.eq_7 rConv.eq_8 rMsl.eq_1 rMsl.eq_2 bnd.eq_1 bnd.eq_2 bnd.eq_3 rSliceN.eq_1 rSliceN.eq_2 rSliceN.eq_3 rSliceN.eq_4 rSliceN.eq_5 lenOf.eq_1 lenOf.eq_2 lenOf.eq_3 lenOf.eq_4 lenOf.eq_5 lenOf.eq_6 lenOf.eq_7 lenOf.eq_8 rSlice.eq_1 lkOk.eq_1 lkOk.eq_2 lkOk.eq_3 lkOk.eq_4 lkOk.eq_5 lkOk.eq_6 lkOk.eq_7 verOk.eq_1 verOk.eq_2 rLen.eq_1 rFaddr.eq_1 rFaddr.eq_2 rFaddr.eq_3 rFaddr.eq_4 rFld.eq_1 rFld.eq_2 rIaddr.eq_1 rIaddr.eq_2 rIaddr.eq_3 rIdx.eq_1 rIdx.eq_2 lookV.eq_1 lookV.eq_2 rLookN.eq_1 rLook.eq_1 rLook.eq_2 rLook.eq_3 rExt.eq_1 rExt.eq_2 rAppendO.eq_1 rAppendO.eq_2 rAppendO.eq_3 rAppendN.eq_1 rAppendN.eq_2 rAppend.eq_1 rAppend.eq_2 rAppend.eq_3 rAppend.eq_4 rAppendC.eq_1 rAppendC.eq_2 rCopy.eq_1 rCopy.eq_2 rMin.eq_1 rMin.eq_2 rMax.eq_1 rMax3.eq_1 rNilI.eq_1 rMkif.eq_1 rNilI.eq_2 rAsrt.eq_1 rAsrt.eq_2 vA.eq_1 rRangeM.eq_1 rEntryM.eq_1 rEntryO.eq_1 rMax.eq_2 rFrz.eq_1 rFrz.eq_2 rFrz.eq_3 rFrz.eq_4 rFrz.eq_5 rFrz.eq_6 rFrz.eq_7 rFrzN.eq_1 rFrzN.eq_2 rFrzN.eq_3 rFrzO.eq_1 rFrzfO.eq_1 rFrzfO.eq_2 rFrzf.eq_1 rFrzf.eq_2 rFrzB.eq_1 rFrzQ.eq_1 rFrzP.eq_1 rOwn.eq_1 rOwn.eq_2 cellsOf.eq_1 cellsOf.eq_2 c1.eq_1 c1.eq_2 c1.eq_3 c1.eq_4 one.eq_1 one.eq_2 one.eq_3 cellsV.eq_1 splice.eq_1 osRows.eq_1 rowsOf.eq_1 rowsOf.eq_2 rowsOf.eq_3 rowsOf.eq_4 rowsOf.eq_5 rowsOf.eq_6 szOk.eq_1 szOk.eq_2 szOk.eq_3 szOk.eq_4 szOk.eq_5 szOk.eq_6 nilOk.eq_1 nilOk.eq_2 nilOk.eq_3 nilOk.eq_4 slcK.eq_1 slcK.eq_2 slcK.eq_3 slcK.eq_4 slcK.eq_5 kIs.eq_1 kIs.eq_2 kIs.eq_3 kIs.eq_4 AV.cl.eq_1 AV.cl.eq_2 AV.cl.eq_3 AV.cl.eq_4 AV.cl.eq_5 AV.cl.eq_6 AV.cl.eq_7 AV.cl.eq_8 kCmp.eq_1 kCmp.eq_2 kCmp.eq_3 kCmp.eq_4
@[push_cast] theorem zWY (H : zB) (x : Value) : verOk H (.v x) = True := rfl
@[push_cast] theorem zVH (H : zB) (sz : Nat) (xs : List (List AV)) : verOk H (.sl sz xs) = True := rfl
@[push_cast] theorem zVJ (H : zB) (ks : List Value) (vs : List AV) : verOk H (.mp ks vs) = True := rfl
@[push_cast] theorem zVI (H : zB) : verOk H .nc = True := rfl
@[push_cast] theorem zQV (l : List UInt8) : bs (mkS l) = l := by simp [bs,mkS]
theorem zNg (s : ByteArray) : mkS (bs s) = s := by cases s; simp [bs,mkS]
@[push_cast] theorem zYi : c1s [] = true := rfl
@[push_cast] theorem zWL (x : AV) (l : List AV) : c1s (x :: l) = (c1 x && c1s l) := rfl
@[push_cast] theorem zWF : zFj [] = true := rfl
@[push_cast] theorem zVq (x : List AV) (l : List (List AV)) : zFj (x :: l) = (clL x && zFj l) := by simp [zFj]
@[push_cast] theorem zWG (a b : List (List AV)) : zFj (a ++ b) = (zFj a && zFj b) := by simp [zFj]
theorem zAM {α : Type} {f : α->List AV} (h : ∀ x,clL (f x) = true) (l : List α) : zFj (l.map f) = true := by simp [zFj,h]
@[push_cast] theorem zTs (l : List UInt8) : zFj (l.map zBz) = true := zAM (fun _ => rfl) l
@[push_cast] theorem zX9 : clL [] = true := rfl
@[push_cast] theorem zWH (x : AV) (l : List AV) : clL (x :: l) = (x.cl && clL l) := by simp [clL]
@[push_cast] theorem zL0 (n : Int) (h : -9223372036854775808 <= n) (h' : n < 9223372036854775808) : IntKind.i64.wrap n = n := by
 simp [IntKind.wrap,IntKind.bits,IntKind.signed];split <;> omega
@[push_cast] theorem zVE (n : Int) (h : 0 <= n) (h' : n < 256) : IntKind.u8.wrap n = n := by
 simp [IntKind.wrap,IntKind.bits,IntKind.signed];omega
@[push_cast] theorem zTD (n : Int) (h : -2147483648 <= n) (h' : n < 2147483648) : IntKind.i32.wrap n = n := by
 simp [IntKind.wrap,IntKind.bits,IntKind.signed];split <;> omega
@[push_cast] theorem zKT (n : Int) (h : 0 <= n) (h' : n < 18446744073709551616) : IntKind.u64.wrap n = n := by
 simp [IntKind.wrap,IntKind.bits,IntKind.signed];omega
attribute [push_cast] List.map_cons List.map_nil List.cons_append List.nil_append List.append_nil List.length_cons List.length_nil List.take_zero List.take_nil List.take_succ_cons List.drop_zero List.drop_nil List.drop_succ_cons List.headD_cons
 zYv zYx zYE zYC zZF zZw List.replicate_succ List.replicate_zero zYF zYo
 if_true if_false ite_true ite_false true_and and_true zYZ Option.map_none zZj Option.getD_none Option.isSome_some zYy zYY zZi zYA zZq zZ7 ne_eq not_true not_false_eq_true
 false_and and_false zYM Bool.not_true zzaW zzaP Bool.and_false zzaB Bool.false_and Bool.or_true Bool.or_false Bool.true_or Bool.false_or Bool.not_not Bool.not_eq_eq_eq_not ite_not
 zY5 List.mem_nil_iff zZM forall_eq forall_eq_or_imp forall_const or_true true_or or_false false_or implies_true and_self or_self zYP zZy eq_self
@[push_cast] theorem zVr (x : Value) : cellsOf (.v x) = [(.v x)] := rfl
@[push_cast] theorem cl_v (x : Value) : AV.cl (.v x) = true := by simp [AV.cl]
@[push_cast] theorem zTu (a : Nat) (b : List (List AV)) : cellsOf (.sl a b) = [(.sl a b)] := rfl
@[push_cast] theorem c1_sl (a : Nat) (b : List (List AV)) : c1 (.sl a b) = true := rfl
@[push_cast] theorem cl_sl (a : Nat) (b : List (List AV)) : AV.cl (.sl a b) = true := by simp [AV.cl]
@[push_cast] theorem zTt (a : List AV) (b : Nat) : cellsOf (.vp a b) = [(.vp a b)] := rfl
@[push_cast] theorem c1_vp (a : List AV) (b : Nat) : c1 (.vp a b) = true := rfl
@[push_cast] theorem cl_vp (a : List AV) (b : Nat) : AV.cl (.vp a b) = true := by simp [AV.cl]
@[push_cast] theorem zTA (a : Fn) (b c : List AV) : cellsOf (.fn a b c) = [(.fn a b c)] := rfl
@[push_cast] theorem c1_fn (a : Fn) (b c : List AV) : c1 (.fn a b c) = true := rfl
@[push_cast] theorem zTz (a : List Value) (b : List AV) : cellsOf (.mp a b) = [(.mp a b)] := rfl
@[push_cast] theorem c1_mp (a : List Value) (b : List AV) : c1 (.mp a b) = true := rfl
@[push_cast] theorem cl_mp (a : List Value) (b : List AV) : AV.cl (.mp a b) = true := by simp [AV.cl]
@[push_cast] theorem zTw (a b c d : Nat) : cellsOf (.os a b c d) = [(.os a b c d)] := rfl
@[push_cast] theorem c1_os (a b c d : Nat) : c1 (.os a b c d) = true := rfl
@[push_cast] theorem zSB (a b c : Nat) : cellsOf (.ptr a b c) = [(.ptr a b c)] := rfl
@[push_cast] theorem c1_ptr (a b c : Nat) : c1 (.ptr a b c) = true := rfl
@[push_cast] theorem zTv (a b c d : Nat) : cellsOf (.pe a b c d) = [(.pe a b c d)] := rfl
@[push_cast] theorem c1_pe (a b c d : Nat) : c1 (.pe a b c d) = true := rfl
@[push_cast] theorem zTx (a b : Nat) : cellsOf (.om a b) = [(.om a b)] := rfl
@[push_cast] theorem c1_om (a b : Nat) : c1 (.om a b) = true := rfl
@[push_cast] theorem zQo (t : TypeId) (s : AV) (y : List UInt8) (H : zB) : zCG t s (str y) H = zB8 t s y H := rfl
@[push_cast] theorem zQp (t : TypeId) (r ver len : Nat) (y : List UInt8) (H : zB) : zB8 t (.os r ver 0 len) y H = zB9 t r ver len y H H[r]? := rfl
@[push_cast] theorem zPi (t : TypeId) (y : List UInt8) (H : zB) : zB8 t zAl y H = zB7 t y H := rfl
@[push_cast] theorem zPh (t : TypeId) (H : zB) : zB7 t [] H = ⟨True,zAl,H⟩ := rfl
theorem zE8 (t : TypeId) {y : List UInt8} (hy : y ≠ []) (H : zB) : zB7 t y H = ⟨y.length <= 140737488355328,.os H.length 0 0 y.length,H ++ [.barr t 0 y]⟩ := if_neg hy
@[push_cast] theorem zOB (t : TypeId) (r ver len : Nat) (y : List UInt8) (H : zB) (t' ver' : Nat) (l : List UInt8) : zB9 t r ver len y H (some (.barr t' ver' l)) = ⟨ver = ver'/\t = t'/\len = l.length/\len + y.length <= 140737488355328,.os r (ver + 1) 0 (len + y.length),H.set r (.barr t (ver + 1) (l ++ y))⟩ := rfl
@[push_cast] theorem zTp : zFb (.v (.pointer none)) = true := rfl
@[push_cast] theorem zQR (t : TypeId) : cellsOf (.bnil t) = [.bnil t] := rfl
@[push_cast] theorem zYj (t : TypeId) : c1 (.bnil t) = false := rfl
@[push_cast] theorem zX8 (t : TypeId) : AV.cl (.bnil t) = true := by simp [AV.cl]
@[push_cast] theorem zTy  : cellsOf .nc = [.nc] := rfl
@[push_cast] theorem c1_nc  : c1 .nc = true := rfl
@[push_cast] theorem cl_nc  : AV.cl .nc = true := by simp [AV.cl]
@[push_cast] theorem c1_v (x : Value) : c1 (.v x) = one x := rfl
@[push_cast] theorem zXR (k : IntKind) (n : Int) : one (.int k n) = true := rfl
@[push_cast] theorem zWu (b : Bool) : one (.bool b) = true := rfl
@[push_cast] theorem zTj (s : ByteArray) : one (.string s) = true := rfl
@[push_cast] theorem zUO (a : Option Addr) (l c : Nat) : one (.slice a l c) = true := rfl
@[push_cast] theorem zXQ (a : Option Nat) : one (.map a) = true := rfl
@[push_cast] theorem zRY (a : Option Addr) : one (.pointer a) = true := rfl
@[push_cast] theorem zDp {α : Type} (H : List α) (x : α) (l : List α) : (H ++ x :: l)[H.length]? = some x := by simp
@[push_cast] theorem zEW {α : Type} (H : List α) (x y : α) (l : List α) : (H ++ x :: l).set H.length y = H ++ y :: l := by simp
@[push_cast] theorem zA4 {α : Type} (H l : List α) (k : Nat) : (H ++ l)[H.length + k]? = l[k]? := by rw [zYz (by omega)]; congr 1; omega
@[push_cast] theorem zEX {α : Type} (H l : List α) (k : Nat) (y : α) : (H ++ l).set (H.length + k) y = H ++ l.set k y := by rw [zZV _ _ (by omega)]; congr 2; omega
attribute [push_cast] List.append_assoc
set_option linter.unusedVariables false
section
variable {P : Program} {k : List zEu} {Q : Out → Env → zB → Prop} {e : Env} {H : zB}
theorem zBD : ∀ {l : List LO} {e : Env} {H : zB} {K K' : Env → zB → Prop},zAD P l e H K → (∀ e H,K e H → K' e H) → zAD P l e H K'
 | [],_,_,_,_,h,hK => hK _ _ h
 | o :: l,_,_,_,_,h,hK => by
  refine zCm ?_
  rcases zCg h with ⟨h1,h2⟩ | ⟨h1,h2⟩
  ·exact .inl ⟨h1,zBF h2 fun x H' hh => zBD hh hK⟩
  ·exact .inr ⟨h1,zBD h2 hK⟩
theorem zIX {op : LOp} {K K' : AV → Prop} (h : zDc P op e H K) (hK : ∀ x,K x → K' x) : zDc P op e H K' := by
 cases op <;> simp only [zDc] at h ⊢ <;> first | exact ⟨h.1,h.2.1,hK _ h.2.2⟩ | exact h.elim | skip
 case call f args =>
  split at h
  ·obtain ⟨x,h1,h2,h3⟩ := h; exact ⟨x,h1,h2,hK _ h3⟩
  ·exact h.elim
 case callh f args =>
  split at h
  ·obtain ⟨x,h1,h3⟩ := h; exact ⟨x,h1,hK _ h3⟩
  ·exact h.elim
 case pick c a b =>
  split at h
  ·split at h
   ·rename_i hb; rw [if_pos hb]; exact hK _ h
   ·rename_i hb; rw [if_neg hb]; exact hK _ h
  ·exact h.elim
theorem zB3 : ∀ {l : List LO} {e : Env} {K K' : Env → Prop},zAR P l e H K → (∀ e,K e → K' e) → zAR P l e H K'
 | [],_,_,_,h,hK => hK _ h
 | o :: l,e,_,_,h,hK => by
  simp only [zAR] at h ⊢
  split at h
  ·exact zIX h fun x hh => zB3 hh hK
  ·rename_i t want hg
   split at h
   ·rename_i b hb
    cases b <;> cases want <;> simp only [if_true,zYM,if_false] at h ⊢ <;> first | exact zB3 h hK | exact zIX h fun x hh => zB3 hh hK
   ·exact zB3 h hK
   ·exact h.elim
theorem zGQ {st : zQY} {K K' : Out → Prop} (h : zLn st K) (hK : ∀ o,K o → K' o) : zLn st K' := by
 cases st with
 | ready => exact hK _ h
 | busy => exact h
 | done o => cases o <;> exact hK _ h
theorem zHc {hd : List LO} {e1 : Env} : ∀ {l : List (LO × List Nat)} {e : Env} {H : zB} {K K' : Env → zB → Prop},zDb P hd e1 l e H K → (∀ e H,K e H → K' e H) → zDb P hd e1 l e H K'
 | [],_,_,_,_,h,hK => hK _ _ h
 | (o,js) :: l,_,_,_,_,h,hK => zBD (h : zAD P [o] _ _ _) fun e H hh => ⟨hh.1,zHc hh.2 hK⟩
theorem zKP {c : Bool} {lo : LO} {K K' : Env → zB → Prop} {Z Z' : Value → zB → Prop} (h : aTI P c lo e H K Z) (hK : ∀ e H,K e H → K' e H) (hZ : ∀ v H',Z v H' → Z' v H') : aTI P c lo e H K' Z' := by
 unfold aTI at h ⊢
 split at h
 ·exact zDZ h (fun h => zGp h (fun _ _ => hK _ _) hZ) (hK _ _)
 ·exact zDZ h (fun ⟨t,z,h1,h2⟩ => ⟨t,z,h1,hZ _ _ h2⟩) (hK _ _)
 ·exact zBD h fun _ _ => hK _ _
theorem zHa {hd : List LO} {e1 : Env} : ∀ {l : List (LO × Bool × List Nat)} {e : Env} {H : zB} {K K' : Env → zB → Prop} {Z Z' : Value → zB → Prop},zEO P hd e1 l e H K Z → (∀ e H,K e H → K' e H) → (∀ v H',Z v H' → Z' v H') → zEO P hd e1 l e H K' Z'
 | [],_,_,_,_,_,_,h,hK,_ => hK _ _ h
 | (o,c,js) :: l,_,_,_,_,_,_,h,hK,hZ => zKP (h : aTI P c o _ _ _ _) (fun e H hh => ⟨hh.1,zHa hh.2 hK hZ⟩) hZ
theorem zDv : ∀ {c : LCode} {e : Env} {H : zB} {K K' : Out → Env → zB → Prop},awp P c e H K → (∀ o e H,K o e H → K' o e H) → awp P c e H K' := by
 intro c
 induction c with
 | skip => intro e H K K' h hK; exact hK _ _ _ h
 | ops l => intro e H K K' h hK; exact zBD h fun e H hh => hK _ _ _ hh
 | draw hd tl => intro e H K K' h hK; exact zB3 h fun e hh => zBD hh fun e H hh => hK _ _ _ hh
 | drawA hd tl gs => intro e H K K' h hK; exact zB3 h fun e hh => zHc hh fun e H hh => zBD hh fun e H hh => hK _ _ _ hh
 | seq a b iha ihb =>
  intro e H K K' h hK
  refine iha h fun o e' H' hh => ?_
  cases o with
  | normal => exact ihb hh hK
  | exit id => exact hK _ _ _ hh
  | ret => exact hK _ _ _ hh
  | pan v => exact hK _ _ _ hh
 | cond x a b iha ihb =>
  intro e H K K' h hK
  simp only [awp] at h ⊢
  split at h
  ·rename_i t ht
   cases t with
   | true => rw [if_pos rfl] at h ⊢; exact iha h hK
   | false => rw [if_neg (by simp)] at h ⊢; exact ihb h hK
  ·exact h.elim
 | block id c ih =>
  intro e H K K' h hK
  refine ih h fun o e' H' hh => ?_
  cases o with
  | normal => exact hK _ _ _ hh
  | exit j =>
   simp only at hh ⊢
   split
   ·rename_i hj; rw [if_pos hj] at hh; exact hK _ _ _ hh
   ·rename_i hj; rw [if_neg hj] at hh; exact hK _ _ _ hh
  | ret => exact hK _ _ _ hh
  | pan v => exact hK _ _ _ hh
 | loop c ih =>
  intro e H K K' h hK
  obtain ⟨I,μ,h1,h2⟩ := h
  refine ⟨I,μ,h1,fun e H hI => ih (h2 e H hI) fun o e' H' hh => ?_⟩
  cases o with
  | normal => exact hh
  | exit id => exact hK _ _ _ hh
  | ret => exact hK _ _ _ hh
  | pan v => exact hK _ _ _ hh
 | range g ps a b iha ihb =>
  intro e H K K' h hK
  simp only [awp] at h ⊢
  split at h
  ·intro l lr hy
   exact (h l lr hy).mono fun x H' ⟨st,h1,h2⟩ => ⟨st,h1,zGQ h2 fun o => hK _ _ _⟩
  ·exact h.elim
 | exit id => intro e H K K' h hK; exact hK _ _ _ h
 | ret => intro e H K K' h hK; exact hK _ _ _ h
 | callp d f args =>
  intro e H K K' h hK
  simp only [awp] at h ⊢
  cases hf : ev e f with
  | fn g first caps =>
   rw [hf] at h
   cases g with
   | func k => exact ACallX.mono h (fun _ _ hh => hK _ _ _ hh) fun _ _ hh => hK _ _ _ hh
   | _ => exact h.elim
  | _ => rw [hf] at h; exact h.elim
 | pan d t x => intro e H K K' ⟨v,h1,h2⟩ hK; exact ⟨v,h1,hK _ _ _ h2⟩
 | ti o => intro e H K K' h hK; exact zKP h (fun _ _ hh => hK _ _ _ hh) fun _ _ hh => hK _ _ _ hh
 | drawX hd tl gs => intro e H K K' h hK; exact zB3 h fun e hh => zHa hh (fun e H hh => zBD hh fun e H hh => hK _ _ _ hh) fun _ _ hh => hK _ _ _ hh
theorem zXZ {p : Nat → Prop} (h : ∃ n,p n) : ∃ n,p n ∧ ∀ m,p m → n ≤ m := by
 obtain ⟨n,hn⟩ := h
 induction n using Nat.strongRecOn with
 | _ n ih =>
  by_cases hh : ∃ m,m < n ∧ p m
  ·obtain ⟨m,hm,hp⟩ := hh; exact ih m hm hp
  ·exact ⟨n,hn,fun m hm => zzay fun hlt => hh ⟨m,hlt,hm⟩⟩
inductive Nx {σ : Type} (I : σ → Env → zB → Prop) (μ : σ → Nat) (s : σ) (e : Env) (H : zB) : Prop where
 | mk (s' : σ) (h : I s' e H) (hm : μ s' < μ s)
open Classical in
theorem zW {σ : Type} {c : LCode} (I : σ → Env → zB → Prop) (μ : σ → Nat) (s : σ) (h0 : I s e H)
  (h : ∀ s e H,I s e H → zAa P (.code c :: .lp (Nx I μ s) :: k) Q .normal e H) : zAa P (.code (.loop c) :: k) Q .normal e H := by
 have hex : ∀ e H,(∃ s,I s e H) → ∃ n,(∃ s,I s e H ∧ μ s = n) ∧ ∀ m,(∃ s,I s e H ∧ μ s = m) → n ≤ m := fun e H ⟨s,hs⟩ => zXZ ⟨_,s,hs,rfl⟩
 refine zJf (fun e H => ∃ s,I s e H) (fun e H => if hx : ∃ s,I s e H then Classical.choose (hex e H hx) else 0) ⟨s,h0⟩ ?_
 intro e H hs
 obtain ⟨⟨s,hI,hm⟩,_⟩ := zZO (hex e H hs)
 refine zDv (h s e H hI) fun o e' H' hh => ?_
 cases o with
 | normal =>
  obtain ⟨s',hI',hlt⟩ := hh
  refine ⟨⟨s',hI'⟩,?_⟩
  rw [dif_pos ⟨s',hI'⟩,dif_pos hs]
  have := (zZO (hex e' H' ⟨s',hI'⟩)).2 _ ⟨s',hI',rfl⟩
  omega
 | exit id => exact hh
 | ret => exact hh
 | pan v => exact hh
end
@[push_cast] theorem zST (i : Nat) : ((i : Int) + 1).toNat = i + 1 := by omega
@[push_cast] theorem zSS (i : Nat) : ((i : Int) + 2).toNat = i + 2 := by omega
@[push_cast] theorem zSR (i : Nat) : ((i : Int) + 3).toNat = i + 3 := by omega
@[push_cast] theorem zSQ (i : Nat) : ((i : Int) + 4).toNat = i + 4 := by omega
@[push_cast] theorem zSP (i : Nat) : ((i : Int) + 5).toNat = i + 5 := by omega
@[push_cast] theorem zSO (i j : Nat) : ((i : Int) + (j : Int)).toNat = i + j := by omega
attribute [push_cast] Nat.add_sub_cancel_left
@[push_cast] theorem zQf {α β : Type} (f : α → β) (l : List α) : (l.map f).take l.length = l.map f := by
 rw [zYN (by simp)]
@[push_cast] theorem zOX {α β : Type} (f : α → β) (l : List α) : ((l.map f).drop 0).take l.length = l.map f := by
 rw [zZ9,zYN (by simp)]
def LCode.sub : List Nat → LCode → LCode
 | [],c => c
 | 0 :: l,.seq a _ => a.sub l
 | 1 :: l,.seq _ b => b.sub l
 | 0 :: l,.cond _ a _ => a.sub l
 | 1 :: l,.cond _ _ b => b.sub l
 | _ :: l,.block _ c => c.sub l
 | _ :: l,.loop c => c.sub l
 | _,c => c
section
variable {P : Program} {t e : TypeId} {xs : List AV}
def zNI (n : Int) : Prop := -9223372036854775808 <= n/\n <= 9223372036854775807
theorem zQ2 (hu : P.underlying t = some .string) (h : Val P t xs) : ∃ s : List UInt8,xs = [str s]/\s.length <= 9223372036854775807 := by
 cases h with
 | str hu' hs =>
  rename_i s;refine ⟨bs s,by rw [str,zNg],?_⟩;have : (bs s).length = s.size := by simp [bs]
  unfold maxLen at hs;omega
 | int hu' => rw [hu] at hu'; cases hu'
 | bool hu' => rw [hu] at hu'; cases hu'
 | sl hu' => rw [hu] at hu'; cases hu'
 | st hu' => rw [hu] at hu'; cases hu'
end
@[push_cast] theorem zRZ : one .nilFunc = true := rfl
@[push_cast] theorem zWt (f : Fn) (a b : Array Value) : one (.func f a b) = true := rfl
@[push_cast] theorem zOA (r ver off len : Nat) (H : zB) : rConv .bytesStr (.os r ver off len) H = ⟨szOk H 1 (.os r ver off len)/\((rowsOf H (.os r ver off len)).bind zAT).isSome = true,str (((rowsOf H (.os r ver off len)).bind zAT).getD []),H⟩ := rfl
@[push_cast] theorem zOz (sz : Nat) (xs : List (List AV)) (H : zB) : rConv .bytesStr (.sl sz xs) H = ⟨szOk H 1 (.sl sz xs)/\((rowsOf H (.sl sz xs)).bind zAT).isSome = true,str (((rowsOf H (.sl sz xs)).bind zAT).getD []),H⟩ := rfl
attribute [push_cast] Option.bind_some Bool.true_xor Bool.false_xor Bool.xor_false Bool.xor_true
def zKa (sz r ver off len : Nat) (ys : List (List AV)) (x : AV) (H : zB) : Option HO->Res
 | some (.arr ver' sz' xs) => ⟨ver = ver'/\sz' = sz/\szOk H sz x/\off + len <= xs.length,int (min ys.length len : Nat),H.set r (.arr ver sz (xs.take off ++ ys.take (min ys.length len) ++ xs.drop (off + min ys.length len)))⟩
 | _ => .no H
def zML (sz : Nat) (s x : AV) (H : zB) : Option (List (List AV))->Res
 | some ys => match s with
  | .os r ver off len => zKa sz r ver off len ys x H H[r]?
  | _ => .no H
 | none => .no H
@[push_cast] theorem zV8 (sz : Nat) (s x : AV) (H : zB) : rCopy sz s x H = zML sz s x H (rowsOf H x) := by
 unfold rCopy zML zKa;cases rowsOf H x with
 | none => cases s <;> rfl
 | some ys => cases s <;> rfl
@[push_cast] theorem zUl (sz r ver off len : Nat) (x : AV) (H : zB) (ys : List (List AV)) : zML sz (.os r ver off len) x H (some ys) = zKa sz r ver off len ys x H H[r]? := rfl
@[push_cast] theorem zS6 (sz r ver off len ver' sz' : Nat) (ys xs : List (List AV)) (x : AV) (H : zB) : zKa sz r ver off len ys x H (some (.arr ver' sz' xs)) = ⟨ver = ver'/\sz' = sz/\szOk H sz x/\off + len <= xs.length,int (min ys.length len : Nat),H.set r (.arr ver sz (xs.take off ++ ys.take (min ys.length len) ++ xs.drop (off + min ys.length len)))⟩ := rfl
attribute [push_cast] List.length_replicate
def zM1 (ver off len : Nat) : Option HO->Option (List (List AV))
 | some (.arr ver' _ xs) => if ver = ver'/\off + len <= xs.length then some ((xs.drop off).take len) else none
 | _ => none
theorem zM0 (r ver off len : Nat) (H : zB) : osRows r ver off len H = zM1 ver off len H[r]? := rfl
theorem zJq {ver off len ver' sz : Nat} {xs : List (List AV)} (h : ver = ver'/\off + len <= xs.length) : zM1 ver off len (some (.arr ver' sz xs)) = some ((xs.drop off).take len) := if_pos h
theorem zL {α : Type} [Inhabited α] {l : List α} {enc : α->List AV} {j : Nat} (h : j < l.length) : (l.map enc).getD j [] = enc (l.getD j default) := by
 simp [zYI,h]
theorem zAf {α : Type} [Inhabited α] {l : List α} {j : Nat} (h : j < l.length) : l.getD j default ∈ l := by
 simp [zYI,h]
theorem zA0 {α : Type} [Inhabited α] {l : List α} {j : Nat} (h : j < l.length) : l.take (j + 1) = l.take j ++ [l.getD j default] := by
 rw [zzax h]; simp [zYI,h]
theorem zN1 {α : Type} [Inhabited α] {l : List α} {j : Nat} (h : j < l.length) : l.drop j = l.getD j default :: l.drop (j + 1) := by
 rw [zY4 h]; simp [zYI,h]
theorem zGU {x : AV} {a : Int} {b : Int} (h : x = int a) (h2 : a = b) : x = int b := h.trans (by rw [h2])
theorem zBB {j : Nat} {p : Nat->Prop} (h : ∀ i,i < j->p i) (hj : p j) : ∀ i,i < j + 1->p i := fun i hi => by
 by_cases e : i = j
 ·rw [e]; exact hj
 ·exact h i (by omega)
theorem zI {a b : Int} (h : a < b) : decide (a < b) = true := zY3 h
theorem zT {a b : Int} (h : ¬ a < b) : decide (a < b) = false := zZK h
theorem zAg {a b : Int} (h : a <= b) : decide (a <= b) = true := zY3 h
theorem zAG {a b : Int} (h : ¬ a <= b) : decide (a <= b) = false := zZK h
theorem zZ {a b : Int} (h : a = b) : decide (a = b) = true := zY3 h
theorem zU {a b : Int} (h : ¬ a = b) : decide (a = b) = false := zZK h
attribute [push_cast] decide_true decide_false
def zOE : Option Nat->Int
 | some i => i
 | none => -1
theorem zIJ {α : Type} [Inhabited α] {l : List α} {p : α->Bool} {j : Nat} (h : j < l.length) (hp : p (l.getD j default) = true) (hb : ∀ i,i < j->p (l.getD i default) = false) : l.findIdx? p = some j := by
 rw [zZE];have e : ∀ i (hi : i < l.length),l.getD i default = l[i] := fun i hi => by simp [zYI,hi]
 refine ⟨h,by rw [<- e j h]; exact hp,fun i hi => ?_⟩;have := hb i hi;rw [e i (by omega)] at this;simp [this]
theorem zIK {α : Type} [Inhabited α] {l : List α} {p : α->Bool} (hb : ∀ i,i < l.length->p (l.getD i default) = false) : l.findIdx? p = none := by
 rw [zzab];intro x hx;obtain ⟨i,hi,rfl⟩ := zZd.1 hx;have := hb i hi
 simpa [zYI,hi] using this
theorem zJH {α : Type} [Inhabited α] {l : List α} {p : α->Bool} {j : Nat} (h : l.findIdx? p = some j) : j < l.length/\p (l.getD j default) = true := by
 rw [zZE] at h;obtain ⟨h1,h2,_⟩ := h;exact ⟨h1,by simpa [zYI,h1] using h2⟩
theorem zFC {α : Type} (l : List α) {n : Nat} (h : l.length <= n) : l.take n = l := zYN h
end Go.Ax
namespace Go.Proofs.YtbibhcmcjldhdaaGreatDoor
open Go Go.Ax
set_option maxRecDepth 100000
set_option linter.unusedSimpArgs false
set_option linter.unusedVariables false
set_option maxHeartbeats 4000000
abbrev zBd (k : FuncId) (args : List AV) (H : zB) (x : AV) : Prop := ACall Tryz.prog k args H fun y H' => y = x/\H' = H
structure Ty where
 k : Int
 len : Int
 rc : List UInt8
 deriving Inhabited,DecidableEq
structure Fd where
 name : List UInt8
 ty : Ty
 deriving Inhabited,DecidableEq
structure Rc where
 name : List UInt8
 fields : List Fd
 deriving Inhabited,DecidableEq
structure Vr where
 name : List UInt8
 ty : Ty
 slot : Int
 node : Int
 var_ : Bool
 loop_ : Bool
 deriving Inhabited,DecidableEq
def tyR (t : Ty) : List AV := [int t.k,int t.len,str t.rc]
def fdR (f : Fd) : List AV := [str f.name,int f.ty.k,int f.ty.len,str f.ty.rc]
def rcR (r : Rc) : List AV := [str r.name,.sl 4 (r.fields.map fdR)]
def big (n : Nat) : Prop := n <= 9223372036854775807
structure Ty.Ok (t : Ty) : Prop where
 k : zNI t.k
 len : zNI t.len
 rc : big t.rc.length
structure Fd.Ok (f : Fd) : Prop where
 name : big f.name.length
 ty : f.ty.Ok
structure Rc.Ok (r : Rc) : Prop where
 name : big r.name.length
 len : big r.fields.length
 fields : ∀ f ∈ r.fields,f.Ok
structure Vr.Ok (v : Vr) : Prop where
 name : big v.name.length
 ty : v.ty.Ok
 slot : zNI v.slot
 node : zNI v.node
def zNH (rs : List Rc) (nm : List UInt8) : Option Nat := rs.findIdx? fun r => decide (r.name = nm)
theorem zID (rs : List Rc) (p : Rc->Bool) (f : FuncId) (fa fb : List AV) (H : zB) (hl : (rs.length : Int) < 9223372036854775807) (hp : ∀ r,zBd f (fa ++ .agg (rcR r) :: fb) H (bool (p r))) :
  zBd 275 [.sl 2 (rs.map rcR),.fn (.func f) fa fb] H (int (zOE (rs.findIdx? p))) := by
 refine enter Tryz.func275 L275_ok (zYu rfl) ?_
 simp -implicitDefEqProofs (disch := omega) only [L275,push_cast,simprocAttr,↓reduceIte,zYp]
 refine zW (fun (j : Nat) e' H' => e' 0 = .sl 2 (rs.map rcR)/\e' 1 = .fn (.func f) fa fb/\e' 7 = int rs.length/\e' 8 = int j/\H = H'/\j <= rs.length/\∀ i,i < j->p (rs.getD i default) = false) (fun j => rs.length - j) 0 ?_ ?_
 ·exact ⟨rfl,rfl,rfl,rfl,rfl,zYO _,by simp⟩
 rintro j e' H' ⟨h0,h1,h7,h8,rfl,hj,hr⟩
 have hrow : ∀ r : Rc,(rcR r).take 2 = rcR r := fun r => rfl
 have hlen : ∀ r : Rc,(rcR r).length = 2 := fun r => rfl
 by_cases hlt : j < rs.length
 ·by_cases hf : p (rs.getD j default) = true
  ·repeat' (first | refine zYt (by omega) ?_ | refine zA (hp _) ?_ | simp -implicitDefEqProofs (disch := omega) only [h0,h1,h7,h8,zL,hrow,hlen,hf,zI,push_cast,simprocAttr,↓reduceIte])
   rw [show rs.findIdx? p = some j from zIJ hlt hf hr]; rfl
  ·have hf' := zZz.2 hf
   repeat' (first | refine zYt (by omega) ?_ | refine zA (hp _) ?_ | simp -implicitDefEqProofs (disch := omega) only [h0,h1,h7,h8,zL,hrow,hlen,hf',zI,push_cast,simprocAttr,↓reduceIte])
   exact .mk (j + 1) ⟨h0,h1,h7,rfl,rfl,hlt,zBB hr hf'⟩ (by omega)
 ·repeat' (simp -implicitDefEqProofs (disch := omega) only [h7,h8,zT,push_cast,↓reduceIte,Int.reduceNeg])
  rw [show rs.findIdx? p = none from zIK fun i hi => hr i (by omega)]; rfl
theorem zRM (r : Rc) (nm : List UInt8) (q : Nat) (H : zB) (hq : H[q]? = some (.box [str nm])) : zBd 276 [.agg (rcR r),.ptr q 0 0] H (bool (decide (r.name = nm))) := by
 refine ACall.drop (R := fun x => x = bool (decide (r.name = nm))) ?_
 refine enter Tryz.func276 L276_ok (zYu rfl) ?_
 have hq' : ∀ l,(H ++ l)[q]? = some (.box [str nm]) := fun l => zE3 hq
 repeat' (simp -implicitDefEqProofs (disch := omega) only [L276,rcR,hq',push_cast,simprocAttr,↓reduceIte,zYp])
 exact ⟨_,rfl⟩
def recV (rs : List Rc) (nm : List UInt8) : AV := match zNH rs nm with
 | some i => .tup [.agg (rcR (rs.getD i default)),bool true]
 | none => .tup [.agg [str [],zAl],bool false]
theorem zMx (rs : List Rc) (nm : List UInt8) (H : zB) (hl : (rs.length : Int) < 9223372036854775807) : zBd 245 [.sl 2 (rs.map rcR),str nm] H (recV rs nm) := by
 refine ACall.drop (R := fun x => x = recV rs nm) ?_
 refine enter Tryz.func245 L245_ok (zYu rfl) ?_
 have hc : ∀ r : Rc,zBd 276 [.agg (rcR r),.ptr H.length 0 0] (H ++ [.box [str nm],.box [str [],zAl]]) (bool (decide (r.name = nm))) := fun r => zRM r nm _ _ (by simp)
 have hrow : ∀ r : Rc,(rcR r).take 2 = rcR r := fun r => rfl
 have hlen : ∀ r : Rc,(rcR r).length = 2 := fun r => rfl
 cases hi : zNH rs nm with
 | none =>
  have hi' : rs.findIdx? (fun r => decide (r.name = nm)) = none := hi
  repeat' (first | refine zA (zID rs (fun r => decide (r.name = nm)) 276 [] [.ptr H.length 0 0] _ hl hc) ?_ | simp -implicitDefEqProofs (disch := omega) only [L245,hi',zOE,push_cast,simprocAttr,↓reduceIte,zYp])
  exact ⟨by unfold recV; rw [hi],_,rfl⟩
 | some i =>
  have hi' : rs.findIdx? (fun r => decide (r.name = nm)) = some i := hi
  have hlt := (zJH hi).1
  repeat' (first | refine zYt (by omega) ?_ | refine zA (zID rs (fun r => decide (r.name = nm)) 276 [] [.ptr H.length 0 0] _ hl hc) ?_ | simp -implicitDefEqProofs (disch := omega) only [L245,hi',zOE,zL,hrow,hlen,zT,push_cast,simprocAttr,↓reduceIte,zYp])
  exact ⟨rfl,by unfold recV; rw [hi],rfl,_,rfl⟩
def tyI : Ty := ⟨1,0,[]⟩
def tyB : Ty := ⟨2,0,[]⟩
def scF (t : Ty) : Ty := if t.k = 2 then tyB else tyI
theorem zTX (t : Ty) (H : zB) : zBd 247 [.agg (tyR t)] H (.agg (tyR (scF t))) := by
 refine ACall.drop (R := fun x => x = .agg (tyR (scF t))) ?_
 refine enter Tryz.func247 L247_ok (zYu rfl) ?_
 repeat' (first | simp -implicitDefEqProofs (disch := omega) only [L247,tyR,zZ,zU,push_cast,simprocAttr,↓reduceIte,zYp] | split)
 ·rename_i h; exact ⟨by unfold scF; rw [if_pos h]; rfl,_,rfl⟩
 ·rename_i h; exact ⟨by unfold scF; rw [if_neg h]; rfl,_,rfl⟩
theorem shp1 (t : Ty) (rs : List Rc) (H : zB) : zBd 239 [.agg (tyR t),.sl 2 (rs.map rcR)] H (bool (decide (t.len = 0) && decide (t.rc = []))) := by
 refine ACall.drop (R := fun x => x = bool (decide (t.len = 0) && decide (t.rc = []))) ?_
 refine enter Tryz.func239 L239_ok (zYu rfl) ?_
 repeat' (first | simp -implicitDefEqProofs (disch := omega) only [L239,tyR,zZ,zU,push_cast,simprocAttr,↓reduceIte,zYp] | split)
 all_goals first | exact ⟨_,rfl⟩ | (refine ⟨?_,_,rfl⟩; simp_all)
theorem shp2 (t : Ty) (rs : List Rc) (H : zB) : zBd 240 [.agg (tyR t),.sl 2 (rs.map rcR)] H (.sl 3 [tyR ⟨t.k,0,[]⟩]) := by
 refine ACall.drop (R := fun x => x = .sl 3 [tyR ⟨t.k,0,[]⟩]) ?_
 refine enter Tryz.func240 L240_ok (zYu rfl) ?_
 repeat' (simp -implicitDefEqProofs (disch := omega) only [L240,tyR,push_cast,simprocAttr,↓reduceIte,zYp])
 exact ⟨_,rfl⟩
theorem shp3 (t : Ty) (rs : List Rc) (H : zB) : zBd 241 [.agg (tyR t),.sl 2 (rs.map rcR)] H (bool (decide (1 <= t.len) && decide (t.len <= 8) && decide (t.rc = []))) := by
 refine ACall.drop (R := fun x => x = bool (decide (1 <= t.len) && decide (t.len <= 8) && decide (t.rc = []))) ?_
 refine enter Tryz.func241 L241_ok (zYu rfl) ?_
 repeat' (first | simp -implicitDefEqProofs (disch := omega) only [L241,tyR,zAg,zAG,push_cast,simprocAttr,↓reduceIte,zYp] | split)
 all_goals first | exact ⟨_,rfl⟩ | (refine ⟨?_,_,rfl⟩; simp_all)
theorem shp5 (t : Ty) (rs : List Rc) (H : zB) (hl : (rs.length : Int) < 9223372036854775807) : zBd 244 [.agg (tyR t),.sl 2 (rs.map rcR)] H (bool (decide (t.len = 0) && (zNH rs t.rc).isSome)) := by
 refine ACall.drop (R := fun x => x = bool (decide (t.len = 0) && (zNH rs t.rc).isSome)) ?_
 refine enter Tryz.func244 L244_ok (zYu rfl) ?_
 cases hi : zNH rs t.rc with
 | none =>
  have hr : recV rs t.rc = .tup [.agg [str [],zAl],bool false] := by unfold recV; rw [hi]
  repeat' (first | refine zA (zMx _ _ _ hl) ?_ | simp -implicitDefEqProofs (disch := omega) only [L244,tyR,hr,zZ,zU,push_cast,simprocAttr,↓reduceIte,zYp] | split)
  all_goals first | exact ⟨_,rfl⟩ | (refine ⟨?_,_,rfl⟩; simp_all)
 | some i =>
  have hr : recV rs t.rc = .tup [.agg (rcR (rs.getD i default)),bool true] := by unfold recV; rw [hi]
  repeat' (first | refine zA (zMx _ _ _ hl) ?_ | simp -implicitDefEqProofs (disch := omega) only [L244,tyR,hr,rcR,zZ,zU,push_cast,simprocAttr,↓reduceIte,zYp] | split)
  all_goals first | exact ⟨_,rfl⟩ | (refine ⟨?_,_,rfl⟩; simp_all)
def scR (f : Fd) : List AV := tyR (scF f.ty)
theorem shp6 (t : Ty) (rs : List Rc) (i : Nat) (H : zB) (hl : (rs.length : Int) < 9223372036854775807) (hi : zNH rs t.rc = some i) (hf : ∀ r ∈ rs,r.fields.length <= 20) :
  zBd 246 [.agg (tyR t),.sl 2 (rs.map rcR)] H (.sl 3 ((rs.getD i default).fields.map scR)) := by
 refine ACall.drop (R := fun x => x = .sl 3 ((rs.getD i default).fields.map scR)) ?_
 refine enter Tryz.func246 L246_ok (zYu rfl) ?_
 have hr : recV rs t.rc = .tup [.agg (rcR (rs.getD i default)),bool true] := by unfold recV; rw [hi]
 have hlt := (zJH hi).1
 have h20 := hf _ (zAf hlt)
 generalize rs.getD i default = r at hr h20 ⊢
 repeat' (first | refine zA (zMx _ _ _ hl) ?_ | simp -implicitDefEqProofs (disch := omega) only [L246,tyR,hr,rcR,push_cast,simprocAttr,↓reduceIte,zYp])
 refine zW (fun (p : Nat × Nat × List HO) e' H' => e' 5 = .os (H.length + 1) p.2.1 0 p.1/\e' 18 = .sl 4 (r.fields.map fdR)/\e' 19 = int r.fields.length/\e' 20 = int p.1/\H' = H ++ .box (tyR t) :: .arr p.2.1 3 ((r.fields.take p.1).map scR) :: p.2.2/\p.1 <= r.fields.length) (fun p => r.fields.length - p.1) (0,0,[.box (rcR r)]) ?_ ?_
 ·exact ⟨rfl,rfl,rfl,rfl,rfl,zYO _⟩
 rintro ⟨j,ver,rest⟩ e' H' ⟨h5,h18,h19,h20',rfl,hj⟩
 simp only at h5 h18 h19 h20' hj
 have hlen : ((r.fields.take j).map scR).length = j := by simp; omega
 by_cases hlt : j < r.fields.length
 ·have hsn : (r.fields.take j).map scR ++ [[int (scF (r.fields.getD j default).ty).k,int (scF (r.fields.getD j default).ty).len,str (scF (r.fields.getD j default).ty).rc]] = (r.fields.take (j + 1)).map scR := by rw [zA0 hlt]; simp [scR,tyR]
  repeat' (first | refine zYt (by omega) ?_ | refine zA (zTX (r.fields.getD j default).ty _) ?_ | simp -implicitDefEqProofs (disch := omega) only [h5,h18,h19,h20',zL,fdR,tyR,hlen,zFC _ (Nat.le_of_eq hlen),hsn,zI,push_cast,simprocAttr,↓reduceIte,zYp])
  exact .mk (j + 1,ver + 1,rest ++ [_]) ⟨rfl,h18,h19,rfl,rfl,hlt⟩ (by simp only; omega)
 ·repeat' (first | refine zYt ⟨by omega,zAM (fun _ => rfl) _⟩ ?_ | simp -implicitDefEqProofs (disch := omega) only [h5,h19,h20',hlen,zFC _ (Nat.le_of_eq hlen),zT,push_cast,↓reduceIte,Nat.reduceEqDiff])
  exact ⟨by rw [zFC _ (by omega)],_,rfl⟩
abbrev u64 (n : Int) : AV := .v (.int .u64 n)
theorem zXW (n : Nat) (h1 : 1 <= n) (h8 : n <= 8) (H : zB) : zBd 117 [u64 1,u64 n] H (.tup [u64 0,u64 n]) := by
 refine enter Tryz.func117 L117_ok (zYu rfl) ?_
 have hn : n = 1\/n = 2\/n = 3\/n = 4\/n = 5\/n = 6\/n = 7\/n = 8 := by omega
 rcases hn with rfl | rfl | rfl | rfl | rfl | rfl | rfl | rfl
 all_goals
  simp -implicitDefEqProofs (disch := omega) only [L117,push_cast,simprocAttr,↓reduceIte,zYp]
  refine congrArg (fun n : Int => AV.tup [u64 n,_]) ?_
  decide +kernel
theorem mulC (n : Nat) (h1 : 1 <= n) (h8 : n <= 8) (H : zB) : zBd 62 [u64 1,u64 n] H (.tup [u64 0,u64 n]) := by
 refine enter Tryz.func62 L62_ok (zYu rfl) ?_
 repeat' (first | refine zA (zXW n h1 h8 _) ?_ | simp -implicitDefEqProofs (disch := omega) only [L62,push_cast,simprocAttr,↓reduceIte])
theorem zPg {row : List AV} {xs : List (List AV)} {m n : Nat} (hl : xs.length = n) (hm : m <= n) (ht : xs.take m = List.replicate m row) :
  (xs.take m ++ (xs.take m).take (min m (n - m)) ++ xs.drop (m + min m (n - m))).length = n/\(xs.take m ++ (xs.take m).take (min m (n - m)) ++ xs.drop (m + min m (n - m))).take (m + min m (n - m)) = List.replicate (m + min m (n - m)) row := by
 refine ⟨by simp [hl]; omega,?_⟩
 rw [ht,List.take_replicate,show min (min m (n - m)) m = min m (n - m) by omega,List.replicate_append_replicate]
 rw [zzaV (by simp)]
theorem zRK (t : Ty) (n : Nat) (h1 : 1 <= n) (h8 : n <= 8) (H : zB) : zBd 243 [.sl 3 [tyR t],int n] H (.sl 3 (List.replicate n (tyR t))) := by
 refine ACall.drop (R := fun x => x = .sl 3 (List.replicate n (tyR t))) ?_
 refine enter Tryz.func243 L243_ok (zYu rfl) ?_
 have w1 : IntKind.u64.wrap 1 = 1 := by decide
 have w2 : IntKind.u64.wrap n = n := zKT _ (by omega) (by omega)
 have hmin : min 1 n = 1 := by omega
 repeat' (first | refine zYt (by omega) ?_ | refine zA (mulC n h1 h8 _) ?_ | simp -implicitDefEqProofs (disch := omega) only [L243,w1,w2,hmin,zT,push_cast,simprocAttr,↓reduceIte])
 refine zW (fun (p : Nat × List (List AV)) e' H' => e' 7 = .os H.length 0 0 n/\e' 8 = int p.1/\H' = H ++ [.arr 0 3 p.2]/\1 <= p.1/\p.1 <= n/\p.2.length = n/\p.2.take p.1 = List.replicate p.1 (tyR t)) (fun p => n - p.1) (1,tyR t :: List.drop 1 (List.replicate n [int 0,int 0,str []])) ?_ ?_
 ·exact ⟨rfl,rfl,rfl,by omega,h1,by simp; omega,rfl⟩
 rintro ⟨m,xs⟩ e' H' ⟨h7,h8',rfl,hm1,hmn,hl,ht⟩
 simp only at h7 h8' hm1 hmn hl ht
 have hst := zPg hl hmn ht
 by_cases hlt : m < n
 ·have e1 : min (xs.take m).length (n - m) = min m (n - m) := by simp; omega
  rw [zY8] at hst
  repeat' (first | refine zYt (by omega) ?_ | simp -implicitDefEqProofs (disch := omega) only [h7,h8',zM0,zJq,zY0,zzal,e1,zI,push_cast,simprocAttr,↓reduceIte])
  exact .mk (m + min m (n - m),_) ⟨h7,by simp [up],rfl,by simp only; omega,by simp only; omega,hst.1,hst.2⟩ (by simp only; omega)
 ·have hmn2 : m = n := by omega
  subst hmn2
  have hxs : xs = List.replicate m (tyR t) := by rw [<- ht,zYN (by omega)]
  have hcr : zFj xs = true := by rw [hxs]; simp [zFj,tyR,clL,AV.cl]
  repeat' (first | refine zYt (by omega) ?_ | simp -implicitDefEqProofs (disch := omega) only [h7,h8',hcr,zT,push_cast,↓reduceIte,Nat.reduceEqDiff])
  exact ⟨by rw [ht],_,rfl⟩
theorem shp4 (t : Ty) (rs : List Rc) (n : Nat) (hn : t.len = n) (h1 : 1 <= n) (h8 : n <= 8) (H : zB) : zBd 242 [.agg (tyR t),.sl 2 (rs.map rcR)] H (.sl 3 (List.replicate n (tyR tyI))) := by
 refine ACall.drop (R := fun x => x = .sl 3 (List.replicate n (tyR tyI))) ?_
 refine enter Tryz.func242 L242_ok (zYu rfl) ?_
 repeat' (first | refine zA (zRK tyI n h1 h8 _) ?_ | simp -implicitDefEqProofs (disch := omega) only [L242,tyR,hn,push_cast,simprocAttr,↓reduceIte,zYp])
 exact ⟨_,rfl⟩
def zMs : List Value := [.int .i64 1,.int .i64 2,.int .i64 3,.int .i64 4]
def zPa : List AV := [.agg [.fn (.func 239) [] [],.fn (.func 240) [] []],.agg [.fn (.func 239) [] [],.fn (.func 240) [] []],.agg [.fn (.func 241) [] [],.fn (.func 242) [] []],.agg [.fn (.func 244) [] [],.fn (.func 246) [] []]]
theorem zEy (H : zB) : zBd 194 [] H (.mp zMs zPa) := by
 refine ACall.drop (R := fun x => x = .mp zMs zPa) ?_
 refine enter Tryz.func194 L194_ok (zYu rfl) ?_
 repeat' (simp -implicitDefEqProofs (disch := omega) only [L194,push_cast,simprocAttr,↓reduceIte,zYp])
 simp [kEq,zMs,zPa]
theorem zDf (n : Int) : (∀ k' ∈ zMs,kCmp (.int .i64 n) k' = true) = True := by simp [zMs,kCmp]
theorem zTW : zE9 (.int .i64 1) zMs zPa = some (.agg [.fn (.func 239) [] [],.fn (.func 240) [] []]) := rfl
theorem zTV : zE9 (.int .i64 2) zMs zPa = some (.agg [.fn (.func 239) [] [],.fn (.func 240) [] []]) := rfl
theorem zTU : zE9 (.int .i64 3) zMs zPa = some (.agg [.fn (.func 241) [] [],.fn (.func 242) [] []]) := rfl
theorem zTT : zE9 (.int .i64 4) zMs zPa = some (.agg [.fn (.func 244) [] [],.fn (.func 246) [] []]) := rfl
theorem zTS {k : Int} (h : k ≠ 1/\k ≠ 2/\k ≠ 3/\k ≠ 4) : zE9 (.int .i64 k) zMs zPa = none := by
 simp [zE9,zMs,zPa,kEq,h]
def zBx (t : Ty) (rs : List Rc) : Bool :=
 if t.k = 1\/t.k = 2 then decide (t.len = 0) && decide (t.rc = [])
 else if t.k = 3 then decide (1 <= t.len) && decide (t.len <= 8) && decide (t.rc = [])
 else if t.k = 4 then decide (t.len = 0) && (zNH rs t.rc).isSome
 else false
theorem zL5 (t : Ty) (rs : List Rc) (H : zB) (hl : (rs.length : Int) < 9223372036854775807) : zBd 193 [.agg (tyR t),.sl 2 (rs.map rcR)] H (bool (zBx t rs)) := by
 refine ACall.drop (R := fun x => x = bool (zBx t rs)) ?_
 refine enter Tryz.func193 L193_ok (zYu rfl) ?_
 obtain ⟨k,len,rc⟩ := t
 have hk : k = 1\/k = 2\/k = 3\/k = 4\/(k ≠ 1/\k ≠ 2/\k ≠ 3/\k ≠ 4) := by omega
 rcases hk with rfl | rfl | rfl | rfl | hk
 ·repeat' (first | refine zA (shp1 ⟨1,len,rc⟩ rs _) ?_ | refine zF (zEy _) rfl ?_ | simp -implicitDefEqProofs (disch := omega) only [L193,tyR,zTW,zDf,lookV,push_cast,simprocAttr,↓reduceIte,zYp])
  exact ⟨rfl,_,rfl⟩
 ·repeat' (first | refine zA (shp1 ⟨2,len,rc⟩ rs _) ?_ | refine zF (zEy _) rfl ?_ | simp -implicitDefEqProofs (disch := omega) only [L193,tyR,zTV,zDf,lookV,push_cast,simprocAttr,↓reduceIte,zYp])
  exact ⟨rfl,_,rfl⟩
 ·repeat' (first | refine zA (shp3 ⟨3,len,rc⟩ rs _) ?_ | refine zF (zEy _) rfl ?_ | simp -implicitDefEqProofs (disch := omega) only [L193,tyR,zTU,zDf,lookV,push_cast,simprocAttr,↓reduceIte,zYp])
  exact ⟨rfl,_,rfl⟩
 ·repeat' (first | refine zA (shp5 ⟨4,len,rc⟩ rs _ hl) ?_ | refine zF (zEy _) rfl ?_ | simp -implicitDefEqProofs (disch := omega) only [L193,tyR,zTT,zDf,lookV,push_cast,simprocAttr,↓reduceIte,zYp])
  exact ⟨rfl,_,rfl⟩
 ·repeat' (first | refine zF (zEy _) rfl ?_ | simp -implicitDefEqProofs (disch := omega) only [L193,tyR,zTS hk,zDf,lookV,push_cast,simprocAttr,↓reduceIte,zYp])
  exact ⟨by simp [zBx,hk],_,rfl⟩
def zBW (rs : List Rc) (t : Ty) : List Ty :=
 if t.k = 3 then List.replicate t.len.toNat tyI
 else if t.k = 4 then (match zNH rs t.rc with | some i => (rs.getD i default).fields.map fun f => scF f.ty | none => [])
 else [⟨t.k,0,[]⟩]
def zGs (rs : List Rc) (l : List Ty) : AV := if l.all (fun t => zBx t rs) = true then .sl 3 ((l.flatMap (zBW rs)).map tyR) else zAl
structure Few (rs : List Rc) : Prop where
 len : rs.length <= 20
 fields : ∀ r ∈ rs,r.fields.length <= 20
theorem zId {rs : List Rc} {t : Ty} (hf : Few rs) (hv : zBx t rs = true) : (zBW rs t).length <= 20 := by
 unfold zBW
 split
 ·rename_i h
  unfold zBx at hv
  rw [if_neg (by omega),if_pos h] at hv
  simp at hv
  simp; omega
 ·split
  ·split
   ·rename_i i hi
    simpa using hf.fields _ (zAf (zJH hi).1)
   ·simp
  ·simp
theorem zI3 {t : Ty} {rs : List Rc} (hv : zBx t rs = true) : t.k = 1\/t.k = 2\/(t.k = 3/\1 <= t.len/\t.len <= 8)\/(t.k = 4/\∃ i,zNH rs t.rc = some i) := by
 unfold zBx at hv
 split at hv
 ·omega
 ·split at hv
  ·simp at hv; omega
  ·split at hv
   ·simp at hv
    obtain ⟨_,h⟩ := hv
    cases hi : zNH rs t.rc with
    | none => rw [hi] at h; simp at h
    | some i => exact .inr (.inr (.inr ⟨‹_›,i,rfl⟩))
   ·simp at hv
theorem zNN {rs : List Rc} {l : List Ty} {j : Nat} (h : j < l.length) : ((l.take j).flatMap (zBW rs)).map tyR ++ (zBW rs (l.getD j default)).map tyR = ((l.take (j + 1)).flatMap (zBW rs)).map tyR := by
 rw [zA0 h]; simp
theorem zKB {rs : List Rc} (hf : Few rs) : ∀ {l : List Ty},(∀ t ∈ l,zBx t rs = true)->(l.flatMap (zBW rs)).length <= 20 * l.length
 | [],_ => by simp
 | t :: l,h => by
  have h1 := zId hf (h t (by simp))
  have h2 := zKB hf (l := l) fun t ht => h t (by simp [ht])
  simp only [List.flatMap_cons,zYF,zYs]; omega
theorem zKN {α : Type} [Inhabited α] {l : List α} {p : α->Prop} {j : Nat} (h : ∀ i,i < j->p (l.getD i default)) (hj : j <= l.length) : ∀ t ∈ l.take j,p t := by
 intro t ht
 obtain ⟨i,hi,rfl⟩ := zZd.1 ht
 have := h i (by simp at hi; omega)
 simp at hi
 simpa [zYI,show i < l.length by omega] using this
theorem zPd {rs : List Rc} {l : List Ty} {j : Nat} (hj : j < l.length) (h : zBx (l.getD j default) rs = false) : zGs rs l = zAl := by
 unfold zGs
 rw [if_neg]
 intro hh
 rw [zYR] at hh
 rw [hh _ (zAf hj)] at h
 cases h
theorem zMu {rs : List Rc} {l : List Ty} (h : ∀ i,i < l.length->zBx (l.getD i default) rs = true) : zGs rs l = .sl 3 ((l.flatMap (zBW rs)).map tyR) := by
 unfold zGs
 rw [if_pos]
 rw [zYR]
 intro t ht
 have := zKN (p := fun t => zBx t rs = true) h (zYH _) t (by rw [zzai]; exact ht)
 exact this
theorem zMt (rs : List Rc) (l : List Ty) (H : zB) (hf : Few rs) (hl : l.length <= 20) : zBd 155 [.sl 2 (rs.map rcR),.sl 3 (l.map tyR)] H (zGs rs l) := by
 refine ACall.drop (R := fun x => x = zGs rs l) ?_
 refine enter Tryz.func155 L155_ok (zYu rfl) ?_
 have hrl := hf.len
 repeat' (simp -implicitDefEqProofs (disch := omega) only [L155,push_cast,↓reduceIte,Nat.reduceEqDiff,reduceCtorEq,Nat.reduceAdd,Nat.reduceLT])
 refine zW (fun (p : Nat × Nat × List HO) e' H' => e' 0 = .sl 2 (rs.map rcR)/\e' 5 = .os H.length p.2.1 0 ((l.take p.1).flatMap (zBW rs)).length/\e' 8 = .sl 3 (l.map tyR)/\e' 9 = int l.length/\e' 10 = int p.1/\H' = H ++ .arr p.2.1 3 (((l.take p.1).flatMap (zBW rs)).map tyR) :: p.2.2/\p.1 <= l.length/\∀ i,i < p.1->zBx (l.getD i default) rs = true) (fun p => l.length - p.1) (0,0,[]) ?_ ?_
 ·exact ⟨rfl,rfl,rfl,rfl,rfl,rfl,zYO _,by simp⟩
 rintro ⟨j,ver,rest⟩ e' H' ⟨h0,h5,h8,h9,h10,rfl,hj,hv⟩
 simp only at h0 h5 h8 h9 h10 hj hv
 have hlen := zKB hf (zKN (p := fun t => zBx t rs = true) hv hj)
 have hl0 : (l.take j).length = j := by simp; omega
 by_cases hlt : j < l.length
 ·have hft := zNN (rs := rs) hlt
  by_cases hvj : zBx (l.getD j default) rs = true
  ·have hlen1 := zId hf hvj
   have hall := zBB (p := fun i => zBx (l.getD i default) rs = true) hv hvj
   have hk := zI3 hvj
   generalize hte : l.getD j default = t at hft hvj hk hlen1
   obtain ⟨k,len,rc⟩ := t
   simp only at hk
   rcases hk with rfl | rfl | ⟨rfl,hk1,hk2⟩ | ⟨rfl,i,hi⟩
   ·have hs : (zBW rs ⟨1,len,rc⟩).map tyR = [[int 1,int 0,str []]] := by rfl
    rw [hs] at hft
    have hfl : ((l.take j).flatMap (zBW rs)).length + 1 = ((l.take (j + 1)).flatMap (zBW rs)).length := by have := congrArg List.length hft; simpa using this
    have hb : 1 <= 20 := by have := congrArg List.length hs; simp only [zYo] at this; omega
    repeat' (first | refine zYt (by omega) ?_ | refine zA (zL5 ⟨1,len,rc⟩ rs _ (by omega)) ?_ | refine zF (zEy _) rfl ?_ | refine zF (shp2 ⟨1,len,rc⟩ rs _) rfl ?_ | simp -implicitDefEqProofs (disch := omega) only [h0,h5,h8,h9,h10,zL,hte,tyR,hvj,zTW,zDf,lookV,hft,zI,push_cast,↓reduceIte,Nat.reduceEqDiff,reduceCtorEq,Nat.reduceAdd,Nat.reduceLeDiff,zYp])
    exact .mk (j + 1,ver + 1,rest ++ [_]) ⟨h0,by rw [<- hfl]; rfl,h8,h9,rfl,rfl,hlt,hall⟩ (by simp only; omega)
   ·have hs : (zBW rs ⟨2,len,rc⟩).map tyR = [[int 2,int 0,str []]] := by rfl
    rw [hs] at hft
    have hfl : ((l.take j).flatMap (zBW rs)).length + 1 = ((l.take (j + 1)).flatMap (zBW rs)).length := by have := congrArg List.length hft; simpa using this
    have hb : 1 <= 20 := by have := congrArg List.length hs; simp only [zYo] at this; omega
    repeat' (first | refine zYt (by omega) ?_ | refine zA (zL5 ⟨2,len,rc⟩ rs _ (by omega)) ?_ | refine zF (zEy _) rfl ?_ | refine zF (shp2 ⟨2,len,rc⟩ rs _) rfl ?_ | simp -implicitDefEqProofs (disch := omega) only [h0,h5,h8,h9,h10,zL,hte,tyR,hvj,zTV,zDf,lookV,hft,zI,push_cast,↓reduceIte,Nat.reduceEqDiff,reduceCtorEq,Nat.reduceAdd,Nat.reduceLeDiff,zYp])
    exact .mk (j + 1,ver + 1,rest ++ [_]) ⟨h0,by rw [<- hfl]; rfl,h8,h9,rfl,rfl,hlt,hall⟩ (by simp only; omega)
   ·obtain ⟨n,hn⟩ : ∃ n : Nat,len = n := ⟨len.toNat,by omega⟩
    have hs : (zBW rs ⟨3,len,rc⟩).map tyR = List.replicate n [int tyI.k,int tyI.len,str tyI.rc] := by simp [zBW,hn,tyR]
    rw [hs] at hft
    have hfl : ((l.take j).flatMap (zBW rs)).length + n = ((l.take (j + 1)).flatMap (zBW rs)).length := by have := congrArg List.length hft; simpa using this
    have hb : n <= 20 := by have := congrArg List.length hs; simp only [zYo] at this; omega
    repeat' (first | refine zYt (by omega) ?_ | refine zA (zL5 ⟨3,len,rc⟩ rs _ (by omega)) ?_ | refine zF (zEy _) rfl ?_ | refine zF (shp4 ⟨3,len,rc⟩ rs n hn (by omega) (by omega) _) rfl ?_ | simp -implicitDefEqProofs (disch := omega) only [h0,h5,h8,h9,h10,zL,hte,tyR,hvj,zTU,zDf,lookV,hft,List.length_replicate,zI,push_cast,↓reduceIte,Nat.reduceEqDiff,reduceCtorEq,Nat.reduceAdd,Nat.reduceLeDiff,zYp])
    exact .mk (j + 1,ver + 1,rest ++ [_]) ⟨h0,by rw [<- hfl]; rfl,h8,h9,rfl,rfl,hlt,hall⟩ (by simp only; omega)
   ·have hs : (zBW rs ⟨4,len,rc⟩).map tyR = (rs.getD i default).fields.map scR := by simp [zBW,show zNH rs rc = some i from hi,scR]
    rw [hs] at hft
    have hfl : ((l.take j).flatMap (zBW rs)).length + (rs.getD i default).fields.length = ((l.take (j + 1)).flatMap (zBW rs)).length := by have := congrArg List.length hft; simpa using this
    have hb : (rs.getD i default).fields.length <= 20 := by have := congrArg List.length hs; simp only [zYo] at this; omega
    repeat' (first | refine zYt (by omega) ?_ | refine zA (zL5 ⟨4,len,rc⟩ rs _ (by omega)) ?_ | refine zF (zEy _) rfl ?_ | refine zF (shp6 ⟨4,len,rc⟩ rs i _ (by omega) hi hf.fields) rfl ?_ | simp -implicitDefEqProofs (disch := omega) only [h0,h5,h8,h9,h10,zL,hte,tyR,hvj,zTT,zDf,lookV,hft,zI,push_cast,↓reduceIte,Nat.reduceEqDiff,reduceCtorEq,Nat.reduceAdd,Nat.reduceLeDiff,zYp])
    exact .mk (j + 1,ver + 1,rest ++ [_]) ⟨h0,by rw [<- hfl]; rfl,h8,h9,rfl,rfl,hlt,hall⟩ (by simp only; omega)
  ·have hvj' := zZz.2 hvj
   rw [zPd hlt hvj']
   repeat' (first | refine zYt (by omega) ?_ | refine zA (zL5 (l.getD j default) rs _ (by omega)) ?_ | simp -implicitDefEqProofs (disch := omega) only [h0,h8,h9,h10,zL,tyR,hvj',zI,push_cast,↓reduceIte,Nat.reduceEqDiff,reduceCtorEq,Nat.reduceAdd,Nat.reduceLeDiff,zYp])
   exact ⟨_,rfl⟩
 ·rw [zMu fun i hi => hv i (by omega)]
  repeat' (first | refine zYt ⟨by omega,zAM (fun _ => rfl) _⟩ ?_ | simp -implicitDefEqProofs (disch := omega) only [h5,h9,h10,zT,push_cast,↓reduceIte,Nat.reduceEqDiff])
  exact ⟨by rw [zFC l (by omega)],_,rfl⟩
def wOk (w : Int) : Prop := 2 <= w/\w <= 8
instance (w : Int) : Decidable (wOk w) := inferInstanceAs (Decidable (_/\_))
def hf (w : Int) : Int := 2 ^ (w.toNat - 1)
def leF (w : Int) : Int := if wOk w then -hf w else 0
def grF (w : Int) : Int := if wOk w then hf w - 1 else 0
theorem zQ1 {w : Int} (h : wOk w) : w = 2\/w = 3\/w = 4\/w = 5\/w = 6\/w = 7\/w = 8 := by unfold wOk at h; omega
def inI (w n : Int) : Prop := leF w <= n/\n <= grF w
instance (w n : Int) : Decidable (inI w n) := inferInstanceAs (Decidable (_/\_))
def isB (n : Int) : Prop := n = 0\/n = 1
instance (n : Int) : Decidable (isB n) := inferInstanceAs (Decidable (_\/_))
section
variable {w a b : Int} {o : List UInt8} {k : FuncId}
end
def zLb (rs : List Rc) (t : Ty) : Nat := if zBx t rs = true then (zBW rs t).length else 0
theorem zO9 {rs : List Rc} {t : Ty} (h : zBx t rs = false) : zLb rs t = 0 := by unfold zLb; rw [h]; rfl
theorem zMr {rs : List Rc} {t : Ty} (h : zBx t rs = true) : zLb rs t = (zBW rs t).length := by unfold zLb; rw [h]; rfl
theorem zRx {rs : List Rc} {t : Ty} (h : zBx t rs = true) : zGs rs [t] = .sl 3 ((zBW rs t).map tyR) := by simp [zGs,h]
theorem zRy {rs : List Rc} {t : Ty} (h : zBx t rs = false) : zGs rs [t] = zAl := by simp [zGs,h]
theorem size (t : Ty) (rs : List Rc) (H : zB) (hf : Few rs) : zBd 105 [.agg (tyR t),.sl 2 (rs.map rcR)] H (int (zLb rs t)) := by
 refine ACall.drop (R := fun x => x = int (zLb rs t)) ?_
 refine enter Tryz.func105 L105_ok (zYu rfl) ?_
 cases hv : zBx t rs with
 | true =>
  repeat' (first | refine zA (zMt rs [t] _ hf (by simp)) ?_ | simp -implicitDefEqProofs (disch := omega) only [L105,tyR,zRx hv,zMr hv,push_cast,simprocAttr,↓reduceIte,zYp])
  exact ⟨_,rfl⟩
 | false =>
  repeat' (first | refine zA (zMt rs [t] _ hf (by simp)) ?_ | simp -implicitDefEqProofs (disch := omega) only [L105,tyR,zRy hv,zO9 hv,push_cast,simprocAttr,↓reduceIte,zYp])
  exact ⟨_,rfl⟩
section
variable {w a : Int} {o : List UInt8}
end
def iR (n : Int) : List AV := [int n]
def zTE (low high l : List Int) : Prop := low.length = l.length/\high.length = l.length/\∀ i,i < l.length->low.getD i default <= l.getD i default/\l.getD i default <= high.getD i default
instance (low high l : List Int) : Decidable (zTE low high l) := inferInstanceAs (Decidable (_/\_/\_))
def nextA : Option (List Int)->AV
 | some l => .tup [.sl 1 (l.map iR),bool true]
 | none => .tup [zAl,bool false]
def sR (x : List UInt8) : List AV := [str x]
section
variable {w : Int}
theorem hf_pos (hw : wOk w) : 2 <= hf w/\hf w <= 128 := by
 rcases zQ1 hw with rfl | rfl | rfl | rfl | rfl | rfl | rfl <;> simp [hf]
theorem zX4 (hw : wOk w) (n : Int) : inI w n ↔ -hf w <= n/\n < hf w := by
 unfold inI leF grF
 rw [if_pos hw,if_pos hw]
 omega
variable {a b : Int}
end
inductive Ins where
 | mk (op a b : Int) (body els : List Ins)
instance : Inhabited Ins := ⟨.mk 0 0 0 [] []⟩
def Ins.op : Ins->Int | .mk o _ _ _ _ => o
def Ins.a : Ins->Int | .mk _ a _ _ _ => a
def Ins.b : Ins->Int | .mk _ _ b _ _ => b
def Ins.body : Ins->List Ins | .mk _ _ _ l _ => l
def Ins.els : Ins->List Ins | .mk _ _ _ _ l => l
mutual
def zAq : Ins->List AV
 | .mk o a b l m => [int o,int a,int b,.sl 5 (zBy l),.sl 5 (zBy m)]
def zBy : List Ins->List (List AV)
 | [] => []
 | x :: l => zAq x :: zBy l
end
theorem zAh : ∀ l : List Ins,zBy l = l.map zAq
 | [] => rfl
 | x :: l => by simp [zBy,zAh l]
theorem zHD (x : Ins) : zAq x = [int x.op,int x.a,int x.b,.sl 5 (x.body.map zAq),.sl 5 (x.els.map zAq)] := by
 cases x; simp [zAq,zAh,Ins.op,Ins.a,Ins.b,Ins.body,Ins.els]
mutual
def zBo : Ins->Nat
 | .mk _ _ _ l m => zQ l + zQ m + 1
def zQ : List Ins->Nat
 | [] => 0
 | x :: l => zBo x + zQ l
end
mutual
def zCV : Ins->Nat
 | .mk _ _ _ l m => max (zAK l) (zAK m) + 1
def zAK : List Ins->Nat
 | [] => 0
 | x :: l => max (zCV x) (zAK l)
end
theorem zDM (x : Ins) : zBo x = zQ x.body + zQ x.els + 1 := by cases x; rfl
theorem zNG (x : Ins) : zCV x = max (zAK x.body) (zAK x.els) + 1 := by cases x; rfl
theorem zHE (x : Ins) : 0 < zBo x := by rw [zDM]; omega
theorem zDL : ∀ a b : List Ins,zQ (a ++ b) = zQ a + zQ b
 | [],b => by simp [zQ]
 | x :: a,b => by simp only [zYB,zQ,zDL a b]; omega
theorem zDK : ∀ a b : List Ins,zAK (a ++ b) = max (zAK a) (zAK b)
 | [],b => by simp [zAK]
 | x :: a,b => by simp only [zYB,zAK,zDK a b]; omega
theorem zC5 {x : Ins} : ∀ {l : List Ins},x ∈ l->zBo x <= zQ l
 | y :: l,h => by
  simp only [zQ]
  rcases zY5.1 h with rfl | h
  ·omega
  ·have := zC5 h; omega
theorem zN : ∀ l : List Ins,l.length <= zQ l
 | [] => by simp
 | x :: l => by have := zN l; have := zHE x; simp only [zQ,zYs]; omega
mutual
theorem zSf : ∀ x : Ins,zCV x <= zBo x
 | .mk _ _ _ l m => by simp only [zCV,zBo]; have := zAe l; have := zAe m; omega
theorem zAe : ∀ l : List Ins,zAK l <= zQ l
 | [] => zYH _
 | x :: l => by simp only [zAK,zQ]; have := zSf x; have := zAe l; omega
end
theorem zAm {l : List Ins} {j : Nat} (h : j < l.length) : zQ (l.take (j + 1)) = zQ (l.take j) + zBo (l.getD j default) := by
 rw [zA0 h,zDL]; simp [zQ]
theorem zAF {l : List Ins} {j : Nat} (h : j < l.length) : zAK (l.take (j + 1)) = max (zAK (l.take j)) (zCV (l.getD j default)) := by
 rw [zA0 h,zDK]; simp [zAK]
theorem zAs (l : List Ins) (j : Nat) : zQ (l.take j) <= zQ l := by
 have h := zDL (l.take j) (l.drop j)
 rw [zZv] at h
 omega
theorem Ins.ind {p : Ins->Prop} (h : ∀ x,(∀ y ∈ x.body,p y)->(∀ y ∈ x.els,p y)->p x) (x : Ins) : p x := by
 have aux : ∀ (c : Nat) (x : Ins),zBo x <= c->p x := by
  intro c
  induction c with
  | zero => intro x hx; have := zHE x; omega
  | succ c ih =>
   intro x hx
   rw [zDM] at hx
   exact h x (fun y hy => ih y (by have := zC5 hy; omega)) (fun y hy => ih y (by have := zC5 hy; omega))
 exact aux _ x (zYH _)
theorem Ins.indL {p : List Ins->Prop} (h : ∀ l,(∀ x ∈ l,p x.body/\p x.els)->p l) (l : List Ins) : p l := by
 have aux : ∀ (c : Nat) (l : List Ins),zQ l <= c->p l := by
  intro c
  induction c with
  | zero =>
   intro l hl
   refine h l fun x hx => ?_
   have := zC5 hx; have := zHE x; omega
  | succ c ih =>
   intro l hl
   refine h l fun x hx => ?_
   have h1 := zC5 hx
   rw [zDM] at h1
   exact ⟨ih _ (by omega),ih _ (by omega)⟩
 exact aux _ l (zYH _)
structure Pr where
 name : List UInt8
 par : Int
 slots : Int
 res : Int
 outs : List Int
 body : List Ins
instance : Inhabited Pr := ⟨⟨[],0,0,0,[],[]⟩⟩
def prR (q : Pr) : List AV := [str q.name,int q.par,int q.slots,int q.res,.sl 1 (q.outs.map iR),.sl 5 (q.body.map zAq)]
abbrev zAU (ps : List Pr) : AV := .sl 6 (ps.map prR)
def zA7 : List Pr->Nat
 | [] => 0
 | q :: l => zQ q.body + zA7 l
theorem zDF : ∀ a b : List Pr,zA7 (a ++ b) = zA7 a + zA7 b
 | [],b => by simp [zA7]
 | x :: a,b => by simp only [zYB,zA7,zDF a b]; omega
theorem zD3 {l : List Pr} {j : Nat} (h : j < l.length) : zA7 (l.take (j + 1)) = zA7 (l.take j) + zQ (l.getD j default).body := by
 rw [zA0 h,zDF]; simp [zA7]
theorem zGI (l : List Pr) (j : Nat) : zA7 (l.take j) <= zA7 l := by
 have h := zDF (l.take j) (l.drop j)
 rw [zZv] at h
 omega
structure Pr.Sml (q : Pr) : Prop where
 nm : q.name.length <= 1048576
 os : q.outs.length <= 1048576
 bd : zQ q.body <= 1048576
structure zDY (ps : List Pr) : Prop where
 len : ps.length <= 1048576
 cnt : zA7 ps <= 1048576
 each : ∀ q ∈ ps,q.Sml
inductive Ins.Ok : Ins->Prop
 | mk {x : Ins} : zNI x.op->zNI x.a->zNI x.b->(∀ y ∈ x.body,Ins.Ok y)->(∀ y ∈ x.els,Ins.Ok y)->x.Ok
structure Pr.Ok (q : Pr) : Prop where
 par : zNI q.par
 slots : zNI q.slots
 res : zNI q.res
 outs : ∀ n ∈ q.outs,zNI n
 body : ∀ x ∈ q.body,x.Ok
def L16 : LFn := ⟨32,[(.tmp 2)],(sO [oX 2 (.mv (kB false))] (.seq (sO [oM 5 0,oX 6 (.len .str (.t 5)),oV 7 .lss 6 1,oM 8 7,oW 9 8 0,oF 10 8 (.len .str (.t 9)),oF 11 8 (bI .gtr (.t 10) (kI 16)),oP 12 8 (kB true) (.t 11),oM 13 12,oW 14 13 0,oF 15 13 (.idx (.t 14) (kI 0)),oF 16 13 (y1 47 15),oF 17 13 (.not (.t 16)),oP 18 13 (kB true) (.t 17),oM 19 18,oW 20 19 0,oF 21 19 (y1 48 20),oP 22 19 (kB true) (.t 21)] (cD 22 (sO [oX 2 (.mv (kB false))] .ret) .skip)) (sO [oM 24 0,oX 25 (cF 49 [(.t 24),(kI 0)]),oM 23 25,oE 26 23 0,oE 27 23 1,oM 3 26,oM 4 27] (sO [oM 28 4,oM 29 0,oX 30 (.len .str (.t 29)),oB 31 .eql 28 30,oM 2 31] .ret))))⟩
theorem L16_ok : zAi Tryz.prog Tryz.f16 [] = some L16 := by kernel_rfl
def L43 : LFn := ⟨25,[(.tmp 2)],(sO [oX 2 (.mv (kB false))] (.seq (sO [oM 3 0,oX 4 (.bin .str .eql (.t 3) (.c (.v (.string (mkS []))))),oM 5 4,oW 6 5 0,oF 7 5 (.len .str (.t 6)),oF 8 5 (bI .gtr (.t 7) (kI 16)),oP 9 5 (kB true) (.t 8),oM 10 9,oW 11 10 0,oF 12 10 (.idx (.t 11) (kI 0)),oF 13 10 (y1 67 12),oF 14 10 (.not (.t 13)),oP 15 10 (kB true) (.t 14),oM 16 15,oW 17 16 0,oF 18 16 (y1 68 17),oP 19 16 (kB true) (.t 18)] (cD 19 (sO [oX 2 (.mv (kB false))] .ret) .skip)) (sO [oM 20 0,oX 21 (cF 69 [(.t 20),(kI 0),(.c (.fn (.func 70) [] []))]),oM 22 0,oX 23 (.len .str (.t 22)),oB 24 .eql 21 23,oM 2 24] .ret)))⟩
theorem L43_ok : zAi Tryz.prog Tryz.f43 [] = some L43 := by kernel_rfl
def L47 : LFn := ⟨9,[(.tmp 2)],(sO [oX 2 (.mv (kB false))] (sO [oM 3 0,oX 4 (bI .geq (.t 3) (.c (.v (.int .u8 97)))),oM 5 4,oU 6 5 0,oT 7 5 (bI .leq (.t 6) (.c (.v (.int .u8 122)))),oP 8 5 (.t 7) (kB false),oM 2 8] .ret))⟩
theorem L47_ok : zAi Tryz.prog Tryz.f47 [] = some L47 := by kernel_rfl
def L48 : LFn := ⟨6,[(.tmp 2)],(sO [oX 2 (.mv (kB false))] (sO [oX 3 (.bsl true 1 18 [(.v (.string (mkS [])))] [(0,(.c (.v (.string (mkS [114,101,99,111,114,100]))))),(1,(.c (.v (.string (mkS [112,114,111,99]))))),(2,(.c (.v (.string (mkS [118,97,114]))))),(3,(.c (.v (.string (mkS [105,102]))))),(4,(.c (.v (.string (mkS [101,108,115,101]))))),(5,(.c (.v (.string (mkS [119,104,105,108,101]))))),(6,(.c (.v (.string (mkS [102,111,114]))))),(7,(.c (.v (.string (mkS [116,111]))))),(8,(.c (.v (.string (mkS [114,101,116,117,114,110]))))),(9,(.c (.v (.string (mkS [97,115,115,101,114,116]))))),(10,(.c (.v (.string (mkS [97,110,100]))))),(11,(.c (.v (.string (mkS [111,114]))))),(12,(.c (.v (.string (mkS [110,111,116]))))),(13,(.c (.v (.string (mkS [116,114,117,101]))))),(14,(.c (.v (.string (mkS [102,97,108,115,101]))))),(15,(.c (.v (.string (mkS [105,110,116]))))),(16,(.c (.v (.string (mkS [98,111,111,108]))))),(17,(.c (.v (.string (mkS [108,101,110])))))]),oM 4 0,oX 5 (y2 76 3 4),oM 2 5] .ret))⟩
theorem L48_ok : zAi Tryz.prog Tryz.f48 [⟨1,0,.imm⟩] = some L48 := by kernel_rfl
def L49 : LFn := ⟨98,[(.tmp 4),(.tmp 5)],(sO [oC 4 0,oC 5 0] (sO [oM 7 1,oM 6 7] (.seq (.block 0 (sO [oM 9 0,oM 10 1,oX 11 (.idx (.t 9) (.t 10)),oX 12 (y1 47 11),oM 8 12] (cD 8 (.seq (.block 1 (.loop (.seq (sO [oM 13 6,oM 14 0,oX 15 (.len .str (.t 14)),oB 16 .lss 13 15,oM 17 16,oU 18 17 0,oU 19 17 6,oT 20 17 (.idx (.t 18) (.t 19)),oT 21 17 (y1 47 20),oU 22 17 21,oW 23 22 0,oW 24 22 6,oF 25 22 (.idx (.t 23) (.t 24)),oF 26 22 (y1 77 25),oT 27 17 (.pick (.t 22) (kB true) (.t 26)),oU 28 17 27,oW 29 28 0,oW 30 28 6,oF 31 28 (.idx (.t 29) (.t 30)),oF 32 28 (bI .eql (.t 31) (.c (.v (.int .u8 95)))),oT 33 17 (.pick (.t 28) (kB true) (.t 32)),oP 34 17 (.t 33) (kB false)] (cD 34 .skip (.exit 1))) (.block 2 (.ops [oM 35 6,oV 36 .add 35 1,oM 6 36]))))) (.seq (sO [oM 37 0,oM 38 1,oM 39 6,oX 40 (.slice .str 1 (.t 37) (some (.t 38)) (some (.t 39))),oX 41 (y1 48 40)] (cD 41 (sO [oM 42 6,oC 4 1,oM 5 42] .ret) .skip)) (sO [oM 43 6,oC 4 0,oM 5 43] .ret))) (sO [oM 45 0,oM 46 1,oX 47 (.idx (.t 45) (.t 46)),oX 48 (y1 77 47),oM 44 48] (cD 44 (.seq (.block 3 (.loop (.seq (sO [oM 49 6,oM 50 0,oX 51 (.len .str (.t 50)),oB 52 .lss 49 51,oM 53 52,oU 54 53 0,oU 55 53 6,oT 56 53 (.idx (.t 54) (.t 55)),oT 57 53 (y1 77 56),oP 58 53 (.t 57) (kB false)] (cD 58 .skip (.exit 3))) (.block 4 (.ops [oM 59 6,oV 60 .add 59 1,oM 6 60]))))) (sO [oM 61 6,oC 4 2,oM 5 61] .ret)) (sO [oM 63 0,oM 64 1,oX 65 (y2 78 63 64),oV 66 .gtr 65 0,oM 62 66] (cD 62 (sO [oM 67 1,oM 68 0,oM 69 1,oX 70 (y2 78 68 69),oB 71 .add 67 70,oC 4 3,oM 5 71] .ret) .skip))))))) (.seq (.block 5 (.loop (.seq (sO [oM 72 6,oM 73 0,oX 74 (.len .str (.t 73)),oB 75 .lss 72 74,oM 76 75,oU 77 76 0,oU 78 76 6,oT 79 76 (.idx (.t 77) (.t 78)),oT 80 76 (y1 79 79),oT 81 76 (.not (.t 80)),oP 82 76 (.t 81) (kB false),oM 83 82,oU 84 83 0,oU 85 83 6,oT 86 83 (.idx (.t 84) (.t 85)),oT 87 83 (bI .neq (.t 86) (.c (.v (.int .u8 35)))),oP 88 83 (.t 87) (kB false),oM 89 88,oU 90 89 0,oU 91 89 6,oT 92 89 (y2 80 90 91),oT 93 89 (.not (.t 92)),oP 94 89 (.t 93) (kB false)] (cD 94 .skip (.exit 5))) (.block 6 (.ops [oM 95 6,oV 96 .add 95 1,oM 6 96]))))) (sO [oM 97 6,oC 4 4,oM 5 97] .ret)))))⟩
theorem L49_ok : zAi Tryz.prog Tryz.f49 [] = some L49 := by kernel_rfl
def L57 : LFn := ⟨36,[(.tmp 2),(.tmp 3)],(sO [oC 2 0,oX 3 (.mv (kB false))] (.seq (sO [oM 7 0,oX 8 (.bin .str .eql (.t 7) (.c (.v (.string (mkS []))))),oM 9 8,oW 10 9 0,oF 11 9 (.len .str (.t 10)),oF 12 9 (bI .gtr (.t 11) (kI 9)),oP 13 9 (kB true) (.t 12),oM 14 13,oW 15 14 0,oF 16 14 (cF 69 [(.t 15),(kI 0),(.c (.fn (.func 71) [] []))]),oW 17 14 0,oF 18 14 (.len .str (.t 17)),oF 19 14 (bI .lss (.t 16) (.t 18)),oP 20 14 (kB true) (.t 19)] (cD 20 (sO [oC 2 0,oX 3 (.mv (kB false))] .ret) .skip)) (sO [oC 4 0] (.seq (sO [oM 21 0,oX 22 (.conv .strBytes (.t 21)),oX 23 (.len .slc (.t 22)),oC 24 0] (.block 0 (.loop (sO [oB 25 .lss 24 23] (.seq (cD 25 .skip (.exit 0)) (.seq (.block 1 (sO [oI 26 1 22 24,oL 27 26,oM 6 27] (.ops [oM 28 4,oX 29 (bI .mul (kI 10) (.t 28)),oM 30 6,oX 31 (bI .sub (.t 30) (.c (.v (.int .u8 48)))),oX 32 (.conv (.toInt .i64) (.t 31)),oB 33 .add 29 32,oM 4 33]))) (.ops [oV 34 .add 24 1,oM 24 34]))))))) (sO [oM 35 4,oM 2 35,oX 3 (.mv (kB true))] .ret)))))⟩
theorem L57_ok : zAi Tryz.prog Tryz.f57 [] = some L57 := by kernel_rfl
def L67 : LFn := ⟨9,[(.tmp 2)],(sO [oX 2 (.mv (kB false))] (sO [oM 3 0,oX 4 (bI .geq (.t 3) (.c (.v (.int .u8 97)))),oM 5 4,oU 6 5 0,oT 7 5 (bI .leq (.t 6) (.c (.v (.int .u8 122)))),oP 8 5 (.t 7) (kB false),oM 2 8] .ret))⟩
theorem L67_ok : zAi Tryz.prog Tryz.f67 [] = some L67 := by kernel_rfl
def L68 : LFn := ⟨6,[(.tmp 2)],(sO [oX 2 (.mv (kB false))] (sO [oX 3 (y0 121),oM 4 0,oX 5 (.look .str (.v (.bool false)) false (.t 3) (.t 4)),oM 2 5] .ret))⟩
theorem L68_ok : zAi Tryz.prog Tryz.f68 [] = some L68 := by kernel_rfl
def L69 : LFn := ⟨21,[(.tmp 6)],(sO [oC 6 0] (.seq (.block 0 (.loop (.seq (sO [oM 7 1,oM 8 0,oX 9 (.len .str (.t 8)),oB 10 .lss 7 9,oM 11 10,oU 12 11 2,oU 13 11 0,oU 14 11 1,oT 15 11 (.idx (.t 13) (.t 14)),oT 16 11 (.call (.t 12) [(.t 15)]),oP 17 11 (.t 16) (kB false)] (cD 17 .skip (.exit 0))) (.block 1 (.ops [oM 18 1,oV 19 .add 18 1,oM 1 19]))))) (sO [oM 20 1,oM 6 20] .ret)))⟩
theorem L69_ok : zAi Tryz.prog Tryz.f69 [] = some L69 := by kernel_rfl
def L70 : LFn := ⟨13,[(.tmp 2)],(sO [oX 2 (.mv (kB false))] (sO [oM 3 0,oX 4 (y1 67 3),oM 5 4,oW 6 5 0,oF 7 5 (y1 71 6),oP 8 5 (kB true) (.t 7),oM 9 8,oW 10 9 0,oF 11 9 (bI .eql (.t 10) (.c (.v (.int .u8 95)))),oP 12 9 (kB true) (.t 11),oM 2 12] .ret))⟩
theorem L70_ok : zAi Tryz.prog Tryz.f70 [] = some L70 := by kernel_rfl
def L71 : LFn := ⟨9,[(.tmp 2)],(sO [oX 2 (.mv (kB false))] (sO [oM 3 0,oX 4 (bI .geq (.t 3) (.c (.v (.int .u8 48)))),oM 5 4,oU 6 5 0,oT 7 5 (bI .leq (.t 6) (.c (.v (.int .u8 57)))),oP 8 5 (.t 7) (kB false),oM 2 8] .ret))⟩
theorem L71_ok : zAi Tryz.prog Tryz.f71 [] = some L71 := by kernel_rfl
def L76 : LFn := ⟨18,[(.tmp 4)],(sO [oX 4 (.mv (kB false))] (.seq (sO [oC 5 0] (.block 0 (.loop (.seq (sO [oM 6 5,oM 7 0,oX 8 (.len .slc (.t 7)),oB 9 .lss 6 8] (cD 9 .skip (.exit 0))) (.seq (.block 1 (sO [oM 12 0,oM 13 5,oI 14 1 12 13,oL 15 14,oM 16 1,oX 17 (.bin .str .eql (.t 15) (.t 16))] (cD 17 (sO [oX 4 (.mv (kB true))] .ret) .skip))) (.ops [oM 10 5,oV 11 .add 10 1,oM 5 11])))))) (sO [oX 4 (.mv (kB false))] .ret)))⟩
theorem L76_ok : zAi Tryz.prog Tryz.f76 [] = some L76 := by kernel_rfl
def L77 : LFn := ⟨9,[(.tmp 2)],(sO [oX 2 (.mv (kB false))] (sO [oM 3 0,oX 4 (bI .geq (.t 3) (.c (.v (.int .u8 48)))),oM 5 4,oU 6 5 0,oT 7 5 (bI .leq (.t 6) (.c (.v (.int .u8 57)))),oP 8 5 (.t 7) (kB false),oM 2 8] .ret))⟩
theorem L77_ok : zAi Tryz.prog Tryz.f77 [] = some L77 := by kernel_rfl
def L78 : LFn := ⟨26,[(.tmp 4)],(sO [oC 4 0] (.seq (sO [oM 5 1,oV 6 .add 5 2,oM 7 0,oX 8 (.len .str (.t 7)),oB 9 .leq 6 8,oM 10 9,oT 11 10 (.bsl true 1 4 [(.v (.string (mkS [])))] [(0,(.c (.v (.string (mkS [61,61]))))),(1,(.c (.v (.string (mkS [33,61]))))),(2,(.c (.v (.string (mkS [60,61]))))),(3,(.c (.v (.string (mkS [62,61])))))]),oU 12 10 0,oU 13 10 1,oU 14 10 1,oT 15 10 (bI .add (.t 14) (kI 2)),oT 16 10 (.slice .str 1 (.t 12) (some (.t 13)) (some (.t 15))),oT 17 10 (y2 76 11 16),oP 18 10 (.t 17) (kB false)] (cD 18 (sO [oC 4 2] .ret) .skip)) (.seq (sO [oX 19 (.bsl true 1 18 [(.v (.string (mkS [])))] [(0,(.c (.v (.string (mkS [60]))))),(1,(.c (.v (.string (mkS [62]))))),(2,(.c (.v (.string (mkS [61]))))),(3,(.c (.v (.string (mkS [43]))))),(4,(.c (.v (.string (mkS [45]))))),(5,(.c (.v (.string (mkS [42]))))),(6,(.c (.v (.string (mkS [47]))))),(7,(.c (.v (.string (mkS [37]))))),(8,(.c (.v (.string (mkS [40]))))),(9,(.c (.v (.string (mkS [41]))))),(10,(.c (.v (.string (mkS [123]))))),(11,(.c (.v (.string (mkS [125]))))),(12,(.c (.v (.string (mkS [91]))))),(13,(.c (.v (.string (mkS [93]))))),(14,(.c (.v (.string (mkS [44]))))),(15,(.c (.v (.string (mkS [59]))))),(16,(.c (.v (.string (mkS [58]))))),(17,(.c (.v (.string (mkS [46])))))]),oM 20 0,oM 21 1,oM 22 1,oV 23 .add 22 1,oX 24 (.slice .str 1 (.t 20) (some (.t 21)) (some (.t 23))),oX 25 (y2 76 19 24)] (cD 25 (sO [oC 4 1] .ret) .skip)) (sO [oC 4 0] .ret))))⟩
theorem L78_ok : zAi Tryz.prog Tryz.f78 [⟨1,6,.imm⟩,⟨3,0,.imm⟩] = some L78 := by kernel_rfl
def L79 : LFn := ⟨17,[(.tmp 2)],(sO [oX 2 (.mv (kB false))] (sO [oM 3 0,oX 4 (bI .eql (.t 3) (.c (.v (.int .u8 9)))),oM 5 4,oW 6 5 0,oF 7 5 (bI .eql (.t 6) (.c (.v (.int .u8 10)))),oP 8 5 (kB true) (.t 7),oM 9 8,oW 10 9 0,oF 11 9 (bI .eql (.t 10) (.c (.v (.int .u8 13)))),oP 12 9 (kB true) (.t 11),oM 13 12,oW 14 13 0,oF 15 13 (bI .eql (.t 14) (.c (.v (.int .u8 32)))),oP 16 13 (kB true) (.t 15),oM 2 16] .ret))⟩
theorem L79_ok : zAi Tryz.prog Tryz.f79 [] = some L79 := by kernel_rfl
def L80 : LFn := ⟨21,[(.tmp 4)],(sO [oX 4 (.mv (kB false))] (sO [oM 5 0,oM 6 1,oX 7 (.idx (.t 5) (.t 6)),oX 8 (y1 47 7),oM 9 8,oW 10 9 0,oW 11 9 1,oF 12 9 (.idx (.t 10) (.t 11)),oF 13 9 (y1 77 12),oP 14 9 (kB true) (.t 13),oM 15 14,oW 16 15 0,oW 17 15 1,oF 18 15 (y2 78 16 17),oF 19 15 (bI .gtr (.t 18) (kI 0)),oP 20 15 (kB true) (.t 19),oM 4 20] .ret))⟩
theorem L80_ok : zAi Tryz.prog Tryz.f80 [] = some L80 := by kernel_rfl
def L114 : LFn := ⟨34,[(.tmp 2),(.tmp 3)],(sO [oC 2 0,oX 3 (.mv (kB false))] (.seq (sO [oM 6 0,oX 7 (.len .str (.t 6)),oV 8 .lss 7 1,oM 9 8,oW 10 9 0,oF 11 9 (.len .str (.t 10)),oF 12 9 (bI .gtr (.t 11) (kI 9)),oP 13 9 (kB true) (.t 12)] (cD 13 (sO [oC 2 0,oX 3 (.mv (kB false))] .ret) .skip)) (sO [oC 4 0] (.seq (sO [oC 5 0] (.block 0 (.loop (.seq (sO [oM 14 5,oM 15 0,oX 16 (.len .str (.t 15)),oB 17 .lss 14 16] (cD 17 .skip (.exit 0))) (.seq (.block 1 (.seq (sO [oM 20 0,oM 21 5,oX 22 (.idx (.t 20) (.t 21)),oX 23 (y1 77 22),oX 24 (.not (.t 23))] (cD 24 (sO [oC 2 0,oX 3 (.mv (kB false))] .ret) .skip)) (.ops [oM 25 4,oX 26 (bI .mul (kI 10) (.t 25)),oM 27 0,oM 28 5,oX 29 (.idx (.t 27) (.t 28)),oX 30 (bI .sub (.t 29) (.c (.v (.int .u8 48)))),oX 31 (.conv (.toInt .i64) (.t 30)),oB 32 .add 26 31,oM 4 32]))) (.ops [oM 18 5,oV 19 .add 18 1,oM 5 19])))))) (sO [oM 33 4,oM 2 33,oX 3 (.mv (kB true))] .ret)))))⟩
theorem L114_ok : zAi Tryz.prog Tryz.f114 [] = some L114 := by kernel_rfl
def L121 : LFn := ⟨3,[(.tmp 0)],(sO [oX 0 (.mv (.c (.v (.map none))))] (sO [⟨(some 1),none,.mkmap⟩,oN (.ins .str (.t 1) (.c (.v (.string (mkS [114,101,99,111,114,100])))) (kB true)),oN (.ins .str (.t 1) (.c (.v (.string (mkS [112,114,111,99])))) (kB true)),oN (.ins .str (.t 1) (.c (.v (.string (mkS [118,97,114])))) (kB true)),oN (.ins .str (.t 1) (.c (.v (.string (mkS [105,102])))) (kB true)),oN (.ins .str (.t 1) (.c (.v (.string (mkS [101,108,115,101])))) (kB true)),oN (.ins .str (.t 1) (.c (.v (.string (mkS [119,104,105,108,101])))) (kB true)),oN (.ins .str (.t 1) (.c (.v (.string (mkS [102,111,114])))) (kB true)),oN (.ins .str (.t 1) (.c (.v (.string (mkS [116,111])))) (kB true)),oN (.ins .str (.t 1) (.c (.v (.string (mkS [114,101,116,117,114,110])))) (kB true)),oN (.ins .str (.t 1) (.c (.v (.string (mkS [97,115,115,101,114,116])))) (kB true)),oN (.ins .str (.t 1) (.c (.v (.string (mkS [97,110,100])))) (kB true)),oN (.ins .str (.t 1) (.c (.v (.string (mkS [111,114])))) (kB true)),oN (.ins .str (.t 1) (.c (.v (.string (mkS [110,111,116])))) (kB true)),oN (.ins .str (.t 1) (.c (.v (.string (mkS [116,114,117,101])))) (kB true)),oN (.ins .str (.t 1) (.c (.v (.string (mkS [102,97,108,115,101])))) (kB true)),oN (.ins .str (.t 1) (.c (.v (.string (mkS [105,110,116])))) (kB true)),oN (.ins .str (.t 1) (.c (.v (.string (mkS [98,111,111,108])))) (kB true)),oN (.ins .str (.t 1) (.c (.v (.string (mkS [108,101,110])))) (kB true)),oM 2 1,oM 0 2,oX 0 (.frz (.t 0))] .ret))⟩
theorem L121_ok : zAi Tryz.prog Tryz.f121 [⟨1,21,(.pre 0 (.frz (.t 0)))⟩] = some L121 := by kernel_rfl
abbrev by8 (c : UInt8) : AV := u8 c.toNat
def isL (c : UInt8) : Bool := decide (97 <= c.toNat) && decide (c.toNat <= 122)
def isD (c : UInt8) : Bool := decide (48 <= c.toNat) && decide (c.toNat <= 57)
def isW (c : UInt8) : Bool := decide (c.toNat = 9) || decide (c.toNat = 10) || decide (c.toNat = 13) || decide (c.toNat = 32)
def isN (c : UInt8) : Bool := isL c || isD c || decide (c.toNat = 95)
abbrev zHT (k : FuncId) (args : List AV) (H : zB) (x : AV) : Prop := ACall Tryz.prog k args H fun y H' => y = x/\H' = H
theorem zQF (c : UInt8) (H : zB) : zHT 67 [by8 c] H (bool (isL c)) := by
 refine enter Tryz.func67 L67_ok (zYu rfl) ?_
 repeat' (first | simp -implicitDefEqProofs (disch := omega) only [L67,push_cast,simprocAttr,↓reduceIte] | split)
 all_goals (refine zAN ?_; simp [isL] <;> omega)
theorem zF4 (c : UInt8) (H : zB) : zHT 47 [by8 c] H (bool (isL c)) := by
 refine enter Tryz.func47 L47_ok (zYu rfl) ?_
 repeat' (first | simp -implicitDefEqProofs (disch := omega) only [L47,push_cast,simprocAttr,↓reduceIte] | split)
 all_goals (refine zAN ?_; simp [isL] <;> omega)
theorem zVm (c : UInt8) (H : zB) : zHT 71 [by8 c] H (bool (isD c)) := by
 refine enter Tryz.func71 L71_ok (zYu rfl) ?_
 repeat' (first | simp -implicitDefEqProofs (disch := omega) only [L71,push_cast,simprocAttr,↓reduceIte] | split)
 all_goals (refine zAN ?_; simp [isD] <;> omega)
theorem zG2 (c : UInt8) (H : zB) : zHT 77 [by8 c] H (bool (isD c)) := by
 refine enter Tryz.func77 L77_ok (zYu rfl) ?_
 repeat' (first | simp -implicitDefEqProofs (disch := omega) only [L77,push_cast,simprocAttr,↓reduceIte] | split)
 all_goals (refine zAN ?_; simp [isD] <;> omega)
theorem zVB (c : UInt8) (H : zB) : zHT 79 [by8 c] H (bool (isW c)) := by
 refine enter Tryz.func79 L79_ok (zYu rfl) ?_
 repeat' (first | simp -implicitDefEqProofs (disch := omega) only [L79,push_cast,simprocAttr,↓reduceIte] | split)
 all_goals (refine zAN ?_; simp [isW] <;> omega)
theorem zXV (c : UInt8) (H : zB) : zHT 70 [by8 c] H (bool (isN c)) := by
 refine enter Tryz.func70 L70_ok (zYu rfl) ?_
 repeat' (first | refine zA (zQF _ _) ?_ | refine zA (zVm _ _) ?_ | simp -implicitDefEqProofs (disch := omega) only [L70,push_cast,simprocAttr,↓reduceIte] | split)
 all_goals (refine zAN ?_; simp_all [isN] <;> omega)
def zDD (p : UInt8->Bool) (l : List UInt8) (i : Nat) : Nat := i + ((l.drop i).takeWhile p).length
theorem zFQ {p : UInt8->Bool} {l : List UInt8} {i : Nat} (h : i < l.length) (hp : p (l.getD i 0) = true) : zDD p l (i + 1) = zDD p l i := by
 simp only [zDD]
 rw [zY4 h,zzas]
 simp [List.getD,h] at hp
 simp [hp]; omega
theorem zEz {p : UInt8->Bool} {l : List UInt8} {i : Nat} (h : i < l.length->p (l.getD i 0) = false) : zDD p l i = i := by
 simp only [zDD]
 by_cases hi : i < l.length
 ·have := h hi
  rw [zY4 hi,zzas]
  simp [List.getD,hi] at this
  simp [this]
 ·simp [zZ5 (zzay hi)]
theorem zRA {p : UInt8->Bool} {l : List UInt8} {i : Nat} (h : i <= l.length) : zDD p l i <= l.length := by
 simp only [zDD]
 have := (List.takeWhile_sublist p (l := l.drop i)).length_le
 simp at this
 omega
theorem run (l : List UInt8) (i : Nat) (p : UInt8->Bool) (f : FuncId) (H : zB) (hl : (l.length : Int) < 9223372036854775807) (hi : i <= l.length)
  (hp : ∀ c : UInt8,zHT f [by8 c] H (bool (p c))) :
  zHT 69 [str l,int i,.fn (.func f) [] []] H (int (zDD p l i)) := by
 refine enter Tryz.func69 L69_ok (zYu rfl) ?_
 simp -implicitDefEqProofs (disch := omega) only [L69,push_cast,simprocAttr,↓reduceIte,zYp]
 refine zJf (fun e' H' => ∃ j : Nat,e' 0 = str l/\e' 1 = int j/\e' 2 = .fn (.func f) [] []/\H' = H/\j <= l.length/\zDD p l j = zDD p l i) (fun e' _ => match e' 1 with | .v (.int _ n) => l.length - n.toNat | _ => 0) ⟨i,by simp -implicitDefEqProofs (disch := omega) only [push_cast,simprocAttr,↓reduceIte,zYp],by simp -implicitDefEqProofs (disch := omega) only [push_cast,simprocAttr,↓reduceIte,zYp],by simp -implicitDefEqProofs (disch := omega) only [push_cast,simprocAttr,↓reduceIte,zYp],rfl,hi,rfl⟩ ?_
 rintro e' H' ⟨j,h0,h1,h2,rfl,hj,hr⟩
 repeat' (first | refine zYt (by omega) ?_ | refine zA (hp _) ?_ | simp -implicitDefEqProofs (disch := omega) only [h0,h1,h2,push_cast,simprocAttr,↓reduceIte] | split)
 ·exact ⟨⟨j + 1,by simp,by omega,by rw [zFQ (by omega) ‹_›]; exact hr⟩,by omega⟩
 ·rename_i h3
  rw [<- hr,zEz fun _ => zZz.2 h3]
 ·rw [<- hr,zEz fun _ => by omega]
def zSU (ls : List (List UInt8)) : List (List AV) := ls.map fun s => [str s]
theorem zMg {ls : List (List UInt8)} {j : Nat} (h : j < ls.length) : (zSU ls).getD j [] = [str (ls.getD j [])] := by
 simp [zSU,zYI,h]
theorem zOY (ls : List (List UInt8)) : (zSU ls).length = ls.length := by simp [zSU]
theorem zOW {α : Type} {ls : List α} {s : α} {j : Nat} (hj : j < ls.length) (h : s ∉ ls.take j) (hne : ls[j] ≠ s) : s ∉ ls.take (j + 1) := by
 rw [zzax hj]
 simp only [zY2,zZI,not_or]
 exact ⟨h,fun h => hne h.symm⟩
theorem zWD (ls : List (List UInt8)) (s : List UInt8) (H : zB) (hl : (ls.length : Int) < 9223372036854775807) : zHT 76 [.sl 1 (zSU ls),str s] H (bool (decide (s ∈ ls))) := by
 refine enter Tryz.func76 L76_ok (zYu rfl) ?_
 simp -implicitDefEqProofs (disch := omega) only [L76,push_cast,simprocAttr,↓reduceIte,zYp]
 refine zJf (fun e' H' => ∃ j : Nat,e' 0 = .sl 1 (zSU ls)/\e' 1 = str s/\e' 5 = int j/\H' = H/\j <= ls.length/\s ∉ ls.take j) (fun e' _ => match e' 5 with | .v (.int _ n) => ls.length - n.toNat | _ => 0) ⟨0,by simp -implicitDefEqProofs (disch := omega) only [push_cast,simprocAttr,↓reduceIte,zYp],by simp -implicitDefEqProofs (disch := omega) only [push_cast,simprocAttr,↓reduceIte,zYp],by simp -implicitDefEqProofs (disch := omega) only [Int.natCast_zero,push_cast,simprocAttr,↓reduceIte,zYp],rfl,zYO _,by simp⟩ ?_
 rintro e' H' ⟨j,h0,h1,h2,rfl,hj,hr⟩
 repeat' (first | refine zYt (by omega) ?_ | simp -implicitDefEqProofs (disch := omega) only [h0,h1,h2,zOY,zMg,push_cast,simprocAttr,↓reduceIte] | split)
 ·rename_i h3 h4
  refine zAN ⟨fun _ => zY3 ?_,fun _ => rfl⟩
  rw [<- h4]
  simp [zYI,show j < ls.length by omega]
 ·rename_i h3 h4
  have hlt : j < ls.length := by omega
  refine ⟨⟨j + 1,by simp,by omega,zOW hlt hr ?_⟩,by omega⟩
  simpa [zYI,hlt] using h4
 ·rename_i h3
  rw [zYN (by omega)] at hr
  simp [hr]
def kwL : List (List UInt8) := [[114,101,99,111,114,100],[112,114,111,99],[118,97,114],[105,102],[101,108,115,101],[119,104,105,108,101],[102,111,114],[116,111],[114,101,116,117,114,110],[97,115,115,101,114,116],[97,110,100],[111,114],[110,111,116],[116,114,117,101],[102,97,108,115,101],[105,110,116],[98,111,111,108],[108,101,110]]
def isK (s : List UInt8) : Bool := decide (s ∈ kwL)
theorem zKs (s : List UInt8) (H : zB) : zHT 48 [str s] H (bool (isK s)) := by
 refine enter Tryz.func48 L48_ok (zYu rfl) ?_
 simp -implicitDefEqProofs (disch := omega) only [L48,push_cast,simprocAttr,↓reduceIte,zYp]
 refine zA (zWD kwL s H (by decide)) ?_
 simp -implicitDefEqProofs (disch := omega) only [isK,push_cast,simprocAttr,↓reduceIte,zYp]
theorem zPD (H : zB) : zHT 121 [] H (.mp (kwL.map fun s => .string (mkS s)) (kwL.map fun _ => bool true)) := by
 refine (ACall.drop (R := fun x => x = .mp (kwL.map fun s => .string (mkS s)) (kwL.map fun _ => bool true)) ?_)
 refine enter Tryz.func121 L121_ok (zYu rfl) ?_
 simp -implicitDefEqProofs (disch := omega) only [L121,push_cast,simprocAttr,↓reduceIte,zYp]
 simp [kEq,zQV,kwL]
theorem zIu (s : List UInt8) : ∀ ls : List (List UInt8),zE9 (.string (mkS s)) (ls.map fun s => .string (mkS s)) (ls.map fun _ => bool true) = if s ∈ ls then some (bool true) else none
 | [] => by simp [zE9]
 | x :: l => by
  simp only [zZA,zE9,kEq,zQV,zZ7,zY5]
  by_cases h : s = x
  ·simp [h]
  ·simp [h,zIu s l]
theorem zR5 (s : List UInt8) (H : zB) : zHT 68 [str s] H (bool (isK s)) := by
 refine enter Tryz.func68 L68_ok (zYu rfl) ?_
 simp -implicitDefEqProofs (disch := omega) only [L68,push_cast,simprocAttr,↓reduceIte,zYp]
 refine zA (zPD H) ?_
 simp -implicitDefEqProofs (disch := omega) only [zIu,push_cast,simprocAttr,↓reduceIte,zYp]
 refine ⟨fun k hk => ?_,?_⟩
 ·obtain ⟨x,_,rfl⟩ := zZl.1 hk; rfl
 ·unfold isK
  by_cases h : s ∈ kwL <;> simp [h,lookV]
def symL : List UInt8 := [60,62,61,43,45,42,47,37,40,41,123,125,91,93,44,59,58,46]
def is2 (c : UInt8) : Bool := decide (c.toNat = 61) || decide (c.toNat = 33) || decide (c.toNat = 60) || decide (c.toNat = 62)
def zJb (s : List UInt8) (i : Nat) : Nat :=
 if i + 1 < s.length/\(s.getD (i + 1) 0).toNat = 61/\is2 (s.getD i 0) = true then 2 else if s.getD i 0 ∈ symL then 1 else 0
theorem sub2 {s : List UInt8} {i : Nat} (h : i + 1 < s.length) : ((s.drop i).take 2) = [s.getD i 0,s.getD (i + 1) 0] := by
 rw [zY4 (by omega),zY4 h,zzaf,zzaf,zZ8]
 simp [zYI,h,show i < s.length by omega]
theorem sub1 {s : List UInt8} {i : Nat} (h : i < s.length) : ((s.drop i).take 1) = [s.getD i 0] := by
 rw [zY4 h,zzaf,zZ8]
 simp [zYI,h]
theorem zMf {s : List UInt8} {i : Nat} (h : i + 1 < s.length) : zJb s i = if [s.getD i 0,s.getD (i + 1) 0] ∈ [[61,61],[33,61],[60,61],[(62 : UInt8),61]] then 2 else if s.getD i 0 ∈ symL then 1 else 0 := by
 unfold zJb
 have e : (i + 1 < s.length/\(s.getD (i + 1) 0).toNat = 61/\is2 (s.getD i 0) = true) = ([s.getD i 0,s.getD (i + 1) 0] ∈ [[61,61],[33,61],[60,61],[(62 : UInt8),61]]) := by
  generalize s.getD (i + 1) 0 = b
  generalize s.getD i 0 = a
  simp [is2,h,<- zzav]
  omega
 simp only [e]
theorem zMe (s : List UInt8) (i : Nat) (H : zB) (hl : (s.length : Int) < 9223372036854775806) (hi : i < s.length) : zHT 78 [str s,int i] H (int (zJb s i)) := by
 refine enter Tryz.func78 L78_ok (zYu rfl) ?_
 simp -implicitDefEqProofs (disch := omega) only [L78,push_cast,simprocAttr,↓reduceIte,zYp]
 have hm : ∀ c : UInt8,([c] ∈ symL.map fun c => [c]) ↔ c ∈ symL := fun c => by simp
 split
 ·rename_i h1
  have h1' : i + 1 < s.length := by omega
  refine ⟨by omega,zA (zWD [[61,61],[33,61],[60,61],[62,61]] _ _ (by decide)) ?_⟩
  simp -implicitDefEqProofs (disch := omega) only [push_cast,simprocAttr,↓reduceIte,zYp]
  rw [sub2 h1']
  split
  ·rename_i h2
   rw [zMf h1',if_pos (by simpa using h2)]
   rfl
  ·rename_i h2
   refine ⟨by omega,zA (zWD (symL.map fun c => [c]) _ _ (by decide)) ?_⟩
   simp -implicitDefEqProofs (disch := omega) only [push_cast,simprocAttr,↓reduceIte,zYp]
   have e := zMf h1'
   rw [if_neg (show ¬ _ from by simpa using h2)] at e
   rw [sub1 hi,e]
   simp only [hm]
   split <;> rfl
 ·rename_i h1
  refine ⟨by omega,zA (zWD (symL.map fun c => [c]) _ _ (by decide)) ?_⟩
  simp -implicitDefEqProofs (disch := omega) only [push_cast,simprocAttr,↓reduceIte,zYp]
  unfold zJb
  have e : zJb s i = if s.getD i 0 ∈ symL then 1 else 0 := if_neg (by omega)
  rw [sub1 hi]
  simp only [hm]
  rw [show (if i + 1 < s.length/\(s.getD (i + 1) 0).toNat = 61/\is2 (s.getD i 0) = true then 2 else if s.getD i 0 ∈ symL then 1 else 0) = _ from e]
  split <;> rfl
theorem zLS {rows : List UInt8} {j : Nat} (h : j < rows.length) : (rows.map zBz).getD (0 + j) [] = [by8 (rows.getD j 0)] := by
 simp [zBz,zYI,h]
theorem zRB {p : UInt8->Bool} {l : List UInt8} {i : Nat} : i <= zDD p l i := by simp [zDD]
theorem zSG (s : List UInt8) (i : Nat) (H : zB) (hl : (s.length : Int) < 9223372036854775806) (hi : i < s.length) : zHT 80 [str s,int i] H (bool (isL (s.getD i 0) || isD (s.getD i 0) || decide (0 < zJb s i))) := by
 refine enter Tryz.func80 L80_ok (zYu rfl) ?_
 repeat' (first | refine zYt (by omega) ?_ | refine zA (zF4 _ _) ?_ | refine zA (zG2 _ _) ?_ | refine zA (zMe _ _ _ hl hi) ?_ | simp -implicitDefEqProofs (disch := omega) only [L80,push_cast,simprocAttr,↓reduceIte] | split)
 all_goals (refine zAN ?_; simp_all <;> omega)
def zMi (s : List UInt8) (k : Nat) : Bool := !isW (s.getD k 0) && !decide ((s.getD k 0).toNat = 35) && !isL (s.getD k 0) && !isD (s.getD k 0) && decide (zJb s k = 0)
def zWM (s : List UInt8) : Nat->Nat->Nat
 | 0,k => k
 | n + 1,k => if zMi s k = true then zWM s n (k + 1) else k
def zOg (s : List UInt8) (k : Nat) : Nat := zWM s (s.length - k) k
theorem zIV {s : List UInt8} {k : Nat} (h : k < s.length) (hs : zMi s k = true) : zOg s (k + 1) = zOg s k := by
 unfold zOg
 rw [show s.length - k = (s.length - (k + 1)) + 1 by omega]
 simp [zWM,hs]
theorem zOf {s : List UInt8} {k : Nat} (h : k < s.length->zMi s k = false) : zOg s k = k := by
 unfold zOg
 by_cases hk : k < s.length
 ·rw [show s.length - k = (s.length - (k + 1)) + 1 by omega]
  simp [zWM,h hk]
 ·rw [show s.length - k = 0 by omega]; rfl
def zTN (s : List UInt8) (i : Nat) : Nat × Nat :=
 if isL (s.getD i 0) = true then (if isK ((s.drop i).take (zDD isN s i - i)) = true then 1 else 0,zDD isN s i)
 else if isD (s.getD i 0) = true then (2,zDD isD s i)
 else if 0 < zJb s i then (3,i + zJb s i)
 else (4,zOg s (i + 1))
theorem zRh {s : List UInt8} {i : Nat} (h : i < s.length) : i + zJb s i <= s.length := by
 unfold zJb; split
 ·omega
 ·split <;> omega
abbrev tokV (p : Nat × Nat) : AV := .tup [int p.1,int p.2]
theorem zQe {s : List UInt8} {i : Nat} (h : isL (s.getD i 0) = true) : zTN s i = (if isK ((s.drop i).take (zDD isN s i - i)) = true then 1 else 0,zDD isN s i) := if_pos h
theorem zTM {s : List UInt8} {i : Nat} (h : ¬ isL (s.getD i 0) = true) (h2 : isD (s.getD i 0) = true) : zTN s i = (2,zDD isD s i) := (if_neg h).trans (if_pos h2)
theorem zTL {s : List UInt8} {i : Nat} (h : ¬ isL (s.getD i 0) = true) (h2 : ¬ isD (s.getD i 0) = true) (h3 : 0 < zJb s i) : zTN s i = (3,i + zJb s i) := (if_neg h).trans ((if_neg h2).trans (if_pos h3))
theorem zTK {s : List UInt8} {i : Nat} (h : ¬ isL (s.getD i 0) = true) (h2 : ¬ isD (s.getD i 0) = true) (h3 : ¬ 0 < zJb s i) : zTN s i = (4,zOg s (i + 1)) := (if_neg h).trans ((if_neg h2).trans (if_neg h3))
theorem zFM {s : List UInt8} {k : Nat} : zMi s k = true ↔ isW (s.getD k 0) = false/\¬ (s.getD k 0).toNat = 35/\isL (s.getD k 0) = false/\isD (s.getD k 0) = false/\zJb s k = 0 := by
 simp only [zMi,zYA,zZi,zYY,zYy,and_assoc]
theorem zNA {c : UInt8} : isN c = true ↔ isL c = true\/isD c = true\/c.toNat = 95 := by simp [isN,or_assoc]
theorem zTJ (s : List UInt8) (i : Nat) (H : zB) (hl : (s.length : Int) < 9223372036854775806) (hi : i < s.length) (hw : isL (s.getD i 0) = true\/(isW (s.getD i 0) = false/\¬ (s.getD i 0).toNat = 35)) : zHT 49 [str s,int i] H (tokV (zTN s i)) := by
 refine enter Tryz.func49 L49_ok (zYu rfl) ?_
 have hr : i <= zDD isN s i/\zDD isN s i <= s.length := ⟨zRB,zRA (by omega)⟩
 have hs := zRh hi
 repeat' (first | refine zYt (by omega) ?_ | refine zA (zF4 _ _) ?_ | refine zA (zG2 _ _) ?_ | refine zA (zMe _ _ _ hl hi) ?_ | simp -implicitDefEqProofs (disch := omega) only [L49,push_cast,simprocAttr,↓reduceIte] | split)
 all_goals first
  | (rw [zTL (by assumption) (by assumption) (by omega)]; rfl)
  | skip
 ·refine zW (fun (k : Nat) e' H' => e' 0 = str s/\e' 1 = int i/\e' 6 = int k/\H = H'/\i <= k/\k <= s.length/\zDD isN s k = zDD isN s i) (fun k => s.length - k) i ⟨rfl,rfl,rfl,rfl,by omega,by omega,rfl⟩ ?_
  rintro k e' H' ⟨h0,h1,h2,rfl,hk0,hk,hr2⟩
  repeat' (first | refine zYt (by omega) ?_ | refine zA (zF4 _ _) ?_ | refine zA (zG2 _ _) ?_ | refine zA (zKs _ _) ?_ | simp -implicitDefEqProofs (disch := omega) only [h0,h1,h2,push_cast,simprocAttr,↓reduceIte] | split)
  all_goals first
   | exact .mk (k + 1) ⟨h0,h1,rfl,rfl,by omega,by omega,by rw [zFQ (p := isN) (l := s) (i := k) (by omega) (zNA.2 (by first | exact .inl (by assumption) | exact .inr (.inl (by assumption)) | exact .inr (.inr (by omega))))]; exact hr2⟩ (by omega)
   | skip
  all_goals
   have hk3 : zDD isN s k = k := zEz fun _ => zZz.2 fun hh => by rw [zNA] at hh; first | omega | (rcases hh with hh | hh | hh <;> first | exact absurd hh (by assumption) | omega)
   rw [hr2] at hk3
   rw [zQe (by assumption),hk3]
   first
    | (rw [if_pos (by assumption)]; rfl)
    | (rw [if_neg (by assumption)]; rfl)
 ·refine zW (fun (k : Nat) e' H' => e' 0 = str s/\e' 1 = int i/\e' 6 = int k/\H = H'/\i <= k/\k <= s.length/\zDD isD s k = zDD isD s i) (fun k => s.length - k) i ⟨rfl,rfl,rfl,rfl,by omega,by omega,rfl⟩ ?_
  rintro k e' H' ⟨h0,h1,h2,rfl,hk0,hk,hr2⟩
  repeat' (first | refine zYt (by omega) ?_ | refine zA (zG2 _ _) ?_ | simp -implicitDefEqProofs (disch := omega) only [h0,h2,push_cast,simprocAttr,↓reduceIte] | split)
  all_goals first
   | exact .mk (k + 1) ⟨h0,h1,rfl,rfl,by omega,by omega,by rw [zFQ (p := isD) (l := s) (i := k) (by omega) (by assumption)]; exact hr2⟩ (by omega)
   | skip
  all_goals
   have hk3 : zDD isD s k = k := zEz fun _ => zZz.2 (by first | assumption | omega)
   rw [hr2] at hk3
   rw [zTM (by assumption) (by assumption),hk3]; rfl
 ·have hw' : isW (s.getD i 0) = false/\¬ (s.getD i 0).toNat = 35 := hw.resolve_left (by assumption)
  have hb : zOg s (i + 1) = zOg s i := zIV hi (zFM.2 ⟨hw'.1,hw'.2,zZz.2 (by assumption),zZz.2 (by assumption),by omega⟩)
  rw [zTK (by assumption) (by assumption) (by omega),hb]
  refine zW (fun (k : Nat) e' H' => e' 0 = str s/\e' 6 = int k/\H = H'/\k <= s.length/\zOg s k = zOg s i) (fun k => s.length - k) i ⟨rfl,rfl,rfl,by omega,rfl⟩ ?_
  rintro k e' H' ⟨h0,h1,rfl,hk,hr⟩
  repeat' (first | refine zYt (by omega) ?_ | refine zA (zVB _ _) ?_ | refine zA (zSG _ _ _ hl (by omega)) ?_ | simp -implicitDefEqProofs (disch := omega) only [h0,h1,push_cast,simprocAttr,↓reduceIte] | split)
  all_goals first
   | exact .mk (k + 1) ⟨h0,rfl,rfl,by omega,by rw [zIV (by omega) (zFM.2 (by simp_all; omega))]; exact hr⟩ (by omega)
   | (rw [<- hr,zOf fun _ => zZz.2 fun hh => by rw [zFM] at hh; obtain ⟨g1,g2,g3,g4,g5⟩ := hh; first | omega | (simp_all; done)]; rfl)
structure Tok where
 kind : Nat
 fr : Nat
 at_ : Nat
 en : Nat
theorem zPJ {α : Type} {l : List α} {j : Nat} (h : j < l.length) (d : α) : l.getD j d ∈ l := by
 simp [zYI,h]
def zGL (n : Nat) (l : List UInt8) : Nat := l.foldl (fun n c => 10 * n + (c.toNat - 48)) n
def zEH (s : List UInt8) : Bool := decide (1 <= s.length) && decide (s.length <= 9) && s.all isD
def zWv (s : List UInt8) : AV := if zEH s = true then .tup [int (zGL 0 s),bool true] else .tup [int 0,bool false]
theorem zCd {s : List UInt8} : zEH s = true ↔ 1 <= s.length/\s.length <= 9/\∀ j,j < s.length->isD (s.getD j 0) = true := by
 simp only [zEH,zYA,zYy,zYR,and_assoc]
 refine and_congr_right fun _ => and_congr_right fun _ => ⟨fun h j hj => h _ (zPJ hj 0),fun h x hx => ?_⟩
 obtain ⟨j,hj,rfl⟩ := zZd.1 hx
 have := h j hj
 simpa [zYI,hj] using this
theorem zCR {s : List UInt8} (h : ¬ zEH s = true) : zWv s = .tup [int 0,bool false] := if_neg h
theorem zEG {s : List UInt8} (h : zEH s = true) : zWv s = .tup [int (zGL 0 s),bool true] := if_pos h
theorem zJ6 {p : UInt8->Bool} : ∀ {s : List UInt8},s.length <= zDD p s 0->∀ j,j < s.length->p (s.getD j 0) = true
 | [],_,j,hj => by simp at hj
 | c :: l,h,j,hj => by
  simp only [zDD,zZ9,zY0,zzas] at h
  by_cases hc : p c = true
  ·rw [if_pos hc] at h
   cases j with
   | zero => simpa using hc
   | succ j => rw [zZw]; exact zJ6 (by simpa [zDD] using h) j (by simpa using hj)
  ·rw [if_neg hc] at h; simp at h
theorem zKO {p : UInt8->Bool} : ∀ {s : List UInt8},(∀ j,j < s.length->p (s.getD j 0) = true)->zDD p s 0 = s.length
 | [],_ => by simp [zDD]
 | c :: l,h => by
  have hc : p c = true := h 0 (by simp)
  have := zKO (s := l) fun j hj => by have := h (j + 1) (by simpa using hj); rwa [zZw] at this
  simp only [zDD,zZ9,zY0] at this
  simp [zDD,zzas,hc,this]
theorem zIt (n : Nat) (c : UInt8) (l : List UInt8) : zGL n (c :: l) = zGL (10 * n + (c.toNat - 48)) l := by unfold zGL; rw [zzam]
theorem zIs {s : List UInt8} {n j : Nat} (h : j < s.length) : zGL (10 * n + ((s.getD j 0).toNat - 48)) (s.drop (j + 1)) = zGL n (s.drop j) := by
 have e : s.getD j 0 = s[j] := by simp [zYI,h]
 have e2 : s.drop j = s[j] :: s.drop (j + 1) := zY4 h
 rw [e,e2,zIt]
theorem zFU {n j : Nat} (h : n < 10 ^ j) (hj : j <= 9) : n < 1000000000 := by
 have h1 : 10 ^ j <= 10 ^ 9 := Nat.pow_le_pow_right (by decide) hj
 have h2 : (10 : Nat) ^ 9 = 1000000000 := by simp
 rw [h2] at h1
 exact zYT h h1
theorem zU8 {x : AV} {a : Int} {b : Nat} (h : x = int a) (h2 : a = b) : x = int b := h.trans (by rw [h2])
theorem zJE {c : UInt8} : isD c = true ↔ 48 <= c.toNat/\c.toNat <= 57 := by simp [isD]
theorem zUV (s : List UInt8) (H : zB) (hs : (s.length : Int) < 9223372036854775807) : zHT 57 [str s] H (zWv s) := by
 refine enter Tryz.func57 L57_ok (zYu rfl) ?_
 repeat' (first | refine zYt (by omega) ?_ | refine zA (run s 0 isD 71 _ (by omega) (by omega) fun c => zVm c _) ?_ | simp -implicitDefEqProofs (disch := omega) only [L57,push_cast,simprocAttr,↓reduceIte] | split)
 ·rw [zCR]; simp_all [zEH]
 ·rw [zCR]; rw [zCd]; omega
 ·rw [zCR]; rw [zCd]; rintro ⟨_,_,h⟩; have := zKO h; omega
 ·rename_i h1 h2 h3
  have hd : ∀ j,j < s.length->isD (s.getD j 0) = true := zJ6 (by omega)
  have hpos : 1 <= s.length := by cases s with | nil => exact absurd rfl h1 | cons a l => simp
  rw [zEG (zCd.2 ⟨hpos,by omega,hd⟩)]
  refine zW (fun (p : Nat × Nat) e' H' => e' 4 = int p.2/\e' 22 = .sl 1 (s.map zBz)/\e' 23 = int s.length/\e' 24 = int p.1/\H = H'/\p.1 <= s.length/\p.2 < 10 ^ p.1/\zGL p.2 (s.drop p.1) = zGL 0 s) (fun p => s.length - p.1) (0,0) ?_ ?_
  ·exact ⟨rfl,rfl,rfl,rfl,rfl,zYO _,by simp,rfl⟩
  rintro ⟨j,n⟩ e' H' ⟨g4,g22,g23,g24,rfl,hj,hp,hr⟩
  simp only at g4 g22 g23 g24 hj hp hr
  by_cases hlt : j < s.length
  ·have hn := zFU hp (by omega)
   have hc := zJE.1 (hd j hlt)
   have hb := zLS hlt
   rw [zY0] at hb
   have hp' : 10 * n + ((s.getD j 0).toNat - 48) < 10 ^ (j + 1) := by rw [zzaG]; omega
   repeat' (first | refine zYt (by omega) ?_ | simp -implicitDefEqProofs (disch := omega) only [g4,g22,g23,g24,hb,push_cast,simprocAttr,↓reduceIte] | split)
   ·exact .mk (j + 1,10 * n + ((s.getD j 0).toNat - 48)) ⟨zU8 rfl (by omega),g22,g23,rfl,rfl,hlt,hp',by simp only; rw [zIs hlt]; exact hr⟩ (by simp only; omega)
   ·omega
  ·repeat' (first | simp -implicitDefEqProofs (disch := omega) only [g4,g22,g23,g24,push_cast,↓reduceIte,Nat.reduceEqDiff] | split)
   ·omega
   ·rw [zZ5 (by omega)] at hr
    rw [<- hr]; rfl
theorem zJt (s : List UInt8) (H : zB) (hs : (s.length : Int) < 9223372036854775807) : zHT 114 [str s] H (zWv s) := by
 refine enter Tryz.func114 L114_ok (zYu rfl) ?_
 repeat' (first | simp -implicitDefEqProofs (disch := omega) only [L114,push_cast,simprocAttr,↓reduceIte] | split)
 ·rw [zCR]; rw [zCd]; omega
 ·rw [zCR]; rw [zCd]; omega
 ·rename_i h1 h2
  refine zW (fun (p : Nat × Nat) e' H' => e' 0 = str s/\e' 4 = int p.2/\e' 5 = int p.1/\H = H'/\p.1 <= s.length/\p.2 < 10 ^ p.1/\zGL p.2 (s.drop p.1) = zGL 0 s/\∀ j,j < p.1->isD (s.getD j 0) = true) (fun p => s.length - p.1) (0,0) ?_ ?_
  ·exact ⟨rfl,rfl,rfl,rfl,zYO _,by simp,rfl,by simp⟩
  rintro ⟨j,n⟩ e' H' ⟨g0,g4,g5,rfl,hj,hp,hr,hd⟩
  simp only at g0 g4 g5 hj hp hr hd
  by_cases hlt : j < s.length
  ·have hn := zFU hp (by omega)
   have hc := zJE (c := s.getD j 0)
   by_cases hdj : isD (s.getD j 0) = true
   ·rw [hdj] at hc
    have hc' := hc.1 rfl
    have hp' : 10 * n + ((s.getD j 0).toNat - 48) < 10 ^ (j + 1) := by rw [zzaG]; omega
    repeat' (first | refine zYt (by omega) ?_ | refine zA (zG2 _ _) ?_ | simp -implicitDefEqProofs (disch := omega) only [g0,g4,g5,hdj,push_cast,simprocAttr,↓reduceIte] | split)
    ·refine .mk (j + 1,10 * n + ((s.getD j 0).toNat - 48)) ⟨g0,zU8 rfl (by omega),rfl,rfl,hlt,hp',by simp only; rw [zIs hlt]; exact hr,fun k hk => ?_⟩ (by simp only; omega)
     by_cases h : k = j
     ·rw [h]; exact hdj
     ·exact hd k (by simp only at hk; omega)
    ·omega
   ·have hdj' := zZz.2 hdj
    repeat' (first | refine zYt (by omega) ?_ | refine zA (zG2 _ _) ?_ | simp -implicitDefEqProofs (disch := omega) only [g0,g4,g5,hdj',push_cast,simprocAttr,↓reduceIte] | split)
    ·rw [zCR]; rw [zCd]; rintro ⟨_,_,h⟩; exact hdj (h j hlt)
    ·omega
  ·repeat' (first | simp -implicitDefEqProofs (disch := omega) only [g0,g4,g5,push_cast,simprocAttr,↓reduceIte] | split)
   ·omega
   ·rw [zZ5 (by omega)] at hr
    rw [zEG (zCd.2 ⟨by omega,by omega,fun k hk => hd k (by omega)⟩),<- hr]; rfl
def zEI (s : List UInt8) : Bool := decide (1 <= s.length) && decide (s.length <= 16) && isL (s.getD 0 0) && !isK s && decide (zDD isN s 0 = s.length)
theorem zE2 {s : List UInt8} : zEI s = true ↔ 1 <= s.length/\s.length <= 16/\isL (s.getD 0 0) = true/\isK s = false/\zDD isN s 0 = s.length := by
 simp only [zEI,zYA,zYy,zZi,and_assoc]
theorem zKj {s : List UInt8} (h : 1 <= s.length->s.length <= 16->isL (s.getD 0 0) = true->isK s = false->False) : AV.v (.bool false) = bool (zEI s) := by
 rw [show zEI s = false from zZz.2 fun hh => by rw [zE2] at hh; exact h hh.1 hh.2.1 hh.2.2.1 hh.2.2.2.1]
theorem zDG (s : List UInt8) (H : zB) (hs : (s.length : Int) < 9223372036854775806) : zHT 43 [str s] H (bool (zEI s)) := by
 refine enter Tryz.func43 L43_ok (zYu rfl) ?_
 have hne : s = [] ↔ s.length = 0 := by simp
 repeat' (first | refine zYt (by omega) ?_ | refine zA (run s 0 isN 70 _ (by omega) (by omega) fun c => zXV c _) ?_ | refine zA (zQF _ _) ?_ | refine zA (zR5 _ _) ?_ | simp -implicitDefEqProofs (disch := omega) only [L43,hne,push_cast,simprocAttr,↓reduceIte] | split)
 all_goals first
  | exact zKj fun h1 h2 h3 h4 => by first | omega | (simp_all; done)
  | skip
 refine zAN ?_
 rw [zE2,zYy]
 exact ⟨fun h => ⟨by omega,by omega,by simpa using ‹¬ isL _ = false›,by simpa using ‹¬ isK _ = true›,by omega⟩,fun h => by omega⟩
theorem zPu (s : List UInt8) (H : zB) (hs : (s.length : Int) < 9223372036854775806) : zHT 16 [str s] H (bool (zEI s)) := by
 refine enter Tryz.func16 L16_ok (zYu rfl) ?_
 by_cases h1 : 1 <= s.length
 ·by_cases hL : isL (s.getD 0 0) = true
  ·repeat' (first | refine zYt (by omega) ?_ | refine zA (zTJ s 0 _ (by omega) h1 (.inl hL)) ?_ | refine zA (zF4 _ _) ?_ | refine zA (zKs _ _) ?_ | simp -implicitDefEqProofs (disch := omega) only [L16,hL,push_cast,simprocAttr,↓reduceIte] | split)
   all_goals first
    | exact zKj fun h1 h2 h3 h4 => by first | omega | (simp_all; done)
    | skip
   refine zAN ?_
   rw [zE2,zYy,zQe hL]
   exact ⟨fun h => ⟨by omega,by omega,hL,by simpa using ‹¬ isK _ = true›,by simp only at h; omega⟩,fun h => by simp only; omega⟩
  ·have hL' := zZz.2 hL
   repeat' (first | refine zYt (by omega) ?_ | refine zA (zF4 _ _) ?_ | simp -implicitDefEqProofs (disch := omega) only [L16,hL',push_cast,simprocAttr,↓reduceIte] | split)
   all_goals exact zKj fun h1 h2 h3 h4 => by first | omega | (simp_all; done)
 ·repeat' (first | simp -implicitDefEqProofs (disch := omega) only [L16,push_cast,simprocAttr,↓reduceIte] | split)
  ·exact zKj fun h1 h2 h3 h4 => by omega
  ·omega
def zCX (q : Pr) : Int := if 0 <= q.res then q.res else q.outs.length
def zS (slots o a b : Int) (e : Bool) : Prop :=
 0 <= o/\o <= 22/\(o = 18\/o = 19\/e = true)/\(o = 0->0 <= a/\a <= 999999999/\b = 0)/\(o = 1\/o = 2->0 <= a/\a < slots/\b = 0) /\
 (o = 3\/o = 4->0 <= a/\1 <= b/\a < slots/\b <= slots - a)/\(o = 20->b = 0)/\(5 <= o/\¬ o = 20->a = 0/\b = 0)
instance (slots o a b : Int) (e : Bool) : Decidable (zS slots o a b e) := by unfold zS; infer_instance
def chg (h n c : Int) : Option Int := if n <= h/\h + c <= 1024 then some (h + c) else none
def zCB (ps : List Pr) (k : Nat) (o a : Int) (out : Bool) (h : Int) : Option Int :=
 if o = 0\/o = 1 then chg h 0 1
 else if o = 2\/o = 22 then chg h 1 (-1)
 else if o = 3\/o = 16\/o = 17 then chg h 1 0
 else if o = 4 then chg h 2 (-2)
 else if o = 20 then (if 0 <= a/\a < k then chg h (ps.getD a.toNat default).par (zCX (ps.getD a.toNat default) - (ps.getD a.toNat default).par) else none)
 else if o = 21 then (if out = true/\h = max (ps.getD k default).res 0 then chg h 0 (-h) else none)
 else chg h 2 (-1)
mutual
def zCC (ps : List Pr) (k : Nat) : Ins->Bool->Int->Option Int
 | .mk o a b l m,out,h =>
  if zS (ps.getD k default).slots o a b (l.isEmpty && m.isEmpty) then
   if o = 18 then
    if 1 <= h then
     match zCf ps k l (out && decide (h = 1)) 0,zCf ps k m (out && decide (h = 1)) 0 with
     | some e,some e' => if e = e' then chg h 0 (e - 1) else none
     | _,_ => none
    else none
   else if o = 19 then
    if out = true/\h = 0/\zCf ps k m false 0 = some 1/\zCf ps k l true 0 = some 0 then some h else none
   else zCB ps k o a out h
  else none
def zCf (ps : List Pr) (k : Nat) : List Ins->Bool->Int->Option Int
 | [],_,h => some h
 | x :: l,out,h => match zCC ps k x out h with
  | some h' => zCf ps k l out h'
  | none => none
end
theorem zNZ (ps : List Pr) (k : Nat) (x : Ins) (l : List Ins) (out : Bool) (h : Int) : zCf ps k (x :: l) out h = (zCC ps k x out h).bind fun h' => zCf ps k l out h' := by
 simp only [zCf]
 cases zCC ps k x out h <;> rfl
theorem zAQ (ps : List Pr) (k : Nat) {l : List Ins} {j : Nat} (hj : j < l.length) (out : Bool) (h : Int) : zCf ps k (l.drop j) out h = (zCC ps k (l.getD j default) out h).bind fun h' => zCf ps k (l.drop (j + 1)) out h' := by
 rw [zN1 hj,zNZ]
def zCU (ps : List Pr) (k : Nat) : Prop := ∀ j,j < k->0 <= (ps.getD j default).par/\(ps.getD j default).par <= 1024/\(ps.getD j default).res <= 128/\(ps.getD j default).outs.length <= 128
theorem zHt {q : Pr} (h1 : q.res <= 128) (h2 : q.outs.length <= 128) : 0 <= zCX q/\zCX q <= 128 := by
 unfold zCX; split <;> omega
theorem zDx {h n c h' : Int} (hc : chg h n c = some h') : n <= h/\h' = h + c/\h' <= 1024 := by
 unfold chg at hc
 split at hc
 ·simp only [zYq] at hc; omega
 ·cases hc
theorem zLI {ps : List Pr} {k : Nat} (hp : zCU ps k) {o a : Int} {out : Bool} {h h' : Int} (h0 : 0 <= h) (he : zCB ps k o a out h = some h') : 0 <= h'/\h' <= 1024 := by
 unfold zCB at he
 split at he
 ·have := zDx he; omega
 split at he
 ·have := zDx he; omega
 split at he
 ·have := zDx he; omega
 split at he
 ·have := zDx he; omega
 split at he
 ·split at he
  ·rename_i hh
   have h1 := hp a.toNat (by omega)
   have h2 := zHt h1.2.2.1 h1.2.2.2
   have := zDx he; omega
  ·cases he
 split at he
 ·split at he
  ·have := zDx he; omega
  ·cases he
 ·have := zDx he; omega
mutual
theorem zLJ {ps : List Pr} {k : Nat} (hp : zCU ps k) : ∀ (x : Ins) (out : Bool) (h h' : Int),0 <= h->h <= 1024->zCC ps k x out h = some h'->0 <= h'/\h' <= 1024
 | .mk o a b l m,out,h,h',h0,h1,he => by
  simp only [zCC] at he
  split at he
  ·split at he
   ·split at he
    ·split at he
     ·rename_i e e' he1 he2
      have g := zAL hp l _ 0 e (by omega) (by omega) he1
      split at he
      ·have := zDx he; omega
      ·cases he
     ·cases he
    ·cases he
   ·split at he
    ·split at he
     ·simp only [zYq] at he; omega
     ·cases he
    ·exact zLI hp h0 he
  ·cases he
theorem zAL {ps : List Pr} {k : Nat} (hp : zCU ps k) : ∀ (l : List Ins) (out : Bool) (h h' : Int),0 <= h->h <= 1024->zCf ps k l out h = some h'->0 <= h'/\h' <= 1024
 | [],out,h,h',h0,h1,he => by simp only [zCf,zYq] at he; omega
 | x :: l,out,h,h',h0,h1,he => by
  simp only [zCf] at he
  split at he
  ·rename_i g hg
   have := zLJ hp x out h g h0 h1 hg
   exact zAL hp l out g h' (by omega) (by omega) he
  ·cases he
end
def zCA (q : Pr) : Prop := 0 <= q.par/\q.par <= q.slots/\q.slots <= 1024/\-1 <= q.res/\q.res <= 128/\q.outs.length <= 128/\(q.res = -1\/q.outs = [])/\∀ s ∈ q.outs,0 <= s/\s < q.slots
def prP (ps : List Pr) (k : Nat) : Prop := (zEI (ps.getD k default).name = true/\∀ j,j < k->¬ (ps.getD j default).name = (ps.getD k default).name)/\zCA (ps.getD k default) /\
 zA7 (ps.take (k + 1)) <= 32768/\zAK (ps.getD k default).body <= 256/\zCf ps k (ps.getD k default).body true 0 = some 0
def zDA (ps : List Pr) : Prop := ps.length <= 8/\∀ k,k < ps.length->prP ps k
theorem zFt {ps : List Pr} {k : Nat} (h : ∀ j,j < k->prP ps j) : zCU ps k := fun j hj => by
 obtain ⟨_,⟨h1,h2,h3,h4,h5,h6,_⟩,_⟩ := h j hj
 exact ⟨h1,by omega,h5,h6⟩
abbrev Wd := List UInt8
abbrev Ln := List (List UInt8)
def spB (c : UInt8) : Wd->Ln
 | [] => [[]]
 | x :: s => if x = c then [] :: spB c s else (x :: (spB c s).headD []) :: (spB c s).tail
theorem zMk (c : UInt8) : ∀ s,spB c s ≠ []
 | [] => by simp [spB]
 | x :: s => by unfold spB; split <;> simp
theorem zMl (c : UInt8) (s : Wd) : spB c s = (spB c s).headD [] :: (spB c s).tail := by
 have := zMk c s
 cases h : spB c s with
 | nil => exact absurd h this
 | cons a l => rfl
theorem zFq {c : UInt8} : ∀ {w : Wd},c ∉ w->spB c w = [w]
 | [],_ => rfl
 | x :: w,h => by
  simp only [zY5,not_or] at h
  have hx : ¬ x = c := fun e => h.1 e.symm
  simp [spB,hx,zFq h.2]
theorem zHm {c : UInt8} {s : Wd} : ∀ {w : Wd},c ∉ w->spB c (w ++ c :: s) = w :: spB c s
 | [],_ => by simp [spB]
 | x :: w,h => by
  simp only [zY5,not_or] at h
  have hx : ¬ x = c := fun e => h.1 e.symm
  rw [zYB,spB,if_neg hx,zHm h.2]; rfl
theorem zEV (c : UInt8) : ∀ s,(spB c s).length <= s.length + 1
 | [] => by simp [spB]
 | x :: s => by
  have := zEV c s
  have h2 := zMk c s
  have h3 : 0 < (spB c s).length := List.length_pos_iff.2 h2
  unfold spB; split <;> simp <;> omega
theorem zFN {c : UInt8} : ∀ {s w : Wd},w ∈ spB c s->w.length <= s.length/\c ∉ w
 | [],w,h => by simp [spB] at h; subst h; simp
 | x :: s,w,h => by
  unfold spB at h
  split at h
  ·rcases zY5.1 h with rfl | h
   ·simp
   ·have := zFN h; simp only [zYs]; exact ⟨by omega,this.2⟩
  ·rename_i hx
   rcases zY5.1 h with rfl | h
   ·have h2 : (spB c s).headD [] ∈ spB c s := by rw [zMl c s]; simp
    have := zFN h2
    simp only [zYs,zY5,not_or]
    exact ⟨by omega,fun e => hx e.symm,this.2⟩
   ·have h2 : w ∈ spB c s := List.mem_of_mem_tail h
    have := zFN h2
    simp only [zYs]; exact ⟨by omega,this.2⟩
def ne {α : Type} (w : List α) : Bool := !w.isEmpty
theorem zGN {α : Type} {w : List α} : ne w = true ↔ w ≠ [] := by cases w <;> simp [ne]
def zEd (l : Wd) : Ln := (spB 32 l).filter ne
def zAY (s : Wd) : List Ln := ((spB 10 s).map zEd).filter ne
def zFf (w : Wd) (now : Ln) : Ln := if w = [] then now else now ++ [w]
def lnM : Wd->Wd->Ln->List Ln
 | [],w,now => if zFf w now = [] then [] else [zFf w now]
 | x :: s,w,now => if x = 32 then lnM s [] (zFf w now) else if x = 10 then (if zFf w now = [] then lnM s [] [] else zFf w now :: lnM s [] []) else lnM s (w ++ [x]) now
theorem zFE {w : Wd} (h : (32 : UInt8) ∉ w) : zEd w = zFf w [] := by
 unfold zEd zFf
 rw [zFq h]
 by_cases hw : w = []
 ·subst hw; rfl
 ·rw [if_neg hw,zZC (zGN.2 hw)]; rfl
theorem zHv (w : Wd) (now : Ln) : zFf w now = now ++ zFf w [] := by
 unfold zFf; split <;> simp
theorem zKp : ∀ (s w : Wd) (now : Ln),(32 : UInt8) ∉ w->lnM s w now = ((now ++ zEd (w ++ (spB 10 s).headD [])) :: ((spB 10 s).tail.map zEd)).filter ne
 | [],w,now,hw => by
  have e : (w ++ (spB 10 []).headD []) = w := by simp [spB]
  rw [e,zFE hw,<- zHv,lnM]
  by_cases h : zFf w now = []
  ·rw [if_pos h,zZ2 (by rw [h]; simp [ne])]; rfl
  ·rw [if_neg h,zZC (zGN.2 h)]; rfl
 | x :: s,w,now,hw => by
  rw [lnM]
  by_cases h1 : x = 32
  ·subst h1
   rw [if_pos rfl,zKp s [] _ (by simp)]
   have e : w ++ (spB 10 ((32 : UInt8) :: s)).headD [] = w ++ 32 :: (spB 10 s).headD [] := by rw [spB,if_neg (by decide)]; rfl
   have e2 : (spB 10 ((32 : UInt8) :: s)).tail = (spB 10 s).tail := by rw [spB,if_neg (by decide)]; rfl
   rw [e,e2]
   have e3 : zEd (w ++ 32 :: (spB 10 s).headD []) = zFf w [] ++ zEd ((spB 10 s).headD []) := by
    rw [<- zFE hw]
    unfold zEd
    rw [zHm hw,zFq hw,<- List.filter_append]; rfl
   rw [e3,<- zY8,<- zHv,zYG]
  ·rw [if_neg h1]
   by_cases h2 : x = 10
   ·subst h2
    have e : spB 10 ((10 : UInt8) :: s) = [] :: spB 10 s := by rw [spB,if_pos rfl]
    rw [if_pos rfl,e]
    simp only [zzaC,zY1,List.tail_cons]
    rw [zFE hw,<- zHv,zKp s [] [] (by simp)]
    have e4 : ([] ++ zEd ([] ++ (spB 10 s).headD [])) :: (spB 10 s).tail.map zEd = (spB 10 s).map zEd := by
     conv => rhs; rw [zMl 10 s]
     simp
    rw [e4]
    by_cases h : zFf w now = []
    ·rw [if_pos h,zZ2 (by rw [h]; simp [ne])]
    ·rw [if_neg h,zZC (zGN.2 h)]
   ·have e : spB 10 (x :: s) = (x :: (spB 10 s).headD []) :: (spB 10 s).tail := by rw [spB,if_neg h2]
    rw [if_neg h2,e,zKp s (w ++ [x]) now (by simp [hw]; exact fun e => h1 e.symm)]
    simp
theorem zNq (s : Wd) : lnM s [] [] = zAY s := by
 rw [zKp s [] [] (by simp),zAY]
 conv => rhs; rw [zMl 10 s]
 simp
theorem zIz {s : Wd} {l : Ln} (h : l ∈ zAY s) : l ≠ [] := zGN.1 (zZ4.1 h).2
theorem zC2 (s : Wd) : (zAY s).length <= s.length + 1 := by
 have h1 := zEV 10 s
 have h2 := List.length_filter_le ne ((spB 10 s).map zEd)
 rw [zYo] at h2
 unfold zAY; omega
theorem zBZ {s : Wd} {l : Ln} (h : l ∈ zAY s) : l.length <= s.length + 1/\∀ w ∈ l,w.length <= s.length := by
 obtain ⟨p,hp,rfl⟩ := zZl.1 (zZ4.1 h).1
 have h1 := zFN hp
 have h2 := zEV 32 p
 have h3 := List.length_filter_le ne (spB 32 p)
 refine ⟨by unfold zEd; omega,fun w hw => ?_⟩
 have h4 := zFN (zZ4.1 hw).1
 omega
def zIr (w : Wd) : Option Int := if w.head? = some 45 then (if zEH w.tail = true then some (-(zGL 0 w.tail : Int)) else none) else if zEH w = true then some (zGL 0 w) else none
def zBj : Ln->Option (List Int)
 | [] => some []
 | w :: l => match zIr w with
  | none => none
  | some n => (zBj l).map (n :: ·)
def opsW : Ln := [[112,117,115,104],[108,111,97,100],[115,116,111,114,101],[108,111,97,100,97,116],[115,116,111,114,101,97,116],[97,100,100],[115,117,98],[109,117,108],[100,105,118],[109,111,100],[101,113,117,97,108],[117,110,101,113,117,97,108],[108,101,115,115],[97,116,109,111,115,116],[103,114,101,97,116,101,114],[97,116,108,101,97,115,116],[110,101,103,97,116,101],[110,111,116],[105,102],[108,111,111,112],[99,97,108,108],[114,101,116,117,114,110],[97,115,115,101,114,116]]
def zER : Wd := [101,110,100]
def zHg : Wd := [101,108,115,101]
def wDo : Wd := [100,111]
def zEx : Wd := [112,114,111,99]
def opF (w : Wd) : Option Nat := opsW.findIdx? fun x => decide (x = w)
def zCl (op : Nat) : Nat := if op = 0\/op = 1\/op = 2\/op = 20 then 1 else if op = 3\/op = 4 then 2 else 0
def zF7 (l : Ln) : Option (Nat × Int × Int) := match opF (l.headD []) with
 | none => none
 | some op => match zBj l.tail with
  | none => none
  | some ns => if ns.length = zCl op then some (op,ns.getD 0 0,ns.getD 1 0) else none
def zAj : Nat->Wd->List Ln->Option (List Ins × List Ln)
 | 0,_,_ => none
 | _ + 1,_,[] => none
 | n + 1,u,l :: L =>
  if l.headD [] = u then (if l.length = 1 then some ([],L) else none)
  else match zF7 l with
   | none => none
   | some (op,a,b) =>
    if op = 18 then match zAj n zHg L with
     | none => none
     | some (x,L1) => match zAj n zER L1 with
      | none => none
      | some (y,L2) => (zAj n u L2).map fun r => (.mk op a b x y :: r.1,r.2)
    else if op = 19 then match zAj n wDo L with
     | none => none
     | some (x,L1) => match zAj n zER L1 with
      | none => none
      | some (y,L2) => (zAj n u L2).map fun r => (.mk op a b y x :: r.1,r.2)
    else (zAj n u L).map fun r => (.mk op a b [] [] :: r.1,r.2)
def zOC (l : Ln) : Option Pr := if l.headD [] = zEx/\5 <= l.length then (zBj (l.drop 2)).map fun ns => ⟨l.getD 1 [],ns.getD 0 0,ns.getD 1 0,ns.getD 2 0,ns.drop 3,[]⟩ else none
def zBC : Nat->List Ln->Option (List Pr)
 | _,[] => some []
 | 0,_ :: _ => none
 | n + 1,l :: L => match zOC l with
  | none => none
  | some q => match zAj (L.length + 1) zER L with
   | none => none
   | some (b,L1) => (zBC n L1).map ({ q with body := b } :: ·)
end Go.Proofs.YtbibhcmcjldhdaaGreatDoor
