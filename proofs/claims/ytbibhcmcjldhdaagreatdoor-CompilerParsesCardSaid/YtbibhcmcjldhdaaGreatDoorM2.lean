/- Parts,merged by a program (wip/tools/merge2.py): Ax16 Ax17 Ax18 Ax19 Ax20 Ax20b Ax20c Ax20d Ax20e Ax20f Ax20g Ax20h Ax20i Ax20j. -/
import Derived.Test.YtbibhcmcjldhdaaGreatDoorM1
import Derived.Maps.RangeRun
import Derived.Deep.LoopGhost
import Derived.TacticsIn
import Derived.OrdersIn
import Derived.StillTail
namespace Go.Ax
open Go Go.RowKit
set_option linter.unusedSimpArgs false
section
variable {P : Program} {w : World} {X : Nat → Prop} {ρ : Nat → Loc} {H : zB} {e : Env} {a : Act} {n : Nat}
abbrev ER (w : World) (X : Nat->Prop) (ρ : Nat->Loc) (H : zB) (n : Nat) (e : Env) (a : Act) : Prop := zYm w (Mut X ρ H.length) ρ H.length n e a
def zLZ (P : Program) (o : Oper) (a : Act) (w : World) (X : Nat->Prop) (ρ : Nat->Loc) (H : zB) (r : Res) : Prop :=
 r.ok->∃ u w' ρ',((execOp a.eval o).run P w = .ok (.value u) w'\/((execOp a.eval o).run P w = .ok .skip w'/\u = undef))/\HRel w' X ρ' r.H/\Rep w' (Mut X ρ' r.H.length) ρ' r.H.length r.x u/\Fut w ρ H.length w' ρ' r.H.length
theorem zAC {o : Oper} {s : Sem Value} {r : Res} (h : zAX P s w X ρ H r) (he : execOp a.eval o = (do pure (.value (<- s)))) : zLZ P o a w X ρ H r := by
 intro hok;obtain ⟨u,w',ρ',h1,h2,h3,h4⟩ := h hok;exact ⟨u,w',ρ',.inl (by rw [he]; simp [h1]),h2,h3,h4⟩
theorem zM5 {o : Oper} {s : Sem Unit} {r : Res} (h : zOv P s w X ρ H r) (he : execOp a.eval o = (do s; pure .skip)) : zLZ P o a w X ρ H r := by
 intro hok;obtain ⟨hx,w',ρ',h1,h2,h3⟩ := h hok;exact ⟨undef,w',ρ',.inr ⟨by rw [he]; simp [h1],rfl⟩,h2,by rw [hx]; exact .any _ _,h3⟩
theorem zFV {o : Oper} : zLZ P o a w X ρ H (.no H) := fun h => h.elim
theorem zCi {M : Nat->Prop} {k : Nat} (he : zYm w M ρ k n e a) : ∀ (l : List Operand) (m : List LX),lxs n l = some m->m.length = l.length/\∀ (i : Nat) (x : AV) (u : Value),(m.map (ev e))[i]? = some x->(l.map a.eval)[i]? = some u->Rep w M ρ k x u
 | [],m,h => by simp [lxs] at h; subst h; exact ⟨rfl,fun i x u hx => by simp at hx⟩
 | o :: l,m,h => by
  unfold lxs at h;cases ho : lx n o with
  | none => simp [ho] at h
  | some y =>
   cases hm : lxs n l with
   | none => simp [ho,hm] at h
   | some m' =>
    simp [ho,hm] at h;subst h;obtain ⟨h1,h2⟩ := zCi he l m' hm;refine ⟨by simp [h1],fun i x u hx hu => ?_⟩;cases i with
    | zero => simp at hx hu; subst hx hu; exact zAd he ho
    | succ i => exact h2 i x u (by simpa using hx) (by simpa using hu)
theorem zF0 (he : ER w X ρ H n e a) {place : Nat->Option (Nat × Nat)} : ∀ (l : List (Nat × Operand)) (m : List (Nat × Nat × LX)),zHz n place l = some m->zVC w X ρ H place (l.map fun (i,x) => (i,a.eval x)) (m.map fun (o,k,x) => (o,k,ev e x))
 | [],m,h => by simp [zHz] at h; subst h; trivial
 | (i,o) :: l,m,h => by
  unfold zHz at h;cases hp : place i with
  | none => simp [hp] at h
  | some pl =>
   obtain ⟨off,sz⟩ := pl;cases ho : lx n o with
   | none => simp [hp,ho] at h
   | some y =>
    cases hm : zHz n place l with
    | none => simp [hp,ho,hm] at h
    | some m' =>
     simp [hp,ho,hm] at h;subst h;exact ⟨hp,zAd he ho,zF0 he l m' hm⟩
theorem zIw (he : ER w X ρ H n e a) : ∀ (l : List (Nat × Operand)) (m : List (Nat × LX)),zJy n l = some m->zWN w X ρ H (l.map fun (i,x) => (i,a.eval x)) (m.map fun (i,x) => (i,ev e x))
 | [],m,h => by simp [zJy] at h; subst h; trivial
 | (i,o) :: l,m,h => by
  unfold zJy at h;cases ho : lx n o with
  | none => simp [ho] at h
  | some y =>
   cases hm : zJy n l with
   | none => simp [ho,hm] at h
   | some m' =>
    simp [ho,hm] at h;subst h;exact ⟨rfl,zAd he ho,zIw he l m' hm⟩
theorem zK6 {x : AV} {u : Value} {o : Oper} {ox : Operand} (ho : o.op = .nilCheck ox) (hu : a.eval ox = u) (h : HRel w X ρ H) (hx : Rp w X ρ H x u) : zLZ P o a w X ρ H (rNil x H) := by
 have key : ∀ v : Value,(∃ p,v = .pointer (some p))\/(∃ r,v = .map r)\/(∃ f fs us,v = .func (.func f) fs us)->u = v->(execOp a.eval o).run P w = .ok (.value v) w := by
  intro v hv huv;unfold execOp;rw [ho];simp only [hu,huv];rcases hv with ⟨p,rfl⟩ | ⟨r,rfl⟩ | ⟨f,fs,us,rfl⟩ <;> rfl
 cases x with
 | vp cs off =>
  intro _;cases hx with
  | vp _ _ _ b o' c hm hb hcell hrep => exact ⟨_,w,ρ,.inl (key _ (.inl ⟨_,rfl⟩) rfl),h,.vp _ _ _ _ _ c hm hb hcell hrep,Fut.refl _ _ _⟩
 | mp ks vs =>
  intro _;cases hx with
  | mp _ _ _ b es clock hm hb hh hks hvs hr => exact ⟨_,w,ρ,.inl (key _ (.inr (.inl ⟨_,rfl⟩)) rfl),h,.mp _ _ _ _ es clock hm hb hh hks hvs hr,Fut.refl _ _ _⟩
 | fn f fs us =>
  cases f <;> first | exact zFV | skip
  intro _;have hx' := hx;cases hx with
  | fn => exact ⟨_,w,ρ,.inl (key _ (.inr (.inr ⟨_,_,_,rfl⟩)) rfl),h,hx',Fut.refl _ _ _⟩
 | ptr r ver off =>
  intro hv;have hx' := hx;cases hx with
  | ptr _ _ _ _ _ hr hle hone hp =>
   have hver : ver = (ρ r).ver := by
    have hv : isVer ver H[r]? := hv;cases ho' : H[r]? with
    | none => rw [ho'] at hv; exact hv.elim
    | some obj =>
     rw [ho'] at hv;have hob := h.objs r _ ho';cases obj <;> simp only [isVer] at hv <;> first | exact hv.elim | skip
     ·rw [hob.1]; exact hv
     ·rw [hob.1]; exact hv
     ·rw [hob.1]; exact hv
   obtain ⟨b,o',_,rfl⟩ := hp hver;exact ⟨_,w,ρ,.inl (key _ (.inl ⟨_,rfl⟩) rfl),h,hx',Fut.refl _ _ _⟩
 | pe r ver i off =>
  intro hv;have hx' := hx;cases hx with
  | pe _ _ _ _ _ _ hr hle hone hp =>
   have hver : ver = (ρ r).ver := by
    have hv : isVer ver H[r]? := hv;cases ho' : H[r]? with
    | none => rw [ho'] at hv; exact hv.elim
    | some obj =>
     rw [ho'] at hv;have hob := h.objs r _ ho';cases obj <;> simp only [isVer] at hv <;> first | exact hv.elim | skip
     ·rw [hob.1]; exact hv
     ·rw [hob.1]; exact hv
     ·rw [hob.1]; exact hv
   obtain ⟨b,o',_,rfl⟩ := hp hver;exact ⟨_,w,ρ,.inl (key _ (.inl ⟨_,rfl⟩) rfl),h,hx',Fut.refl _ _ _⟩
 | _ => exact zFV
def zCP : LOp->Bool
 | .call _ _ => false
 | .callh _ _ => false
 | .pick _ _ _ => false
 | .isnil _ _ => false
 | .nextm _ => false
 | .frz _ => false
 | .own _ _ => false
 | .frzf _ _ _ => false
 | _ => true
theorem zAo {α β : Type} {x : Option α} {f : α->β} {y : β} (h : x.map f = some y) : ∃ a,x = some a/\f a = y := by
 cases x with
 | none => cases h
 | some a => exact ⟨a,rfl,by simpa using h⟩
theorem zGv {c : Call} {lo : LOp} (hl : zCK P n c = some lo) : zCP lo = true\/∃ f g m,c.callee = .value f/\lx n f = some g/\lxs n c.args.toList = some m/\lo = .callh g m := by
 unfold zCK at hl;split at hl
 ·rename_i f hc;split at hl
  ·rename_i g m hg hm; cases hl; exact .inr ⟨f,g,m,hc,hg,hm,rfl⟩
  ·cases hl
 ·split at hl
  ·split at hl
   ·split at hl
    ·split at hl
     ·cases hl; exact .inl rfl
     ·cases hl
    ·cases hl
   ·cases hl
  ·cases hl
 ·cases hl
theorem zJC {c : Call} {lo : LOp} {o : Oper} (ho : o.op = .call c) (hl : zCK P n c = some lo) (hp : zCP lo = true) (h : HRel w X ρ H) (he : ER w X ρ H n e a) : zLZ P o a w X ρ H (zBb lo e H) := by
 obtain ⟨callee,args,tys⟩ := c;unfold zCK at hl;cases callee with
 | value f =>
  simp only at hl;split at hl
  ·cases hl; simp [zCP] at hp
  ·cases hl
 | invoke r m => simp at hl
 | builtin b =>
  obtain ⟨bcs,hex⟩ : ∃ cs,execOp a.eval o = builtin b tys o.type cs (args.map a.eval) := by
   unfold execOp;rw [ho];exact ⟨_,rfl⟩
  cases b <;> simp only at hl <;> first | (cases hl; done) | skip
  cases hm : lxs n args.toList with
  | none => simp [hm] at hl
  | some m =>
   obtain ⟨hlen,hrep⟩ := zCi he _ _ hm
   match m,hlen,hl with
   | [],_,hl => simp [hm] at hl
   | [_],_,hl => simp [hm] at hl
   | _ :: _ :: _ :: _,_,hl => simp [hm] at hl
   | [s,x],hlen,hl =>
    obtain ⟨so,xo,hao⟩ : ∃ so xo,args.toList = [so,xo] := by
     match h1 : args.toList,hlen with
     | [so,xo],_ => exact ⟨so,xo,rfl⟩
    have hae : args.map a.eval = #[a.eval so,a.eval xo] := by apply zZD; simp [hao]
    have hs : Rp w X ρ H (ev e s) (a.eval so) := hrep 0 _ _ rfl (by simp [hao]);have hx : Rp w X ρ H (ev e x) (a.eval xo) := hrep 1 _ _ rfl (by simp [hao])
    match ht : tys.toList,hl with
    | [],hl => simp [hm] at hl
    | [_],hl => simp [hm] at hl
    | _ :: _ :: _ :: _,hl => simp [hm] at hl
    | [t,u],hl =>
     have hty : tys = #[t,u] := by apply zZD; simpa using ht
     simp only [hm] at hl;cases hu : P.underlying t with
     | none => simp [hu] at hl
     | some d =>
      cases d with
      | slice el =>
       cases hv : P.underlying u with
       | none => simp [hu,hv] at hl
       | some d2 =>
        cases d2 with
        | string =>
         simp only [hu,hv] at hl;cases hi : P.info? el with
         | none => simp [hi] at hl
         | some i =>
          simp only [hi] at hl;split at hl
          ·rename_i hc;obtain ⟨h1,h2,h3⟩ := hc;obtain ⟨z,hz1,hz2⟩ := zAo h3;cases hl;exact zAC (s := Builtin.append_ #[t,u] o.type #[a.eval so,a.eval xo]) (zJe hu ⟨_,hv,fun k hk => by cases hk⟩ hi hz1 hz2 h1 h2 h hs hx) (by rw [hex,hae,hty]; rfl)
          ·cases hl
        | _ => simp [hu,hv] at hl
      | _ => simp [hu] at hl
theorem zLr {c : Call} {lo : LOp} {o : Oper} (ho : o.op = .call c) (hl : zDl P n c = some lo) (hp : zCP lo = true) (h : HRel w X ρ H) (he : ER w X ρ H n e a) : zLZ P o a w X ρ H (zBb lo e H) := by
 obtain ⟨callee,args,tys⟩ := c;have hex : ∀ b : Builtin,callee = .builtin b->∃ cs,execOp a.eval o = builtin b tys o.type cs (args.map a.eval) := by
  intro b hb;subst hb;unfold execOp;rw [ho];exact ⟨_,rfl⟩
 unfold zDl at hl;cases callee with
 | value f =>
  simp only at hl;cases hf : lx n f with
  | none => simp [hf] at hl
  | some g =>
   cases hm : lxs n args.toList with
   | none => simp [hf,hm] at hl
   | some m => simp [hf,hm] at hl; subst hl; simp [zCP] at hp
 | invoke r m => simp at hl
 | builtin b =>
  obtain ⟨bcs,hex⟩ := hex b rfl;cases b <;> simp only at hl <;> first | (cases hl; done) | skip
  case len =>
   cases hm : lxs n args.toList with
   | none => simp [hm] at hl
   | some m =>
    obtain ⟨hlen,hrep⟩ := zCi he _ _ hm
    match m,hlen,hl with
    | [],_,hl => simp [hm] at hl
    | _ :: _ :: _,_,hl => simp [hm] at hl
    | [x],hlen,hl =>
     obtain ⟨ao,hao⟩ : ∃ ao,args.toList = [ao] := by
      match h1 : args.toList,hlen with
      | [ao],_ => exact ⟨ao,rfl⟩
     have hae : args.map a.eval = #[a.eval ao] := by apply zZD; simp [hao]
     have hx : Rp w X ρ H (ev e x) (a.eval ao) := hrep 0 _ _ rfl (by simp [hao])
     match ht : tys.toList,hl with
     | [],hl => simp [hm] at hl
     | _ :: _ :: _,hl => simp [hm] at hl
     | [t],hl =>
      have hty : tys = #[t] := by apply zZD; simpa using ht
      simp only [hm] at hl;refine zAC (s := Builtin.len_ #[t] o.type #[a.eval ao]) ?_ (by rw [hex,hae,hty]; rfl);cases hu : P.underlying t with
      | none => simp [hu] at hl
      | some d =>
       simp only [hu] at hl;cases d <;> simp at hl <;> subst hl <;> refine zRq ⟨?_,?_,?_⟩ h hx <;> intro hk <;> first | (cases hk; done) | exact hu | exact ⟨_,hu⟩ | exact ⟨_,_,hu⟩
  case append =>
   cases hm : lxs n args.toList with
   | none => simp [hm] at hl
   | some m =>
    obtain ⟨hlen,hrep⟩ := zCi he _ _ hm
    match m,hlen,hl with
    | [],_,hl => simp [hm] at hl
    | [_],_,hl => simp [hm] at hl
    | _ :: _ :: _ :: _,_,hl => simp [hm] at hl
    | [s,x],hlen,hl =>
     obtain ⟨so,xo,hao⟩ : ∃ so xo,args.toList = [so,xo] := by
      match h1 : args.toList,hlen with
      | [so,xo],_ => exact ⟨so,xo,rfl⟩
     have hae : args.map a.eval = #[a.eval so,a.eval xo] := by apply zZD; simp [hao]
     have hs : Rp w X ρ H (ev e s) (a.eval so) := hrep 0 _ _ rfl (by simp [hao]);have hx : Rp w X ρ H (ev e x) (a.eval xo) := hrep 1 _ _ rfl (by simp [hao])
     match ht : tys.toList,hl with
     | [],hl => simp [hm] at hl
     | [_],hl => simp [hm] at hl
     | _ :: _ :: _ :: _,hl => simp [hm] at hl
     | [t,u],hl =>
      have hty : tys = #[t,u] := by apply zZD; simpa using ht
      simp only [hm] at hl;cases hu : P.underlying t with
      | none => simp [hu] at hl
      | some d =>
       simp only [hu] at hl;cases d <;> simp only at hl <;> first | (cases hl; done) | skip
       rename_i el;cases hi : P.info? el with
       | none => simp [hi] at hl
       | some i =>
        cases hv : P.underlying u with
        | none => simp [hi,hv] at hl
        | some d2 =>
         simp only [hi,hv] at hl;have fin : (i.zero.map (·.cells.size)) = some i.size->lo = .append i.size i.bytes s x->(∀ k,d2 ≠ .int k)->zLZ P o a w X ρ H (zBb lo e H) := by
          intro hz hlo hd2;obtain ⟨z,hz1,hz2⟩ := zAo hz;subst hlo;exact zAC (s := Builtin.append_ #[t,u] o.type #[a.eval so,a.eval xo]) (zK8 hu ⟨d2,hv,hd2⟩ hi hz1 hz2 h hs hx) (by rw [hex,hae,hty]; rfl)
         cases d2 <;> simp only at hl <;> first | (cases hl; done) | skip
         case slice =>
          split at hl
          ·rename_i hc; exact fin hc.2 (by simpa using hl.symm) (fun k hk => by cases hk)
          ·cases hl
         case string =>
          split at hl
          ·rename_i hc; exact fin (by rw [hc.2,hc.1]) (by simpa using hl.symm) (fun k hk => by cases hk)
          ·cases hl
  case copy =>
   cases hm : lxs n args.toList with
   | none => simp [hm] at hl
   | some m =>
    obtain ⟨hlen,hrep⟩ := zCi he _ _ hm
    match m,hlen,hl with
    | [],_,hl => simp [hm] at hl
    | [_],_,hl => simp [hm] at hl
    | _ :: _ :: _ :: _,_,hl => simp [hm] at hl
    | [s,x],hlen,hl =>
     obtain ⟨so,xo,hao⟩ : ∃ so xo,args.toList = [so,xo] := by
      match h1 : args.toList,hlen with
      | [so,xo],_ => exact ⟨so,xo,rfl⟩
     have hae : args.map a.eval = #[a.eval so,a.eval xo] := by apply zZD; simp [hao]
     have hs : Rp w X ρ H (ev e s) (a.eval so) := hrep 0 _ _ rfl (by simp [hao]);have hx : Rp w X ρ H (ev e x) (a.eval xo) := hrep 1 _ _ rfl (by simp [hao])
     match ht : tys.toList,hl with
     | [],hl => simp [hm] at hl
     | [_],hl => simp [hm] at hl
     | _ :: _ :: _ :: _,hl => simp [hm] at hl
     | [t,u],hl =>
      have hty : tys = #[t,u] := by apply zZD; simpa using ht
      simp only [hm] at hl;cases hu : P.underlying t with
      | none => simp [hu] at hl
      | some d =>
       simp only [hu] at hl;cases d <;> simp only at hl <;> first | (cases hl; done) | skip
       rename_i el;cases hn : zCz P el with
       | none => simp [hn] at hl
       | some sz =>
        simp only [hn,zzag] at hl;split at hl
        ·rename_i hc;simp only [zYq] at hl;subst hl;exact zAC (s := Builtin.copy_ #[t,u] o.type #[a.eval so,a.eval xo]) (zO5 hu hn hc h hs hx) (by rw [hex,hae,hty]; rfl)
        ·cases hl
  case min =>
   cases hm : lxs n args.toList with
   | none => simp [hm] at hl
   | some m =>
    obtain ⟨hlen,hrep⟩ := zCi he _ _ hm
    match m,hlen,hl with
    | [],_,hl => simp [hm] at hl
    | [_],_,hl => simp [hm] at hl
    | _ :: _ :: _ :: _,_,hl => simp [hm] at hl
    | [s,x],hlen,hl =>
     obtain ⟨so,xo,hao⟩ : ∃ so xo,args.toList = [so,xo] := by
      match h1 : args.toList,hlen with
      | [so,xo],_ => exact ⟨so,xo,rfl⟩
     have hae : args.map a.eval = #[a.eval so,a.eval xo] := by apply zZD; simp [hao]
     have hs : Rp w X ρ H (ev e s) (a.eval so) := hrep 0 _ _ rfl (by simp [hao]);have hx : Rp w X ρ H (ev e x) (a.eval xo) := hrep 1 _ _ rfl (by simp [hao]);simp only [hm,zYq] at hl;subst hl;exact zAC (s := Builtin.min_ tys o.type #[a.eval so,a.eval xo]) (zRo h hs hx) (by rw [hex,hae]; rfl)
  case max =>
   cases hm : lxs n args.toList with
   | none => simp [hm] at hl
   | some m =>
    obtain ⟨hlen,hrep⟩ := zCi he _ _ hm
    match m,hlen,hl with
    | [],_,hl => simp [hm] at hl
    | [_],_,hl => simp [hm] at hl
    | _ :: _ :: _ :: _ :: _,_,hl => simp [hm] at hl
    | [s,x,z],hlen,hl =>
     obtain ⟨so,xo,zo,hao⟩ : ∃ so xo zo,args.toList = [so,xo,zo] := by
      match h1 : args.toList,hlen with
      | [so,xo,zo],_ => exact ⟨so,xo,zo,rfl⟩
     have hae : args.map a.eval = #[a.eval so,a.eval xo,a.eval zo] := by apply zZD; simp [hao]
     have hs : Rp w X ρ H (ev e s) (a.eval so) := hrep 0 _ _ rfl (by simp [hao]);have hx : Rp w X ρ H (ev e x) (a.eval xo) := hrep 1 _ _ rfl (by simp [hao]);have hz : Rp w X ρ H (ev e z) (a.eval zo) := hrep 2 _ _ rfl (by simp [hao]);simp only [hm,zYq] at hl;subst hl;exact zAC (s := Builtin.max_ tys o.type #[a.eval so,a.eval xo,a.eval zo]) (zO1 h hs hx hz) (by rw [hex,hae]; rfl)
    | [s,x],hlen,hl =>
     obtain ⟨so,xo,hao⟩ : ∃ so xo,args.toList = [so,xo] := by
      match h1 : args.toList,hlen with
      | [so,xo],_ => exact ⟨so,xo,rfl⟩
     have hae : args.map a.eval = #[a.eval so,a.eval xo] := by apply zZD; simp [hao]
     have hs : Rp w X ρ H (ev e s) (a.eval so) := hrep 0 _ _ rfl (by simp [hao]);have hx : Rp w X ρ H (ev e x) (a.eval xo) := hrep 1 _ _ rfl (by simp [hao]);simp only [hm,zYq] at hl;subst hl;exact zAC (s := Builtin.max_ tys o.type #[a.eval so,a.eval xo]) (zRp h hs hx) (by rw [hex,hae]; rfl)
end
section
variable {P : Program} {w : World} {X : Nat → Prop} {ρ : Nat → Loc} {H : zB} {e : Env} {a : Act} {n : Nat}
theorem zE1 (he : ER w X ρ H n e a) {o : Option Operand} {x : Option LX} (h : lxo n o = some x) : RpO w X ρ H (x.map (ev e)) (o.map a.eval) := by
 cases o with
 | none => simp [lxo] at h; subst h; trivial
 | some o =>
  obtain ⟨y,h1,h2⟩ := zAo h;subst h2;exact zAd he h1
theorem zQm {M : Nat->Prop} {ρ : Nat->Loc} {k : Nat} {y u : Value} (h : Rep w M ρ k (.v y) u) : u = y := by cases h; rfl
theorem zHY {M : Nat->Prop} {ρ : Nat->Loc} {k : Nat} : ∀ {cs : List AV} {l us : List Value},zHh cs = some l->cs.length = us.length->(∀ (i : Nat) (x : AV) (u : Value),cs[i]? = some x->us[i]? = some u->Rep w M ρ k x u)->us = l
 | [],l,us,h,hl,_ => by
  simp only [zHh,zYq] at h;subst h;exact zYQ.1 hl.symm
 | .v v :: cs,l,us,h,hl,hr => by
  match us,hl with
  | u :: us,hl =>
   simp only [zHh] at h;obtain ⟨m,hm,rfl⟩ := zAo h;have h1 := zQm (hr 0 _ _ rfl rfl);have h2 := zHY hm (us := us) (by simpa using hl) fun i x u hx hu => hr (i + 1) x u (by simpa using hx) (by simpa using hu);rw [h1,h2]
 | .any :: _,_,_,h,_,_ | .agg _ :: _,_,_,h,_,_ | .tup _ :: _,_,_,h,_,_ | .sl .. :: _,_,_,h,_,_ | .vp .. :: _,_,_,h,_,_ | .fn .. :: _,_,_,h,_,_ | .mp .. :: _,_,_,h,_,_
 | .os .. :: _,_,_,h,_,_ | .ptr .. :: _,_,_,h,_,_ | .pe .. :: _,_,_,h,_,_ | .om .. :: _,_,_,h,_,_ | .nc :: _,_,_,h,_,_ | .bnil _ :: _,_,_,h,_,_ => by cases h
theorem zJV {M : Nat->Prop} {ρ : Nat->Loc} {k : Nat} {x : AV} {v u : Value} (h : zOJ x = some v) (hr : Rep w M ρ k x u) : u = v := by
 cases x with
 | v y => simp only [zOJ,zYq] at h; subst h; exact zQm hr
 | agg cs =>
  simp only [zOJ] at h;obtain ⟨l,hl,rfl⟩ := zAo h;cases hr with
  | agg _ _ us h1 h2 =>
   have := zHY hl (us := us.toList) (by simpa using h1) fun i x u hx hu => h2 i x u hx (by simpa using hu);rw [<- this]
 | _ => cases h
theorem zIf {t : TypeId} {z : Value} (hz : zA6 P t = some z) (w : World) : (zeroValue t).run P w = .ok z w := by
 unfold zA6 at hz;cases hi : P.info? t with
 | none => simp [hi] at hz
 | some i => simp [hi] at hz; simp [zeroValue,typeInfo,hi,hz]
theorem zRf (v : Value) : vA v = zIZ v := by cases v <;> rfl
theorem zLG {d : Nat} {t : TypeId} {ms : Array (String × TypeId)} (ht : P.underlying t = some (.interface ms)) : (Op.equalIn (d + 1) t .nilIface .nilIface).run P w = .ok true w := by
 simp [Op.equalIn,run_underlying ht]
theorem zNW {t : TypeId} {ms : Array (String × TypeId)} (ht : P.underlying t = some (.interface ms)) : (Op.equal t .nilIface .nilIface).run P w = .ok true w := zLG (d := 9999) ht
theorem zJK {d : Nat} {t : TypeId} {ms : Array (String × TypeId)} {t' : TypeId} {v : Value} (ht : P.underlying t = some (.interface ms)) : (Op.equalIn (d + 1) t (.iface t' v) .nilIface).run P w = .ok false w := by
 simp [Op.equalIn,run_underlying ht]
theorem zLF {t : TypeId} {ms : Array (String × TypeId)} {t' : TypeId} {v : Value} (ht : P.underlying t = some (.interface ms)) : (Op.equal t (.iface t' v) .nilIface).run P w = .ok false w := zJK (d := 9999) ht
theorem zGV {op : BinOp} {t : TypeId} {x : Operand} {u : Value} : (eqGuard op t x (.const .nilIface) u .nilIface).run P w = .ok () w := by
 cases op <;> simp [eqGuard] <;> cases u <;> simp
theorem zO0 {o : Oper} {op : BinOp} {t yt : TypeId} {ox oy : Operand} {ms : Array (String × TypeId)} {neg : Bool} {x : AV} (ho : o.op = .binOp op t ox oy yt) (hu : P.underlying t = some (.interface ms)) (hq : zOD op = some neg) (hy : oy = .const .nilIface)
  (h : HRel w X ρ H) (hx : Rp w X ρ H x (a.eval ox)) : zLZ P o a w X ρ H (rNilI neg x H) := by
 subst hy;cases x with
 | v v =>
  have hv := zAV hx;cases v <;> first | exact zFV | skip
  case iface t' v =>
   intro _;refine ⟨.bool neg,w,ρ,.inl ?_,h,.v _ _,Fut.refl _ _ _⟩;unfold execOp;rw [ho];simp only [show a.eval (.const .nilIface) = .nilIface from rfl,hv];cases op <;> simp [zOD] at hq <;> subst hq <;> simp [zGV,binOp,zLF hu]
  case nilIface =>
   intro _;refine ⟨.bool (!neg),w,ρ,.inl ?_,h,.v _ _,Fut.refl _ _ _⟩;unfold execOp;rw [ho];simp only [show a.eval (.const .nilIface) = .nilIface from rfl,hv];cases op <;> simp [zOD] at hq <;> subst hq <;> simp [zGV,binOp,zNW hu]
 | _ => exact zFV
theorem zO7 {t xt : TypeId} {d : TypeDesc} {z : Value} {x : AV} {u : Value} (hu : P.underlying t = some d) (hni : ∀ ms,d ≠ .interface ms) (hz : zA6 P t = some z) (h : HRel w X ρ H) (hx : Rp w X ρ H x u) :
  zAX P (Instr.typeAssert u xt t true) w X ρ H (rAsrt t (zIZ z) x H) := by
 have two : ∀ (y : AV) (b : Bool) (v : Value),Rp w X ρ H y v->Rp w X ρ H (.tup [y,bool b]) (.tuple #[v,.bool b]) := fun y b v hv => by
  refine .tup _ _ _ rfl fun i x u hx hu => ?_
  match i with
  | 0 => simp at hx hu; subst hx; subst hu; exact hv
  | 1 => simp at hx hu; subst hx; subst hu; exact .v _ _
  | n + 2 => simp at hx
 cases x with
 | v v =>
  have hv := zAV hx;subst hv;cases u <;> first | exact zE | skip
  case iface t' v =>
   refine zX h fun _ => ?_;by_cases ht : t' = t
   ·rw [if_pos ht];refine ⟨.tuple #[v,.bool true],?_,two _ _ _ (by rw [zRf]; exact zDz v)⟩;unfold Instr.typeAssert;rw [Sem.run_bind,run_underlying hu,Result.andThen_ok];cases d <;> first | exact absurd rfl (hni _) | simp [ht]
   ·rw [if_neg ht];refine ⟨.tuple #[z,.bool false],?_,two _ _ _ (zDz z)⟩;unfold Instr.typeAssert;rw [Sem.run_bind,run_underlying hu,Result.andThen_ok];cases d <;> first | exact absurd rfl (hni _) | simp [ht,zIf hz]
  case nilIface =>
   refine zX h fun _ => ⟨.tuple #[z,.bool false],?_,two _ _ _ (zDz z)⟩;unfold Instr.typeAssert;rw [Sem.run_bind,run_underlying hu,Result.andThen_ok];cases d <;> first | exact absurd rfl (hni _) | simp [zIf hz]
 | _ => exact zE
theorem zK5 {t kt el : TypeId} {x : AV} {u : Value} (hu : P.underlying t = some (.map kt el)) (h : HRel w X ρ H) (hx : Rp w X ρ H x u) : zAX P (Instr.range t u) w X ρ H (rRangeM x H) := by
 cases x with
 | mp ks vs =>
  intro _;have hx' := hx.of_cl (by simp [AV.cl]);cases hx with
  | mp _ _ _ m es clock hm hb hh hks hvs hr =>
   have hle : ks.length = es.size := by rw [hks.1]; simp
   have hle2 : ∀ i,i ∈ List.range ks.length ↔ ∃ e,es[i]? = some e/\(#[] : Array Nat).contains e.born = false := by
    intro i;rw [zY9,hle];constructor
    ·intro hi; exact ⟨es[i],by simp [hi],by simp⟩
    ·rintro ⟨e,he,_⟩; exact (zYJ.1 he).1
   obtain ⟨ρ',hl,hrel,hf⟩ := h.push (w' := w.alloc (.mapIter (some m) clock #[] clock)) { blk := some (w.heap.size,0) } (.mit ks vs (List.range ks.length) none) (Same.alloc _ _) (fun b o hb => by simp at hb; obtain ⟨rfl,_⟩ := hb; simp) (zAW w _)
    (fun ρ' hf hl' => ⟨rfl,w.heap.size,m,es,clock,clock,#[],clock,rfl,zBE w _,by rw [zAW w _ m hb]; exact hh,hx'.next hf (zYO _),hks.2.1,⟨zYH _,zYH _⟩,hle2,fun i hi => by cases hi⟩)
   refine ⟨.pointer (some ⟨w.heap.size,0,none⟩),_,ρ',run_range_map w t kt el m es clock hu hh,hrel,?_,hf⟩;exact .ptr _ _ _ _ _ (by show H.length < (H ++ [_]).length; simp) (by rw [hl]; exact zYH _) rfl fun _ => ⟨w.heap.size,0,by rw [hl],rfl⟩
 | _ => exact zE
theorem zPw {es : Array MapEntry} {seen : Array Nat} {e : MapEntry} {i : Nat} (hnd : (es.toList.map (·.born)).Nodup) (he : es[i]? = some e) (j : Nat) :
  ((∃ e',es[j]? = some e'/\seen.contains e'.born = false)/\j ≠ i) ↔ ∃ e',es[j]? = some e'/\(seen.push e.born).contains e'.born = false := by
 have hinj : ∀ e',es[j]? = some e'->e'.born = e.born->j = i := by
  intro e' he' hb;have hj : j < (es.toList.map (·.born)).length := by simp; exact (zYJ.1 he').1
  have hi : i < (es.toList.map (·.born)).length := by simp; exact (zYJ.1 he).1
  obtain ⟨_,h1⟩ := zYJ.1 he';obtain ⟨_,h2⟩ := zYJ.1 he;have heq : (es.toList.map (·.born))[j] = (es.toList.map (·.born))[i] := by simp [h1,h2,hb]
  have hp := List.pairwise_iff_getElem.1 hnd;rcases zzaN j i with hlt | hlt | hlt
  ·exact absurd heq (hp j i hj hi hlt)
  ·exact hlt
  ·exact absurd heq.symm (hp i j hi hj hlt)
 constructor
 ·rintro ⟨⟨e',he',hs⟩,hne⟩;refine ⟨e',he',?_⟩;have : e'.born ≠ e.born := fun hb => hne (hinj e' he' hb);simp at hs ⊢;exact ⟨hs,this⟩
 ·rintro ⟨e',he',hs⟩;simp at hs;refine ⟨⟨e',he',by simpa using hs.1⟩,fun hji => ?_⟩;subst hji;rw [he] at he';cases he';exact hs.2 rfl
theorem zQB {r : Nat} {ks : List Value} {vs : List AV} {left : List Nat} {cur : Option Nat} {u : Value} (h : HRel w X ρ H) (hx : Rp w X ρ H (.ptr r 0 0) u) (ho : H[r]? = some (.mit ks vs left cur)) :
  ∃ b m es clock since seen c0,r < H.length/\u = .pointer (some ⟨b,0,none⟩)/\(ρ r).blk = some (b,0)/\(ρ r).ver = 0/\w.heap[b]? = some (.mapIter (some m) since seen c0)/\w.heap[m]? = some (.map es clock)/\Rep w (Mut X ρ H.length) ρ 0 (.mp ks vs) (.map (some m))/\zVD es clock since seen c0 left cur := by
 obtain ⟨h1,b,m,es,clock,since,seen,c0,h2,h3,h4,h5,h6⟩ := h.objs r _ ho;cases hx with
 | ptr _ _ _ _ _ hr hle hone hp =>
  obtain ⟨b',o',hb',rfl⟩ := hp h1.symm;rw [h2] at hb';simp only [zYq,zYS] at hb';obtain ⟨rfl,rfl⟩ := hb';exact ⟨b,m,es,clock,since,seen,c0,hr,rfl,h2,h1,h3,h4,h5,h6⟩
theorem zNe {ks : List Value} {vs : List AV} {m : Nat} {es : Array MapEntry} {clock : Nat} (hrep : Rep w (Mut X ρ H.length) ρ 0 (.mp ks vs) (.map (some m))) (hm : w.heap[m]? = some (.map es clock)) :
  zWS ks es clock/\vs.length = es.size/\¬ Mut X ρ H.length m/\m < w.heap.size/\∀ (i : Nat) (e : MapEntry),es[i]? = some e->ks.getD i default = e.key/\Rep w (Mut X ρ H.length) ρ 0 (vs.getD i .any) e.val := by
 cases hrep with
 | mp _ _ _ _ es' clock' hmm hb hh hks hvs hr =>
  rw [hm] at hh;simp only [zYq,Obj.map.injEq] at hh;obtain ⟨rfl,rfl⟩ := hh;refine ⟨hks,hvs,hmm,hb,fun i e he => ⟨?_,?_⟩⟩
  ·rw [hks.1]; simp [zYI,he]
  ·have hi : i < es.size := (zYJ.1 he).1;have hv : vs[i]? = some (vs.getD i .any) := by
    rw [zYI,zYK (by omega),zZj]
   exact hr i _ e hv he
theorem zK7 {x : AV} {u : Value} (h : HRel w X ρ H) (hx : Rp w X ρ H x u) : zAX P (Instr.entry u) w X ρ H (rEntryM x H) := by
 unfold rEntryM;split
 ·rename_i r;unfold rEntryO;split
  ·rename_i ks vs left i ho;refine zX h fun _ => ?_;obtain ⟨b,m,es,clock,since,seen,c0,hr,rfl,h2,h1,h3,h4,h5,h6⟩ := zQB h hx ho;obtain ⟨g1,g2,g3,g4⟩ := h6;obtain ⟨e,seen0,he,rfl,rfl⟩ := g4 i rfl;obtain ⟨hks,hvs,_,_,hkv⟩ := zNe h5 h4;obtain ⟨k1,k2⟩ := hkv i e he;have hmem : e ∈ es.toList := by
    obtain ⟨hi,rfl⟩ := zYJ.1 he;simp
   refine ⟨_,run_entry_at w b m since seen0 es _ e h3 h4 hmem hks.2.2,?_⟩;refine .tup _ _ _ rfl fun j x u hx hu => ?_
   match j with
   | 0 => simp at hx hu; subst hx; subst hu; rw [<- k1,zYI]; exact .v _ _
   | 1 => simp at hx hu; subst hx; subst hu; rw [<- zYI]; exact k2.mono (zYO _)
   | n + 2 => simp at hx
  ·exact zE
 ·exact zE
theorem zMn {ty : TypeId} {K : AV->zB->Prop} {x : AV} {u : Value} (h : HRel w X ρ H) (hx : Rp w X ρ H x u) (hk : nextA x H K) :
  ∃ u' x' H' w' ρ',(Instr.next u false ty).run P w = .ok u' w'/\K x' H'/\HRel w' X ρ' H'/\Rep w' (Mut X ρ' H'.length) ρ' H'.length x' u'/\Fut w ρ H.length w' ρ' H'.length := by
 unfold nextA at hk;split at hk
 ·rename_i r;unfold zR0 at hk;split at hk
  ·rename_i ks vs left cur ho;obtain ⟨k0,k1⟩ := hk;obtain ⟨b,m,es,clock,since,seen,c0,hr,rfl,h2,h1,h3,h4,h5,h6⟩ := zQB h hx ho;obtain ⟨g1,g2,g3,g4⟩ := h6;obtain ⟨hks,hvs,hmm,hmlt,hkv⟩ := zNe h5 h4;rcases run_next_at (P := P) w ty b m since c0 seen es clock h3 h4 g1 g2.1 with ⟨hl0,hrun⟩ | ⟨e,hel,w1,hw1,hrun⟩
   ·have hle : left = [] := by
     apply zZk.2;intro i hi;obtain ⟨e,he,hs⟩ := (g3 i).1 hi;have hmem : e ∈ leftOf es seen := by
      unfold leftOf;rw [Array.mem_filter];exact ⟨Array.mem_of_getElem? he,by simpa using hs⟩
     have := Array.size_pos_of_mem hmem;omega
    refine ⟨_,_,_,w,ρ,hrun,k0 hle,h,?_,Fut.refl _ _ _⟩;refine .tup _ _ _ rfl fun j x u hx hu => ?_
    match j with
    | 0 => simp at hx hu; subst hx; subst hu; exact .v _ _
    | n + 1 => simp at hx
   ·have hel' : e ∈ es/\seen.contains e.born = false := by
     have : e ∈ leftOf es seen := by simpa using hel
     unfold leftOf at this;rw [Array.mem_filter] at this;exact ⟨this.1,by simpa using this.2⟩
    obtain ⟨i,hi,hie⟩ := Array.getElem_of_mem hel'.1;have he : es[i]? = some e := by rw [zYJ]; exact ⟨hi,hie⟩
    have hil : i ∈ left := (g3 i).2 ⟨e,he,hel'.2⟩;obtain ⟨q1,q2⟩ := hkv i e he;have hne : b ≠ m := fun hh => by subst hh; rw [h3] at h4; cases h4
    have hsame : Same w w1 := by rcases hw1 with rfl | rfl; exact Same.refl _; exact Same.drew _
    have hheap : w1.heap = w.heap := by rcases hw1 with rfl | rfl <;> rfl
    have hblt : b < w.heap.size := (h.lt r b 0 hr h2).1;obtain ⟨ρ',hρ,hrel,hfu⟩ := h.setAt (w' := ChangeMaps.setBlock w1 b (.mapIter (some m) since (seen.push e.born) clock)) hr (ρ r) (.mit ks vs (left.filter fun j => !decide (j = i)) (some i))
     ⟨hsame.os,hsame.tape,hsame.output,by simp [ChangeMaps.setBlock,hheap]⟩ (.inl rfl) (fun b o hb => .inl ⟨o,hb⟩)
     (fun b' _ hne' => by
      have : b ≠ b' := fun hh => hne' 0 (by rw [<- hh]; exact h2);simp [ChangeMaps.setBlock,hheap,zZr this])
     (fun ρ' _ hf' => by
      refine ⟨h1,b,m,es,clock,since,seen.push e.born,clock,h2,by simp [ChangeMaps.setBlock,hheap,hblt],by simp [ChangeMaps.setBlock,hheap,zZr hne]; exact h4,h5.next hf' (zYO _),g1,?_,fun j => ?_,?_⟩
      ·exact ⟨g2.2,g2.2⟩
      ·rw [zZ4,g3 j,<- zPw hks.2.2 he j];simp
      ·intro j hj;cases hj;exact ⟨e,seen,he,rfl,rfl⟩)
    refine ⟨_,_,_,_,ρ',hrun,k1 i hil,hrel,?_,hfu⟩;refine .tup _ _ _ rfl fun j x u hx hu => ?_
    match j with
    | 0 => simp at hx hu; subst hx; subst hu; exact .v _ _
    | 1 => simp at hx hu; subst hx; subst hu; rw [<- q1,zYI]; exact .v _ _
    | 2 => simp at hx hu; subst hx; subst hu; rw [<- zYI]; exact (q2.next hfu (zYO _)).mono (zYO _)
    | n + 3 => simp at hx
  ·exact hk.elim
 ·exact hk.elim
theorem zLq {src dst : TypeId} {x : Operand} {lo : LOp} {o : Oper} (ho : o.op = .convert src dst x) (hl : zF2 P n src dst x = some lo) (h : HRel w X ρ H) (he : ER w X ρ H n e a) : zLZ P o a w X ρ H (zBb lo e H) := by
 have hex : execOp a.eval o = (do pure (.value (<- convert src dst (a.eval x)))) := by unfold execOp; rw [ho]
 unfold zF2 at hl;cases hs : P.underlying src with
 | none => simp [hs] at hl
 | some sd =>
  cases hd : P.underlying dst with
  | none => cases sd <;> simp [hs,hd] at hl
  | some dd =>
   cases hx : lx n x with
   | none => cases sd <;> cases dd <;> simp [hs,hd,hx] at hl
   | some y =>
    have hr := zAd he hx;cases sd <;> cases dd <;> simp [hs,hd,hx] at hl
    case int.int => subst hl; exact zAC (zD0 ⟨⟨_,hs⟩,hd⟩ h hr) hex
    case int.string => subst hl; exact zAC (zD0 ⟨⟨_,hs⟩,hd⟩ h hr) hex
    case string.string => subst hl; exact zAC (zD0 ⟨hs,hd⟩ h hr) hex
    case string.slice el =>
     cases hu : P.underlying el with
     | none => simp [hu] at hl
     | some ud =>
      cases ud <;> simp [hu] at hl;rename_i k;cases k <;> simp at hl;subst hl;exact zAC (zD0 ⟨hs,el,hd,hu⟩ h hr) hex
    case slice.string el =>
     cases hu : P.underlying el with
     | none => simp [hu] at hl
     | some ud =>
      cases ud <;> simp [hu] at hl;rename_i k;cases k <;> first | (simp at hl; done) | skip
      cases hz : zCz P el with
      | none => simp [hz] at hl
      | some z =>
       match z,hl with
       | 1,hl =>
        simp [hz] at hl;subst hl;exact zAC (zD0 ⟨⟨el,hs,hu⟩,hd⟩ h hr) hex
       | 0,hl => simp [hz] at hl
       | _ + 2,hl => simp [hz] at hl
    case slice.slice el el2 =>
     cases hu : P.underlying el with
     | none => simp [hu] at hl
     | some ud =>
      cases ud <;> simp [hu] at hl;rename_i k;cases k <;> simp at hl;obtain ⟨h1,hl⟩ := hl;subst hl;exact zAC (zD0 ⟨el,hs,hu,h1⟩ h hr) hex
theorem zNk {imm : Bool} {o : Oper} {lo : LOp} (hl : zDH P n imm o = some lo) (hp : zCP lo = true) (h : HRel w X ρ H) (he : ER w X ρ H n e a) : zLZ P o a w X ρ H (zBb lo e H) := by
 unfold zDH at hl;cases ho : o.op <;> rw [ho] at hl <;> simp only at hl <;> first | (cases hl; done) | skip
 case move x =>
  obtain ⟨y,h1,rfl⟩ := zAo hl;intro _;exact ⟨_,w,ρ,.inl (by unfold execOp; rw [ho]; rfl),h,zAd he h1,Fut.refl _ _ _⟩
 case assign x =>
  obtain ⟨y,h1,rfl⟩ := zAo hl;intro _;exact ⟨_,w,ρ,.inl (by unfold execOp; rw [ho]; rfl),h,zAd he h1,Fut.refl _ _ _⟩
 case pick c x y =>
  cases hc : lx n c <;> cases hx : lx n x <;> cases hy : lx n y <;> simp [hc,hx,hy] at hl;subst hl;simp [zCP] at hp
 case alloc t =>
  cases hz : zA6 P t with
  | none => simp [hz] at hl
  | some z =>
   simp only [hz,zYq] at hl;subst hl;split
   ·exact zAC (zK9 hz h) (by unfold execOp; rw [ho])
   ·exact zAC (zMq hz h) (by unfold execOp; rw [ho])
 case box t x =>
  obtain ⟨y,h1,rfl⟩ := zAo hl;exact zAC (zRv h (zAd he h1)) (by unfold execOp; rw [ho])
 case build t ps =>
  unfold zFv at hl;cases hz : zA6 P t with
  | none => simp [hz] at hl
  | some z =>
   cases z <;> simp only [hz] at hl <;> first | (cases hl; done) | skip
   rename_i z;cases hu : P.underlying t with
   | none => simp [hu] at hl
   | some d =>
    cases d <;> simp only [hu] at hl <;> first | (cases hl; done) | skip
    case struct fs =>
     cases hpl : zCJ P fs.toList with
     | none => simp [hpl] at hl
     | some pl =>
      simp only [hpl] at hl;obtain ⟨m,h1,rfl⟩ := zAo hl;refine zAC (s := Instr.build t (ps.map fun (i,x) => (i,a.eval x))) (zFe hz hu hpl h ?_) (by unfold execOp; rw [ho]);have := zF0 he _ _ h1
      simpa using this
    case array k el =>
     cases hs : zCz P el with
     | none => simp [hs] at hl
     | some sz =>
      simp only [hs] at hl;obtain ⟨m,h1,rfl⟩ := zAo hl;refine zAC (s := Instr.build t (ps.map fun (i,x) => (i,a.eval x))) (zFP hz hu hs h ?_) (by unfold execOp; rw [ho]);have := zF0 he _ _ h1
      simpa using this
 case buildSlice t len ps =>
  unfold zKn at hl;cases hu : P.underlying t with
  | none => simp [hu] at hl
  | some d =>
   cases d <;> simp only [hu] at hl <;> first | (cases hl; done) | skip
   rename_i el;cases hs : zCz P el with
   | none => simp [hs] at hl
   | some sz =>
    cases hz : zA6 P el with
    | none => simp [hs,hz] at hl
    | some z =>
     cases hm : zJy n ps.toList with
     | none => simp [hs,hz,hm] at hl
     | some m =>
      simp only [hs,hz,hm] at hl;split at hl
      ·rename_i hc;simp only [zYq] at hl;subst hl;refine zAC (s := Instr.buildSlice t len (ps.map fun (i,x) => (i,a.eval x))) (zRu hu hs hz hc.1 hc.2.1 hc.2.2.1 hc.2.2.2 h ?_) (by unfold execOp; rw [ho]);have := zIw he _ _ hm
       simpa using this
      ·cases hl
 case makeMap t r =>
  cases r with
  | some r => cases hl
  | none =>
   simp only [zYq] at hl;subst hl;exact zAC (zMo h) (by unfold execOp; rw [ho]; rfl)
 case insert t m k x =>
  cases hu : P.underlying t with
  | none => simp [hu] at hl
  | some d =>
   cases d <;> simp only [hu] at hl <;> first | (cases hl; done) | skip
   rename_i kt el;cases hm : lx n m <;> cases hk : lx n k <;> cases hx : lx n x <;> simp only [hm,hk,hx] at hl <;> first | (cases hl; done) | skip
   obtain ⟨kd,h1,rfl⟩ := zAo hl;exact zM5 (zMp hu h1 h (zAd he hm) (zHC (zAd he hk)) (zAd he hx)) (by unfold execOp; rw [ho])
 case mapUpdate t m k x =>
  cases hu : P.underlying t with
  | none => simp [hu] at hl
  | some d =>
   cases d <;> simp only [hu] at hl <;> first | (cases hl; done) | skip
   rename_i kt el;cases hm : lx n m <;> cases hk : lx n k <;> cases hx : lx n x <;> simp only [hm,hk,hx] at hl <;> first | (cases hl; done) | skip
   obtain ⟨kd,h1,rfl⟩ := zAo hl;exact zM5 (zMp hu h1 h (zAd he hm) (zHC (zAd he hk)) (zAd he hx)) (by unfold execOp; rw [ho])
 case load t p =>
  cases hag : zE6 P t <;> cases hs : zCz P t <;> cases hx : lx n p <;> simp only [hag,hs,hx] at hl <;> first | (cases hl; done) | skip
  simp only [zYq] at hl;subst hl;cases imm with
  | false => exact zAC (zJ3 hag hs h (zAd he hx)) (by unfold execOp; rw [ho])
  | true =>
   refine zAC (r := zCo _ _ _ H) (fun hok => ?_) (by unfold execOp; rw [ho]);have hr := zAd he hx;generalize ev e _ = x at hok hr ⊢;cases x <;> first | exact hok.elim | exact zJ3 hag hs h hr hok
 case store t p x =>
  cases hs : zCz P t <;> cases hq : lx n p <;> cases hx : lx n x <;> simp only [hs,hq,hx] at hl <;> first | (cases hl; done) | skip
  simp only [zYq] at hl;subst hl;exact zM5 (zMm hs h (zAd he hq) (zAd he hx)) (by unfold execOp; rw [ho])
 case nilCheck x =>
  obtain ⟨y,h1,rfl⟩ := zAo hl;exact zK6 ho rfl h (zAd he h1)
 case binOp op t x y yt =>
  unfold zKo at hl;have fin : ∀ kd,zH6 P t = some kd->∀ x' y',lx n x = some x'->lx n y = some y'->zLZ P o a w X ρ H (zBb (.bin kd op x' y') e H) := fun kd hk x' y' hx hy =>
   zAC (zRw hk h (zAd he hx) (zAd he hy)) (by unfold execOp; rw [ho])
  have fin2 : (match zH6 P t,lx n x,lx n y with | some kd,some x,some y => some (LOp.bin kd op x y) | _,_,_ => none) = some lo->zLZ P o a w X ρ H (zBb lo e H) := by
   intro hl;cases hk : zH6 P t <;> cases hx : lx n x <;> cases hy : lx n y <;> simp only [hk,hx,hy] at hl <;> first | (cases hl; done) | skip
   simp only [zYq] at hl;subst hl;exact fin _ hk _ _ hx hy
  cases hu : P.underlying t with
  | none => rw [hu] at hl; exact fin2 hl
  | some d =>
   rw [hu] at hl;cases d <;> first | exact fin2 hl | skip
   case slice el =>
    cases hq : zOD op <;> cases hx : lx n x <;> simp only [hq,hx] at hl <;> first | (cases hl; done) | skip
    split at hl
    ·simp only [zYq] at hl; subst hl; simp [zCP] at hp
    ·cases hl
   case interface ms =>
    cases hq : zOD op <;> cases hx : lx n x <;> simp only [hq,hx] at hl <;> first | (cases hl; done) | skip
    rename_i neg lxx;split at hl
    ·rename_i hnc;simp only [zYq] at hl;subst hl;have hy : y = .const .nilIface := by
      cases y with
      | const v => cases v <;> first | rfl | (simp [zNz] at hnc; done)
      | _ => simp [zNz] at hnc
     exact zO0 ho hu hq hy h (zAd he hx)
    ·cases hl
 case unOp op t x =>
  cases op <;> simp only at hl <;> first | (cases hl; done) | skip
  case not =>
   obtain ⟨y,h1,rfl⟩ := zAo hl;exact zAC (zRl h (zAd he h1)) (by unfold execOp; rw [ho])
  case neg =>
   obtain ⟨y,h1,rfl⟩ := zAo hl;exact zAC (zRm h (zAd he h1)) (by unfold execOp; rw [ho])
 case convert src dst x => exact zLq ho hl h he
 case makeFunc f first caps =>
  cases hf : lxs n first.toList <;> cases hc : lxs n caps.toList <;> simp only [hf,hc] at hl <;> first | (cases hl; done) | skip
  simp only [zYq] at hl;subst hl;obtain ⟨h1,h2⟩ := zCi he _ _ hf;obtain ⟨h3,h4⟩ := zCi he _ _ hc;intro _;refine ⟨.func f (first.map a.eval) (caps.map a.eval),w,ρ,.inl (by unfold execOp; rw [ho]; rfl),h,?_,Fut.refl _ _ _⟩;refine .fn _ _ _ _ _ _ (by simpa using h1) (by simpa using h3) (fun i x u hx hu => h2 i x u hx (by simpa using hu)) (fun i x u hx hu => h4 i x u hx (by simpa using hu))
 case makeSlice t l c =>
  cases hu : P.underlying t with
  | none => simp [hu] at hl
  | some d =>
   cases d <;> simp only [hu] at hl <;> first | (cases hl; done) | skip
   rename_i el;cases hx : lx n l <;> cases hy : lx n c <;> simp only [hx,hy] at hl <;> first | (cases hl; done) | skip
   cases hi : P.info? el with
   | none => simp [hi] at hl
   | some i =>
    simp only [hi] at hl;cases hz : i.zero with
    | none => simp [hz] at hl
    | some z =>
     simp only [hz] at hl;split at hl
     ·rename_i hc;simp only [zYq] at hl;subst hl;exact zAC (zRn hu hi hz hc.1 hc.2.1 hc.2.2 h (zAd he hx) (zAd he hy)) (by unfold execOp; rw [ho])
     ·cases hl
 case slice t x l hi mx =>
  cases mx with
  | some m => cases hl
  | none =>
   cases hu : P.underlying t with
   | none => simp [hu] at hl
   | some d =>
    cases d <;> simp only [hu] at hl <;> first | (cases hl; done) | skip
    case string =>
     cases hx : lx n x <;> cases h1 : lxo n l <;> cases h2 : lxo n hi <;> simp only [hx,h1,h2] at hl <;> first | (cases hl; done) | skip
     simp only [zYq] at hl;subst hl;exact zAC (s := Instr.sliceAt t (a.eval x) (l.map a.eval) (hi.map a.eval) none) (zFO (.inl ⟨rfl,hu⟩) h (zAd he hx) (zE1 he h1) (zE1 he h2)) (by unfold execOp; rw [ho]; rfl)
    case slice el =>
     cases hx : lx n x <;> cases h1 : lxo n l <;> cases h2 : lxo n hi <;> simp only [hx,h1,h2] at hl <;> first | (cases hl; done) | skip
     obtain ⟨sz,hs,rfl⟩ := zAo hl;cases imm with
     | false => exact zAC (s := Instr.sliceAt t (a.eval x) (l.map a.eval) (hi.map a.eval) none) (zFO (.inr ⟨rfl,el,hu,hs⟩) h (zAd he hx) (zE1 he h1) (zE1 he h2)) (by unfold execOp; rw [ho]; rfl)
     | true =>
      refine zAC (s := Instr.sliceAt t (a.eval x) (l.map a.eval) (hi.map a.eval) none) (r := zDi _ _ _ _ _ H) (fun hok => ?_) (by unfold execOp; rw [ho]; rfl);have hr := zAd he hx;have g1 := zE1 he h1;have g2 := zE1 he h2;generalize ev e _ = x0 at hok hr ⊢;cases x0 <;> first | exact hok.elim | exact zFO (.inr ⟨rfl,el,hu,hs⟩) h hr g1 g2 hok
 case fieldAddr s p f =>
  cases hu : P.underlying s with
  | none => simp [hu] at hl
  | some d =>
   cases d <;> simp only [hu] at hl <;> first | (cases hl; done) | skip
   rename_i fs;cases hx : lx n p with
   | none => simp [hx] at hl
   | some y =>
    simp only [hx] at hl;cases hf : fs[f]? with
    | none => simp [hf] at hl
    | some fd =>
     simp only [hf] at hl;cases hn : zCz P fd.type with
     | none => simp [hn] at hl
     | some k =>
      cases k with
      | zero => simp [hn] at hl
      | succ k =>
       simp only [hn,zYq] at hl;subst hl;cases imm with
       | false => exact zAC (zIc hu hf hn (by omega) h (zAd he hx)) (by unfold execOp; rw [ho])
       | true =>
        refine zAC (r := zBG _ _ H) (fun hok => ?_) (by unfold execOp; rw [ho]);have hr := zAd he hx;generalize ev e _ = x at hok hr ⊢;cases x <;> first | exact hok.elim | exact zIc hu hf hn (by omega) h hr hok
 case field s x f =>
  cases hu : P.underlying s with
  | none => simp [hu] at hl
  | some d =>
   cases d <;> simp only [hu] at hl <;> first | (cases hl; done) | skip
   rename_i fs;cases hx : lx n x with
   | none => simp [hx] at hl
   | some y =>
    simp only [hx] at hl;cases hf : fs[f]? with
    | none => simp [hf] at hl
    | some fd =>
     simp only [hf] at hl;cases hag : zE6 P fd.type <;> cases hn : zCz P fd.type <;> simp only [hag,hn] at hl <;> first | (cases hl; done) | skip
     simp only [zYq] at hl;subst hl;exact zAC (zRs hu hf hag hn h (zAd he hx)) (by unfold execOp; rw [ho])
 case indexAddr t x i =>
  cases hu : P.underlying t with
  | none => simp [hu] at hl
  | some d =>
   cases d <;> simp only [hu] at hl <;> first | (cases hl; done) | skip
   cases hx : lx n x <;> cases hi : lx n i <;> simp only [hx,hi] at hl <;> first | (cases hl; done) | skip
   obtain ⟨sz,hs,rfl⟩ := zAo hl;cases imm with
   | false => exact zAC (zIb hu hs h (zAd he hx) (zAd he hi)) (by unfold execOp; rw [ho])
   | true =>
    refine zAC (r := zDj _ _ _ H) (fun hok => ?_) (by unfold execOp; rw [ho]);have hr := zAd he hx;have hr2 := zAd he hi;generalize ev e _ = x at hok hr ⊢;cases x <;> first | exact hok.elim | exact zIb hu hs h hr hr2 hok
 case index t x i =>
  cases hu : P.underlying t with
  | none => simp [hu] at hl
  | some d =>
   cases d <;> simp only [hu] at hl <;> first | (cases hl; done) | skip
   cases hx : lx n x <;> cases hi : lx n i <;> simp only [hx,hi] at hl <;> first | (cases hl; done) | skip
   simp only [zYq] at hl;subst hl;exact zAC (zRr hu h (zAd he hx) (zAd he hi)) (by unfold execOp; rw [ho])
 case lookup t m k ok =>
  cases hu : P.underlying t with
  | none => simp [hu] at hl
  | some d =>
   cases d <;> simp only [hu] at hl <;> first | (cases hl; done) | skip
   cases hx : lx n m <;> cases hi : lx n k <;> simp only [hx,hi] at hl <;> first | (cases hl; done) | skip
   rename_i kt el _ _;cases hk : zF5 P kt <;> cases hz : zA6 P el <;> simp only [hk,hz] at hl <;> first | (cases hl; done) | skip
   simp only [zYq] at hl;subst hl;exact zAC (zO2 hu hk hz h (zAd he hx) (zHC (zAd he hi))) (by unfold execOp; rw [ho])
 case extract x i =>
  obtain ⟨y,h1,rfl⟩ := zAo hl;exact zAC (zRt h (zAd he h1)) (by unfold execOp; rw [ho])
 case typeAssert x xt t ok =>
  cases ok with
  | false => cases hl
  | true =>
   simp only at hl;cases hu : P.underlying t with
   | none => simp [hu] at hl
   | some d =>
    have hni : ∀ ms,d ≠ .interface ms := by
     rintro ms rfl;simp [hu] at hl
    cases hx : lx n x <;> cases hz : zA6 P t <;> cases d <;> simp only [hu,hx,hz] at hl <;> first | (cases hl; done) | skip
    all_goals
     simp only [zYq] at hl;subst hl;exact zAC (zO7 hu hni hz h (zAd he hx)) (by unfold execOp; rw [ho])
 case makeInterface t x =>
  cases hx : lx n x <;> cases hu : P.underlying t <;> simp only [hx,hu] at hl <;> first | (cases hl; done) | skip
  rename_i y d;split at hl
  ·rename_i hni;simp only [zYq] at hl;subst hl;refine zAC (s := Instr.makeInterface t (a.eval x)) ?_ (by unfold execOp; rw [ho]);have hr := zAd he hx;simp only [zBb,rMkif];cases hv : zOJ (ev e y) with
   | none => exact zE
   | some v =>
    refine zX h fun _ => ⟨.iface t v,?_,.v _ _⟩;rw [zJV hv hr];cases d <;> simp [zFu] at hni <;> simp [Instr.makeInterface,run_underlying hu]
  ·cases hl
 case range t x =>
  cases hu : P.underlying t with
  | none => simp [hu] at hl
  | some d =>
   cases d <;> simp only [hu] at hl <;> first | (cases hl; done) | skip
   obtain ⟨y,h1,rfl⟩ := zAo hl;exact zAC (zK5 hu h (zAd he h1)) (by unfold execOp; rw [ho])
 case next x s =>
  cases s with
  | true => cases hl
  | false =>
   obtain ⟨y,h1,rfl⟩ := zAo hl;simp [zCP] at hp
 case panic x =>
  obtain ⟨y,h1,rfl⟩ := zAo hl;exact zFV
 case entry x =>
  obtain ⟨y,h1,rfl⟩ := zAo hl;exact zAC (zK7 h (zAd he h1)) (by unfold execOp; rw [ho])
 case call c =>
  split at hl
  ·exact zJC ho hl hp h he
  ·exact zLr ho hl hp h he
end
set_option linter.unusedVariables false
section
variable {P : Program} {w : World} {X : Nat → Prop} {ρ : Nat → Loc} {H : zB} {e : Env} {a : Act} {n : Nat}
abbrev Cont (X : Nat->Prop) (w : World) (ρ : Nat->Loc) (H : zB) (a : Act) (d : Option Nat) (K : AV->zB->Prop) (next : Act->World->Prop) : Prop :=
 ∀ u x H' ρ' w',K x H'->HRel w' X ρ' H'->Rep w' (Mut X ρ' H'.length) ρ' H'.length x u->Fut w ρ H.length w' ρ' H'.length->next (a.put d u) w'
theorem zOn {lo : LOp} (hp : zCP lo = true) {K : AV->zB->Prop} (h : aop P lo e H K) : (zBb lo e H).ok/\K (zBb lo e H).x (zBb lo e H).H := by
 cases lo <;> first | exact h | (simp [zCP] at hp)
theorem zLa {x : AV} {u : Value} (h : HRel w X ρ H) (hx : Rp w X ρ H x u) (hs : slcK H x) : ∃ b l c,u = .slice b l c/\nilOk x b.isNone := by
 cases x with
 | v x =>
  have := zAV hx; subst this;cases u with
  | slice b l c => cases b <;> cases l <;> cases c <;> simp [slcK] at hs; exact ⟨_,_,_,rfl,rfl⟩
  | _ => simp [slcK] at hs
 | sl sz xs =>
  cases hx with
  | slE _ _ b c => exact ⟨b,0,c,rfl,fun _ => rfl⟩
  | slN => exact ⟨_,_,_,rfl,fun hh => by simp at hh⟩
 | os r ver off len =>
  obtain ⟨hb,hv⟩ := hs;obtain ⟨v,sz,xs,ho⟩ := zBr hb;rw [ho] at hv;obtain ⟨_,_,_,_,_,_,⟨b,c,rfl,hlc,hcap⟩,_⟩ := zEh h hx ho hv;refine ⟨_,_,_,rfl,fun hh => ?_⟩;rcases hcap with h0 | ⟨_,_,_,rfl,_⟩
  ·omega
  ·simp at hh
 | nc => cases hx; exact ⟨_,_,_,rfl,trivial⟩
 | _ => simp [slcK] at hs
theorem zLE {d : Nat} {t el : TypeId} {b : Option Addr} {l c : Nat} (ht : P.underlying t = some (.slice el)) : (Op.equalIn (d + 1) t (.slice b l c) (.slice none 0 0)).run P w = .ok b.isNone w := by
 cases b <;> simp [Op.equalIn,run_underlying ht]
theorem zIN {t el : TypeId} {b : Option Addr} {l c : Nat} (ht : P.underlying t = some (.slice el)) : (Op.equal t (.slice b l c) (.slice none 0 0)).run P w = .ok b.isNone w :=
 zLE (d := 9999) ht
abbrev WR (r : Option Nat) : Fence := { Fence.wide with round := r }
theorem zEw {r : Option Nat} {k : Nat} : (WR r).depth.isSome = true->1 <= k := fun h => by cases h
theorem zD9 {r : Option Nat} {m : Nat} {f : FuncId} {args : Array Value} {R : Ending->World->Prop} (h : Calls P f args w R) : CallsIn (WR r) m P f args w R := (callsIn_wide (n := m)).2 h
theorem zLc {r : Option Nat} {m m' : Nat} {l : Nat} {f : FuncId} {tmps : Array Value} {asg bdy : Code} {R : Ending->World->Prop} (h : RoundIn Fence.wide m P l f tmps asg bdy w R) : RoundIn (WR r) m' P l f tmps asg bdy w R :=
 ⟨trivial,fun c cs _ => h.2 c cs (room_wide _)⟩
theorem zBA {r : Option Nat} {m : Nat} {o : Oper} {next : Act->World->Prop} {Q : Exit->Act->World->Prop} (hd : ∀ c,o.op ≠ .defer c) (h : o.uponIn (WR r) m P a next Q ((execOp a.eval o).run P w)) : o.wpIn (WR r) m P a w next Q :=
 ⟨fun _ _ => trivial,by rw [Oper.semAt_eq _ _ _ hd]; exact h⟩
theorem zJx {imm : Bool} {o : Oper} {lo : LOp} (hl : zDH P n imm o = some lo) (c : Call) : o.op ≠ .defer c := fun hc => by
 unfold zDH at hl; rw [hc] at hl; cases hl
theorem zSK {x : Value} {args : List AV} {K : AV->zB->Prop} (h : zGx P (.v x) args H K) : ∃ l,x = .func (.yield l) #[] #[]/\AYield P l args H K := by
 unfold zGx at h;split at h
 ·rename_i he; cases he
 ·rename_i l he; cases he; exact ⟨l,rfl,h⟩
 ·exact h.elim
def zKc : Option LOp->Bool
 | some lo => zCP lo
 | none => true
theorem zOm {r : Option Nat} {m0 : Nat} {imm : Bool} {o : Oper} {K : AV->zB->Prop} (hop : aop P (zIx P n imm o) e H K) (h : HRel w X ρ H) (he : ER w X ρ H n e a) {next : Act->World->Prop} {Q : Exit->Act->World->Prop}
  (hn : Cont X w ρ H a o.dst K next) : o.wpIn (WR r) m0 P a w next Q := by
 unfold zIx at hop;cases hl : zDH P n imm o with
 | none => rw [hl] at hop; exact hop.1.elim
 | some lo =>
  rw [hl] at hop;simp only [zZj] at hop;have hnd := zJx hl;by_cases hp : zCP lo = true
  ·obtain ⟨h1,h2⟩ := zOn hp hop;obtain ⟨u,w',ρ',hr,g1,g2,g3⟩ := zNk hl hp h he h1;refine zBA hnd ?_;rcases hr with hr | ⟨hr,rfl⟩
   ·rw [hr]; exact hn _ _ _ _ _ h2 g1 g2 g3
   ·rw [hr]; exact hn _ _ _ _ _ h2 g1 g2 g3
  ·unfold zDH at hl;cases ho : o.op <;> rw [ho] at hl <;> simp only at hl <;> first | (cases hl; done) | skip
   case pick c x y =>
    cases hc : lx n c <;> cases hx : lx n x <;> cases hy : lx n y <;> simp [hc,hx,hy] at hl;subst hl;have rc := zAd he hc;have rx := zAd he hx;have ry := zAd he hy;simp only [aop] at hop;refine zBA hnd ?_;unfold execOp;rw [ho];split at hop
    ·rename_i t htb;rw [htb] at rc;have hcv := zAV rc;split at hop
     ·rename_i hb;subst hb;simp only [hcv,asBool,Sem.run_bind,Sem.run_pure,Result.andThen_ok,if_true];exact hn _ _ _ _ _ hop h rx (Fut.refl _ _ _)
     ·rename_i hb;have hb' : t = false := by simpa using hb
      subst hb';simp only [hcv,asBool,Sem.run_bind,Sem.run_pure,Result.andThen_ok,zYM,if_false];exact hn _ _ _ _ _ hop h ry (Fut.refl _ _ _)
    ·exact hop.elim
   case binOp op t x y yt =>
    unfold zKo at hl;have bad : (match zH6 P t,lx n x,lx n y with | some kd,some x,some y => some (LOp.bin kd op x y) | _,_,_ => none) = some lo->False := by
     intro hl;cases hk : zH6 P t <;> cases hx : lx n x <;> cases hy : lx n y <;> simp only [hk,hx,hy] at hl <;> first | (cases hl; done) | skip
     simp only [zYq] at hl;subst hl;simp [zCP] at hp
    cases hu : P.underlying t with
    | none => rw [hu] at hl; exact (bad hl).elim
    | some d =>
     rw [hu] at hl;cases d <;> first | exact (bad hl).elim | skip
     case interface ms =>
      cases hq : zOD op <;> cases hx : lx n x <;> simp only [hq,hx] at hl <;> first | (cases hl; done) | skip
      split at hl
      ·simp only [zYq] at hl; subst hl; simp [zCP] at hp
      ·cases hl
     rename_i el;cases hq : zOD op <;> cases hx : lx n x <;> simp only [hq,hx] at hl <;> first | (cases hl; done) | skip
     rename_i neg lxx;split at hl
     ·rename_i hnc;simp only [zYq] at hl;subst hl;obtain ⟨hs,hK⟩ := hop;obtain ⟨b,l,c,hae,hnil⟩ := zLa h (zAd he hx) hs;have hy : a.eval y = .slice none 0 0 := by
       cases y with
       | const v => cases v with
        | slice b l c => cases b <;> cases l <;> cases c <;> simp [zKw] at hnc; rfl
        | _ => simp [zKw] at hnc
       | _ => simp [zKw] at hnc
      have hex : (execOp a.eval o).run P w = .ok (.value (.bool (b.isNone ^^ neg))) w := by
       unfold execOp;rw [ho];cases op <;> simp [zOD] at hq <;> subst hq
       ·simp [hae,hy,eqGuard_at_slice,binOp,zIN hu]
       ·simp [hae,hy,eqGuard_at_slice,binOp,zIN hu]
      refine zBA hnd ?_;rw [hex];exact hn _ _ _ _ _ (hK _ hnil) h (.v _ _) (Fut.refl _ _ _)
     ·cases hl
   case next x s =>
    cases s with
    | true => cases hl
    | false =>
     obtain ⟨y,h1,rfl⟩ := zAo hl;obtain ⟨u',x',H',w',ρ',q1,q2,q3,q4,q5⟩ := zMn (P := P) (ty := o.type) h (zAd he h1) hop;have hex : (execOp a.eval o).run P w = .ok (.value u') w' := by
      unfold execOp;rw [ho];simp [q1]
     refine zBA hnd ?_;rw [hex];exact hn _ _ _ _ _ q2 q3 q4 q5
   case call c =>
    obtain ⟨lo,hl,hop,hp⟩ : ∃ lo,zDl P n c = some lo/\aop P lo e H K/\¬ zCP lo = true := by
     split at hl
     ·rcases zGv hl with hq | ⟨f,g,m,h1,h2,h3,rfl⟩
      ·exact absurd hq hp
      ·exact ⟨.call g m,by unfold zDl; simp only [h1,h2,h3],hop,by simp [zCP]⟩
     ·exact ⟨lo,hl,hop,hp⟩
    obtain ⟨callee,args,tys⟩ := c;unfold zDl at hl;cases callee with
    | value f =>
     simp only at hl;cases hf : lx n f with
     | none => simp [hf] at hl
     | some g =>
      cases hm : lxs n args.toList with
      | none => simp [hf,hm] at hl
      | some m =>
       simp [hf,hm] at hl;subst hl;have rf := zAd he hf;obtain ⟨hlen,hrep⟩ := zCi he _ _ hm;simp only [aop] at hop;cases hfv : ev e g with
       | fn fk first caps =>
        rw [hfv] at hop rf;cases fk <;> simp only [zGx] at hop <;> first | exact hop.elim | skip
        rename_i k;obtain ⟨⟨fn,hfn,hbody,hname⟩,hcall⟩ := hop;generalize hfe : a.eval f = fv at rf;cases rf with
        | fn _ _ _ _ fs us h1 h2 h3 h4 =>
         have hex : (execOp a.eval o).run P w = .ok (.enter k (fs ++ args.map a.eval ++ us)) w := by
          unfold execOp;rw [ho];simp only [resolve,hfe,Deferred.ofValue,Sem.run_bind,Sem.run_pure,Result.andThen_ok,invoke,callFunc,run_program,hfn,hname,zYM,if_false,hbody]
         refine zBA hnd ?_;rw [hex];refine ⟨zEw,zD9 ((hcall X ρ w _ h ⟨?_,?_⟩).mono ?_)⟩
         ·simp [h1,h2,hlen]
         ·intro i x u hx hu;rw [zY8,zY7] at hx;rw [zzak,zZc] at hu;by_cases hi : i < first.length
          ·rw [if_pos hi] at hx;rw [if_pos (by omega)] at hu;exact h3 i x u hx hu
          ·rw [if_neg hi,zY7] at hx;rw [if_neg (by omega),zZc] at hu;simp only [zYo,zzaY] at hx hu;have hl2 : m.length = args.size := by simpa using hlen
           by_cases hj : i - first.length < m.length
           ·rw [if_pos hj] at hx;rw [if_pos (by omega)] at hu;exact hrep (i - first.length) x u hx (by rw [<- h1] at hu; simpa using hu)
           ·rw [if_neg hj] at hx;rw [if_neg (by omega)] at hu;exact h4 (i - first.length - m.length) x u hx (by rw [<- h1,<- hl2] at hu; exact hu)
         ·rintro en w' ⟨v,x,H',ρ',rfl,hK,g1,g2,g3⟩;exact hn _ _ _ _ _ hK g1 g2 g3
       | v x =>
        rw [hfv] at hop rf;have hfe := zAV rf;obtain ⟨l,rfl,hy⟩ := zSK hop;obtain ⟨fn',tmps,asg,bdy,hyr,hround⟩ := hy X ρ w (args.map a.eval) h ⟨by simp [hlen],fun i x u hx hu => hrep i x u hx (by simpa using hu)⟩;have hex : (execOp a.eval o).run P w = .ok (.round l fn' tmps asg bdy) w := by
         unfold execOp;rw [ho];simp only [resolve,hfe,Deferred.ofValue,Sem.run_bind,Sem.run_pure,Result.andThen_ok,invoke,callFunc,run_program]
         simpa using hyr
        refine zBA hnd ?_;rw [hex];refine ⟨zEw,zLc (hround.mono ?_)⟩;rintro en w' ⟨v,x,H',ρ',rfl,hK,g1,g2,g3⟩;exact hn _ _ _ _ _ hK g1 g2 g3
       | _ => rw [hfv] at hop; exact hop.elim
    | invoke r m => simp at hl
    | builtin b =>
     refine absurd (show zKc (some lo) = true from ?_) hp;rw [<- hl];cases b <;> simp only <;> (repeat' split) <;> first | rfl | (cases zCz P _ <;> simp only [zzaR,zzag] <;> (try split) <;> rfl)
   case unOp op t x => cases op <;> simp only at hl <;> first | (cases hl; done) | (obtain ⟨_,_,rfl⟩ := zAo hl; exact absurd rfl hp)
   case typeAssert x xt t ok =>
    cases ok with
    | false => cases hl
    | true =>
     simp only at hl;cases hu : P.underlying t with
     | none => simp [hu] at hl
     | some d => cases hx : lx n x <;> cases hz : zA6 P t <;> cases d <;> simp only [hu,hx,hz] at hl <;> first | (cases hl; done) | (cases hl; exact absurd rfl hp)
   case makeInterface t x =>
    refine absurd (show zKc (some lo) = true from ?_) hp;cases hx : lx n x <;> cases hu : P.underlying t <;> simp only [hx,hu] at hl <;> first | (cases hl; done) | skip
    rw [<- hl];split <;> rfl
   case makeMap t r => cases r <;> simp only at hl <;> first | (cases hl; done) | (cases hl; exact absurd rfl hp)
   case slice t x lo hi mx => cases mx <;> simp only at hl <;> first | (cases hl; done) | (refine absurd (show zKc (some _) = true from ?_) hp; rw [<- hl]; (repeat' split) <;> first | rfl | (cases zCz P _ <;> first | rfl | (cases imm <;> rfl)))
   all_goals
    refine absurd (show zKc (some lo) = true from ?_) hp;rw [<- hl]
    (try unfold zFv); (try unfold zKn); (try unfold zF2)
    (repeat' split) <;> first | rfl | (cases lx n _ <;> rfl) | (cases zHz n _ _ <;> rfl) | (cases zH6 P _ <;> rfl) | (cases zF5 P _ <;> rfl) | (cases zCz P _ <;> rfl)
end
structure DB where
 ds : List Deferred
 ok : Prop
section
variable {B : DB} {P : Program} {w w0 : World} {X : Nat->Prop} {ρ ρ0 : Nat->Loc} {H : zB} {e : Env} {a : Act} {n n0 : Nat}
def zKk (D : Nat) : Deferred := { target := .collected D,args := #[] }
def Mk (B : DB) (w0 w : World) (ρ : Nat->Loc) (n : Nat) (df : List Deferred) : Prop :=
 ∃ ds : List Nat,df = ds.map zKk ++ B.ds/\(B.ok\/ds = [])/\ds.Nodup/\∀ D ∈ ds,w0.heap.size <= D/\D < w.heap.size/\¬ Own ρ n D/\w.heap[D]? = some (.deferred (some []))
theorem Mk.fut {w' : World} {ρ' : Nat->Loc} {n' : Nat} {df : List Deferred} (h : Mk B w0 w ρ n df) (hf : Fut w ρ n w' ρ' n') : Mk B w0 w' ρ' n' df := by
 obtain ⟨ds,h1,h0,h2,h3⟩ := h;refine ⟨ds,h1,h0,h2,fun D hD => ?_⟩;obtain ⟨g1,g2,g3,g4⟩ := h3 D hD;exact ⟨g1,zYT g2 hf.size,fun ho => (hf.own D ho).elim g3 fun h => by omega,by rw [hf.keep D g2 g3]; exact g4⟩
theorem Mk.nil {w0 w : World} {ρ : Nat->Loc} {n : Nat} : Mk B w0 w ρ n B.ds := ⟨[],rfl,.inr rfl,.nil,by simp⟩
def St (B : DB) (X : Nat->Prop) (w0 : World) (ρ0 : Nat->Loc) (n0 n : Nat) (e : Env) (H : zB) (a : Act) (w : World) : Prop :=
 a.tmps.size = n/\∃ ρ,HRel w X ρ H/\ER w X ρ H n e a/\Fut w0 ρ0 n0 w ρ H.length/\Mk B w0 w ρ H.length a.defers
theorem zMP (a : Act) (d t : Nat) (u : Value) : (a.put (some d) u).tmps.getD t undef = if t = d/\d < a.tmps.size then u else a.tmps.getD t undef := by
 simp only [Act.put,zYV];by_cases h : t = d
 ·subst h;by_cases h2 : t < a.tmps.size
  ·simp [h2]
  ·simp [h2]
 ·rw [zZr (fun e => h e.symm),if_neg (fun hh => h hh.1)]
theorem zVg {w' : World} {ρ' : Nat->Loc} {H' : zB} {d : Option Nat} {u : Value} {x : AV} (he : ER w X ρ H n e a) (hf : Fut w ρ H.length w' ρ' H'.length) (hx : Rep w' (Mut X ρ' H'.length) ρ' H'.length x u) (hn : a.tmps.size = n) :
  ER w' X ρ' H' n (ups e d x) (a.put d u) := by
 intro t ht;cases d with
 | none => exact (he t ht).nextN hf
 | some d =>
  rw [zMP];simp only [ups,up];by_cases h : t = d
  ·subst h;rw [if_pos rfl,if_pos ⟨rfl,by omega⟩];exact hx
  ·rw [if_neg h,if_neg (fun hh => h hh.1)];exact (he t ht).nextN hf
theorem zPj (a : Act) (d : Option Nat) (u : Value) : (a.put d u).tmps.size = a.tmps.size := by
 cases d <;> simp [Act.put]
theorem zRQ (a : Act) (d : Option Nat) (u : Value) : (a.put d u).defers = a.defers := by
 cases d <;> rfl
theorem St.put {w' : World} {H' : zB} {ρ' : Nat->Loc} {d : Option Nat} {u : Value} {x : AV} (hm : Mk B w0 w ρ H.length a.defers) (hs : a.tmps.size = n) (he : ER w X ρ H n e a) (h0 : Fut w0 ρ0 n0 w ρ H.length) (g1 : HRel w' X ρ' H')
  (g2 : Rep w' (Mut X ρ' H'.length) ρ' H'.length x u) (g3 : Fut w ρ H.length w' ρ' H'.length) : St B X w0 ρ0 n0 n (ups e d x) H' (a.put d u) w' :=
 ⟨by rw [zPj]; exact hs,ρ',g1,zVg he g3 g2 hs,h0.trans g3,by rw [zRQ]; exact hm.fut g3⟩
theorem zK2 {t : Nat} {x : AV} (h : e t = x) : up e t x = e := by
 funext u
 simp only [up];split
 ·rename_i hu; rw [hu,h]
 ·rfl
theorem zNL {d : Option Nat} {op : LOp} (h : zSh d op = true) : ∃ t,d = some t/\(op = .frz (.t t)\/(∃ sz off,op = .frzf sz off (.t t))\/∃ sz,op = .own sz (.t t)) := by
 cases op <;> simp [zSh] at h
 case frz x => cases x <;> simp at h; exact ⟨_,h,.inl rfl⟩
 case own sz x => cases x <;> simp at h; exact ⟨_,h,.inr (.inr ⟨sz,rfl⟩)⟩
 case frzf sz off x => cases x <;> simp at h; exact ⟨_,h,.inr (.inl ⟨sz,off,rfl⟩)⟩
theorem zAp : ∀ (gs : List LO) {los : List LO} {e : Env} {H : zB} {K : Env->zB->Prop},zC6 n gs = true->zAD P (gs ++ los) e H K->St B X w0 ρ0 n0 n e H a w->∃ e' H',zAD P los e' H' K/\St B X w0 ρ0 n0 n e' H' a w
 | [],_,e,H,_,_,h,hst => ⟨e,H,h,hst⟩
 | g :: gs,los,e,H,K,hg,h,⟨hn,ρ,hrel,he,hf,hm⟩ => by
  simp only [zC6,zzaA,zYA] at hg;obtain ⟨⟨⟨g1,g2⟩,g3⟩,g4⟩ := hg;obtain ⟨d,gg,op⟩ := g;cases gg with
  | some _ => simp at g1
  | none =>
   obtain ⟨t,rfl,hop⟩ := zNL g2;have ht : t < n := by simpa using g3
   have hput : ∀ (w' : World) (ρ' : Nat->Loc) (H' : zB) (x : AV),Fut w ρ H.length w ρ' H'.length->HRel w X ρ' H'->Rep w (Mut X ρ' H'.length) ρ' H'.length x (a.tmps.getD t undef)->St B X w0 ρ0 n0 n (up e t x) H' a w := by
    intro w' ρ' H' x f1 f2 f3;refine ⟨hn,ρ',f2,fun u hu => ?_,hf.trans f1,hm.fut f1⟩;simp only [up];split
    ·rename_i hut; rw [hut]; exact f3
    ·exact (he u hu).nextN f1
   rcases hop with rfl | ⟨sz,off,rfl⟩ | ⟨sz,rfl⟩
   ·obtain ⟨h1,h2⟩ := h;obtain ⟨ρ',f1,f2,f3⟩ := zJd hrel (he t ht) h1;exact zAp gs g4 h2 (hput w ρ' _ _ f3 f1 f2)
   ·obtain ⟨h1,h2⟩ := h;obtain ⟨ρ',f1,f2,f3⟩ := zO4 hrel (he t ht) h1;exact zAp gs g4 h2 (hput w ρ' _ _ f3 f1 f2)
   ·obtain ⟨h1,h2⟩ := h;obtain ⟨ρ',f1,f2,f3⟩ := zRk hrel (he t ht) h1;exact zAp gs g4 h2 (hput w ρ' _ _ f3 f1 f2)
def zBi (g : Option (Nat × Bool)) (e : Env) : Option Bool :=
 match g with
 | none => some true
 | some (t,want) => match e t with
  | .v (.bool b) => some (b == want)
  | .v (.tuple _) => some false
  | _ => none
theorem zEQ {ops : Array Oper} {o : Oper} {g : Option (Nat × Bool)} {b : Bool} (hg : zUZ ops n o.guard = some g) (he : ER w X ρ H n e a) (hn : a.tmps.size = n) (hw : zBi g e = some b) : Region.wanted o (yielded ops a.tmps) = b := by
 unfold zUZ at hg;cases hog : o.guard with
 | none =>
  rw [hog] at hg;simp at hg;subst hg;simp [zBi] at hw;subst hw;simp [Region.wanted,hog]
 | some jw =>
  obtain ⟨j,want⟩ := jw;rw [hog] at hg;simp only at hg;cases hd : (ops[j]?).bind (·.dst) with
  | none => simp [hd] at hg
  | some t =>
   simp only [hd] at hg;by_cases ht : t < n
   ·rw [if_pos ht] at hg;simp only [zYq] at hg;subst hg;simp only [zBi] at hw;have hr := he t ht;have hget : a.tmps[t]? = some (a.tmps.getD t undef) := by
     have : t < a.tmps.size := by rw [hn]; exact ht
     simp [this]
    simp only [Region.wanted,hog,yielded,hd,zzag,hget];cases het : e t with
    | v x =>
     rw [het] at hr hw;have := zAV hr;rw [this];cases x <;> simp at hw
     case bool c => subst hw; cases c <;> cases want <;> rfl
     case tuple us => subst hw; rfl
    | _ => rw [het] at hw; simp at hw
   ·rw [if_neg ht] at hg; cases hg
theorem zCg {o : LO} {l : List LO} {K : Env->zB->Prop} (h : zAD P (o :: l) e H K) :
  (zBi o.g e = some true/\aop P o.op e H fun x H' => zAD P l (ups e o.d x) H' K)\/(zBi o.g e = some false/\zAD P l (ups e o.d zAu) H K) := by
 simp only [zAD] at h;cases hg : o.g with
 | none => rw [hg] at h; exact .inl ⟨rfl,h⟩
 | some tw =>
  obtain ⟨t,want⟩ := tw;rw [hg] at h;simp only at h;cases het : e t with
  | v x =>
   rw [het] at h;cases x <;> simp only at h <;> first | exact h.elim | skip
   case bool b =>
    have hu : up e t (bool b) = e := zK2 het;cases b <;> cases want <;> simp only [hu,if_true,zYM,if_false,zBi,het] at h ⊢ <;> first | exact .inl ⟨rfl,h⟩ | exact .inr ⟨rfl,h⟩
   case tuple us => exact .inr ⟨by simp [zBi,het],h⟩
  | _ => rw [het] at h; exact h.elim
theorem zGS {imm : Bool} {ops : Array Oper} {o : Oper} {lo : LO} (h : zAP P n imm ops o = some lo) : lo.d = o.dst/\zUZ ops n o.guard = some lo.g/\lo.op = zIx P n imm o := by
 unfold zAP at h;cases hg : zUZ ops n o.guard with
 | none => simp [hg] at h
 | some g =>
  simp only [hg] at h;split at h
  ·simp only [zYq] at h;subst h;exact ⟨rfl,rfl,rfl⟩
  ·cases h
theorem zBl {r : Option Nat} {m0 : Nat} {imm : Bool} {ops : Array Oper} {o : Oper} {lo : LO} {l : List LO} {K : Env->zB->Prop} (hl : zAP P n imm ops o = some lo) (h : zAD P (lo :: l) e H K) (hst : St B X w0 ρ0 n0 n e H a w) {next : Act->World->Prop} {Q : Exit->Act->World->Prop}
  (hn : ∀ e' H' a' w',zAD P l e' H' K->St B X w0 ρ0 n0 n e' H' a' w'->next a' w') :
  if Region.wanted o (yielded ops a.tmps) then o.wpIn (WR r) m0 P a w next Q else (∀ f,o.about P w a.eval = some f->(WR r).fn f)/\next (a.put o.dst undef) w := by
 obtain ⟨hd,hg,hop⟩ := zGS hl;obtain ⟨h2,ρ,hrel,he,hf,hm⟩ := hst;rcases zCg h with ⟨hw,h⟩ | ⟨hw,h⟩
 ·rw [zEQ hg he h2 hw,if_pos rfl];rw [hop] at h;refine zOm h hrel he fun u x H' ρ' w' hK g1 g2 g3 => hn _ _ _ _ hK ?_;rw [hd];exact St.put hm h2 he hf g1 g2 g3
 ·rw [zEQ hg he h2 hw,if_neg (by simp)];refine ⟨fun _ _ => trivial,hn _ _ _ _ h ?_⟩;rw [hd];exact St.put hm h2 he hf hrel (.v _ _) (Fut.refl _ _ _)
theorem zIn {r : Option Nat} {m0 : Nat} {hs : List Hn} {reg : Nat} {ops : Array Oper} {K : Env->zB->Prop} {Q : Exit->Act->World->Prop} (hQ : ∀ e' H' a' w',K e' H'->St B X w0 ρ0 n0 n e' H' a' w'->Q .normal a' w') :
  ∀ (l : List Oper) (i : Nat) (los : List LO) (e : Env) (H : zB) (a : Act) (w : World),zBK P n hs reg ops i l = some los->zAD P los e H K->St B X w0 ρ0 n0 n e H a w->wpListIn (WR r) m0 P ops Q l a w
 | [],i,los,e,H,a,w,hl,h,hst => by
  unfold zBK at hl;split at hl
  ·rename_i hg;simp only [zYq] at hl;subst hl;obtain ⟨e',H',h',hst'⟩ := zAp (zAn hs reg i) (los := []) hg (by simpa using h) hst;exact hQ _ _ _ _ h' hst'
  ·cases hl
 | o :: l,i,los,e,H,a,w,hl,h,hst => by
  unfold zBK at hl;cases h1 : zAP P n (zBn hs reg i) ops o with
  | none => simp [h1] at hl
  | some lo =>
   cases h2 : zBK P n hs reg ops (i + 1) l with
   | none => simp [h1,h2] at hl
   | some m =>
    simp only [h1,h2] at hl;split at hl
    ·rename_i hg;simp only [zYq] at hl;subst hl;obtain ⟨e',H',h',hst'⟩ := zAp (zAn hs reg i) hg h hst;have := zBl (r := r) (m0 := m0) h1 h' hst' (next := wpListIn (WR r) m0 P ops Q l) (Q := Q) fun e'' H'' a'' w'' hK hs'' => zIn hQ l (i + 1) m e'' H'' a'' w'' h2 hK hs'';unfold wpListIn;exact this
    ·cases hl
theorem zBU {ops : Array Oper} {o : Oper} (h : o.guard = none) (tmps : Array Value) : Region.wanted o (yielded ops tmps) = true := by simp [Region.wanted,h]
theorem zG7 {r : Option Nat} {m0 : Nat} {o : Oper} {f : Operand} {args : Array Operand} {tys : Array TypeId} {g : LX} {m : List LX} {K : AV->zB->Prop} {Z : Value->zB->Prop} (ho : o.op = .call ⟨.value f,args,tys⟩) (hf : lx n f = some g) (hm : lxs n args.toList = some m)
  (h : zEk P (ev e g) (m.map (ev e)) H K Z) (hst : St B X w0 ρ0 n0 n e H a w) {next : Act->World->Prop} {Q : Exit->Act->World->Prop}
  (hn : ∀ x H' a' w',K x H'->St B X w0 ρ0 n0 n (ups e o.dst x) H' a' w'->next a' w') (hp : ∀ v H' a' w',Z v H'->St B X w0 ρ0 n0 n e H' a' w'->Q (.panic [{ v,recovered := false }]) a' w') :
  o.wpIn (WR r) m0 P a w next Q := by
 obtain ⟨h2,ρ,hrel,he,hfu,hmk⟩ := hst;have rf := zAd he hf;obtain ⟨hlen,hrep⟩ := zCi he _ _ hm;simp only [zEk] at h;cases hfv : ev e g with
 | fn fk first caps =>
  rw [hfv] at h rf;cases fk <;> simp only at h <;> first | exact h.elim | skip
  rename_i k;obtain ⟨⟨fn,hfn,hbody,hname⟩,hcall⟩ := h;generalize hfe : a.eval f = fv at rf;cases rf with
  | fn _ _ _ _ fs us h1 h2' h3 h4 =>
   have hex : (execOp a.eval o).run P w = .ok (.enter k (fs ++ args.map a.eval ++ us)) w := by
    unfold execOp;rw [ho];simp only [resolve,hfe,Deferred.ofValue,Sem.run_bind,Sem.run_pure,Result.andThen_ok,invoke,callFunc,run_program,hfn,hname,zYM,if_false,hbody]
   refine zBA (by rw [ho]; intro c' hc; cases hc) ?_;rw [hex];refine ⟨zEw,zD9 ((hcall X ρ w _ hrel ⟨?_,?_⟩).mono ?_)⟩
   ·simp [h1,h2',hlen]
   ·intro i x u hx hu;rw [zY8,zY7] at hx;rw [zzak,zZc] at hu;by_cases hi : i < first.length
    ·rw [if_pos hi] at hx;rw [if_pos (by omega)] at hu;exact h3 i x u hx hu
    ·rw [if_neg hi,zY7] at hx;rw [if_neg (by omega),zZc] at hu;simp only [zYo,zzaY] at hx hu;have hl2 : m.length = args.size := by simpa using hlen
     by_cases hj : i - first.length < m.length
     ·rw [if_pos hj] at hx;rw [if_pos (by omega)] at hu;exact hrep (i - first.length) x u hx (by rw [<- h1] at hu; simpa using hu)
     ·rw [if_neg hj] at hx;rw [if_neg (by omega)] at hu;exact h4 (i - first.length - m.length) x u hx (by rw [<- h1,<- hl2] at hu; exact hu)
   ·rintro en w' (⟨v,x,H',ρ',rfl,hK,g1,g2,g3⟩ | ⟨z,H',ρ',rfl,hK,g1,g3⟩)
    ·exact hn _ _ _ _ hK (St.put hmk h2 he hfu g1 g2 g3)
    ·exact hp _ _ _ _ hK ⟨h2,ρ',g1,fun t ht => (he t ht).nextN g3,hfu.trans g3,hmk.fut g3⟩
 | _ => rw [hfv] at h; exact h.elim
theorem zPY {r : Option Nat} {m0 : Nat} {ops : Array Oper} {o : Oper} {c : LCode} {K : Out->Env->zB->Prop} (hl : zNn n o = some c) (h : awp P c e H K) (hst : St B X w0 ρ0 n0 n e H a w) {next : Act->World->Prop} {Q : Exit->Act->World->Prop}
  (hn : ∀ e' H' a' w',K .normal e' H'->St B X w0 ρ0 n0 n e' H' a' w'->next a' w') (hp : ∀ v e' H' a' w',K (.pan v) e' H'->St B X w0 ρ0 n0 n e' H' a' w'->Q (.panic [{ v,recovered := false }]) a' w') :
  Region.wanted o (yielded ops a.tmps) = true/\o.wpIn (WR r) m0 P a w next Q := by
 unfold zNn at hl;split at hl
 ·rename_i f args tys ho hg;refine ⟨zBU hg _,?_⟩;cases hf : lx n f with
  | none => simp [hf] at hl
  | some g =>
   cases hm : lxs n args.toList with
   | none => simp [hf,hm] at hl
   | some m =>
    simp only [hf,hm] at hl;split at hl
    ·simp only [zYq] at hl;subst hl;exact zG7 ho hf hm h hst (fun x H' a' w' hK hs' => hn _ _ _ _ hK hs') fun v H' a' w' hK hs' => hp _ _ _ _ _ hK hs'
    ·cases hl
 ·cases hl
theorem zPm {r : Option Nat} {m0 : Nat} {ops : Array Oper} {o q : Oper} {l : List Oper} {c : LCode} {K : Out->Env->zB->Prop} (hl : zNj P n o q = some c) (h : awp P c e H K) (hst : St B X w0 ρ0 n0 n e H a w) {Q : Exit->Act->World->Prop}
  (hp : ∀ v e' H' a' w',K (.pan v) e' H'->St B X w0 ρ0 n0 n e' H' a' w'->Q (.panic [{ v,recovered := false }]) a' w') : wpListIn (WR r) m0 P ops Q (o :: q :: l) a w := by
 unfold zNj at hl;split at hl
 ·rename_i t x d d' ho hg hd hq hqg;split at hl
  ·rename_i x' u hx hu;split at hl
   ·rename_i hc;obtain ⟨rfl,hdn,hni⟩ := hc;simp only [zYq] at hl;subst hl;simp only [awp] at h;obtain ⟨v,hv,hK⟩ := h;obtain ⟨h2,ρ,hrel,he,hfu,hmk⟩ := hst;have hxv := zJV hv (zAd he hx);unfold wpListIn;rw [if_pos (zBU hg _)];refine zBA (by rw [ho]; intro c' hc; cases hc) ?_;have hex : (execOp a.eval o).run P w = .ok (.value (.iface t v)) w := by
     unfold execOp;rw [ho];cases u <;> simp [zFu] at hni <;> simp [Instr.makeInterface,run_underlying hu,hxv]
    rw [hex];show wpListIn (WR r) m0 P ops Q (q :: l) (a.put o.dst (.iface t v)) w;unfold wpListIn;rw [if_pos (zBU hqg _)];refine zBA (by rw [hq]; intro c' hc; cases hc) ?_;have hget : (a.put o.dst (.iface t v)).eval (.tmp d) = .iface t v := by
     rw [hd];show (a.put (some d) _).tmps.getD d undef = _;rw [zMP,if_pos ⟨rfl,by rw [h2]; exact hdn⟩]
    have hex2 : (execOp (a.put o.dst (.iface t v)).eval q).run P w = .halt (.panic (.iface t v)) w := by
     unfold execOp;rw [hq];simp only [hget];simp [Instr.panic,goPanic]
    rw [hex2];have hst' := St.put (B := B) (d := some d) (u := .iface t v) (x := .v (.iface t v)) hmk h2 he hfu hrel (.v _ _) (Fut.refl _ _ _);rw [<- hd] at hst';refine hp _ _ H _ _ hK ?_;rw [hd] at hst' ⊢;exact hst'
   ·cases hl
  ·cases hl
 ·cases hl
def zHP : LOp->Bool
 | .call _ _ => true
 | .panicv _ => true
 | _ => false
def zDu : Option LOp->Bool
 | some lo => zHP lo
 | none => false
theorem zFZ {imm : Bool} {o : Oper} {lo : LOp} (hl : zDH P n imm o = some lo) (hc : zHP lo = true) : (∃ c,o.op = .call c/\(if imm = true then zCK P n c else zDl P n c) = some lo)\/∃ x,o.op = .panic x/\(lx n x).map LOp.panicv = some lo := by
 have hp : ¬ zDu (some lo) = false := by simp [zDu,hc]
 unfold zDH at hl;cases ho : o.op <;> rw [ho] at hl <;> simp only at hl <;> first | (cases hl; done) | skip
 case call c => exact .inl ⟨c,rfl,by cases imm <;> exact hl⟩
 case panic x => exact .inr ⟨x,rfl,hl⟩
 case unOp op t x => cases op <;> simp only at hl <;> first | (cases hl; done) | (obtain ⟨_,_,rfl⟩ := zAo hl; exact absurd rfl hp)
 case makeMap t r => cases r <;> simp only at hl <;> first | (cases hl; done) | (cases hl; exact absurd rfl hp)
 case next x s => cases s <;> simp only at hl <;> first | (cases hl; done) | (obtain ⟨_,_,rfl⟩ := zAo hl; exact absurd rfl hp)
 case typeAssert x xt t ok =>
  cases ok with
  | false => cases hl
  | true =>
   simp only at hl;cases hu : P.underlying t with
   | none => simp [hu] at hl
   | some d => cases hx : lx n x <;> cases hz : zA6 P t <;> cases d <;> simp only [hu,hx,hz] at hl <;> first | (cases hl; done) | (cases hl; exact absurd rfl hp)
 case makeInterface t x =>
  refine absurd ?_ hp;cases hx : lx n x <;> cases hu : P.underlying t <;> simp only [hx,hu] at hl <;> first | (cases hl; done) | skip
  rw [<- hl];split <;> rfl
 case slice t x lo hi mx => cases mx <;> simp only at hl <;> first | (cases hl; done) | (refine absurd ?_ hp; rw [<- hl]; (repeat' split) <;> first | rfl | (cases zCz P _ <;> first | rfl | (cases imm <;> rfl)))
 case binOp op t x y yt =>
  refine absurd ?_ hp;rw [<- hl];unfold zKo
  (repeat' split) <;> rfl
 all_goals
  refine absurd ?_ hp;rw [<- hl]
  (try unfold zFv); (try unfold zKn); (try unfold zF2)
  (repeat' split) <;> first | rfl | (cases lx n _ <;> rfl) | (cases zHz n _ _ <;> rfl) | (cases zH6 P _ <;> rfl) | (cases zF5 P _ <;> rfl) | (cases zCz P _ <;> rfl)
theorem zGR {imm : Bool} {o : Oper} {lo : LOp} (h : zIx P n imm o = lo) (hb : lo ≠ .bad) : zDH P n imm o = some lo := by
 unfold zIx at h;cases hl : zDH P n imm o with
 | none => rw [hl] at h; exact absurd h.symm hb
 | some l => rw [hl] at h; exact congrArg some h
theorem zF3 {c : Call} {lo : LOp} (h : zCK P n c = some lo) : zDu (some lo) = false := by
 rw [<- h];unfold zCK
 (repeat' split) <;> rfl
theorem zLo {imm : Bool} {o : Oper} {f : LX} {args : List LX} (h : zIx P n imm o = .call f args) : ∃ f' args' tys,o.op = .call ⟨.value f',args',tys⟩/\lx n f' = some f/\lxs n args'.toList = some args := by
 rcases zFZ (zGR h (by simp)) rfl with ⟨c,ho,hc⟩ | ⟨x,_,hx⟩
 ·cases imm with
  | true => exact absurd (zF3 (by simpa using hc)) (by simp [zDu,zHP])
  | false =>
   simp only [zYM,if_false] at hc;obtain ⟨callee,as,tys⟩ := c;unfold zDl at hc;cases callee with
   | value f' =>
    simp only at hc;cases hf : lx n f' <;> cases hm : lxs n as.toList <;> simp only [hf,hm] at hc <;> first | (cases hc; done) | skip
    simp only [zYq,LOp.call.injEq] at hc;exact ⟨f',as,tys,ho,by rw [hf,hc.1],by rw [hm,hc.2]⟩
   | invoke r m => simp at hc
   | builtin b =>
    exfalso;have : zDu (some (LOp.call f args)) = false := by
     rw [<- hc];cases b;all_goals (try simp only)
     all_goals (repeat' split)
     all_goals first | rfl | (cases zCz P _ <;> (try simp only [zzaR,zzag]) <;> (try split) <;> rfl)
    cases this
 ·obtain ⟨_,_,h2⟩ := zAo hx;cases h2
theorem zJz {imm : Bool} {o : Oper} {x : LX} (h : zIx P n imm o = .panicv x) : ∃ ao,o.op = .panic ao/\lx n ao = some x := by
 rcases zFZ (zGR h (by simp)) rfl with ⟨c,ho,hc⟩ | ⟨y,ho,hx⟩
 ·exfalso;cases imm with
  | true => exact absurd (zF3 (by simpa using hc)) (by simp [zDu,zHP])
  | false =>
   simp only [zYM,if_false] at hc;obtain ⟨callee,as,tys⟩ := c;unfold zDl at hc;cases callee with
   | value f' =>
    simp only at hc;cases hf : lx n f' <;> cases hm : lxs n as.toList <;> simp only [hf,hm] at hc <;> cases hc
   | invoke r m => simp at hc
   | builtin b =>
    have : zDu (some (LOp.panicv x)) = false := by
     rw [<- hc];cases b;all_goals (try simp only)
     all_goals (repeat' split)
     all_goals first | rfl | (cases zCz P _ <;> (try simp only [zzaR,zzag]) <;> (try split) <;> rfl)
    cases this
 ·obtain ⟨a,h1,h2⟩ := zAo hx;simp only [LOp.panicv.injEq] at h2;exact ⟨y,ho,by rw [h1,h2]⟩
theorem zFG {g : Option (Nat × Bool)} {A B' : Prop} (h : zGr g e A B') : (zBi g e = some true/\A)\/(zBi g e = some false/\B') := by
 unfold zGr at h;cases g with
 | none => exact .inl ⟨rfl,h⟩
 | some p =>
  obtain ⟨t,want⟩ := p;simp only at h;cases het : e t with
  | v x =>
   rw [het] at h;cases x <;> simp only at h <;> first | exact h.elim | skip
   case bool b =>
    cases b <;> cases want <;> simp [zBi,het] at h ⊢ <;> exact h
   case tuple us => exact .inr ⟨by simp [zBi,het],h⟩
  | _ => rw [het] at h; exact h.elim
theorem zMd {r : Option Nat} {m0 : Nat} {imm c : Bool} {ops : Array Oper} {o : Oper} {lo : LO} {K : Env->zB->Prop} {Z : Value->zB->Prop} (hl : zAP P n imm ops o = some lo) (h : aTI P c lo e H K Z) (hst : St B X w0 ρ0 n0 n e H a w) {next : Act->World->Prop} {Q : Exit->Act->World->Prop}
  (hn : ∀ e' H' a' w',K e' H'->St B X w0 ρ0 n0 n e' H' a' w'->next a' w') (hp : ∀ v H' a' w',Z v H'->St B X w0 ρ0 n0 n e H' a' w'->Q (.panic [{ v,recovered := false }]) a' w') :
  if Region.wanted o (yielded ops a.tmps) then o.wpIn (WR r) m0 P a w next Q else (∀ f,o.about P w a.eval = some f->(WR r).fn f)/\next (a.put o.dst undef) w := by
 obtain ⟨hd,hg,hop⟩ := zGS hl;unfold aTI at h;split at h
 ·rename_i f args hf;rw [hop] at hf;obtain ⟨f',args',tys,ho,h1,h2⟩ := zLo hf;have hst' := hst;obtain ⟨h3,ρ,hrel,he,hfu,hm⟩ := hst';rcases zFG h with ⟨hw,h⟩ | ⟨hw,h⟩
  ·rw [zEQ hg he h3 hw,if_pos rfl];refine zG7 ho h1 h2 h hst (fun x H' a' w' hK hs' => hn _ _ _ _ hK ?_) hp;rw [hd];exact hs'
  ·rw [zEQ hg he h3 hw,if_neg (by simp)];refine ⟨fun _ _ => trivial,hn _ _ _ _ h ?_⟩;rw [hd];exact St.put hm h3 he hfu hrel (.v _ _) (Fut.refl _ _ _)
 ·rename_i x hf;rw [hop] at hf;obtain ⟨ao,ho,h2⟩ := zJz hf;have hst' := hst;obtain ⟨h3,ρ,hrel,he,hfu,hm⟩ := hst';rcases zFG h with ⟨hw,t,z,hz,h⟩ | ⟨hw,h⟩
  ·rw [zEQ hg he h3 hw,if_pos rfl];refine zBA (by rw [ho]; intro c' hc; cases hc) ?_;have hr := zAd he h2;rw [hz] at hr;have hv := zAV hr;have hex2 : (execOp a.eval o).run P w = .halt (.panic (.iface t z)) w := by
    unfold execOp;rw [ho];simp [Instr.panic,hv,goPanic]
   rw [hex2];exact hp _ _ _ _ h hst
  ·rw [zEQ hg he h3 hw,if_neg (by simp)];refine ⟨fun _ _ => trivial,hn _ _ _ _ h ?_⟩;rw [hd];exact St.put hm h3 he hfu hrel (.v _ _) (Fut.refl _ _ _)
 ·exact zBl hl h hst fun e' H' a' w' hK hs' => hn e' H' a' w' (by simpa only [zAD] using hK) hs'
theorem zD4 {r : Option Nat} {m0 : Nat} {hs : List Hn} {reg : Nat} {ops : Array Oper} {K : Out->Env->zB->Prop} {Q : Exit->Act->World->Prop} (hQ : ∀ e' H' a' w',K .normal e' H'->St B X w0 ρ0 n0 n e' H' a' w'->Q .normal a' w')
  (hp : ∀ v e' H' a' w',K (.pan v) e' H'->St B X w0 ρ0 n0 n e' H' a' w'->Q (.panic [{ v,recovered := false }]) a' w') :
  ∀ (l : List Oper) (i : Nat) (lc : LCode) (e : Env) (H : zB) (a : Act) (w : World),zEp P n hs reg ops i l = some lc->awp P lc e H K->St B X w0 ρ0 n0 n e H a w->wpListIn (WR r) m0 P ops Q l a w
 | [],i,lc,e,H,a,w,hl,h,hst => by
  unfold zEp at hl;split at hl
  ·rename_i hg;simp only [zYq] at hl;subst hl;simp only [awp] at h;obtain ⟨e',H',h',hst'⟩ := zAp (zAn hs reg i) (los := []) hg (by simpa using h) hst;exact hQ _ _ _ _ h' hst'
  ·cases hl
 | o :: l,i,lc,e,H,a,w,hl,h,hst => by
  unfold zEp at hl;split at hl
  ·rename_i hg;split at hl
   ·split at hl
    ·rename_i c m hc hm;simp only [zYq] at hl;subst hl;simp only [awp] at h;obtain ⟨e',H',h',hst'⟩ := zAp (zAn hs reg i) (los := []) hg (by simpa using h) hst;simp only [zAD] at h';obtain ⟨hw,hx⟩ := zPY (r := r) (m0 := m0) (ops := ops) (next := wpListIn (WR r) m0 P ops Q l) (Q := Q) hc h' hst' (fun e2 H2 a2 w2 hk hs2 => zD4 hQ hp l (i + 1) m e2 H2 a2 w2 hm hk hs2) (fun v e2 H2 a2 w2 hk hs2 => hp v e2 H2 a2 w2 hk hs2);unfold wpListIn;rw [if_pos hw];exact hx
    ·split at hl
     ·rename_i c hc;simp only [zYq] at hl;subst hl;cases l with
      | nil => cases hc
      | cons q l' =>
       simp only [awp] at h;obtain ⟨e',H',h',hst'⟩ := zAp (zAn hs reg i) (los := []) hg (by simpa using h) hst;simp only [zAD] at h';exact zPm hc h' hst' hp
     ·split at hl
      ·rename_i lo m h1 h2;split at hl
       ·simp only [zYq] at hl;subst hl;simp only [awp] at h;obtain ⟨e',H',h',hst'⟩ := zAp (zAn hs reg i) (los := []) hg (by simpa using h) hst;simp only [zAD] at h';have := zMd (r := r) (m0 := m0) h1 h' hst' (next := wpListIn (WR r) m0 P ops Q l) (Q := Q) (fun e'' H'' a'' w'' hK hs'' => zD4 hQ hp l (i + 1) m e'' H'' a'' w'' h2 hK hs'') fun v H' a' w' hK hs' => hp v _ _ _ _ hK hs';unfold wpListIn;exact this
       ·cases hl
      ·cases hl
   ·split at hl
    ·rename_i lo m h1 h2;simp only [zYq] at hl;subst hl;simp only [awp] at h;obtain ⟨e',H',h',hst'⟩ := zAp (zAn hs reg i) hg h hst;have := zBl (r := r) (m0 := m0) h1 h' hst' (next := wpListIn (WR r) m0 P ops Q l) (Q := Q) fun e'' H'' a'' w'' hK hs'' => zD4 hQ hp l (i + 1) m e'' H'' a'' w'' h2 (by simpa only [zAD] using hK) hs'';unfold wpListIn;exact this
    ·cases hl
  ·cases hl
end
section edges
variable {ops : Array Oper}
def stp (acc : Array Nat) (o : Oper) : Nat := o.after.foldl (fun s e => if Region.binds .any e then s ||| 2 ^ e.on ||| acc.getD e.on 0 else s) 0
theorem zJ2 (acc : Array Nat) (i : Nat) : ∀ (l : List Edge) (s : Nat),(l.foldl (fun s e => if Region.binds .any e then s ||| 2 ^ e.on ||| acc.getD e.on 0 else s) s).testBit i = true ->
  s.testBit i = true\/∃ e ∈ l,Region.binds .any e = true/\(e.on = i\/(acc.getD e.on 0).testBit i = true)
 | [],s,h => .inl h
 | e :: l,s,h => by
  simp only [zzam] at h;rcases zJ2 acc i l _ h with h1 | ⟨e',h1,h2⟩
  ·split at h1
   ·rename_i hb;rw [Nat.testBit_or,Nat.testBit_or,Nat.testBit_two_pow] at h1;simp only [zZq,zYy] at h1;rcases h1 with (h1 | h1) | h1
    ·exact .inl h1
    ·exact .inr ⟨e,by simp,hb,.inl h1⟩
    ·exact .inr ⟨e,by simp,hb,.inr h1⟩
   ·exact .inl h1
  ·exact .inr ⟨e',by simp [h1],h2⟩
theorem zIH : ∀ (l : List Oper) (acc : Array Nat),
  (l.foldl (fun acc o => acc.push (stp acc o)) acc).size = acc.size + l.length/\(∀ k,k < acc.size->(l.foldl (fun acc o => acc.push (stp acc o)) acc).getD k 0 = acc.getD k 0) /\
  ∀ k o,l[k]? = some o->∃ acc' : Array Nat,acc'.size = acc.size + k/\(∀ m,m < acc.size + k->acc'.getD m 0 = (l.foldl (fun acc o => acc.push (stp acc o)) acc).getD m 0)/\(l.foldl (fun acc o => acc.push (stp acc o)) acc).getD (acc.size + k) 0 = stp acc' o
 | [],acc => ⟨rfl,fun _ _ => rfl,fun k o h => by simp at h⟩
 | x :: l,acc => by
  obtain ⟨h1,h2,h3⟩ := zIH l (acc.push (stp acc x));simp only [zzam,Array.size_push] at h1 h2 h3 ⊢;have hp : ∀ k,k < acc.size->(acc.push (stp acc x)).getD k 0 = acc.getD k 0 := by
   intro k hk;simp only [zYV,Array.getElem?_push];rw [if_neg (by omega)]
  refine ⟨by rw [h1]; simp; omega,fun k hk => by rw [h2 k (by omega),hp k hk],fun k o ho => ?_⟩;cases k with
  | zero =>
   simp at ho;subst ho;refine ⟨acc,rfl,fun m hm => by rw [h2 m (by omega),hp m (by omega)],?_⟩;rw [zZg,h2 _ (by omega)];simp [zYV]
  | succ k =>
   obtain ⟨acc',g1,g2,g3⟩ := h3 k o (by simpa using ho);exact ⟨acc',by omega,fun m hm => g2 m (by omega),by rw [show acc.size + (k + 1) = acc.size + 1 + k by omega]; exact g3⟩
theorem zJQ {j : Nat} {oj : Oper} (hj : ops[j]? = some oj) {i : Nat} (h : ((Region.before ops).getD j 0).testBit i = true) :
  ∃ e ∈ oj.after,Region.binds .any e = true/\(e.on = i\/(e.on < j/\((Region.before ops).getD e.on 0).testBit i = true)) := by
 have hb : Region.before ops = ops.toList.foldl (fun acc o => acc.push (stp acc o)) #[] := by
  unfold Region.before;rw [<- zzaj];rfl
 obtain ⟨_,_,h3⟩ := zIH ops.toList #[];obtain ⟨acc',g1,g2,g3⟩ := h3 j oj (by simpa using hj);simp only [zzaO,zYw,zY0] at g1 g2 g3;rw [hb] at h ⊢;rw [g3] at h;unfold stp at h;rw [<- zzaj] at h;rcases zJ2 acc' i _ _ h with h1 | ⟨e,he,hbd,h1⟩
 ·simp at h1
 ·refine ⟨e,by simpa using he,hbd,?_⟩;rcases h1 with h1 | h1
  ·exact .inl h1
  ·have hlt : e.on < j := by
    rcases zZY e.on acc'.size with h2 | h2
    ·omega
    ·simp [zYV,zZR h2] at h1
   rw [g2 _ hlt] at h1;exact .inr ⟨hlt,h1⟩
def Closed (ops : Array Oper) (listed : Array Bool) : Prop := ∀ j oj,ops[j]? = some oj->listed.getD j false = true->∀ e ∈ oj.after,Region.binds .any e = true->listed.getD e.on false = true
theorem zP {listed : Array Bool} (hc : Closed ops listed) : ∀ (j : Nat) (oj : Oper) (i : Nat),ops[j]? = some oj->((Region.before ops).getD j 0).testBit i = true->(∀ e ∈ oj.after,Region.binds .any e = true->listed.getD e.on false = true)->listed.getD i false = true := by
 intro j;induction j using Nat.strongRecOn with
 | _ j ih =>
  intro oj i hj hb hall;obtain ⟨e,he,hbd,h1⟩ := zJQ hj hb;rcases h1 with h1 | ⟨hlt,h1⟩
  ·rw [<- h1]; exact hall e he hbd
  ·have hjlt := (zYJ.1 hj).1;have ho : ops[e.on]? = some ops[e.on] := by simp [show e.on < ops.size by omega]
   exact ih e.on hlt _ i ho h1 (hc _ _ ho (hall e he hbd))
theorem zAc (listed : Array Bool) (i k : Nat) (b : Bool) : (listed.setIfInBounds i true).getD k b = if k = i/\i < listed.size then true else listed.getD k b := by
 simp only [zYV];by_cases h : k = i
 ·subst h;by_cases h2 : k < listed.size
  ·simp [h2]
  ·simp [h2]
 ·rw [zZr (fun e => h e.symm),if_neg (fun hh => h hh.1)]
theorem Closed.set {listed : Array Bool} (hc : Closed ops listed) {i : Nat} (hi : i ∈ Region.ready .any ops listed) : Closed ops (listed.setIfInBounds i true) := by
 obtain ⟨_,oi,hoi,hall⟩ := mem_ready.1 hi;intro j oj hj hl e he hb;rw [zAc] at hl ⊢;split
 ·rfl
 ·split at hl
  ·rename_i h1;obtain ⟨rfl,_⟩ := h1;have : oj = oi := zzaU (hj.symm.trans hoi);subst this;exact hall e he hb
  ·exact hc j oj hj hl e he hb
def left (listed : Array Bool) : Nat->Nat
 | 0 => 0
 | k + 1 => left listed k + if listed.getD k true = true then 0 else 1
theorem zDn {listed : Array Bool} {i : Nat} (hi : listed.getD i true = false) : ∀ k,left (listed.setIfInBounds i true) k + (if i < k then 1 else 0) = left listed k
 | 0 => by simp [left]
 | k + 1 => by
  have ih := zDn hi k;have hil : i < listed.size := by
   rcases zZY i listed.size with h | h
   ·exact h
   ·simp [zZR h] at hi
  simp only [left];rw [zAc];by_cases hk : k = i
  ·subst hk;rw [if_neg (by omega)] at ih;have h2 : k < k + 1 := by omega
   have h3 : (if k = k/\k < listed.size then true else listed.getD k true) = true := if_pos ⟨rfl,hil⟩;rw [if_pos h2,if_pos h3,hi,if_neg (by simp)];omega
  ·have h3 : (if k = i/\i < listed.size then true else listed.getD k true) = listed.getD k true := if_neg fun hh => hk hh.1;rw [h3];generalize (if listed.getD k true = true then 0 else 1) = z;by_cases h2 : i < k
   ·rw [if_pos h2] at ih; rw [if_pos (show i < k + 1 by omega)]; omega
   ·rw [if_neg h2] at ih; rw [if_neg (show ¬ i < k + 1 by omega)]; omega
theorem zDo {listed : Array Bool} {i : Nat} (hi : listed.getD i true = false) : ∀ k,i < k->0 < left listed k
 | 0,h => by omega
 | k + 1,h => by
  simp only [left];by_cases hk : i = k
  ·subst hk; rw [hi]; simp
  ·have := zDo hi k (by omega); omega
theorem zCp {listed : Array Bool} (he : zAx ops = true) {i : Nat} (hi : i < ops.size) (hun : listed.getD i true = false) (hall : ∀ j,j < i->listed.getD j false = true) : i ∈ Region.ready .any ops listed := by
 refine mem_ready.2 ⟨hun,ops[i],by simp [hi],fun e hee hb => ?_⟩;unfold zAx at he;have h1 := zYR.1 he i (zY9.2 hi);simp only [zZU hi,zYZ,zZj] at h1;have h2 := Array.all_eq_true'.1 h1 e hee;simp only [hb,Bool.not_true,Bool.false_or,zYy] at h2;exact hall _ h2
theorem zCL {listed : Array Bool} {n : Nat} (h : ∃ i,i < n/\listed.getD i true = false) : ∃ i,i < n/\listed.getD i true = false/\∀ j,j < i->listed.getD j true = true := by
 obtain ⟨i,hi,hun⟩ := h;induction i using Nat.strongRecOn with
 | _ i ih =>
  by_cases hx : ∃ j,j < i/\listed.getD j true = false
  ·obtain ⟨j,hj,hj2⟩ := hx;exact ih j hj (by omega) hj2
  ·refine ⟨i,hi,hun,fun j hj => ?_⟩;cases hb : listed.getD j true with
   | true => rfl
   | false => exact absurd ⟨j,hj,hb⟩ hx
end edges
theorem zV {l : Array Bool} {i : Nat} (hi : i < l.size) : l.getD i false = l.getD i true := by
 simp [hi]
theorem zBI {listed : Array Bool} {h : Nat} : ∀ k,(∀ j,j < k->listed.getD j true = decide (j < h))->left listed k = k - h
 | 0,_ => by simp [left]
 | k + 1,hh => by
  simp only [left];rw [zBI k fun j hj => hh j (by omega),hh k (by omega)];by_cases hk : k < h
  ·simp [hk]; omega
  ·simp [hk]; omega
section
variable {B : DB} {P : Program} {w w0 : World} {X : Nat->Prop} {ρ ρ0 : Nat->Loc} {H : zB} {e : Env} {a : Act} {n n0 : Nat}
theorem St.still {w' : World} (hst : St B X w0 ρ0 n0 n e H a w) (hs : Same w w') (hh : w'.heap = w.heap) : St B X w0 ρ0 n0 n e H a w' := by
 obtain ⟨h2,ρ,h3,h4,h5,h6⟩ := hst;obtain ⟨g1,g2⟩ := h3.more hs fun b _ => by rw [hh]
 exact ⟨h2,ρ,g1,fun t ht => (h4 t ht).nextN g2,h5.trans g2,h6.fut g2⟩
theorem APure.frame {k : FuncId} {args : List AV} {x : AV} (h : APure P k args x) (hc : clL args = true) (H : zB) : ACall P k args H fun y H' => y = x/\H' = H := by
 refine ⟨h.1,fun X ρ w vs hrel hargs => ?_⟩;have hno : ∀ (ρ : Nat->Loc) b,¬ Own ρ 0 b := fun ρ b ⟨r,o,hr,_⟩ => by omega
 have hm : ∀ (ρ' : Nat->Loc) b,Mut (Mut X ρ H.length) ρ' 0 b ↔ Mut X ρ H.length b := fun ρ' b => ⟨fun hb => hb.elim id fun ho => absurd ho (hno _ _),.inl⟩;refine (h.2 (Mut X ρ H.length) (fun _ => {}) w vs ⟨?_,?_,?_,?_,fun g hg => ⟨fun ⟨r,o,hr,_⟩ => by simp at hr,(hrel.gl g hg).2⟩⟩ ⟨hargs.1,?_⟩).mono ?_
 ·intro r o hr; simp at hr
 ·intro r r' b o b' o' hr; simp at hr
 ·intro r b o hr; simp at hr
 ·intro b hb;rcases hb with hb | hb
  ·exact hrel.xlt b hb
  ·exact hb.lt hrel
 ·intro i x u hx hu;have h1 := ((hargs.2 i x u hx hu).of_cl (zDs hc hx)).closed rfl (fun _ => {}) 0;exact h1.fut (n0 := 0) (Fut.refl _ _ _) (fun b _ hb hb' => hb ((hm _ b).1 hb')) (fun b _ => hno _ b) (zYH _)
 ·rintro en w' ⟨v,y,H',ρ',rfl,⟨rfl,rfl⟩,g1,g2,g3⟩;have hkeep : ∀ b,b < w.heap.size->w'.heap[b]? = w.heap[b]? := fun b hb => g3.keep b hb (hno _ b);obtain ⟨f1,f2⟩ := hrel.more ⟨g3.os,g3.tape,g3.output,g3.size⟩ hkeep;refine ⟨v,y,H,ρ,rfl,⟨rfl,rfl⟩,f1,?_,f2⟩;have h1 : Rep w' (Mut X ρ H.length) ρ' 0 y v := g2.fut (n0 := 0) (Fut.refl _ _ _) (fun b _ hb hb' => hb ((hm _ b).2 hb')) (fun b _ => hno _ b) (zYH _);exact h1.closed rfl ρ H.length
theorem zLm {x : AV} {K K' : AV->zB->Prop} (h : nextA x H K) (hK : ∀ x H',K x H'->K' x H') : nextA x H K' := by
 unfold nextA at h ⊢;split at h
 ·unfold zR0 at h ⊢;split at h
  ·exact ⟨fun h0 => hK _ _ (h.1 h0),fun i hi => hK _ _ (h.2 i hi)⟩
  ·exact h.elim
 ·exact h.elim
theorem zBF {op : LOp} {K K' : AV->zB->Prop} (h : aop P op e H K) (hK : ∀ x H',K x H'->K' x H') : aop P op e H K' := by
 cases op <;> simp only [aop] at h ⊢ <;> first | exact ⟨h.1,hK _ _ h.2⟩ | exact ⟨h.1,fun b hb => hK _ _ (h.2 b hb)⟩ | exact zLm h hK | skip
 case call f args =>
  unfold zGx at h ⊢;split at h
  ·exact ACall.mono h hK
  ·exact AYield.mono h hK
  ·exact h.elim
 case callh f args =>
  unfold zGx at h ⊢;split at h
  ·exact ACall.mono h hK
  ·exact AYield.mono h hK
  ·exact h.elim
 case pick c a b =>
  split at h
  ·split at h
   ·rename_i hb; rw [if_pos hb]; exact hK _ _ h
   ·rename_i hb; rw [if_neg hb]; exact hK _ _ h
  ·exact h.elim
theorem zCy {op : LOp} {x : AV} (h : zDc P op e H fun y => y = x) : aop P op e H fun y H' => y = x/\H' = H := by
 cases op <;> simp only [zDc,aop] at h ⊢ <;> first | exact ⟨h.1,h.2.2,h.2.1⟩ | exact h.elim | skip
 case call f args =>
  split at h
  ·rename_i k first caps hf
   obtain ⟨y,h1,h2,rfl⟩ := h;rw [hf];exact h1.frame h2 H
  ·exact h.elim
 case callh f args =>
  split at h
  ·rename_i k first caps hf
   obtain ⟨y,h1,rfl⟩ := h;rw [hf];exact h1
  ·exact h.elim
 case pick c a b =>
  split at h
  ·split at h
   ·rename_i hb; rw [if_pos hb]; exact ⟨h,trivial⟩
   ·rename_i hb; rw [if_neg hb]; exact ⟨h,trivial⟩
  ·exact h.elim
theorem zSI {op : LOp} {K : AV->Prop} (h : zDc P op e H K) : ∃ x,K x/\zDc P op e H fun y => y = x := by
 cases op <;> simp only [zDc] at h ⊢ <;> first | exact ⟨_,h.2.2,h.1,h.2.1,rfl⟩ | exact h.elim | skip
 case call f args =>
  split at h
  ·obtain ⟨y,h1,h2,h3⟩ := h;exact ⟨y,h3,y,h1,h2,rfl⟩
  ·exact h.elim
 case callh f args =>
  split at h
  ·obtain ⟨y,h1,h3⟩ := h;exact ⟨y,h3,y,h1,rfl⟩
  ·exact h.elim
 case pick c a b =>
  split at h
  ·split at h
   ·rename_i hb; exact ⟨_,h,by rw [if_pos hb]⟩
   ·rename_i hb; exact ⟨_,h,by rw [if_neg hb]⟩
  ·exact h.elim
theorem zAk {e e' : Env} {x : LX} (h : ∀ t ∈ x.rd,e t = e' t) : ev e x = ev e' x := by
 cases x with
 | t n => exact h n (by simp [LX.rd])
 | c _ => rfl
theorem zCx {e e' : Env} {l : List LX} (h : ∀ t ∈ rdL l,e t = e' t) : l.map (ev e) = l.map (ev e') :=
 zzae fun x hx => zAk fun t ht => h t (zzaS.2 ⟨x,hx,ht⟩)
theorem zEN {e e' : Env} {l : Option LX} (h : ∀ t ∈ rdO l,e t = e' t) : l.map (ev e) = l.map (ev e') := by
 cases l with
 | none => rfl
 | some x => exact congrArg some (zAk h)
theorem zG9 {op : LOp} {e e' : Env} (h : ∀ t ∈ op.rd,e t = e' t) : zBb op e H = zBb op e' H := by
 cases op <;> simp only [LOp.rd,zY2] at h <;> simp only [zBb] <;> first | rfl | (rw [zAk h]; done) | (rw [zAk fun t ht => h t (.inl ht),zAk fun t ht => h t (.inr ht)]; done) | skip
 case build zs ps =>
  congr 1
  exact zzae fun p hp => by rw [zAk fun t ht => h t (zzaS.2 ⟨p,hp,ht⟩)]
 case bsl imm sz len zs ps =>
  congr 1
  exact zzae fun p hp => by rw [zAk fun t ht => h t (zzaS.2 ⟨p,hp,ht⟩)]
 case ins kd m k x => rw [zAk fun t ht => h t (.inl (.inl ht)),zAk fun t ht => h t (.inl (.inr ht)),zAk fun t ht => h t (.inr ht)]
 case mkfn f a b => rw [zCx fun t ht => h t (.inl ht),zCx fun t ht => h t (.inr ht)]
 case max3 x y z => rw [zAk fun t ht => h t (.inl (.inl ht)),zAk fun t ht => h t (.inl (.inr ht)),zAk fun t ht => h t (.inr ht)]
 case slicev lk k x lo hi => rw [zAk fun t ht => h t (.inl (.inl ht)),zEN fun t ht => h t (.inl (.inr ht)),zEN fun t ht => h t (.inr ht)]
 case slice lk k x lo hi => rw [zAk fun t ht => h t (.inl (.inl ht)),zEN fun t ht => h t (.inl (.inr ht)),zEN fun t ht => h t (.inr ht)]
theorem zLU {op : LOp} {e e' : Env} {K : AV->Prop} (h : ∀ t ∈ op.rd,e t = e' t) (hk : zDc P op e H K) : zDc P op e' H K := by
 have ha := zG9 (H := H) h;cases op <;> simp only [zDc] at hk ⊢ <;> first | (rw [<- ha]; exact hk) | exact hk | skip
 case call f args =>
  simp only [LOp.rd,zY2] at h;rw [<- zAk fun t ht => h t (.inl ht),<- zCx fun t ht => h t (.inr ht)];exact hk
 case callh f args =>
  simp only [LOp.rd,zY2] at h;rw [<- zAk fun t ht => h t (.inl ht),<- zCx fun t ht => h t (.inr ht)];exact hk
 case pick c a b =>
  simp only [LOp.rd,zY2] at h;rw [<- zAk fun t ht => h t (.inl (.inl ht)),<- zAk fun t ht => h t (.inl (.inr ht)),<- zAk fun t ht => h t (.inr ht)];exact hk
def zDe (P : Program) (o : LO) (e : Env) (H : zB) (x : AV) : Prop :=
 (zBi o.g e = some true/\zDc P o.op e H fun y => y = x)\/(zBi o.g e = some false/\x = zAu)
theorem zBV {g : Option (Nat × Bool)} {e e' : Env} (h : ∀ t want,g = some (t,want)->e t = e' t) : zBi g e = zBi g e' := by
 cases g with
 | none => rfl
 | some p =>
  obtain ⟨t,want⟩ := p;simp only [zBi];rw [h t want rfl]
theorem zBk {o : LO} {e e' : Env} {x : AV} (h : ∀ t ∈ o.rd,e t = e' t) (hk : zDe P o e H x) : zDe P o e' H x := by
 have hg : zBi o.g e = zBi o.g e' := zBV fun t want hg => h t (by simp [LO.rd,hg]);rcases hk with ⟨h1,h2⟩ | ⟨h1,h2⟩
 ·exact .inl ⟨by rw [<- hg]; exact h1,zLU (fun t ht => h t (by simp [LO.rd,ht])) h2⟩
 ·exact .inr ⟨by rw [<- hg]; exact h1,h2⟩
theorem zCm {o : LO} {l : List LO} {K : Env->zB->Prop} (h : (zBi o.g e = some true/\aop P o.op e H fun x H' => zAD P l (ups e o.d x) H' K)\/(zBi o.g e = some false/\zAD P l (ups e o.d zAu) H K)) : zAD P (o :: l) e H K := by
 simp only [zAD];cases hg : o.g with
 | none =>
  rw [hg] at h;rcases h with h | h
  ·exact h.2
  ·simp [zBi] at h
 | some tw =>
  obtain ⟨t,want⟩ := tw;rw [hg] at h;simp only [zBi] at h;cases het : e t with
  | v x =>
   rw [het] at h;cases x <;> simp only [zYq,reduceCtorEq,false_and,or_self,zYM,false_or,true_and] at h ⊢ <;> first | exact h | skip
   case bool b =>
    have hu : up e t (bool b) = e := zK2 het;cases b <;> cases want <;> simp [hu,het] at h ⊢ <;> exact h
   case tuple us => rw [het]; exact h
  | _ => rw [het] at h; simp at h
theorem zDa {o : LO} {l : List LO} {K : Env->Prop} (h : zAR P (o :: l) e H K) : ∃ x,zDe P o e H x/\zAR P l (ups e o.d x) H K := by
 have fin : (zBi o.g e = some true/\zDc P o.op e H fun x => zAR P l (ups e o.d x) H K)\/(zBi o.g e = some false/\zAR P l (ups e o.d zAu) H K) := by
  simp only [zAR] at h;cases hg : o.g with
  | none => rw [hg] at h; exact .inl ⟨rfl,h⟩
  | some tw =>
   obtain ⟨t,want⟩ := tw;rw [hg] at h;simp only at h;cases het : e t with
   | v x =>
    rw [het] at h;cases x <;> simp only at h <;> first | exact h.elim | skip
    case bool b =>
     have hu : up e t (bool b) = e := zK2 het;cases b <;> cases want <;> simp only [hu,if_true,zYM,if_false,zBi,het] at h ⊢ <;> first | exact .inl ⟨rfl,h⟩ | exact .inr ⟨rfl,h⟩
    case tuple us => exact .inr ⟨by simp [zBi,het],h⟩
   | _ => rw [het] at h; exact h.elim
 rcases fin with ⟨h1,h2⟩ | ⟨h1,h2⟩
 ·obtain ⟨x,h3,h4⟩ := zSI h2;exact ⟨x,.inl ⟨h1,h4⟩,h3⟩
 ·exact ⟨_,.inr ⟨h1,rfl⟩,h2⟩
def ED (hd : List LO) (xs : Nat->AV) (e : Env) (D : Nat->Bool) : Nat->Env
 | 0 => e
 | k + 1 => if D k = true then ups (ED hd xs e D k) (hd.getD k default).d (xs k) else ED hd xs e D k
theorem zBJ {d : Option Nat} {x : AV} {t : Nat} (h : d ≠ some t) : ups e d x t = e t := by
 cases d with
 | none => rfl
 | some d => simp only [ups,up]; rw [if_neg fun hh => h (by rw [hh])]
theorem zBc {x : AV} {t : Nat} : ups e (some t) x t = x := by simp [ups,up]
variable {hd : List LO} {xs : Nat->AV}
theorem zAv {D D' : Nat->Bool} {t : Nat} : ∀ k,(∀ j,j < k->(hd.getD j default).d = some t->D j = D' j)->ED hd xs e D k t = ED hd xs e D' k t
 | 0,_ => rfl
 | k + 1,h => by
  have ih := zAv k fun j hj => h j (by omega);simp only [ED];by_cases hd' : (hd.getD k default).d = some t
  ·rw [h k (by omega) hd',hd'];split
   ·rw [zBc,zBc]
   ·exact ih
  ·split <;> split <;> simp only [zBJ hd',ih]
theorem zBa {D : Nat->Bool} {t i : Nat} : ∀ k,i <= k->(∀ j,i <= j->j < k->(hd.getD j default).d = some t->D j = false)->ED hd xs e D k t = ED hd xs e D i t
 | 0,hk,_ => by rw [show i = 0 by omega]
 | k + 1,hk,h => by
  by_cases hik : i = k + 1
  ·rw [hik]
  ·rw [<- zBa k (by omega) fun j h1 h2 => h j h1 (by omega)];simp only [ED];by_cases hd' : (hd.getD k default).d = some t
   ·rw [h k (by omega) (by omega) hd']; simp
   ·split
    ·exact zBJ hd'
    ·rfl
theorem zHS {o : LO} {l : List LO} {x : AV} {xs : Nat->AV} : ∀ i,ED (o :: l) (fun i => match i with | 0 => x | i + 1 => xs i) e (fun _ => true) (i + 1) = ED l xs (ups e o.d x) (fun _ => true) i
 | 0 => by simp [ED]
 | i + 1 => by
  have ih := zHS (o := o) (l := l) (x := x) (xs := xs) i;rw [ED,ih];simp [ED]
theorem zB4 : ∀ (hd : List LO) {e : Env} {K : Env->Prop},zAR P hd e H K->∃ xs : Nat->AV,K (ED hd xs e (fun _ => true) hd.length)/\∀ i,i < hd.length->zDe P (hd.getD i default) (ED hd xs e (fun _ => true) i) H (xs i)
 | [],e,K,h => ⟨fun _ => .any,h,fun i hi => by simp at hi⟩
 | o :: l,e,K,h => by
  obtain ⟨x,h1,h2⟩ := zDa h;obtain ⟨xs,h3,h4⟩ := zB4 l h2;refine ⟨fun i => match i with | 0 => x | i + 1 => xs i,?_,fun i hi => ?_⟩
  ·rw [zYs,zHS]; exact h3
  ·cases i with
   | zero => exact h1
   | succ i =>
    rw [zHS];exact h4 i (by simpa using hi)
theorem zFY {t : Nat} {l : List Nat} (h : zTl (some t) l = false) : t ∉ l := by simpa [zTl] using h
theorem zF1 {hs : List Hn} {reg : Nat} {ops : Array Oper} : ∀ (l : List Oper) (i : Nat) (hd : List LO),zIy P n hs reg ops i l = some hd->hd.length = l.length/\∀ k o,l[k]? = some o->∃ imm,zAP P n imm ops o = some (hd.getD k default)
 | [],i,hd,h => by
  simp only [zIy,zYq] at h;subst h;exact ⟨rfl,fun k o h => by simp at h⟩
 | o :: l,i,hd,h => by
  unfold zIy at h;cases h1 : zAP P n (zBn hs reg i) ops o with
  | none => simp [h1] at h
  | some lo =>
   cases h2 : zIy P n hs reg ops (i + 1) l with
   | none => simp [h1,h2] at h
   | some m =>
    simp only [h1,h2,zYq] at h;subst h;obtain ⟨g1,g2⟩ := zF1 l (i + 1) m h2;refine ⟨by simp [g1],fun k o' hk => ?_⟩;cases k with
    | zero => simp at hk; subst hk; exact ⟨_,h1⟩
    | succ k => simpa using g2 k o' (by simpa using hk)
variable {ops : Array Oper}
theorem zD7 {hdl : List LO} {h : Nat} (hd : zG1 ops hdl h = true) {i j : Nat} (hj : j < ops.size) (hi : i < j) :
  ((Region.before ops).getD j 0).testBit i = true\/(j < h/\zAt (hdl.getD i default) (hdl.getD j default) = false) := by
 unfold zG1 at hd;have h1 := zYR.1 hd j (zY9.2 hj);have h2 := zYR.1 h1 i (zY9.2 hi);simp only [zZq,zYA,zYy,zZi] at h2;exact h2
theorem zCr {r : Option Nat} {m0 : Nat} {hs : List Hn} {reg h : Nat} {K : Env->zB->Prop} {Q : Exit->Act->World->Prop} (hE : zAx ops = true) (hT : ∀ i j,h <= i->i < j->j < ops.size->((Region.before ops).getD j 0).testBit i = true)
  (hQ : ∀ e' H' a' w',K e' H'->St B X w0 ρ0 n0 n e' H' a' w'->Q .normal a' w') :
  ∀ (fuel k : Nat) (los : List LO) (e : Env) (H : zB) (a : Act) (w : World) (listed : Array Bool),h <= k->fuel + k = ops.size->listed.size = ops.size->(∀ j,j < ops.size->listed.getD j true = decide (j < k))->Closed ops listed ->
   zBK P n hs reg ops k (ops.toList.drop k) = some los->zAD P los e H K->St B X w0 ρ0 n0 n e H a w->wpAnyIn (WR r) m0 P .any ops Q fuel listed a w
 | 0,k,los,e,H,a,w,listed,hk,hf,hsz,hl,hc,hlo,h,hst => by
  rw [zZ5 (by simp; omega)] at hlo;unfold zBK at hlo;split at hlo
  ·rename_i hg;simp only [zYq] at hlo;subst hlo;obtain ⟨e',H',h',hst'⟩ := zAp (zAn hs reg k) (los := []) hg (by simpa using h) hst;refine ⟨zZk.2 fun i hi => ?_,hQ _ _ _ _ h' hst'⟩;obtain ⟨h1,o,h2,_⟩ := mem_ready.1 hi;have h3 := (zYJ.1 h2).1;rw [hl i h3] at h1;simp at h1;omega
  ·cases hlo
 | fuel + 1,k,los,e,H,a,w,listed,hk,hf,hsz,hl,hc,hlo,h,hst => by
  have hks : k < ops.size := by omega
  rw [zY4 (by simpa using hks)] at hlo;have hop : ops[k]? = some (ops.toList[k]'(by simpa using hks)) := by simp [hks]
  generalize ops.toList[k]'(by simpa using hks) = o at hlo hop;unfold zBK at hlo;cases h1 : zAP P n (zBn hs reg k) ops o with
  | none => simp [h1] at hlo
  | some lo =>
   cases h2 : zBK P n hs reg ops (k + 1) (ops.toList.drop (k + 1)) with
   | none => simp [h1,h2] at hlo
   | some m =>
    simp only [h1,h2] at hlo;split at hlo
    ·rename_i hg;simp only [zYq] at hlo;subst hlo;obtain ⟨e',H',h',hst'⟩ := zAp (zAn hs reg k) hg h hst;have hkr : k ∈ Region.ready .any ops listed := zCp hE hks (by rw [hl k hks]; simp) fun j hj => by rw [zV (by omega),hl j (by omega)]; simpa using hj
     refine ⟨fun h0 => by rw [h0] at hkr; simp at hkr,fun i hi => ?_⟩;have hik : i = k := by
      obtain ⟨g1,oi,g2,g3⟩ := mem_ready.1 hi;have g4 := (zYJ.1 g2).1;rw [hl i g4] at g1;simp only [zYY,Nat.not_lt] at g1;rcases zZY k i with g5 | g5
      ·have := zP hc i oi k g2 (hT k i hk g5 g4) g3;rw [zV (by omega),hl k hks] at this;simp at this
      ·omega
     subst hik;have hnx := zBl (r := r) (m0 := m0) h1 h' hst' (next := wpAnyIn (WR r) m0 P .any ops Q fuel (listed.setIfInBounds i true)) (Q := Q) fun e'' H'' a'' w'' hK hs'' =>
      zCr hE hT hQ fuel (i + 1) m e'' H'' a'' w'' (listed.setIfInBounds i true) (by omega) (by omega) (by simpa using hsz) (fun j hj => by
       rw [zAc];by_cases hji : j = i
       ·rw [if_pos ⟨hji,by omega⟩]; simp; omega
       ·rw [if_neg fun hh => hji hh.1,hl j hj];have : (j < i) = (j < i + 1) := by simp; omega
        simp only [this]) (hc.set hi) h2 hK hs''
     unfold wpOpIn;rw [hop];simp only;exact hnx
    ·cases hlo
theorem zBh {a b : LO} (h : zAt a b = false) : (∀ t,a.d = some t->t ∉ b.rd)/\(∀ t,b.d = some t->t ∉ a.rd)/\∀ t,a.d = some t->b.d ≠ some t := by
 simp only [zAt,Bool.or_eq_false_iff] at h;refine ⟨fun t ht => zFY (by rw [<- ht]; exact h.1.1),fun t ht => zFY (by rw [<- ht]; exact h.1.2),fun t ht ht' => ?_⟩;have := h.2;rw [ht,ht'] at this;simp at this
theorem zGf {hdl : List LO} {h : Nat} (hd : zG1 ops hdl h = true) : ∀ i j,h <= i->i < j->j < ops.size->((Region.before ops).getD j 0).testBit i = true := fun i j h1 h2 h3 => by
 rcases zD7 hd h3 h2 with g | g
 ·exact g
 ·omega
theorem zLx {r : Option Nat} {m0 : Nat} {hs : List Hn} {reg h : Nat} {tl : List LO} {K : Env->zB->Prop} {Q : Exit->Act->World->Prop} (hE : zAx ops = true) (hD : zG1 ops hd h = true) (hh : h <= ops.size)
  (hlen : hd.length = h) (hget : ∀ k o,k < h->ops[k]? = some o->∃ imm,zAP P n imm ops o = some (hd.getD k default)) (hx : ∀ i,i < h->zDe P (hd.getD i default) (ED hd xs e (fun _ => true) i) H (xs i))
  (htl : zBK P n hs reg ops h (ops.toList.drop h) = some tl) (hK : zAD P tl (ED hd xs e (fun _ => true) h) H K)
  (hQ : ∀ e' H' a' w',K e' H'->St B X w0 ρ0 n0 n e' H' a' w'->Q .normal a' w') :
  ∀ (fuel : Nat) (a : Act) (w : World) (listed : Array Bool),fuel = left listed ops.size->listed.size = ops.size->(∀ j,h <= j->j < ops.size->listed.getD j true = false)->Closed ops listed ->
   St B X w0 ρ0 n0 n (ED hd xs e (fun j => listed.getD j false) h) H a w->wpAnyIn (WR r) m0 P .any ops Q fuel listed a w := by
 intro fuel;induction fuel with
 | zero =>
  intro a w listed hf hsz ht hc hst;have hall : ∀ j,j < ops.size->listed.getD j true = decide (j < h) := by
   intro j hj;by_cases hjh : j < h
   ·cases hb : listed.getD j true with
    | true => simp [hjh]
    | false => have := zDo hb ops.size hj; omega
   ·rw [ht j (by omega) hj]; simp [hjh]
  have hE' : ED hd xs e (fun j => listed.getD j false) h = ED hd xs e (fun _ => true) h := by
   funext t
   exact zAv h fun j hj _ => by rw [zV (by omega),hall j (by omega)]; simpa using hj
  rw [hE'] at hst;have h0 := zBI ops.size hall;exact zCr hE (zGf hD) hQ 0 h tl _ H a w listed (zYH _) (by omega) hsz hall hc htl hK hst
 | succ fuel ih =>
  intro a w listed hf hsz ht hc hst;by_cases hfull : ∀ j,j < h->listed.getD j true = true
  ·have hall : ∀ j,j < ops.size->listed.getD j true = decide (j < h) := by
    intro j hj;by_cases hjh : j < h
    ·rw [hfull j hjh]; simp [hjh]
    ·rw [ht j (by omega) hj]; simp [hjh]
   have hE' : ED hd xs e (fun j => listed.getD j false) h = ED hd xs e (fun _ => true) h := by
    funext t
    exact zAv h fun j hj _ => by rw [zV (by omega),hall j (by omega)]; simpa using hj
   rw [hE'] at hst;have h0 := zBI ops.size hall;exact zCr hE (zGf hD) hQ (fuel + 1) h tl _ H a w listed (zYH _) (by omega) hsz hall hc htl hK hst
  ·have hun : ∃ i,i < h/\listed.getD i true = false := by
    refine zYX fun hno => hfull fun j hj => ?_;cases hb : listed.getD j true with
    | true => rfl
    | false => exact absurd ⟨j,hj,hb⟩ hno
   obtain ⟨i0,hi0,hi0u,hi0l⟩ := zCL hun;have hr0 : i0 ∈ Region.ready .any ops listed := zCp hE (by omega) hi0u fun j hj => by rw [zV (by omega)]; exact hi0l j hj
   refine ⟨fun h0 => by rw [h0] at hr0; simp at hr0,fun i hi => ?_⟩;obtain ⟨hiu,oi,hoi,hiall⟩ := mem_ready.1 hi;have his : i < ops.size := (zYJ.1 hoi).1;have hih : i < h := by
    refine zYX fun hge => ?_;rcases zD7 hD (i := i0) his (by omega) with g6 | g6
    ·have := zP hc i oi i0 hoi g6 hiall;rw [zV (by omega),hi0u] at this;cases this
    ·omega
   have hidf : listed.getD i false = false := by rw [zV (by omega)]; exact hiu
   have hbef : ∀ j,j < i->zAt (hd.getD j default) (hd.getD i default) = true->listed.getD j false = true := by
    intro j hj hcf;rcases zD7 hD his hj with g6 | g6
    ·exact zP hc i oi j hoi g6 hiall
    ·rw [g6.2] at hcf; cases hcf
   have hbeh : ∀ j,i < j->j < h->zAt (hd.getD i default) (hd.getD j default) = true->listed.getD j false = false := by
    intro j hj hjh hcf;rcases zD7 hD (show j < ops.size by omega) hj with g6 | g6
    ·cases hb : listed.getD j false with
     | false => rfl
     | true =>
      obtain ⟨oj,hoj⟩ : ∃ oj,ops[j]? = some oj := ⟨ops[j]'(by omega),by simp [show j < ops.size by omega]⟩;have := zP hc j oj i hoj g6 (hc j oj hoj hb);rw [hidf] at this;cases this
    ·rw [g6.2] at hcf; cases hcf
   have hcf1 : ∀ a b : LO,∀ t,a.d = some t->t ∈ b.rd->zAt a b = true := by
    intro a b t h1 h2;cases hb : zAt a b with
    | true => rfl
    | false => exact absurd h2 ((zBh hb).1 t h1)
   have hcf2 : ∀ a b : LO,∀ t,b.d = some t->t ∈ a.rd->zAt a b = true := by
    intro a b t h1 h2;cases hb : zAt a b with
    | true => rfl
    | false => exact absurd h2 ((zBh hb).2.1 t h1)
   have hcf3 : ∀ a b : LO,∀ t,a.d = some t->b.d = some t->zAt a b = true := by
    intro a b t h1 h2;cases hb : zAt a b with
    | true => rfl
    | false => exact absurd h2 ((zBh hb).2.2 t h1)
   have hA : ∀ t ∈ (hd.getD i default).rd,ED hd xs e (fun _ => true) i t = ED hd xs e (fun j => listed.getD j false) h t := by
    intro t htr;rw [zBa (i := i) h (by omega) fun j h1 h2 h3 => by
     by_cases hji : j = i
     ·rw [hji]; exact hidf
     ·exact hbeh j (by omega) h2 (hcf2 _ _ t h3 htr)]
    exact zAv i fun j h1 h2 => (hbef j h1 (hcf1 _ _ t h2 htr)).symm
   have hB : ups (ED hd xs e (fun j => listed.getD j false) h) (hd.getD i default).d (xs i) = ED hd xs e (fun j => (listed.setIfInBounds i true).getD j false) h := by
    funext t
    by_cases hdt : (hd.getD i default).d = some t
    ·rw [zBa (i := i + 1) h (by omega) fun j h1 h2 h3 => by
      rw [zAc,if_neg (by omega)];exact hbeh j (by omega) h2 (hcf3 _ _ t hdt h3)]
     rw [hdt,zBc];have hset : (listed.setIfInBounds i true).getD i false = true := by rw [zAc,if_pos ⟨rfl,by omega⟩]
     simp only [ED];rw [if_pos hset,hdt,zBc]
    ·rw [zBJ hdt];exact zAv h fun j h1 h2 => by
      rw [zAc,if_neg];rintro ⟨rfl,_⟩;exact hdt h2
   have hstep := zBk hA (hx i hih);obtain ⟨imm,hlow⟩ := hget i oi hih hoi;have hone : zAD P [hd.getD i default] (ED hd xs e (fun j => listed.getD j false) h) H fun e' H' => e' = ED hd xs e (fun j => (listed.setIfInBounds i true).getD j false) h/\H' = H := by
    refine zCm ?_;rcases hstep with ⟨g1,g2⟩ | ⟨g1,g2⟩
    ·refine .inl ⟨g1,?_⟩;have := zCy g2;simp only [zAD];refine zBF this ?_;rintro y H' ⟨rfl,rfl⟩;exact ⟨hB,rfl⟩
    ·refine .inr ⟨g1,?_⟩;rw [<- g2];exact ⟨hB,rfl⟩
   have hnx := zBl (r := r) (m0 := m0) hlow hone hst (next := wpAnyIn (WR r) m0 P .any ops Q fuel (listed.setIfInBounds i true)) (Q := Q) fun e'' H'' a'' w'' hK'' hs'' => by
    obtain ⟨rfl,rfl⟩ := hK'';refine ih a'' w'' _ ?_ (by simpa using hsz) (fun j h1 h2 => by rw [zAc,if_neg (by omega)]; exact ht j h1 h2) (hc.set hi) hs'';have := zDn hiu ops.size;rw [if_pos his] at this;omega
   unfold wpOpIn;rw [hoi];simp only;exact hnx
theorem zLK {r : Option Nat} {m0 : Nat} {hs : List Hn} {id h : Nat} {tl : List LO} {K : Env->zB->Prop} {Q : Exit->Act->World->Prop} (hhd : zIy P n hs id ops 0 (ops.toList.take h) = some hd) (htl : zBK P n hs id ops h (ops.toList.drop h) = some tl)
  (hD : zG1 ops hd h = true) (hE : zAx ops = true) (hm : P.follows .mixedOrders = true) (hh : h <= ops.size) (hK : zAR P hd e H fun e' => zAD P tl e' H K) (hst : St B X w0 ρ0 n0 n e H a w)
  (hQ : ∀ e' H' a' w',K e' H'->St B X w0 ρ0 n0 n e' H' a' w'->Q .normal a' w') : wpAnyIn (WR r) m0 P .any ops Q ops.size (Array.replicate ops.size false) a { w with drawn := w.drawn + 1 } := by
 obtain ⟨g1,g2⟩ := zF1 _ _ _ hhd;have hlen : hd.length = h := by rw [g1]; simp; omega
 obtain ⟨xs,g3,g4⟩ := zB4 hd hK;rw [hlen] at g3 g4;have h0 : ∀ j,(Array.replicate ops.size false).getD j false = false := fun j => getD_replicate_false _ _;have h1 : ∀ j,j < ops.size->(Array.replicate ops.size false).getD j true = false := fun j hj => by rw [<- zV (by simpa using hj)]; exact h0 j
 refine zLx hE hD hh hlen (fun k o hk ho => g2 k o ?_) g4 htl g3 hQ ops.size a _ _ ?_ (by simp) (fun j _ hj => h1 j hj) ?_ ?_
 ·rw [zZp,if_pos hk]; simpa using ho
 ·have := zBI (listed := Array.replicate ops.size false) (h := 0) ops.size fun j hj => by rw [h1 j hj]; simp
  omega
 ·intro j oj hj hl;rw [h0 j] at hl;cases hl
 ·have : ED hd xs e (fun j => (Array.replicate ops.size false).getD j false) h = e := by
   funext t
   rw [zBa (i := 0) h (zYO _) fun j _ _ _ => h0 j];rfl
  rw [this];exact hst.still ⟨rfl,rfl,rfl,zYH _⟩ rfl
end
section
variable {B : DB} {P : Program} {w w0 : World} {X : Nat → Prop} {ρ ρ0 : Nat → Loc} {H H' ext : zB} {e : Env} {a : Act} {n n0 : Nat}
def Res.at (r : Res) (H : zB) : Res := ⟨r.ok,r.x,H⟩
theorem zSg (op : BinOp) (k k' : IntKind) (a b : Int) : iBin op k k' a b H' = (iBin op k k' a b H).at H' := by cases op <;> rfl
theorem zRz (op : BinOp) (a b : List UInt8) : sBin op a b H' = (sBin op a b H).at H' := by cases op <;> rfl
theorem zFy (op : BinOp) (p : Prop) (b : Bool) : eqRes op p b H' = (eqRes op p b H).at H' := by cases op <;> rfl
theorem zJ8 (t : TypeId) (x : AV) : rMkif t x H' = (rMkif t x H).at H' := by unfold rMkif; split <;> rfl
theorem zMO (kd : KD) (op : BinOp) (x y : AV) : rBin kd op x y H' = (rBin kd op x y H).at H' := by
 unfold rBin;split
 ·exact zSg _ _ _ _ _
 ·exact zRz _ _ _
 ·exact zFy _ _ _
 ·cases kd <;> first | rfl | exact zFy _ _ _
 ·exact zFy _ _ _
 ·exact zFy _ _ _
 ·rfl
theorem zMC (x : AV) : rNot x H' = (rNot x H).at H' := by unfold rNot; split <;> rfl
theorem zME (x : AV) : rNeg x H' = (rNeg x H).at H' := by unfold rNeg; split <;> rfl
theorem zMJ (ag : Bool) (o k : Nat) (x : AV) : rFld ag o k x H' = (rFld ag o k x H).at H' := by unfold rFld; split <;> rfl
theorem zMI (x i : AV) : rIdx x i H' = (rIdx x i H).at H' := by unfold rIdx; split <;> rfl
theorem zMK (x : AV) (i : Nat) : rExt x i H' = (rExt x i H).at H' := by unfold rExt; split <;> rfl
theorem zMF (x y : AV) : rMin x y H' = (rMin x y H).at H' := by unfold rMin; split <;> rfl
theorem zJ9 (x y z : AV) : rMax3 x y z H' = (rMax3 x y z H).at H' := by unfold rMax3; split <;> rfl
theorem zMG (x y : AV) : rMax x y H' = (rMax x y H).at H' := by unfold rMax; split <;> rfl
theorem zGC (lk : LK) (n : Nat) (x : AV) (lo hi : Option AV) : zDi lk n x lo hi H' = (zDi lk n x lo hi H).at H' := by
 cases x with
 | sl a b =>
  show rSlice _ _ _ _ _ _ = (rSlice _ _ _ _ _ _).at _;unfold rSlice;generalize bnd 0 lo = l;generalize bnd ((lenOf (AV.sl a b)).getD 0) hi = h;cases l <;> cases h <;> rfl
 | v v =>
  show rSlice _ _ _ _ _ _ = (rSlice _ _ _ _ _ _).at _;unfold rSlice;generalize bnd 0 lo = l;generalize bnd ((lenOf (AV.v v)).getD 0) hi = h;cases v with
  | slice a b c => cases a <;> cases b <;> cases c <;> cases l <;> cases h <;> rfl
  | _ => cases l <;> cases h <;> rfl
 | _ => rfl
theorem zGF (sz : Nat) (x i : AV) : zDj sz x i H' = (zDj sz x i H).at H' := by
 unfold zDj rIaddr;split
 ·split
  ·rfl
  ·rename_i h; cases h
  ·rfl
 ·rfl
theorem zMN (x : AV) : rBox true x H' = (rBox true x H).at H' := rfl
theorem zMM (sz len : Nat) (zs : List AV) (ps : List (Nat × AV)) : rBsl true sz len zs ps H' = (rBsl true sz len zs ps H).at H' := rfl
theorem zE3 {r : Nat} {o : HO} (h : H[r]? = some o) : (H ++ ext)[r]? = some o := by
 rw [zYD (zYr.1 h).1]; exact h
theorem zCv {ver r : Nat} (h : isVer ver H[r]?) : (H ++ ext)[r]? = H[r]? := by
 cases hh : H[r]? with
 | none => rw [hh] at h; exact h.elim
 | some o => exact zE3 hh
theorem zF6 {r : Nat} (h : isArr H[r]?) : (H ++ ext)[r]? = H[r]? := by
 cases hh : H[r]? with
 | none => rw [hh] at h; exact h.elim
 | some o => exact zE3 hh
def More (r r' : Res) (H H' : zB) : Prop := r'.ok/\r'.x = r.x/\(r.H = H->r'.H = H')
theorem More.of_at {r r' : Res} (h : r' = r.at H') (hok : r.ok) : More r r' H H' := by subst h; exact ⟨hok,rfl,fun _ => rfl⟩
theorem zIi (ag : Bool) (k i off : Nat) (o : Option HO) : rLoadO ag k i off H' o = (rLoadO ag k i off H o).at H' := by unfold rLoadO; split <;> rfl
theorem zGD {ag : Bool} {k : Nat} {p : AV} (h : (rLoad ag k p H).ok) : More (rLoad ag k p H) (rLoad ag k p (H ++ ext)) H (H ++ ext) := by
 cases p <;> simp only [rLoad] at h ⊢ <;> first | exact h.elim | skip
 case vp => exact ⟨h,rfl,fun _ => rfl⟩
 case ptr r ver off => rw [zCv h.1.2]; exact .of_at (by rw [zIi (H := H)]; rfl) h
 case pe r ver i off => rw [zCv h.1.2]; exact .of_at (by rw [zIi (H := H)]; rfl) h
theorem zJi {ag : Bool} {k : Nat} {p : AV} (h : (zCo ag k p H).ok) : More (zCo ag k p H) (zCo ag k p (H ++ ext)) H (H ++ ext) := by
 cases p <;> first | exact h.elim | exact zGD h
theorem zMD {x : AV} (h : (rNil x H).ok) : More (rNil x H) (rNil x (H ++ ext)) H (H ++ ext) := by
 cases x <;> simp only [rNil] at h ⊢ <;> first | exact h.elim | exact ⟨h,rfl,fun _ => rfl⟩ | skip
 case fn f a b => cases f <;> simp only [rNil] at h ⊢ <;> first | exact h.elim | exact ⟨h,rfl,fun _ => rfl⟩
 case ptr r ver off => rw [zCv h]; exact ⟨h,rfl,fun _ => rfl⟩
 case pe r ver i off => rw [zCv h]; exact ⟨h,rfl,fun _ => rfl⟩
theorem zFp {sz : Nat} {x : AV} (h : szOk H sz x) : szOk (H ++ ext) sz x/\rowsOf (H ++ ext) x = rowsOf H x := by
 cases x
 case os r ver off len =>
  simp only [szOk] at h ⊢;split at h
  ·rename_i v s xs hh;rw [zE3 hh];exact ⟨h,by simp only [rowsOf,osRows,hh,zE3 (ext := ext) hh]⟩
  ·exact h.elim
 case v u =>
  cases u <;> first | exact ⟨h,rfl⟩ | skip
  case slice a l c => cases a <;> cases l <;> cases c <;> first | exact ⟨h,rfl⟩ | exact h.elim
 all_goals exact ⟨h,rfl⟩
theorem zLh {c : Cv} {x : AV} (h : (rConv c x H).ok) : More (rConv c x H) (rConv c x (H ++ ext)) H (H ++ ext) := by
 have hno : ∀ {r : Res},r = .no H->r.ok->False := fun h1 h2 => by rw [h1] at h2; exact h2
 have hb : ∀ y : AV,szOk H 1 y/\((rowsOf H y).bind zAT).isSome = true->szOk (H ++ ext) 1 y/\((rowsOf (H ++ ext) y).bind zAT).isSome = true := fun y hy => by
  have := zFp (ext := ext) hy.1;exact ⟨this.1,by rw [this.2]; exact hy.2⟩
 have hs : ∀ y : AV,szOk H 1 y->(rowsOf (H ++ ext) y) = rowsOf H y := fun y hy => (zFp hy).2;cases c <;> cases x <;> simp only [rConv] at h ⊢ <;> first
  | exact h.elim
  | exact ⟨h,rfl,fun _ => rfl⟩
  | exact ⟨hb _ h,by rw [hs _ h.1],fun _ => rfl⟩
  | skip
 case sameB.os => rw [zF6 h.2.1]; exact ⟨h,rfl,fun _ => rfl⟩
 all_goals
  rename_i u;cases u <;> simp only [rConv] at h ⊢ <;> first
   | exact h.elim
   | exact ⟨h,rfl,fun _ => rfl⟩
   | exact ⟨hb _ h,by rw [hs _ h.1],fun _ => rfl⟩
theorem zJh {lk : LK} {k : Nat} {x : AV} {lo hi : Option AV} (h : (rSlice lk k x lo hi H).ok) : More (rSlice lk k x lo hi H) (rSlice lk k x lo hi (H ++ ext)) H (H ++ ext) := by
 obtain ⟨⟨h1,h2⟩,h3⟩ := h;have h2' := (zFp (ext := ext) h2).1;have h4 : More (rSliceN x (bnd 0 lo) (bnd ((lenOf x).getD 0) hi) H) (rSliceN x (bnd 0 lo) (bnd ((lenOf x).getD 0) hi) (H ++ ext)) H (H ++ ext) := by
  unfold rSliceN at h3 ⊢;split at h3
  ·exact ⟨h3,rfl,fun _ => rfl⟩
  ·exact ⟨h3,rfl,fun _ => rfl⟩
  ·rw [zF6 h3.2.2.2.1]; exact ⟨h3,rfl,fun _ => rfl⟩
  ·exact ⟨h3,rfl,fun _ => rfl⟩
  ·exact h3.elim
 exact ⟨⟨⟨h1,h2'⟩,h4.1⟩,h4.2.1,h4.2.2⟩
theorem zFS {k : Nat} {p : AV} (h : (rFaddr k p H).ok) : More (rFaddr k p H) (rFaddr k p (H ++ ext)) H (H ++ ext) := by
 cases p <;> simp only [rFaddr] at h ⊢ <;> first | exact h.elim | exact ⟨h,rfl,fun _ => rfl⟩ | skip
 case ptr r ver off => rw [zCv h.2]; exact ⟨h,rfl,fun _ => rfl⟩
 case pe r ver i off => rw [zCv h.2]; exact ⟨h,rfl,fun _ => rfl⟩
theorem zIj {k : Nat} {p : AV} (h : (zBG k p H).ok) : More (zBG k p H) (zBG k p (H ++ ext)) H (H ++ ext) := by
 cases p <;> first | exact h.elim | exact zFS h
theorem zJj {sz : Nat} {x i : AV} (h : (rIaddr sz x i H).ok) : More (rIaddr sz x i H) (rIaddr sz x i (H ++ ext)) H (H ++ ext) := by
 unfold rIaddr at h ⊢;split at h
 ·exact ⟨h,rfl,fun _ => rfl⟩
 ·rw [zCv h.2.2.2];exact ⟨⟨h.1,h.2.1,(zFp h.2.2.1).1,h.2.2.2⟩,rfl,fun _ => rfl⟩
 ·exact h.elim
theorem zLe {kd : KD} {z : AV} {ok : Bool} {m k : AV} (h : (rLook kd z ok m k H).ok) : More (rLook kd z ok m k H) (rLook kd z ok m k (H ++ ext)) H (H ++ ext) := by
 unfold rLook at h ⊢;split at h
 ·exact ⟨h,rfl,fun _ => rfl⟩
 ·split at h
  ·rename_i hh;rw [zE3 hh];exact ⟨h,rfl,fun _ => rfl⟩
  ·exact h.elim
 ·exact h.elim
theorem zMH {lk : LK} {x : AV} (h : (rLen lk x H).ok) : More (rLen lk x H) (rLen lk x (H ++ ext)) H (H ++ ext) := by
 obtain ⟨h1,h2⟩ := h;refine ⟨⟨h1,?_⟩,rfl,fun _ => rfl⟩;cases x <;> first | exact h2 | skip
 case os r ver off len => simp only [verOk] at h2 ⊢; rw [zF6 h2.1]; exact h2
theorem zLi {op : LOp} (hq : zEA op = true) (h : (zBb op e H).ok) : More (zBb op e H) (zBb op e (H ++ ext)) H (H ++ ext) := by
 cases op <;> simp only [zEA] at hq <;> simp only [zBb] at h ⊢ <;> first
  | exact (zzaI hq).elim
  | exact h.elim
  | exact ⟨h,rfl,fun _ => rfl⟩
  | exact .of_at (zMO ..) h
  | exact .of_at (zMC ..) h
  | exact .of_at (zJ8 ..) h
  | exact .of_at (zME ..) h
  | exact .of_at (zMJ ..) h
  | exact .of_at (zMI ..) h
  | exact .of_at (zMK ..) h
  | exact .of_at (zMF ..) h
  | exact .of_at (zMG ..) h
  | exact .of_at (zJ9 ..) h
  | exact zGD h
  | exact zJi h
  | exact zMD h
  | exact zLh h
  | exact zJh h
  | exact zFS h
  | exact zIj h
  | exact zJj h
  | exact .of_at (zGF ..) h
  | exact .of_at (zGC ..) h
  | exact zLe h
  | exact zMH h
  | skip
 case box imm x => rw [hq] at h ⊢; exact .of_at (zMN ..) h
 case bsl imm sz len zs ps => rw [hq] at h ⊢; exact .of_at (zMM ..) h
theorem zJF {op : LOp} (hq : zBg op = true) (hc : ∀ f args,op ≠ .call f args) (hp : ∀ c x y,op ≠ .pick c x y) : zBb op e H' = (zBb op e H).at H' := by
 cases op <;> simp only [zBg] at hq <;> simp only [zBb] <;> first
  | exact (zzaI hq).elim
  | rfl
  | exact zMO ..
  | exact zMC ..
  | exact zJ8 ..
  | exact zME ..
  | exact zMJ ..
  | exact zMI ..
  | exact zMK ..
  | exact zMF ..
  | exact zMG ..
  | exact zJ9 ..
  | exact absurd rfl (hc _ _)
  | exact absurd rfl (hp _ _ _)
  | exact zGF ..
  | exact zGC ..
  | (subst hq; exact zMN ..)
  | (subst hq; exact zMM ..)
theorem zNM {op : LOp} (hq : zIG op = true) : ∃ ext,(zBb op e H).H = H ++ ext := by
 cases op <;> simp only [zIG,zZi] at hq <;> simp only [zBb] <;> first
  | exact (zzaI hq).elim
  | exact ⟨_,rfl⟩
  | skip
 case box imm x => rw [hq]; exact ⟨_,rfl⟩
 case bsl imm sz len zs ps => rw [hq]; exact ⟨_,rfl⟩
 case msl sz bytes zs len cap =>
  unfold rMsl;split
  ·exact ⟨_,rfl⟩
  ·exact ⟨[],by simp [Res.no]⟩
theorem zGo {op : LOp} {x : AV} (hq : zEA op = true) (h : zDc P op e H fun y => y = x) : zDc P op e (H ++ ext) fun y => y = x := by
 have hh : ∀ (op : LOp),zEA op = true->((zBb op e H).ok/\(zBb op e H).H = H/\(zBb op e H).x = x)->((zBb op e (H ++ ext)).ok/\(zBb op e (H ++ ext)).H = H ++ ext/\(zBb op e (H ++ ext)).x = x) := fun op hq ⟨h1,h2,h3⟩ => by
  obtain ⟨g1,g2,g3⟩ := zLi (ext := ext) hq h1;exact ⟨g1,g3 h2,g2.trans h3⟩
 cases op <;> simp only [zDc] at h ⊢ <;> first | exact h | (cases hq; done) | exact hh _ hq h
theorem zSJ {op : LOp} {x : AV} (hq : zBg op = true) (h : zDc P op e H fun y => y = x) : zDc P op e H' fun y => y = x := by
 have hh : ∀ (op : LOp),zBg op = true->(∀ f args,op ≠ .call f args)->(∀ c x y,op ≠ .pick c x y)->((zBb op e H).ok/\(zBb op e H).H = H/\(zBb op e H).x = x)->((zBb op e H').ok/\(zBb op e H').H = H'/\(zBb op e H').x = x) := fun op hq hc hp ⟨h1,h2,h3⟩ => by
  rw [zJF (H := H) hq hc hp];exact ⟨h1,rfl,h3⟩
 cases op <;> simp only [zDc] at h ⊢ <;> first | exact h | (cases hq; done) | exact hh _ hq (by simp) (by simp) h
theorem zK3 {o : LO} {x : AV} (hq : zEA o.op = true) (h : zDe P o e H x) : zDe P o e (H ++ ext) x := by
 rcases h with ⟨h1,h2⟩ | h
 ·exact .inl ⟨h1,zGo hq h2⟩
 ·exact .inr h
theorem zCE {o : LO} {x : AV} (hq : zBg o.op = true) (h : zDe P o e H x) : zDe P o e H' x := by
 rcases h with ⟨h1,h2⟩ | h
 ·exact .inl ⟨h1,zSJ hq h2⟩
 ·exact .inr h
def wr : List (Option Nat × AV)->Env->Env
 | [],e => e
 | (d,x) :: l,e => wr l (ups e d x)
theorem zDd : ∀ (l : List (Option Nat × AV)) (e : Env) (d : Option Nat) (x : AV),wr (l ++ [(d,x)]) e = ups (wr l e) d x
 | [],_,_,_ => rfl
 | (d',x') :: l,e,d,x => zDd l (ups e d' x') d x
theorem zKU {t : Nat} : ∀ (l : List (Option Nat × AV)) (e : Env),(∀ x,(some t,x) ∉ l)->wr l e t = e t
 | [],_,_ => rfl
 | (d,x) :: l,e,h => by
  rw [wr,zKU l _ fun y hy => h y (zZZ _ hy),zBJ];intro hd; exact h x (by rw [hd]; exact List.mem_cons_self)
theorem zOS {d d' : Option Nat} {x x' : AV} (h : ∀ t,d = some t->d' ≠ some t) : ups (ups e d x) d' x' = ups (ups e d' x') d x := by
 funext t
 cases d with
 | none => rfl
 | some a =>
  cases d' with
  | none => rfl
  | some b =>
   have hab : a ≠ b := fun hh => h a rfl (by rw [hh]);simp only [ups,up];by_cases h1 : t = b
   ·rw [if_pos h1,if_neg (by omega),if_pos h1]
   ·rw [if_neg h1,if_neg h1]
theorem zHX {d : Option Nat} {y : AV} : ∀ (l : List (Option Nat × AV)) (e : Env),(∀ t,d = some t->∀ x,(some t,x) ∉ l)->ups (wr l e) d y = wr l (ups e d y)
 | [],_,_ => rfl
 | (d',x) :: l,e,h => by
  rw [wr,wr,zHX l _ fun t ht z hz => h t ht z (zZZ _ hz),zOS];intro t ht hd;exact h t hd x (by rw [ht]; exact List.mem_cons_self)
theorem zDX {op : LOp} {e e' : Env} {K : AV->zB->Prop} (h : ∀ t ∈ op.rd,e t = e' t) (hk : aop P op e H K) : aop P op e' H K := by
 have ha := zG9 (H := H) h;cases op <;> simp only [aop] at hk ⊢ <;> first | (rw [<- ha]; exact hk) | exact hk | skip
 case call f args =>
  simp only [LOp.rd,zY2] at h;rw [<- zAk fun t ht => h t (.inl ht),<- zCx fun t ht => h t (.inr ht)];exact hk
 case callh f args =>
  simp only [LOp.rd,zY2] at h;rw [<- zAk fun t ht => h t (.inl ht),<- zCx fun t ht => h t (.inr ht)];exact hk
 case pick c a b =>
  simp only [LOp.rd,zY2] at h;rw [<- zAk fun t ht => h t (.inl (.inl ht)),<- zAk fun t ht => h t (.inl (.inr ht)),<- zAk fun t ht => h t (.inr ht)];exact hk
 case isnil neg x =>
  rw [<- zAk h];exact hk
 case nextm x =>
  rw [<- zAk h];exact hk
variable {ops : Array Oper} {hd : List LO} {xs : Nat->AV}
def Pr (P : Program) (n : Nat) (hs : List Hn) (reg : Nat) (ops : Array Oper) (hd : List LO) (h p1 p2 : Nat) : Prop := ∀ i j,j < ops.size->i < j ->
 ((Region.before ops).getD j 0).testBit i = true\/(j < h/\zAt (hd.getD i default) (hd.getD j default) = false) \/
  (i < h/\h <= j/\zAn hs reg j = []/\zEA (hd.getD i default).op = true/\zAt (hd.getD i default) (zAS P n hs reg ops j) = false/\zTr (hd.getD i default).op (zAS P n hs reg ops j).op = true)\/(p1 <= i/\j < p2)
theorem zLN {hs : List Hn} {reg : Nat} {hdl : List LO} {h : Nat} (hd : zJM P n hs reg ops hdl h = true) : Pr P n hs reg ops hdl h h h := by
 intro i j hj hi;have h1 := zYR.1 (zYR.1 hd j (by simpa using hj)) i (by simpa using hi);simp only [zZq,zYA,zYy,zZi,zzap] at h1;rcases h1 with (h1 | h1) | h1
 ·exact .inl h1
 ·exact .inr (.inl h1)
 ·exact .inr (.inr (.inl ⟨h1.1.1.1.1.1,h1.1.1.1.1.2,h1.1.1.1.2,h1.1.1.2,h1.1.2,h1.2⟩))
theorem zLf {ag : Bool} {k r : Nat} {p : AV} {ho : HO} (hr : ¬ isBox H[r]?) (h : (zCo ag k p H).ok) : (zCo ag k p (H.set r ho)).ok/\(zCo ag k p (H.set r ho)).x = (zCo ag k p H).x/\(zCo ag k p (H.set r ho)).H = H.set r ho := by
 cases p <;> first | exact h.elim | skip
 case ptr r' ver off =>
  simp only [zCo,rLoad] at h ⊢;have hb : isBox H[r']? := h.1.1;have hne : r ≠ r' := fun e => by subst e; exact hr hb
  have hg : (H.set r ho)[r']? = H[r']? := by rw [zYL hne]
  rw [hg];obtain ⟨cs,hc⟩ : ∃ cs,H[r']? = some (.box cs) := by
   revert hb;cases H[r']? with
   | none => intro hb; exact hb.elim
   | some o => cases o <;> intro hb <;> first | exact hb.elim | exact ⟨_,rfl⟩
  rw [hc] at h ⊢;exact ⟨h,rfl,rfl⟩
 case vp cs off => exact ⟨h,rfl,rfl⟩
theorem zJk {k r : Nat} {p : AV} {ho : HO} (hr : ¬ isBox H[r]?) (h : (zBG k p H).ok) : (zBG k p (H.set r ho)).ok/\(zBG k p (H.set r ho)).x = (zBG k p H).x/\(zBG k p (H.set r ho)).H = H.set r ho := by
 cases p <;> first | exact h.elim | skip
 case ptr r' ver off =>
  have hne : r ≠ r' := fun e => by subst e; exact hr h.1
  refine ⟨?_,rfl,rfl⟩;show isBox (H.set r ho)[r']?/\isVer ver (H.set r ho)[r']?;rw [zYL hne];exact h
 case vp cs off => exact ⟨h,rfl,rfl⟩
def zWT (H H2 : zB) : Prop := (∃ ext,H2 = H ++ ext)\/∃ r ho,¬ isBox H[r]?/\H2 = H.set r ho
theorem zPH {kd : KD} {m k x : AV} (h : (rIns kd m k x H).ok) : zWT H (rIns kd m k x H).H := by
 unfold rIns at h ⊢;split at h
 ·split at h
  ·rename_i hm;exact .inr ⟨_,_,by rw [hm]; exact fun h => h,rfl⟩
  ·exact h.elim
 ·exact h.elim
theorem zP4 {sz bytes : Nat} {s x : AV} (h : (rAppend sz bytes s x H).ok) : zWT H (rAppend sz bytes s x H).H := by
 unfold rAppend at h ⊢;split at h
 ·obtain ⟨_,h⟩ := h;unfold rAppendO at h;simp only [Res.also];unfold rAppendO;split at h
  ·rename_i hm;split at h
   ·exact .inr ⟨_,_,by rw [hm]; exact fun h => h,rfl⟩
   ·exact h.elim
  ·exact h.elim
 ·obtain ⟨_,h⟩ := h;unfold rAppendN at h;simp only [Res.also];unfold rAppendN;split at h
  ·exact .inl ⟨_,rfl⟩
  ·exact h.elim
 ·obtain ⟨_,h⟩ := h;unfold rAppendC at h;simp only [Res.also];unfold rAppendC;split at h
  ·exact .inl ⟨[],by simp⟩
  ·unfold rAppendN at h ⊢;split at h
   ·exact .inl ⟨_,rfl⟩
   ·exact h.elim
 ·exact h.elim
theorem zR4 {op : LOp} (hq : (zLv op || zLw op) = true) (h : (zBb op e H).ok) : zWT H (zBb op e H).H := by
 cases op <;> simp [zLv,zLw] at hq
 ·exact zPH h
 ·exact zP4 h
theorem zK4 {o : LO} {x : AV} {H2 : zB} (hq : zNB o.op = true) (hk : zWT H H2) (h : zDe P o e H x) : zDe P o e H2 x := by
 refine h.imp (fun ⟨h1,h2⟩ => ⟨h1,?_⟩) id;cases hop : o.op <;> rw [hop] at hq h2 <;> first | (cases hq; done) | skip
 ·rename_i ag k p;rcases hk with ⟨ext,rfl⟩ | ⟨r,ho,hr,rfl⟩
  ·exact zGo (by rfl) h2
  ·obtain ⟨g1,g2,g3⟩ := h2;obtain ⟨f1,f2,f3⟩ := zLf (ho := ho) hr g1;exact ⟨f1,f3,f2.trans g3⟩
 ·rename_i k p;rcases hk with ⟨ext,rfl⟩ | ⟨r,ho,hr,rfl⟩
  ·exact zGo (by rfl) h2
  ·obtain ⟨g1,g2,g3⟩ := h2;obtain ⟨f1,f2,f3⟩ := zJk (ho := ho) hr g1;exact ⟨f1,f3,f2.trans g3⟩
def det (op : LOp) : Bool := zIG op || zLv op || zLw op || zWC op
theorem zSw {op : LOp} (hq : det op = true) {K : AV->zB->Prop} : aop P op e H K = ((zBb op e H).ok/\K (zBb op e H).x (zBb op e H).H) := by
 cases op <;> first | rfl | (simp [det,zIG,zLv,zLw,zWC] at hq)
theorem zLP {a b : LO} {H2 : zB} (hq : zEA a.op = true) (hc : zTr a.op b.op = true) (hb : (zBb b.op e H).ok->H2 = (zBb b.op e H).H) (hok : (zBb b.op e H).ok) {e' : Env} {x : AV} (h : zDe P a e' H x) : zDe P a e' H2 x := by
 unfold zTr at hc;simp only [zZq,zYA] at hc;obtain rfl := hb hok;rcases hc with ((hc | hc) | hc) | hc
 ·exact zCE hc h
 ·obtain ⟨ext,hx⟩ := zNM (e := e) (H := H) hc;rw [hx]; exact zK3 hq h
 ·exact zK4 hc.1 (zR4 (by simpa using hc.2) hok) h
 ·cases hop : b.op <;> rw [hop] at hc <;> first | (cases hc; done) | skip
  exact h
theorem zJv {r : Option Nat} {m0 : Nat} {hs : List Hn} {reg h p1 p : Nat} {K : Env->zB->Prop} {Q : Exit->Act->World->Prop} (hE : zAx ops = true) (hD : Pr P n hs reg ops hd h p1 p) (hp : h <= p) (hp1 : h <= p1) (hh : h <= ops.size)
  (hlen : hd.length = h) (hget : ∀ k o,k < h->ops[k]? = some o->∃ imm,zAP P n imm ops o = some (hd.getD k default))
  (hQ : ∀ e' H' a' w',K e' H'->St B X w0 ρ0 n0 n e' H' a' w'->Q .normal a' w') :
  ∀ (fuel k : Nat) (los : List LO) (ws : List (Option Nat × AV)) (H : zB) (a : Act) (w : World) (listed : Array Bool),p <= k->k <= ops.size->fuel = left listed ops.size->listed.size = ops.size ->
   (∀ j,h <= j->j < ops.size->listed.getD j true = decide (j < k))->Closed ops listed->zBK P n hs reg ops k (ops.toList.drop k) = some los->zAD P los (wr ws (ED hd xs e (fun _ => true) h)) H K ->
   (∀ i,i < h->listed.getD i false = false->zDe P (hd.getD i default) (ED hd xs e (fun _ => true) i) H (xs i)) ->
   (∀ i,i < h->listed.getD i false = false->∀ t x,(some t,x) ∈ ws->t ∉ (hd.getD i default).rd/\(hd.getD i default).d ≠ some t) ->
   St B X w0 ρ0 n0 n (wr ws (ED hd xs e (fun j => listed.getD j false) h)) H a w->wpAnyIn (WR r) m0 P .any ops Q fuel listed a w := by
 have hT : ∀ i j,p <= i->i < j->j < ops.size->((Region.before ops).getD j 0).testBit i = true := fun i j h1 h2 h3 => by
  rcases hD i j h3 h2 with g | g | g | g
  ·exact g
  ·omega
  ·omega
  ·omega
 intro fuel;induction fuel with
 | zero =>
  intro k los ws H a w listed hk hks hf hsz ht hc hlo hK hx hw hst;have hall : ∀ j,j < ops.size->listed.getD j true = true := by
   intro j hj;cases hb : listed.getD j true with
   | true => rfl
   | false => have := zDo hb ops.size hj; omega
  have hk2 : k = ops.size := by
   refine zYX fun hne => ?_;have h1 := ht k (by omega) (by omega);rw [hall k (by omega)] at h1;simp at h1
  have hE' : ED hd xs e (fun j => listed.getD j false) h = ED hd xs e (fun _ => true) h := by
   funext t
   exact zAv h fun j hj _ => by rw [zV (by omega),hall j (by omega)]
  rw [hE'] at hst;exact zCr hE hT hQ 0 k los _ H a w listed hk (by omega) hsz (fun j hj => by rw [hall j hj]; simp; omega) hc hlo hK hst
 | succ fuel ih =>
  intro k los ws H a w listed hk hks hf hsz ht hc hlo hK hx hw hst;by_cases hfull : ∀ j,j < h->listed.getD j true = true
  ·have hall : ∀ j,j < ops.size->listed.getD j true = decide (j < k) := by
    intro j hj;by_cases hjh : j < h
    ·rw [hfull j hjh]; simp; omega
    ·exact ht j (by omega) hj
   have hE' : ED hd xs e (fun j => listed.getD j false) h = ED hd xs e (fun _ => true) h := by
    funext t
    exact zAv h fun j hj _ => by rw [zV (by omega),hall j (by omega)]; simp; omega
   rw [hE'] at hst;have h0 := zBI ops.size hall;exact zCr hE hT hQ (fuel + 1) k los _ H a w listed hk (by omega) hsz hall hc hlo hK hst
  ·have hun : ∃ i,i < h/\listed.getD i true = false := by
    refine zYX fun hno => hfull fun j hj => ?_;cases hb : listed.getD j true with
    | true => rfl
    | false => exact absurd ⟨j,hj,hb⟩ hno
   obtain ⟨i0,hi0,hi0u,hi0l⟩ := zCL hun;have hr0 : i0 ∈ Region.ready .any ops listed := zCp hE (by omega) hi0u fun j hj => by rw [zV (by omega)]; exact hi0l j hj
   refine ⟨fun h0 => by rw [h0] at hr0; simp at hr0,fun i hi => ?_⟩;obtain ⟨hiu,oi,hoi,hiall⟩ := mem_ready.1 hi;have his : i < ops.size := (zYJ.1 hoi).1;have hidf : listed.getD i false = false := by rw [zV (by omega)]; exact hiu
   have hcf1 : ∀ a b : LO,∀ t,a.d = some t->t ∈ b.rd->zAt a b = true := by
    intro a b t h1 h2;cases hb : zAt a b with
    | true => rfl
    | false => exact absurd h2 ((zBh hb).1 t h1)
   have hcf2 : ∀ a b : LO,∀ t,b.d = some t->t ∈ a.rd->zAt a b = true := by
    intro a b t h1 h2;cases hb : zAt a b with
    | true => rfl
    | false => exact absurd h2 ((zBh hb).2.1 t h1)
   have hcf3 : ∀ a b : LO,∀ t,a.d = some t->b.d = some t->zAt a b = true := by
    intro a b t h1 h2;cases hb : zAt a b with
    | true => rfl
    | false => exact absurd h2 ((zBh hb).2.2 t h1)
   have hcount : fuel = left (listed.setIfInBounds i true) ops.size := by
    have := zDn hiu ops.size;rw [if_pos his] at this;omega
   by_cases hih : i < h
   ·
    have hbef : ∀ j,j < i->zAt (hd.getD j default) (hd.getD i default) = true->listed.getD j false = true := by
     intro j hj hcf;rcases hD j i his hj with g6 | g6 | g6 | g6
     ·exact zP hc i oi j hoi g6 hiall
     ·rw [g6.2] at hcf; cases hcf
     ·omega
     ·omega
    have hbeh : ∀ j,i < j->j < h->zAt (hd.getD i default) (hd.getD j default) = true->listed.getD j false = false := by
     intro j hj hjh hcf;rcases hD i j (show j < ops.size by omega) hj with g6 | g6 | g6 | g6
     ·cases hb : listed.getD j false with
      | false => rfl
      | true =>
       obtain ⟨oj,hoj⟩ : ∃ oj,ops[j]? = some oj := ⟨ops[j]'(by omega),by simp [show j < ops.size by omega]⟩;have := zP hc j oj i hoj g6 (hc j oj hoj hb);rw [hidf] at this;cases this
     ·rw [g6.2] at hcf; cases hcf
     ·omega
     ·omega
    have hwi := hw i hih hidf;have hA : ∀ t ∈ (hd.getD i default).rd,ED hd xs e (fun _ => true) i t = wr ws (ED hd xs e (fun j => listed.getD j false) h) t := by
     intro t htr;rw [zKU ws _ fun x hx => (hwi t x hx).1 htr,zBa (i := i) h (by omega) fun j h1 h2 h3 => by
      by_cases hji : j = i
      ·rw [hji]; exact hidf
      ·exact hbeh j (by omega) h2 (hcf2 _ _ t h3 htr)]
     exact zAv i fun j h1 h2 => (hbef j h1 (hcf1 _ _ t h2 htr)).symm
    have hB0 : ups (ED hd xs e (fun j => listed.getD j false) h) (hd.getD i default).d (xs i) = ED hd xs e (fun j => (listed.setIfInBounds i true).getD j false) h := by
     funext t
     by_cases hdt : (hd.getD i default).d = some t
     ·rw [zBa (i := i + 1) h (by omega) fun j h1 h2 h3 => by
       rw [zAc,if_neg (by omega)];exact hbeh j (by omega) h2 (hcf3 _ _ t hdt h3)]
      rw [hdt,zBc];have hset : (listed.setIfInBounds i true).getD i false = true := by rw [zAc,if_pos ⟨rfl,by omega⟩]
      simp only [ED];rw [if_pos hset,hdt,zBc]
     ·rw [zBJ hdt];exact zAv h fun j h1 h2 => by
       rw [zAc,if_neg];rintro ⟨rfl,_⟩;exact hdt h2
    have hB : ups (wr ws (ED hd xs e (fun j => listed.getD j false) h)) (hd.getD i default).d (xs i) = wr ws (ED hd xs e (fun j => (listed.setIfInBounds i true).getD j false) h) := by
     rw [zHX ws _ fun t ht x hx => (hwi t x hx).2 ht,hB0]
    have hstep := zBk hA (hx i hih hidf);obtain ⟨imm,hlow⟩ := hget i oi hih hoi;have hone : zAD P [hd.getD i default] (wr ws (ED hd xs e (fun j => listed.getD j false) h)) H fun e' H' => e' = wr ws (ED hd xs e (fun j => (listed.setIfInBounds i true).getD j false) h)/\H' = H := by
     refine zCm ?_;rcases hstep with ⟨g1,g2⟩ | ⟨g1,g2⟩
     ·refine .inl ⟨g1,?_⟩;have := zCy g2;simp only [zAD];refine zBF this ?_;rintro y H' ⟨rfl,rfl⟩;exact ⟨hB,rfl⟩
     ·refine .inr ⟨g1,?_⟩;rw [<- g2];exact ⟨hB,rfl⟩
    have hnx := zBl (r := r) (m0 := m0) hlow hone hst (next := wpAnyIn (WR r) m0 P .any ops Q fuel (listed.setIfInBounds i true)) (Q := Q) fun e'' H'' a'' w'' hK'' hs'' => by
     obtain ⟨rfl,rfl⟩ := hK'';have hsub : ∀ j,j < h->(listed.setIfInBounds i true).getD j false = false->listed.getD j false = false := fun j hj hl => by
      rw [zAc] at hl;split at hl
      ·cases hl
      ·exact hl
     exact ih k los ws _ a'' w'' _ hk hks hcount (by simpa using hsz) (fun j h1 h2 => by rw [zAc,if_neg (by omega)]; exact ht j h1 h2) (hc.set hi) hlo hK (fun j hj hl => hx j hj (hsub j hj hl)) (fun j hj hl => hw j hj (hsub j hj hl)) hs''
    unfold wpOpIn;rw [hoi];simp only;exact hnx
   ·
    have hik : i = k := by
     have g1 := ht i (by omega) his;rw [hiu] at g1;have g2 : ¬ i < k := by simpa using g1.symm
     rcases zZY k i with g5 | g5
     ·have := zP hc i oi k hoi (hT k i hk g5 his) hiall;rw [zV (by omega),ht k (by omega) (by omega)] at this;simp at this
     ·omega
    subst hik;have hfr : ∀ j,j < h->listed.getD j false = false->zAn hs reg i = []/\zEA (hd.getD j default).op = true/\zAt (hd.getD j default) (zAS P n hs reg ops i) = false/\zTr (hd.getD j default).op (zAS P n hs reg ops i).op = true := by
     intro j hj hl;rcases hD j i his (show j < i by omega) with g | g | g | g
     ·have := zP hc i oi j hoi g hiall;rw [hl] at this;cases this
     ·omega
     ·exact g.2.2
     ·omega
    have hi0f : listed.getD i0 false = false := by rw [zV (by omega)]; exact hi0u
    rw [zY4 (by simpa using his)] at hlo;have hop : ops[i]? = some (ops.toList[i]'(by simpa using his)) := by simp [his]
    generalize ops.toList[i]'(by simpa using his) = o at hlo hop;obtain rfl : oi = o := zzaU (hoi.symm.trans hop);unfold zBK at hlo;cases h1 : zAP P n (zBn hs reg i) ops oi with
    | none => simp [h1] at hlo
    | some lo =>
     cases h2 : zBK P n hs reg ops (i + 1) (ops.toList.drop (i + 1)) with
     | none => simp [h1,h2] at hlo
     | some m =>
      simp only [h1,h2,(hfr i0 hi0 hi0f).1,zYG] at hlo;split at hlo
      ·simp only [zYq] at hlo;subst hlo;have htl : zAS P n hs reg ops i = lo := by simp [zAS,hoi,h1]
       rw [htl] at hfr;have hR : ∀ t ∈ lo.rd,wr ws (ED hd xs e (fun _ => true) h) t = wr ws (ED hd xs e (fun j => listed.getD j false) h) t := by
        intro t htr;have : ∀ (l : List (Option Nat × AV)) (e1 e2 : Env),e1 t = e2 t->wr l e1 t = wr l e2 t := by
         intro l;induction l with
         | nil => intro e1 e2 h; exact h
         | cons p l ihl =>
          intro e1 e2 h;obtain ⟨d,x⟩ := p;refine ihl _ _ ?_;by_cases hdt : d = some t
          ·rw [hdt,zBc,zBc]
          ·rw [zBJ hdt,zBJ hdt]; exact h
        refine this ws _ _ (zAv h fun j hj hdj => ?_);cases hb : listed.getD j false with
        | true => rfl
        | false =>
         have := (zBh (hfr j hj hb).2.2.1).1 t hdj;exact absurd htr this
       have hwant : zBi lo.g (wr ws (ED hd xs e (fun _ => true) h)) = zBi lo.g (wr ws (ED hd xs e (fun j => listed.getD j false) h)) := zBV fun t want hg => hR t (by simp [LO.rd,hg]);have hnext : ∀ (x : AV) (H2 : zB),zAD P m (ups (wr ws (ED hd xs e (fun _ => true) h)) lo.d x) H2 K->(∀ j,j < h->listed.getD j false = false->zDe P (hd.getD j default) (ED hd xs e (fun _ => true) j) H2 (xs j)) ->
         ∀ a'' w'',St B X w0 ρ0 n0 n (ups (wr ws (ED hd xs e (fun j => listed.getD j false) h)) lo.d x) H2 a'' w''->wpAnyIn (WR r) m0 P .any ops Q fuel (listed.setIfInBounds i true) a'' w'' := by
        intro x H2 hK2 hH a'' w'' hs'';have hsame : ∀ j,j < h->(listed.setIfInBounds i true).getD j false = listed.getD j false := fun j hj => by rw [zAc,if_neg (by omega)]
        have hED : ED hd xs e (fun j => (listed.setIfInBounds i true).getD j false) h = ED hd xs e (fun j => listed.getD j false) h := by
         funext t
         exact zAv h fun j hj _ => hsame j hj
        refine ih (i + 1) m (ws ++ [(lo.d,x)]) H2 a'' w'' _ (by omega) (by omega) hcount (by simpa using hsz) (fun j hj1 hj2 => ?_) (hc.set hi) h2 (by rw [zDd]; exact hK2) (fun j hj hl => ?_) (fun j hj hl t y hy => ?_) (by rw [zDd,hED]; exact hs'')
        ·rw [zAc];by_cases hji : j = i
         ·rw [if_pos ⟨hji,by omega⟩]; simp; omega
         ·rw [if_neg fun hh => hji hh.1,ht j hj1 hj2];have : (j < i) = (j < i + 1) := by simp; omega
          simp only [this]
        ·rw [hsame j hj] at hl;exact hH j hj hl
        ·rw [hsame j hj] at hl;rcases zY2.1 hy with hy | hy
         ·exact hw j hj hl t y hy
         ·simp only [zZI,zYS] at hy;have hcf := zBh (hfr j hj hl).2.2.1;exact ⟨hcf.2.1 t hy.1.symm,fun hdj => hcf.2.2 t hdj hy.1.symm⟩
       have hone : zAD P [lo] (wr ws (ED hd xs e (fun j => listed.getD j false) h)) H fun e' H2 => ∃ x,e' = ups (wr ws (ED hd xs e (fun j => listed.getD j false) h)) lo.d x/\zAD P m (ups (wr ws (ED hd xs e (fun _ => true) h)) lo.d x) H2 K/\(∀ j,j < h->listed.getD j false = false->zDe P (hd.getD j default) (ED hd xs e (fun _ => true) j) H2 (xs j)) := by
        refine zCm ?_;rcases zCg hK with ⟨g1,g2⟩ | ⟨g1,g2⟩
        ·refine .inl ⟨by rw [<- hwant]; exact g1,?_⟩;have g3 := zDX (fun t ht => hR t (by simp [LO.rd,ht])) g2;by_cases hdet : det lo.op = true
         ·rw [zSw hdet] at g3 ⊢;refine ⟨g3.1,?_⟩;simp only [zAD];exact ⟨_,rfl,g3.2,fun j hj hl => zLP (hfr j hj hl).2.1 (hfr j hj hl).2.2.2 (fun _ => rfl) g3.1 (hx j hj hl)⟩
         ·have hnf : ((zIG lo.op = false/\zLv lo.op = false)/\zLw lo.op = false)/\zWC lo.op = false := by
           have : det lo.op = false := by simpa using hdet
           simpa only [det,Bool.or_eq_false_iff] using this
          refine zBF g3 fun x H2 hx2 => ?_;simp only [zAD];refine ⟨x,rfl,hx2,fun j hj hl => zCE ?_ (hx j hj hl)⟩;have hc := (hfr j hj hl).2.2.2;unfold zTr at hc;rw [hnf.1.1.1,hnf.1.1.2,hnf.1.2,hnf.2] at hc
          simpa using hc
        ·refine .inr ⟨by rw [<- hwant]; exact g1,?_⟩;exact ⟨zAu,rfl,g2,hx⟩
       have hnx := zBl (r := r) (m0 := m0) h1 hone hst (next := wpAnyIn (WR r) m0 P .any ops Q fuel (listed.setIfInBounds i true)) (Q := Q) fun e'' H'' a'' w'' hK'' hs'' => by
        obtain ⟨x,rfl,hK2,hH⟩ := hK'';exact hnext x H'' hK2 hH a'' w'' hs''
       unfold wpOpIn;rw [hoi];simp only;exact hnx
      ·cases hlo
theorem zJL {r : Option Nat} {m0 : Nat} {hs : List Hn} {id h : Nat} {tl : List LO} {K : Env->zB->Prop} {Q : Exit->Act->World->Prop} (hhd : zIy P n hs id ops 0 (ops.toList.take h) = some hd) (htl : zBK P n hs id ops h (ops.toList.drop h) = some tl)
  (hD : zJM P n hs id ops hd h = true) (hE : zAx ops = true) (hm : P.follows .mixedOrders = true) (hh : h <= ops.size) (hK : zAR P hd e H fun e' => zAD P tl e' H K) (hst : St B X w0 ρ0 n0 n e H a w)
  (hQ : ∀ e' H' a' w',K e' H'->St B X w0 ρ0 n0 n e' H' a' w'->Q .normal a' w') : wpAnyIn (WR r) m0 P .any ops Q ops.size (Array.replicate ops.size false) a { w with drawn := w.drawn + 1 } := by
 obtain ⟨g1,g2⟩ := zF1 _ _ _ hhd;have hlen : hd.length = h := by rw [g1]; simp; omega
 obtain ⟨xs,g3,g4⟩ := zB4 hd hK;rw [hlen] at g3 g4;have h0 : ∀ j,(Array.replicate ops.size false).getD j false = false := fun j => getD_replicate_false _ _;have h1 : ∀ j,j < ops.size->(Array.replicate ops.size false).getD j true = false := fun j hj => by rw [<- zV (by simpa using hj)]; exact h0 j
 refine zJv hE (zLN hD) (zYH _) (zYH _) hh hlen (fun k o hk ho => g2 k o ?_) hQ ops.size h tl [] H a _ _ (zYH _) hh ?_ (by simp) (fun j h2 hj => ?_) ?_ htl g3 (fun i hi _ => g4 i hi) (fun i _ _ t x hx => by simp at hx) ?_
 ·rw [zZp,if_pos hk]; simpa using ho
 ·have := zBI (listed := Array.replicate ops.size false) (h := 0) ops.size fun j hj => by rw [h1 j hj]; simp
  omega
 ·rw [h1 j hj]; simp; omega
 ·intro j oj hj hl;rw [h0 j] at hl;cases hl
 ·have : ED hd xs e (fun j => (Array.replicate ops.size false).getD j false) h = e := by
   funext t
   rw [zBa (i := 0) h (zYO _) fun j _ _ _ => h0 j];rfl
  show St B X w0 ρ0 n0 n (ED hd xs e (fun j => (Array.replicate ops.size false).getD j false) h) H a _;rw [this];exact hst.still ⟨rfl,rfl,rfl,zYH _⟩ rfl
end
section
variable {P : Program} {π : List Nat} {ops : Array Oper} {n : Nat}
theorem zCa (h : zCW π n = true) : π.length = n/\∀ k,k < n->π.getD k 0 < n/\π.idxOf (π.getD k 0) = k/\π.idxOf k < n/\π.getD (π.idxOf k) 0 = k := by
 simp only [zCW,zYA,zYy,zYR,zY9] at h;exact ⟨h.1,fun k hk => ⟨(h.2 k hk).1.1.1,(h.2 k hk).1.1.2,(h.2 k hk).1.2,(h.2 k hk).2⟩⟩
theorem zKx (h : zCW π n = true) {j : Nat} (hj : n <= j) : n <= π.idxOf j := by
 obtain ⟨hl,hp⟩ := zCa h;refine zYX fun hlt => ?_;have hlt : π.idxOf j < n := by omega
 have hmem : j ∈ π := List.idxOf_lt_length_iff.1 (by omega);obtain ⟨k,hk,rfl⟩ := zZd.1 hmem;have := (hp k (by omega)).1;simp [zYI,hk] at this;omega
theorem zDE (h : zCW π ops.size = true) : (zBX π ops).size = ops.size := by simp [zBX,(zCa h).1]
theorem zJp (h : zCW π ops.size = true) {k : Nat} (hk : k < ops.size) : (zBX π ops)[k]? = (ops[π.getD k 0]?).map (zHq π) := by
 obtain ⟨hl,hp⟩ := zCa h;have h1 := (hp k hk).1;have hkl : k < π.length := by omega
 have h2 : π[k]?.getD 0 < ops.size := by simpa [zYI] using h1
 simp [zBX,hkl] at h2 ⊢;simp [zYV,h2]
theorem zEZ (h : zCW π ops.size = true) (j : Nat) : (zBX π ops)[π.idxOf j]? = (ops[j]?).map (zHq π) := by
 obtain ⟨hl,hp⟩ := zCa h;by_cases hj : j < ops.size
 ·rw [zJp h (hp j hj).2.2.1,(hp j hj).2.2.2]
 ·have h1 := zKx h (j := j) (by omega);rw [zZR (by rw [zDE h]; exact h1),zZR (by omega)];rfl
theorem zHW (h : zCW π ops.size = true) (tmps : Array Value) (j : Nat) : yielded (zBX π ops) tmps (π.idxOf j) = yielded ops tmps j := by
 unfold yielded;rw [zEZ h j];cases ops[j]? <;> rfl
theorem zI2 (h : zCW π ops.size = true) (o : Oper) (tmps : Array Value) : Region.wanted (zHq π o) (yielded (zBX π ops) tmps) = Region.wanted o (yielded ops tmps) := by
 unfold Region.wanted zHq;cases hg : o.guard with
 | none => rfl
 | some jb =>
  obtain ⟨j,b⟩ := jb;simp only [zYZ];rw [zHW h]
def Alike (π : List Nat) (n : Nat) (l l' : Array Bool) : Prop := l.size = n/\l'.size = n/\∀ k,k < n->l'.getD k false = l.getD (π.getD k 0) false
theorem Alike.at_idx {l l' : Array Bool} (h : zCW π n = true) (ha : Alike π n l l') (j : Nat) : l'.getD (π.idxOf j) false = l.getD j false := by
 obtain ⟨hl,hp⟩ := zCa h;by_cases hj : j < n
 ·rw [ha.2.2 _ (hp j hj).2.2.1,(hp j hj).2.2.2]
 ·have h1 := zKx h (j := j) (by omega);have e1 : l'.getD (π.idxOf j) false = false := by simp [zYV,zZR (show l'.size <= π.idxOf j by rw [ha.2.1]; exact h1)]
  have e2 : l.getD j false = false := by simp [zYV,zZR (show l.size <= j by rw [ha.1]; omega)]
  rw [e1,e2]
theorem Alike.set {l l' : Array Bool} (h : zCW π n = true) (ha : Alike π n l l') {i : Nat} (hi : i < n) : Alike π n (l.setIfInBounds i true) (l'.setIfInBounds (π.idxOf i) true) := by
 obtain ⟨hl,hp⟩ := zCa h;refine ⟨by simpa using ha.1,by simpa using ha.2.1,fun k hk => ?_⟩;rw [zAc,zAc,ha.2.2 k hk];by_cases hki : k = π.idxOf i
 ·subst hki;rw [if_pos ⟨rfl,by rw [ha.2.1]; exact hk⟩,if_pos ⟨(hp i hi).2.2.2,by rw [ha.1]; exact hi⟩]
 ·rw [if_neg (fun hh => hki hh.1),if_neg];rintro ⟨e,_⟩;have := (hp k hk).2.1;rw [e] at this;exact hki this.symm
theorem zEY {md : Region.Mode} {l l' : Array Bool} (h : zCW π ops.size = true) (ha : Alike π ops.size l l') {i : Nat} (hi : i < ops.size) : π.idxOf i ∈ Region.ready md (zBX π ops) l' ↔ i ∈ Region.ready md ops l := by
 obtain ⟨hl,hp⟩ := zCa h;rw [mem_ready,mem_ready,zEZ h i];have e1 : l'.getD (π.idxOf i) true = l.getD i true := by
  rw [<- zV (by rw [ha.2.1]; exact (hp i hi).2.2.1),<- zV (by rw [ha.1]; exact hi)];exact ha.at_idx h i
 rw [e1];refine and_congr Iff.rfl ⟨?_,?_⟩
 ·rintro ⟨o',ho,hall⟩;obtain ⟨o,hoo,rfl⟩ := Option.map_eq_some_iff.1 ho;refine ⟨o,hoo,fun e he hb => ?_⟩;have := hall { e with on := π.idxOf e.on } (by simp only [zHq]; exact Array.mem_map.2 ⟨e,he,rfl⟩) hb;rw [<- ha.at_idx h e.on];exact this
 ·rintro ⟨o,ho,hall⟩;refine ⟨zHq π o,by rw [ho]; rfl,fun e' he' hb => ?_⟩;simp only [zHq] at he';obtain ⟨e,he,rfl⟩ := Array.mem_map.1 he';show l'.getD (π.idxOf e.on) false = true;rw [ha.at_idx h e.on];exact hall e he hb
theorem zPl {F : Fence} {m : Nat} {md : Region.Mode} {Q : Exit->Act->World->Prop} (h : zCW π ops.size = true) : ∀ (fuel : Nat) (l l' : Array Bool) (a : Act) (w : World),Alike π ops.size l l' ->
  wpAnyIn F m P md (zBX π ops) Q fuel l' a w->wpAnyIn F m P md ops Q fuel l a w := by
 obtain ⟨hl,hp⟩ := zCa h;have emp : ∀ l l',Alike π ops.size l l'->(Region.ready md (zBX π ops) l' = [] ↔ Region.ready md ops l = []) := by
  intro l l' ha;rw [zZk,zZk];refine ⟨fun hh i hi => ?_,fun hh k hk => ?_⟩
  ·have his : i < ops.size := by obtain ⟨_,o,ho,_⟩ := mem_ready.1 hi; exact (zYJ.1 ho).1
   exact hh _ ((zEY h ha his).2 hi)
  ·have hks : k < ops.size := by obtain ⟨_,o,ho,_⟩ := mem_ready.1 hk; have := (zYJ.1 ho).1; rwa [zDE h] at this
   have := (zEY (md := md) h ha (hp k hks).1);rw [(hp k hks).2.1] at this;exact hh _ (this.1 hk)
 intro fuel;induction fuel with
 | zero => exact fun l l' a w ha hh => ⟨(emp l l' ha).1 hh.1,hh.2⟩
 | succ fuel ih =>
  intro l l' a w ha hh;refine ⟨fun h0 => hh.1 ((emp l l' ha).2 h0),fun i hi => ?_⟩;have his : i < ops.size := by obtain ⟨_,o,ho,_⟩ := mem_ready.1 hi; exact (zYJ.1 ho).1
  have h1 := hh.2 _ ((zEY h ha his).2 hi);have hi2 : ops[i]? = some ops[i] := by simp [his]
  have hi1 : (zBX π ops)[π.idxOf i]? = some (zHq π ops[i]) := by rw [zEZ h i,hi2]; rfl
  unfold wpOpIn at h1 ⊢;rw [hi1] at h1;rw [hi2];simp only [zI2 h] at h1 ⊢;have hK : ∀ a w,wpAnyIn F m P md (zBX π ops) Q fuel (l'.setIfInBounds (π.idxOf i) true) a w->wpAnyIn F m P md ops Q fuel (l.setIfInBounds i true) a w := fun a w => ih _ _ a w (ha.set h his);split
  ·rename_i hw; rw [if_pos hw] at h1; exact Oper.wpIn_mono hK h1
  ·rename_i hw; rw [if_neg hw] at h1; exact ⟨h1.1,hK _ _ h1.2⟩
theorem zBH {F : Fence} {m : Nat} {Q : Exit->Act->World->Prop} {hs : List Hn} {id : Nat} {a : Act} {w : World} (hm : P.follows .mixedOrders = true)
  (h : wpAnyIn F m P .any (zIl hs id ops) Q (zIl hs id ops).size (Array.replicate (zIl hs id ops).size false) a { w with drawn := w.drawn + 1 }) : (Code.region id ops true).wpIn F m P Q a w := by
 refine wpIn_region_any hm ?_;unfold zIl at h;split at h
 ·rename_i π _;split at h
  ·rename_i hk;rw [zDE hk] at h;exact zPl hk _ _ _ _ _ ⟨by simp,by simp,fun k _ => by rw [getD_replicate_false,getD_replicate_false]⟩ h
  ·exact h
 ·exact h
end
section
variable {B : DB} {P : Program} {w w0 : World} {X : Nat → Prop} {ρ ρ0 : Nat → Loc} {H H' ext : zB} {e : Env} {a : Act} {n n0 : Nat}
variable {ops : Array Oper} {hd : List LO} {xs : Nat → AV}
end
section
variable {B : DB} {P : Program} {w w0 : World} {X : Nat → Prop} {ρ ρ0 : Nat → Loc} {H H' ext : zB} {e e1 : Env} {a : Act} {n n0 : Nat}
variable {ops : Array Oper} {hd : List LO} {xs : Nat → AV} {T : List Nat} {hs : List Hn} {reg : Nat}
theorem zHF {i : Nat} (hi : i < ops.size) : (hdA P n hs reg ops T).getD i default = if T.contains i then zFg else zAS P n hs reg ops i := by
 simp [hdA,zYI,hi]
theorem zJ1 {q i : Nat} (h : q <= i) (hn : ∀ j,q <= j->j < i->T.contains j = false) : tlA P n hs reg ops T q = tlA P n hs reg ops T i := by
 induction i with
 | zero => rw [show q = 0 by omega]
 | succ i ih =>
  by_cases hq : q = i + 1
  ·rw [hq]
  ·rw [ih (by omega) fun j a b => hn j a (by omega)];unfold tlA;by_cases hi : i < ops.size
   ·rw [show ops.size - i = (ops.size - (i + 1)) + 1 by omega,zzah,zZ2 (by rw [hn i (by omega) (by omega)]; simp)]
   ·rw [show ops.size - i = 0 by omega,show ops.size - (i + 1) = 0 by omega];simp
theorem zOV {i : Nat} (hi : i < ops.size) (hT : T.contains i = true) : tlA P n hs reg ops T i = prA P n hs reg ops T i :: tlA P n hs reg ops T (i + 1) := by
 unfold tlA;rw [show ops.size - i = (ops.size - (i + 1)) + 1 by omega,zzah,zZC hT,zZA]
theorem zCt {x : LO} : zAt zFg x = false/\zAt x zFg = false := by
 cases hx : x.d <;> simp [zAt,zFg,zTl,LO.rd,LOp.rd,LX.rd,hx]
structure OkA (P : Program) (n : Nat) (hs : List Hn) (reg : Nat) (ops : Array Oper) (T : List Nat) (hd : List LO) : Prop where
 low : ∀ i o,ops[i]? = some o->∃ imm,zAP P n imm ops o = some (zAS P n hs reg ops i)
 hh : ∀ i j,j < ops.size->i < j->T.contains i = false->T.contains j = false->((Region.before ops).getD j 0).testBit i = true\/zAt (hd.getD i default) (hd.getD j default) = false
 tt : ∀ i j,j < ops.size->i < j->T.contains i = true->T.contains j = true->((Region.before ops).getD j 0).testBit i = true
 ht : ∀ i j,j < ops.size->i < ops.size->T.contains i = false->T.contains j = true->((Region.before ops).getD j 0).testBit i = true\/zAt (hd.getD i default) (zAS P n hs reg ops j) = false
 sa : ∀ j,j < ops.size->T.contains j = false->zBg (hd.getD j default).op = true\/zSV hd j = true
theorem zG0 (h : zCT P n hs reg ops T = true) : OkA P n hs reg ops T (hdA P n hs reg ops T) := by
 unfold zCT at h;simp only [zYA] at h;obtain ⟨⟨h1,h2⟩,h3⟩ := h;have g : ∀ i j,j < ops.size->i < j->_ := fun i j hj hi => zYR.1 (zYR.1 h2 j (zY9.2 hj)) i (zY9.2 hi);refine ⟨fun i o ho => ?_,fun i j hj hi a b => ?_,fun i j hj hi a b => ?_,fun i j hj hi a b => ?_,fun j hj a => ?_⟩
 ·have hi := (zYJ.1 ho).1;have := zYR.1 h1 i (zY9.2 hi);rw [ho] at this;simp only [zYZ,zZ7,zYq,zYA] at this;refine ⟨zBn hs reg i,?_⟩;unfold zAS;rw [ho];simp only;cases hl : zAP P n (zBn hs reg i) ops o with
  | none => rw [hl] at this; simp at this
  | some lo => rfl
 ·have := g i j hj hi;rw [a,b] at this
  simpa using this
 ·have := g i j hj hi;rw [a,b] at this
  simpa using this
 ·rcases zzaN i j with hij | hij | hij
  ·have := g i j hj hij;rw [a,b] at this
   simpa using this
  ·subst hij; rw [a] at b; cases b
  ·have := g j i hi hij;rw [a,b] at this;exact .inr (by simpa using this)
 ·have := zYR.1 h3 j (zY9.2 hj);rw [a] at this
  simpa using this
theorem zMj {j : Nat} (h : zSV hd j = true) (hj : j < hd.length) : (∀ t ∈ (hd.getD j default).rd,ED hd xs e (fun _ => true) hd.length t = ED hd xs e (fun _ => true) j t)/\∃ t,(hd.getD j default).d = some t/\ED hd xs e (fun _ => true) hd.length t = xs j := by
 unfold zSV at h;simp only [zYA,zYR,zY9,zZq,zYy,zZi,Bool.and_eq_false_iff] at h;obtain ⟨h1,h2⟩ := h;obtain ⟨t,ht⟩ := Option.isSome_iff_exists.1 h1;have nw : ∀ k,j <= k->k < hd.length->∀ u ∈ (hd.getD j default).rd,(hd.getD k default).d ≠ some u := by
  intro k hk hkl u hu hd';rcases h2 k hkl with g | g
  ·omega
  ·have := zFY (by rw [<- hd']; exact g.1);exact this hu
 refine ⟨fun u hu => ?_,t,ht,?_⟩
 ·exact zBa (i := j) hd.length (by omega) fun k a b c => absurd c (nw k a b u hu)
 ·rw [zBa (i := j + 1) hd.length (by omega) fun k a b c => ?_]
  ·simp only [ED,if_true];rw [ht,zBc]
  ·rcases h2 k b with g | g
   ·omega
   ·rcases g.2 with g2 | g2
    ·omega
    ·rw [c,ht] at g2;simp at g2
theorem zOo {r : Option Nat} {m0 : Nat} {K : Env->zB->Prop} {Q : Exit->Act->World->Prop} (hE : zAx ops = true) (hD : OkA P n hs reg ops T hd) (hlen : hd.length = ops.size) (hhd : hd = hdA P n hs reg ops T)
  (he1 : e1 = ED hd xs e (fun _ => true) ops.size)
  (hQ : ∀ e' H' a' w',K e' H'->St B X w0 ρ0 n0 n e' H' a' w'->Q .normal a' w') :
  ∀ (fuel q : Nat) (ws : List (Option Nat × AV)) (H : zB) (a : Act) (w : World) (listed : Array Bool),q <= ops.size->fuel = left listed ops.size->listed.size = ops.size ->
   (∀ j,j < ops.size->T.contains j = true->listed.getD j true = decide (j < q))->Closed ops listed->zDb P hd e1 (tlA P n hs reg ops T q) (wr ws e1) H K ->
   (∀ i,i < ops.size->T.contains i = false->listed.getD i false = false->zDe P (hd.getD i default) (ED hd xs e (fun _ => true) i) H (xs i)) ->
   (∀ i,i < ops.size->T.contains i = false->listed.getD i false = false->∀ t x,(some t,x) ∈ ws->t ∉ (hd.getD i default).rd/\(hd.getD i default).d ≠ some t) ->
   St B X w0 ρ0 n0 n (wr ws (ED hd xs e (fun j => listed.getD j false) ops.size)) H a w->wpAnyIn (WR r) m0 P .any ops Q fuel listed a w := by
 have hcf1 : ∀ a b : LO,∀ t,a.d = some t->t ∈ b.rd->zAt a b = true := by
  intro a b t h1 h2;cases hb : zAt a b with
  | true => rfl
  | false => exact absurd h2 ((zBh hb).1 t h1)
 have hcf2 : ∀ a b : LO,∀ t,b.d = some t->t ∈ a.rd->zAt a b = true := by
  intro a b t h1 h2;cases hb : zAt a b with
  | true => rfl
  | false => exact absurd h2 ((zBh hb).2.1 t h1)
 have hcf3 : ∀ a b : LO,∀ t,a.d = some t->b.d = some t->zAt a b = true := by
  intro a b t h1 h2;cases hb : zAt a b with
  | true => rfl
  | false => exact absurd h2 ((zBh hb).2.2 t h1)
 have hnoop : ∀ j,j < ops.size->T.contains j = true->hd.getD j default = zFg := by
  intro j hj hT;rw [hhd,zHF hj,if_pos hT]
 intro fuel;induction fuel with
 | zero =>
  intro q ws H a w listed hq hf hsz ht hc hK hx hw hst;have hall : ∀ j,j < ops.size->listed.getD j true = true := by
   intro j hj;cases hb : listed.getD j true with
   | true => rfl
   | false => have := zDo hb ops.size hj; omega
  have hE' : ED hd xs e (fun j => listed.getD j false) ops.size = e1 := by
   rw [he1]
   funext t
   exact zAv ops.size fun j hj _ => by rw [zV (by omega),hall j (by omega)]
  rw [hE'] at hst;have hnil : tlA P n hs reg ops T q = [] := by
   rw [zJ1 hq fun j a b => ?_]
   ·unfold tlA;rw [zzaF]; rfl
   ·cases hT : T.contains j with
    | false => rfl
    | true =>
     have := ht j b hT;rw [hall j b] at this;simp at this;omega
  rw [hnil] at hK;refine ⟨zZk.2 fun i hi => ?_,hQ _ _ _ _ hK hst⟩;obtain ⟨h1,o,h2,_⟩ := mem_ready.1 hi;rw [hall i (zYJ.1 h2).1] at h1;cases h1
 | succ fuel ih =>
  intro q ws H a w listed hq hf hsz ht hc hK hx hw hst;have hun : ∃ i,i < ops.size/\listed.getD i true = false := by
   refine zYX fun hno => ?_;have := zBI (listed := listed) (h := ops.size) ops.size fun j hj => by
    cases hb : listed.getD j true with
    | true => simp [hj]
    | false => exact absurd ⟨j,hj,hb⟩ hno
   omega
  obtain ⟨i0,hi0,hi0u,hi0l⟩ := zCL hun;have hr0 : i0 ∈ Region.ready .any ops listed := zCp hE (by omega) hi0u fun j hj => by rw [zV (by omega)]; exact hi0l j hj
  refine ⟨fun h0 => by rw [h0] at hr0; simp at hr0,fun i hi => ?_⟩;obtain ⟨hiu,oi,hoi,hiall⟩ := mem_ready.1 hi;have his : i < ops.size := (zYJ.1 hoi).1;have hidf : listed.getD i false = false := by rw [zV (by omega)]; exact hiu
  have hcount : fuel = left (listed.setIfInBounds i true) ops.size := by
   have := zDn hiu ops.size;rw [if_pos his] at this;omega
  obtain ⟨imm,hlow⟩ := hD.low i oi hoi;by_cases hih : T.contains i = false
  ·
   have hgi : hd.getD i default = zAS P n hs reg ops i := by rw [hhd,zHF his,if_neg (by rw [hih]; simp)]
   rw [<- hgi] at hlow;have hbef : ∀ j,j < i->zAt (hd.getD j default) (hd.getD i default) = true->listed.getD j false = true := by
    intro j hj hcf;cases hT : T.contains j with
    | true => rw [hnoop j (by omega) hT,zCt.1] at hcf; cases hcf
    | false =>
     rcases hD.hh j i his hj hT hih with g6 | g6
     ·exact zP hc i oi j hoi g6 hiall
     ·rw [g6] at hcf; cases hcf
   have hbeh : ∀ j,i < j->j < ops.size->zAt (hd.getD i default) (hd.getD j default) = true->listed.getD j false = false := by
    intro j hj hjh hcf;cases hT : T.contains j with
    | true => rw [hnoop j hjh hT,zCt.2] at hcf; cases hcf
    | false =>
     rcases hD.hh i j hjh hj hih hT with g6 | g6
     ·cases hb : listed.getD j false with
      | false => rfl
      | true =>
       obtain ⟨oj,hoj⟩ : ∃ oj,ops[j]? = some oj := ⟨ops[j]'(by omega),by simp [show j < ops.size by omega]⟩;have := zP hc j oj i hoj g6 (hc j oj hoj hb);rw [hidf] at this;cases this
     ·rw [g6] at hcf; cases hcf
   have hwi := hw i his hih hidf;have hA : ∀ t ∈ (hd.getD i default).rd,ED hd xs e (fun _ => true) i t = wr ws (ED hd xs e (fun j => listed.getD j false) ops.size) t := by
    intro t htr;rw [zKU ws _ fun x hx => (hwi t x hx).1 htr,zBa (i := i) ops.size (by omega) fun j h1 h2 h3 => by
     by_cases hji : j = i
     ·rw [hji]; exact hidf
     ·exact hbeh j (by omega) h2 (hcf2 _ _ t h3 htr)]
    exact zAv i fun j h1 h2 => (hbef j h1 (hcf1 _ _ t h2 htr)).symm
   have hB0 : ups (ED hd xs e (fun j => listed.getD j false) ops.size) (hd.getD i default).d (xs i) = ED hd xs e (fun j => (listed.setIfInBounds i true).getD j false) ops.size := by
    funext t
    by_cases hdt : (hd.getD i default).d = some t
    ·rw [zBa (i := i + 1) ops.size (by omega) fun j h1 h2 h3 => by
      rw [zAc,if_neg (by omega)];exact hbeh j (by omega) h2 (hcf3 _ _ t hdt h3)]
     rw [hdt,zBc];have hset : (listed.setIfInBounds i true).getD i false = true := by rw [zAc,if_pos ⟨rfl,by omega⟩]
     simp only [ED];rw [if_pos hset,hdt,zBc]
    ·rw [zBJ hdt];exact zAv ops.size fun j h1 h2 => by
      rw [zAc,if_neg];rintro ⟨rfl,_⟩;exact hdt h2
   have hB : ups (wr ws (ED hd xs e (fun j => listed.getD j false) ops.size)) (hd.getD i default).d (xs i) = wr ws (ED hd xs e (fun j => (listed.setIfInBounds i true).getD j false) ops.size) := by
    rw [zHX ws _ fun t ht x hx => (hwi t x hx).2 ht,hB0]
   have hstep := zBk hA (hx i his hih hidf);have hone : zAD P [hd.getD i default] (wr ws (ED hd xs e (fun j => listed.getD j false) ops.size)) H fun e' H' => e' = wr ws (ED hd xs e (fun j => (listed.setIfInBounds i true).getD j false) ops.size)/\H' = H := by
    refine zCm ?_;rcases hstep with ⟨g1,g2⟩ | ⟨g1,g2⟩
    ·refine .inl ⟨g1,?_⟩;have := zCy g2;simp only [zAD];refine zBF this ?_;rintro y H' ⟨rfl,rfl⟩;exact ⟨hB,rfl⟩
    ·refine .inr ⟨g1,?_⟩;rw [<- g2];exact ⟨hB,rfl⟩
   have hnx := zBl (r := r) (m0 := m0) hlow hone hst (next := wpAnyIn (WR r) m0 P .any ops Q fuel (listed.setIfInBounds i true)) (Q := Q) fun e'' H'' a'' w'' hK'' hs'' => by
    obtain ⟨rfl,rfl⟩ := hK'';have hsub : ∀ j,(listed.setIfInBounds i true).getD j false = false->listed.getD j false = false := fun j hl => by
     rw [zAc] at hl;split at hl
     ·cases hl
     ·exact hl
    refine ih q ws _ a'' w'' _ hq hcount (by simpa using hsz) (fun j h1 h2 => ?_) (hc.set hi) hK (fun j hj hT hl => hx j hj hT (hsub j hl)) (fun j hj hT hl => hw j hj hT (hsub j hl)) hs'';rw [zAc,if_neg]
    ·exact ht j h1 h2
    ·rintro ⟨rfl,_⟩;rw [hih] at h2; cases h2
   unfold wpOpIn;rw [hoi];simp only;exact hnx
  ·
   have hiT : T.contains i = true := by simpa using hih
   have hqi : q <= i := by
    have g1 := ht i his hiT;rw [hiu] at g1
    simpa using g1.symm
   have hno : ∀ j,q <= j->j < i->T.contains j = false := by
    intro j h1 h2;cases hT : T.contains j with
    | false => rfl
    | true =>
     have g1 := zP hc i oi j hoi (hD.tt j i his h2 hT hiT) hiall;rw [zV (by omega),ht j (by omega) hT] at g1;simp at g1;omega
   rw [zJ1 hqi hno,zOV his hiT] at hK;generalize hlo : zAS P n hs reg ops i = lo at hlow;have hpr : prA P n hs reg ops T i = (lo,zCc hd T ((Region.before ops).getD i 0)) := by unfold prA; rw [hlo,hhd]
   rw [hpr] at hK;have hK : zAD P [lo] (wr ws e1) H fun e' H' => zC3 P hd e1 H' (zCc hd T ((Region.before ops).getD i 0))/\zDb P hd e1 (tlA P n hs reg ops T (i + 1)) e' H' K := hK;have hfr : ∀ j,j < ops.size->T.contains j = false->listed.getD j false = false->((Region.before ops).getD i 0).testBit j = false/\zAt (hd.getD j default) lo = false := by
    intro j hj hT hl;have hnb : ((Region.before ops).getD i 0).testBit j = false := by
     cases hb : ((Region.before ops).getD i 0).testBit j with
     | false => rfl
     | true =>
      have := zP hc i oi j hoi hb hiall;rw [hl] at this;cases this
    refine ⟨hnb,?_⟩;rcases hD.ht j i his hj hT hiT with g | g
    ·rw [hnb] at g; cases g
    ·rw [<- hlo]; exact g
   have hR : ∀ t ∈ lo.rd,wr ws e1 t = wr ws (ED hd xs e (fun j => listed.getD j false) ops.size) t := by
    intro t htr;have : ∀ (l : List (Option Nat × AV)) (e1 e2 : Env),e1 t = e2 t->wr l e1 t = wr l e2 t := by
     intro l;induction l with
     | nil => intro e1 e2 h; exact h
     | cons p l ihl =>
      intro e1 e2 h;obtain ⟨d,x⟩ := p;refine ihl _ _ ?_;by_cases hdt : d = some t
      ·rw [hdt,zBc,zBc]
      ·rw [zBJ hdt,zBJ hdt]; exact h
    refine this ws _ _ ?_;rw [he1];refine zAv ops.size fun j hj hdj => ?_;cases hb : listed.getD j false with
    | true => rfl
    | false =>
     cases hT : T.contains j with
     | true =>
      rw [hnoop j hj hT] at hdj;cases hdj
     | false =>
      have := (zBh (hfr j hj hT hb).2).1 t hdj;exact absurd htr this
   have hwant : zBi lo.g (wr ws e1) = zBi lo.g (wr ws (ED hd xs e (fun j => listed.getD j false) ops.size)) := zBV fun t want hg => hR t (by simp [LO.rd,hg]);have hone : zAD P [lo] (wr ws (ED hd xs e (fun j => listed.getD j false) ops.size)) H fun e' H2 => ∃ x,e' = ups (wr ws (ED hd xs e (fun j => listed.getD j false) ops.size)) lo.d x/\zC3 P hd e1 H2 (zCc hd T ((Region.before ops).getD i 0))/\zDb P hd e1 (tlA P n hs reg ops T (i + 1)) (ups (wr ws e1) lo.d x) H2 K := by
    refine zCm ?_;rcases zCg hK with ⟨g1,g2⟩ | ⟨g1,g2⟩
    ·refine .inl ⟨by rw [<- hwant]; exact g1,?_⟩;have g3 := zDX (fun t ht => hR t (by simp [LO.rd,ht])) g2;refine zBF g3 fun x H2 hx2 => ?_;simp only [zAD] at hx2 ⊢;exact ⟨x,rfl,hx2.1,hx2.2⟩
    ·refine .inr ⟨by rw [<- hwant]; exact g1,?_⟩;simp only [zAD] at g2 ⊢;exact ⟨zAu,rfl,g2.1,g2.2⟩
   have hnx := zBl (r := r) (m0 := m0) hlow hone hst (next := wpAnyIn (WR r) m0 P .any ops Q fuel (listed.setIfInBounds i true)) (Q := Q) fun e'' H'' a'' w'' hK'' hs'' => by
    obtain ⟨x,rfl,hkp,hK2⟩ := hK'';have hsame : ∀ j,j ≠ i->(listed.setIfInBounds i true).getD j false = listed.getD j false := fun j hj => by rw [zAc,if_neg (by omega)]
    have hED : ED hd xs e (fun j => (listed.setIfInBounds i true).getD j false) ops.size = ED hd xs e (fun j => listed.getD j false) ops.size := by
     funext t
     refine zAv ops.size fun j hj hdj => hsame j ?_;rintro rfl;rw [hnoop j hj hiT] at hdj;cases hdj
    have hne : ∀ j,T.contains j = false->j ≠ i := by
     rintro j hT rfl;rw [hiT] at hT; cases hT
    refine ih (i + 1) (ws ++ [(lo.d,x)]) H'' a'' w'' _ (by omega) hcount (by simpa using hsz) (fun j hj1 hj2 => ?_) (hc.set hi) (by rw [zDd]; exact hK2) (fun j hj hT hl => ?_) (fun j hj hT hl t y hy => ?_) (by rw [zDd,hED]; exact hs'')
    ·rw [zAc];by_cases hji : j = i
     ·rw [if_pos ⟨hji,by omega⟩]; simp; omega
     ·rw [if_neg fun hh => hji hh.1,ht j hj1 hj2];by_cases hjq : j < q
      ·simp [hjq]; omega
      ·simp [hjq];have : ¬ j < i := fun hlt => by rw [hno j (by omega) hlt] at hj2; cases hj2
       omega
    ·rw [hsame j (hne j hT)] at hl;have hold := hx j hj hT hl;rcases hD.sa j hj hT with g | g
     ·exact zCE g hold
     ·by_cases hhl : zBg (hd.getD j default).op = true
      ·exact zCE hhl hold
      ·have hmem : j ∈ zCc hd T ((Region.before ops).getD i 0) := by
        unfold zCc;simp only [zZ4,zY9,zYA,zZi];exact ⟨by omega,⟨hT,by simpa using hhl⟩,(hfr j hj hT hl).1⟩
       obtain ⟨y,hy1,hy2⟩ := zDa (hkp j hmem);obtain ⟨s1,t,s2,s3⟩ := zMj (xs := xs) (e := e) g (by omega);rw [hlen,<- he1] at s1 s3;have hy2 : ups e1 (hd.getD j default).d y = e1 := hy2;have hyx : y = xs j := by
        have := congrFun hy2 t;rw [s2,zBc] at this;rw [this,s3]
       rw [hyx] at hy1;exact zBk s1 hy1
    ·rw [hsame j (hne j hT)] at hl;rcases zY2.1 hy with hy | hy
     ·exact hw j hj hT hl t y hy
     ·simp only [zZI,zYS] at hy;have hcf := zBh (hfr j hj hT hl).2;exact ⟨hcf.2.1 t hy.1.symm,fun hdj => hcf.2.2 t hdj hy.1.symm⟩
   unfold wpOpIn;rw [hoi];simp only;exact hnx
theorem zGe {r : Option Nat} {m0 : Nat} {K : Env->zB->Prop} {Q : Exit->Act->World->Prop} (hD : zCT P n hs reg ops T = true) (hE : zAx ops = true) (hg : zC6 n (zAn hs reg ops.size) = true)
  (hK : zAR P (hdA P n hs reg ops T) e H fun e1 => zDb P (hdA P n hs reg ops T) e1 (tlA P n hs reg ops T 0) e1 H fun e' H' => zAD P (zAn hs reg ops.size) e' H' K) (hst : St B X w0 ρ0 n0 n e H a w)
  (hQ : ∀ e' H' a' w',K e' H'->St B X w0 ρ0 n0 n e' H' a' w'->Q .normal a' w') : wpAnyIn (WR r) m0 P .any ops Q ops.size (Array.replicate ops.size false) a { w with drawn := w.drawn + 1 } := by
 have hlen : (hdA P n hs reg ops T).length = ops.size := by simp [hdA]
 obtain ⟨xs,g3,g4⟩ := zB4 _ hK;rw [hlen] at g3 g4;have h0 : ∀ j,(Array.replicate ops.size false).getD j false = false := fun j => getD_replicate_false _ _;have h1 : ∀ j,j < ops.size->(Array.replicate ops.size false).getD j true = false := fun j hj => by rw [<- zV (by simpa using hj)]; exact h0 j
 refine zOo (B := B) (X := X) (w0 := w0) (ρ0 := ρ0) (n0 := n0) hE (zG0 hD) hlen rfl rfl (K := fun e' H' => zAD P (zAn hs reg ops.size) e' H' K) (fun e' H' a' w' hk hs' => ?_) ops.size 0 [] H a _ _ (zYO _) ?_ (by simp) (fun j hj _ => by rw [h1 j hj]; simp) (fun j oj hj hl => ?_) g3 (fun i hi _ _ => g4 i hi) (fun i _ _ _ t x hx => by simp at hx) ?_
 ·obtain ⟨e2,H2,k1,k2⟩ := zAp (zAn hs reg ops.size) (los := []) hg (by simpa using hk) hs';exact hQ _ _ _ _ k1 k2
 ·have := zBI (listed := Array.replicate ops.size false) (h := 0) ops.size fun j hj => by rw [h1 j hj]; simp
  omega
 ·rw [h0 j] at hl;cases hl
 ·have : ED (hdA P n hs reg ops T) xs e (fun j => (Array.replicate ops.size false).getD j false) ops.size = e := by
   funext t
   rw [zBa (i := 0) ops.size (zYO _) fun j _ _ _ => h0 j];rfl
  show St B X w0 ρ0 n0 n (ED _ xs e (fun j => (Array.replicate ops.size false).getD j false) ops.size) H a _;rw [this];exact hst.still ⟨rfl,rfl,rfl,zYH _⟩ rfl
end
section
variable {B : DB} {P : Program} {w w0 : World} {X : Nat → Prop} {ρ ρ0 : Nat → Loc} {H H' ext : zB} {e e1 em : Env} {a : Act} {n n0 : Nat}
variable {ops : Array Oper} {hd : List LO} {xs : Nat → AV} {T : List Nat} {hs : List Hn} {reg : Nat}
theorem zGp {f : AV} {args : List AV} {K K' : AV->zB->Prop} {Z Z' : Value->zB->Prop} (h : zEk P f args H K Z) (hK : ∀ x H',K x H'->K' x H') (hZ : ∀ v H',Z v H'->Z' v H') : zEk P f args H K' Z' := by
 unfold zEk at h ⊢;split at h
 ·exact ACallX.mono h hK hZ
 ·exact h.elim
theorem zDZ {g : Option (Nat × Bool)} {A A' C C' : Prop} (h : zGr g e A C) (hA : A->A') (hC : C->C') : zGr g e A' C' := by
 unfold zGr at h ⊢;split at h
 ·exact hA h
 ·split at h
  ·split at h
   ·rename_i hb; rw [if_pos hb]; exact hA h
   ·rename_i hb; rw [if_neg hb]; exact hC h
  ·exact hC h
  ·exact h.elim
theorem zFF {g : Option (Nat × Bool)} {e e' : Env} {A C : Prop} (hg : ∀ t want,g = some (t,want)->e t = e' t) (h : zGr g e A C) : zGr g e' A C := by
 unfold zGr at h ⊢;cases g with
 | none => exact h
 | some p => obtain ⟨t,want⟩ := p; simp only at h ⊢; rw [<- hg t want rfl]; exact h
theorem zOr {c : Bool} {lo : LO} {e e' : Env} {G : Env->zB->Prop} {Z : Value->zB->Prop} (hR : ∀ t ∈ lo.rd,e t = e' t) (h : aTI P c lo e H G Z) :
  aTI P c lo e' H (fun e2 H2 => ∃ x,e2 = ups e' lo.d x/\G (ups e lo.d x) H2) Z := by
 have hgd : ∀ t want,lo.g = some (t,want)->e t = e' t := fun t want hg => hR t (by simp [LO.rd,hg]);unfold aTI at h ⊢;split at h
 ·rename_i f args hop;rw [<- zAk fun t ht => hR t (by simp [LO.rd,hop,LOp.rd,ht]),<- zCx fun t ht => hR t (by simp [LO.rd,hop,LOp.rd,ht])];exact zFF hgd (zDZ h (fun h => zGp h (fun x H' hx => ⟨x,rfl,hx⟩) fun _ _ hz => hz) fun h => ⟨zAu,rfl,h⟩)
 ·rename_i x hop;rw [<- zAk fun t ht => hR t (by simp [LO.rd,hop,LOp.rd,ht])];exact zFF hgd (zDZ h id fun h => ⟨zAu,rfl,h⟩)
 ·refine zCm ?_;have hw : zBi lo.g e = zBi lo.g e' := zBV hgd;rcases zCg h with ⟨g1,g2⟩ | ⟨g1,g2⟩
  ·refine .inl ⟨by rw [<- hw]; exact g1,?_⟩;have g3 := zDX (fun t ht => hR t (by simp [LO.rd,ht])) g2;refine zBF g3 fun x H2 hx2 => ?_;simp only [zAD] at hx2 ⊢;exact ⟨x,rfl,hx2⟩
  ·refine .inr ⟨by rw [<- hw]; exact g1,?_⟩;simp only [zAD] at g2 ⊢;exact ⟨zAu,rfl,g2⟩
theorem zJZ {q i : Nat} (h : q <= i) (hn : ∀ j,q <= j->j < i->T.contains j = false) : tlX P n hs reg ops T q = tlX P n hs reg ops T i := by
 induction i with
 | zero => rw [show q = 0 by omega]
 | succ i ih =>
  by_cases hq : q = i + 1
  ·rw [hq]
  ·rw [ih (by omega) fun j a b => hn j a (by omega)];unfold tlX;by_cases hi : i < ops.size
   ·rw [show ops.size - i = (ops.size - (i + 1)) + 1 by omega,zzah,zZ2 (by rw [hn i (by omega) (by omega)]; simp)]
   ·rw [show ops.size - i = 0 by omega,show ops.size - (i + 1) = 0 by omega];simp
theorem zOT {i : Nat} (hi : i < ops.size) (hT : T.contains i = true) : tlX P n hs reg ops T i = prX P n hs reg ops T i :: tlX P n hs reg ops T (i + 1) := by
 unfold tlX;rw [show ops.size - i = (ops.size - (i + 1)) + 1 by omega,zzah,zZC hT,zZA]
theorem zPy {l : List (Option Nat)} (t : Nat) : zNh e l t = .any\/(some t ∉ l/\zNh e l t = e t) := by
 unfold zNh;by_cases h : l.contains (some t) = true
 ·rw [if_pos h]; exact .inl rfl
 ·rw [if_neg h]; exact .inr ⟨by simpa using h,rfl⟩
theorem St.weaken {e e' : Env} (h : St B X w0 ρ0 n0 n e H a w) (he : ∀ t,e' t = .any\/e' t = e t) : St B X w0 ρ0 n0 n e' H a w := by
 obtain ⟨h1,ρ,h2,h3,h4⟩ := h;refine ⟨h1,ρ,h2,fun t ht => ?_,h4⟩;rcases he t with g | g
 ·rw [g]; exact .any _ _
 ·rw [g]; exact h3 t ht
theorem zLV {r : Option Nat} {m0 : Nat} {ds : List (Option Nat)} {K : Env->zB->Prop} {Z : Value->zB->Prop} {Q : Exit->Act->World->Prop} (hE : zAx ops = true) (hD : OkA P n hs reg ops T hd) (hlen : hd.length = ops.size) (hhd : hd = hdA P n hs reg ops T)
  (he1 : e1 = ED hd xs e (fun _ => true) ops.size)
  (hQ : ∀ e' H' a' w',K e' H'->St B X w0 ρ0 n0 n e' H' a' w'->Q .normal a' w')
  (hZ : ∀ v H' a' w',Z v H'->St B X w0 ρ0 n0 n (zNh e ds) H' a' w'->Q (.panic [{ v,recovered := false }]) a' w')
  (hds : ∀ j,j < ops.size->∀ t,(hd.getD j default).d = some t->some t ∈ ds) (hdt : ∀ j,j < ops.size->T.contains j = true->∀ t,(zAS P n hs reg ops j).d = some t->some t ∈ ds) :
  ∀ (fuel q : Nat) (ws : List (Option Nat × AV)) (H : zB) (a : Act) (w : World) (listed : Array Bool),q <= ops.size->fuel = left listed ops.size->listed.size = ops.size ->
   (∀ j,j < ops.size->T.contains j = true->listed.getD j true = decide (j < q))->Closed ops listed->(∀ t x,(some t,x) ∈ ws->some t ∈ ds)->zEO P hd e1 (tlX P n hs reg ops T q) (wr ws e1) H K Z ->
   (∀ i,i < ops.size->T.contains i = false->listed.getD i false = false->zDe P (hd.getD i default) (ED hd xs e (fun _ => true) i) H (xs i)) ->
   (∀ i,i < ops.size->T.contains i = false->listed.getD i false = false->∀ t x,(some t,x) ∈ ws->t ∉ (hd.getD i default).rd/\(hd.getD i default).d ≠ some t) ->
   St B X w0 ρ0 n0 n (wr ws (ED hd xs e (fun j => listed.getD j false) ops.size)) H a w->wpAnyIn (WR r) m0 P .any ops Q fuel listed a w := by
 have hcf1 : ∀ a b : LO,∀ t,a.d = some t->t ∈ b.rd->zAt a b = true := by
  intro a b t h1 h2;cases hb : zAt a b with
  | true => rfl
  | false => exact absurd h2 ((zBh hb).1 t h1)
 have hcf2 : ∀ a b : LO,∀ t,b.d = some t->t ∈ a.rd->zAt a b = true := by
  intro a b t h1 h2;cases hb : zAt a b with
  | true => rfl
  | false => exact absurd h2 ((zBh hb).2.1 t h1)
 have hcf3 : ∀ a b : LO,∀ t,a.d = some t->b.d = some t->zAt a b = true := by
  intro a b t h1 h2;cases hb : zAt a b with
  | true => rfl
  | false => exact absurd h2 ((zBh hb).2.2 t h1)
 have hnoop : ∀ j,j < ops.size->T.contains j = true->hd.getD j default = zFg := by
  intro j hj hT;rw [hhd,zHF hj,if_pos hT]
 intro fuel;induction fuel with
 | zero =>
  intro q ws H a w listed hq hf hsz ht hc hwd hK hx hw hst;have hall : ∀ j,j < ops.size->listed.getD j true = true := by
   intro j hj;cases hb : listed.getD j true with
   | true => rfl
   | false => have := zDo hb ops.size hj; omega
  have hE' : ED hd xs e (fun j => listed.getD j false) ops.size = e1 := by
   rw [he1]
   funext t
   exact zAv ops.size fun j hj _ => by rw [zV (by omega),hall j (by omega)]
  rw [hE'] at hst;have hnil : tlX P n hs reg ops T q = [] := by
   rw [zJZ hq fun j a b => ?_]
   ·unfold tlX;rw [zzaF]; rfl
   ·cases hT : T.contains j with
    | false => rfl
    | true =>
     have := ht j b hT;rw [hall j b] at this;simp at this;omega
  rw [hnil] at hK;refine ⟨zZk.2 fun i hi => ?_,hQ _ _ _ _ hK hst⟩;obtain ⟨h1,o,h2,_⟩ := mem_ready.1 hi;rw [hall i (zYJ.1 h2).1] at h1;cases h1
 | succ fuel ih =>
  intro q ws H a w listed hq hf hsz ht hc hwd hK hx hw hst;have hun : ∃ i,i < ops.size/\listed.getD i true = false := by
   refine zYX fun hno => ?_;have := zBI (listed := listed) (h := ops.size) ops.size fun j hj => by
    cases hb : listed.getD j true with
    | true => simp [hj]
    | false => exact absurd ⟨j,hj,hb⟩ hno
   omega
  obtain ⟨i0,hi0,hi0u,hi0l⟩ := zCL hun;have hr0 : i0 ∈ Region.ready .any ops listed := zCp hE (by omega) hi0u fun j hj => by rw [zV (by omega)]; exact hi0l j hj
  refine ⟨fun h0 => by rw [h0] at hr0; simp at hr0,fun i hi => ?_⟩;obtain ⟨hiu,oi,hoi,hiall⟩ := mem_ready.1 hi;have his : i < ops.size := (zYJ.1 hoi).1;have hidf : listed.getD i false = false := by rw [zV (by omega)]; exact hiu
  have hcount : fuel = left (listed.setIfInBounds i true) ops.size := by
   have := zDn hiu ops.size;rw [if_pos his] at this;omega
  obtain ⟨imm,hlow⟩ := hD.low i oi hoi;by_cases hih : T.contains i = false
  ·
   have hgi : hd.getD i default = zAS P n hs reg ops i := by rw [hhd,zHF his,if_neg (by rw [hih]; simp)]
   rw [<- hgi] at hlow;have hbef : ∀ j,j < i->zAt (hd.getD j default) (hd.getD i default) = true->listed.getD j false = true := by
    intro j hj hcf;cases hT : T.contains j with
    | true => rw [hnoop j (by omega) hT,zCt.1] at hcf; cases hcf
    | false =>
     rcases hD.hh j i his hj hT hih with g6 | g6
     ·exact zP hc i oi j hoi g6 hiall
     ·rw [g6] at hcf; cases hcf
   have hbeh : ∀ j,i < j->j < ops.size->zAt (hd.getD i default) (hd.getD j default) = true->listed.getD j false = false := by
    intro j hj hjh hcf;cases hT : T.contains j with
    | true => rw [hnoop j hjh hT,zCt.2] at hcf; cases hcf
    | false =>
     rcases hD.hh i j hjh hj hih hT with g6 | g6
     ·cases hb : listed.getD j false with
      | false => rfl
      | true =>
       obtain ⟨oj,hoj⟩ : ∃ oj,ops[j]? = some oj := ⟨ops[j]'(by omega),by simp [show j < ops.size by omega]⟩;have := zP hc j oj i hoj g6 (hc j oj hoj hb);rw [hidf] at this;cases this
     ·rw [g6] at hcf; cases hcf
   have hwi := hw i his hih hidf;have hA : ∀ t ∈ (hd.getD i default).rd,ED hd xs e (fun _ => true) i t = wr ws (ED hd xs e (fun j => listed.getD j false) ops.size) t := by
    intro t htr;rw [zKU ws _ fun x hx => (hwi t x hx).1 htr,zBa (i := i) ops.size (by omega) fun j h1 h2 h3 => by
     by_cases hji : j = i
     ·rw [hji]; exact hidf
     ·exact hbeh j (by omega) h2 (hcf2 _ _ t h3 htr)]
    exact zAv i fun j h1 h2 => (hbef j h1 (hcf1 _ _ t h2 htr)).symm
   have hB0 : ups (ED hd xs e (fun j => listed.getD j false) ops.size) (hd.getD i default).d (xs i) = ED hd xs e (fun j => (listed.setIfInBounds i true).getD j false) ops.size := by
    funext t
    by_cases hdt : (hd.getD i default).d = some t
    ·rw [zBa (i := i + 1) ops.size (by omega) fun j h1 h2 h3 => by
      rw [zAc,if_neg (by omega)];exact hbeh j (by omega) h2 (hcf3 _ _ t hdt h3)]
     rw [hdt,zBc];have hset : (listed.setIfInBounds i true).getD i false = true := by rw [zAc,if_pos ⟨rfl,by omega⟩]
     simp only [ED];rw [if_pos hset,hdt,zBc]
    ·rw [zBJ hdt];exact zAv ops.size fun j h1 h2 => by
      rw [zAc,if_neg];rintro ⟨rfl,_⟩;exact hdt h2
   have hB : ups (wr ws (ED hd xs e (fun j => listed.getD j false) ops.size)) (hd.getD i default).d (xs i) = wr ws (ED hd xs e (fun j => (listed.setIfInBounds i true).getD j false) ops.size) := by
    rw [zHX ws _ fun t ht x hx => (hwi t x hx).2 ht,hB0]
   have hstep := zBk hA (hx i his hih hidf);have hone : zAD P [hd.getD i default] (wr ws (ED hd xs e (fun j => listed.getD j false) ops.size)) H fun e' H' => e' = wr ws (ED hd xs e (fun j => (listed.setIfInBounds i true).getD j false) ops.size)/\H' = H := by
    refine zCm ?_;rcases hstep with ⟨g1,g2⟩ | ⟨g1,g2⟩
    ·refine .inl ⟨g1,?_⟩;have := zCy g2;simp only [zAD];refine zBF this ?_;rintro y H' ⟨rfl,rfl⟩;exact ⟨hB,rfl⟩
    ·refine .inr ⟨g1,?_⟩;rw [<- g2];exact ⟨hB,rfl⟩
   have hnx := zBl (r := r) (m0 := m0) hlow hone hst (next := wpAnyIn (WR r) m0 P .any ops Q fuel (listed.setIfInBounds i true)) (Q := Q) fun e'' H'' a'' w'' hK'' hs'' => by
    obtain ⟨rfl,rfl⟩ := hK'';have hsub : ∀ j,(listed.setIfInBounds i true).getD j false = false->listed.getD j false = false := fun j hl => by
     rw [zAc] at hl;split at hl
     ·cases hl
     ·exact hl
    refine ih q ws _ a'' w'' _ hq hcount (by simpa using hsz) (fun j h1 h2 => ?_) (hc.set hi) hwd hK (fun j hj hT hl => hx j hj hT (hsub j hl)) (fun j hj hT hl => hw j hj hT (hsub j hl)) hs'';rw [zAc,if_neg]
    ·exact ht j h1 h2
    ·rintro ⟨rfl,_⟩;rw [hih] at h2; cases h2
   unfold wpOpIn;rw [hoi];simp only;exact hnx
  ·
   have hiT : T.contains i = true := by simpa using hih
   have hqi : q <= i := by
    have g1 := ht i his hiT;rw [hiu] at g1
    simpa using g1.symm
   have hno : ∀ j,q <= j->j < i->T.contains j = false := by
    intro j h1 h2;cases hT : T.contains j with
    | false => rfl
    | true =>
     have g1 := zP hc i oi j hoi (hD.tt j i his h2 hT hiT) hiall;rw [zV (by omega),ht j (by omega) hT] at g1;simp at g1;omega
   rw [zJZ hqi hno,zOT his hiT] at hK;generalize hlo : zAS P n hs reg ops i = lo at hlow;have hpr : prX P n hs reg ops T i = (lo,zKy hs reg i,zCc hd T ((Region.before ops).getD i 0)) := by unfold prX; rw [hlo,hhd]
   rw [hpr] at hK;generalize zKy hs reg i = cu at hpr hK;have hK : aTI P cu lo (wr ws e1) H (fun e' H' => zC3 P hd e1 H' (zCc hd T ((Region.before ops).getD i 0))/\zEO P hd e1 (tlX P n hs reg ops T (i + 1)) e' H' K Z) Z := hK;have hfr : ∀ j,j < ops.size->T.contains j = false->listed.getD j false = false->((Region.before ops).getD i 0).testBit j = false/\zAt (hd.getD j default) lo = false := by
    intro j hj hT hl;have hnb : ((Region.before ops).getD i 0).testBit j = false := by
     cases hb : ((Region.before ops).getD i 0).testBit j with
     | false => rfl
     | true =>
      have := zP hc i oi j hoi hb hiall;rw [hl] at this;cases this
    refine ⟨hnb,?_⟩;rcases hD.ht j i his hj hT hiT with g | g
    ·rw [hnb] at g; cases g
    ·rw [<- hlo]; exact g
   have hR : ∀ t ∈ lo.rd,wr ws e1 t = wr ws (ED hd xs e (fun j => listed.getD j false) ops.size) t := by
    intro t htr;have : ∀ (l : List (Option Nat × AV)) (e1 e2 : Env),e1 t = e2 t->wr l e1 t = wr l e2 t := by
     intro l;induction l with
     | nil => intro e1 e2 h; exact h
     | cons p l ihl =>
      intro e1 e2 h;obtain ⟨d,x⟩ := p;refine ihl _ _ ?_;by_cases hdt : d = some t
      ·rw [hdt,zBc,zBc]
      ·rw [zBJ hdt,zBJ hdt]; exact h
    refine this ws _ _ ?_;rw [he1];refine zAv ops.size fun j hj hdj => ?_;cases hb : listed.getD j false with
    | true => rfl
    | false =>
     cases hT : T.contains j with
     | true =>
      rw [hnoop j hj hT] at hdj;cases hdj
     | false =>
      have := (zBh (hfr j hj hT hb).2).1 t hdj;exact absurd htr this
   have hone := zOr hR hK;have hnx := zMd (r := r) (m0 := m0) hlow hone hst (next := wpAnyIn (WR r) m0 P .any ops Q fuel (listed.setIfInBounds i true)) (Q := Q) (fun e'' H'' a'' w'' hK'' hs'' => by
    obtain ⟨x,rfl,hkp,hK2⟩ := hK'';have hsame : ∀ j,j ≠ i->(listed.setIfInBounds i true).getD j false = listed.getD j false := fun j hj => by rw [zAc,if_neg (by omega)]
    have hED : ED hd xs e (fun j => (listed.setIfInBounds i true).getD j false) ops.size = ED hd xs e (fun j => listed.getD j false) ops.size := by
     funext t
     refine zAv ops.size fun j hj hdj => hsame j ?_;rintro rfl;rw [hnoop j hj hiT] at hdj;cases hdj
    have hne : ∀ j,T.contains j = false->j ≠ i := by
     rintro j hT rfl;rw [hiT] at hT; cases hT
    refine ih (i + 1) (ws ++ [(lo.d,x)]) H'' a'' w'' _ (by omega) hcount (by simpa using hsz) (fun j hj1 hj2 => ?_) (hc.set hi) (fun t y hy => ?_) (by rw [zDd]; exact hK2) (fun j hj hT hl => ?_) (fun j hj hT hl t y hy => ?_) (by rw [zDd,hED]; exact hs'')
    ·rw [zAc];by_cases hji : j = i
     ·rw [if_pos ⟨hji,by omega⟩]; simp; omega
     ·rw [if_neg fun hh => hji hh.1,ht j hj1 hj2];by_cases hjq : j < q
      ·simp [hjq]; omega
      ·simp [hjq];have : ¬ j < i := fun hlt => by rw [hno j (by omega) hlt] at hj2; cases hj2
       omega
    ·rcases zY2.1 hy with hy | hy
     ·exact hwd t y hy
     ·simp only [zZI,zYS] at hy;exact hdt i his hiT t (by rw [hlo]; exact hy.1.symm)
    ·rw [hsame j (hne j hT)] at hl;have hold := hx j hj hT hl;rcases hD.sa j hj hT with g | g
     ·exact zCE g hold
     ·by_cases hhl : zBg (hd.getD j default).op = true
      ·exact zCE hhl hold
      ·have hmem : j ∈ zCc hd T ((Region.before ops).getD i 0) := by
        unfold zCc;simp only [zZ4,zY9,zYA,zZi];exact ⟨by omega,⟨hT,by simpa using hhl⟩,(hfr j hj hT hl).1⟩
       obtain ⟨y,hy1,hy2⟩ := zDa (hkp j hmem);obtain ⟨s1,t,s2,s3⟩ := zMj (xs := xs) (e := e) g (by omega);rw [hlen,<- he1] at s1 s3;have hy2 : ups e1 (hd.getD j default).d y = e1 := hy2;have hyx : y = xs j := by
        have := congrFun hy2 t;rw [s2,zBc] at this;rw [this,s3]
       rw [hyx] at hy1;exact zBk s1 hy1
    ·rw [hsame j (hne j hT)] at hl;rcases zY2.1 hy with hy | hy
     ·exact hw j hj hT hl t y hy
     ·simp only [zZI,zYS] at hy;have hcf := zBh (hfr j hj hT hl).2;exact ⟨hcf.2.1 t hy.1.symm,fun hdj => hcf.2.2 t hdj hy.1.symm⟩)
    fun v H'' a'' w'' hz hs'' => hZ v H'' a'' w'' hz (hs''.weaken fun t => by
     rcases zPy (e := e) (l := ds) t with g | ⟨g1,g2⟩
     ·exact .inl g
     ·refine .inr ?_;rw [g2,zKU ws _ fun x hx => g1 (hwd t x hx),zBa (i := 0) ops.size (zYO _) fun j _ hj hdj => absurd (hds j hj t hdj) g1];rfl)
   unfold wpOpIn;rw [hoi];simp only;exact hnx
theorem zGc {r : Option Nat} {m0 : Nat} {K : Env->zB->Prop} {Z : Value->zB->Prop} {Q : Exit->Act->World->Prop} (hD : zCT P n hs reg ops T = true) (hE : zAx ops = true) (hg : zC6 n (zAn hs reg ops.size) = true)
  (hK : zAR P (hdA P n hs reg ops T) e H fun e1 => zEO P (hdA P n hs reg ops T) e1 (tlX P n hs reg ops T 0) e1 H (fun e' H' => zAD P (zAn hs reg ops.size) e' H' K) Z) (hst : St B X w0 ρ0 n0 n e H a w)
  (hQ : ∀ e' H' a' w',K e' H'->St B X w0 ρ0 n0 n e' H' a' w'->Q .normal a' w')
  (hZ : ∀ v H' a' w',Z v H'->St B X w0 ρ0 n0 n (zPx e (hdA P n hs reg ops T) (tlX P n hs reg ops T 0)) H' a' w'->Q (.panic [{ v,recovered := false }]) a' w') : wpAnyIn (WR r) m0 P .any ops Q ops.size (Array.replicate ops.size false) a { w with drawn := w.drawn + 1 } := by
 have hlen : (hdA P n hs reg ops T).length = ops.size := by simp [hdA]
 obtain ⟨xs,g3,g4⟩ := zB4 _ hK;rw [hlen] at g3 g4;have h0 : ∀ j,(Array.replicate ops.size false).getD j false = false := fun j => getD_replicate_false _ _;have h1 : ∀ j,j < ops.size->(Array.replicate ops.size false).getD j true = false := fun j hj => by rw [<- zV (by simpa using hj)]; exact h0 j
 refine zLV (B := B) (X := X) (w0 := w0) (ρ0 := ρ0) (n0 := n0) hE (zG0 hD) hlen rfl rfl (K := fun e' H' => zAD P (zAn hs reg ops.size) e' H' K) (fun e' H' a' w' hk hs' => ?_) hZ ?_ ?_ ops.size 0 [] H a _ _ (zYO _) ?_ (by simp) (fun j hj _ => by rw [h1 j hj]; simp) (fun j oj hj hl => ?_) (fun t x hx => by simp at hx) g3 (fun i hi _ _ => g4 i hi) (fun i _ _ _ t x hx => by simp at hx) ?_
 ·obtain ⟨e2,H2,k1,k2⟩ := zAp (zAn hs reg ops.size) (los := []) hg (by simpa using hk) hs';exact hQ _ _ _ _ k1 k2
 ·intro j hj t hd;refine zY2.2 (.inl (zZl.2 ⟨_,?_,hd⟩));rw [zYI,zYK (by omega)];exact zzaq _
 ·intro j hj hT t hd;refine zY2.2 (.inr (zZl.2 ⟨prX P n hs reg ops T j,?_,hd⟩));unfold tlX;exact zZl.2 ⟨j,zZ4.2 ⟨by simp [List.mem_range']; omega,hT⟩,rfl⟩
 ·have := zBI (listed := Array.replicate ops.size false) (h := 0) ops.size fun j hj => by rw [h1 j hj]; simp
  omega
 ·rw [h0 j] at hl;cases hl
 ·have : ED (hdA P n hs reg ops T) xs e (fun j => (Array.replicate ops.size false).getD j false) ops.size = e := by
   funext t
   rw [zBa (i := 0) ops.size (zYO _) fun j _ _ _ => h0 j];rfl
  show St B X w0 ρ0 n0 n (ED _ xs e (fun j => (Array.replicate ops.size false).getD j false) ops.size) H a _;rw [this];exact hst.still ⟨rfl,rfl,rfl,zYH _⟩ rfl
end
section
variable {B : DB} {P : Program} {w w0 : World} {X : Nat → Prop} {ρ ρ0 : Nat → Loc} {H H' ext : zB} {e e1 em : Env} {a : Act} {n n0 : Nat}
variable {ops : Array Oper} {hd : List LO} {xs : Nat → AV} {T : List Nat} {hs : List Hn} {reg h : Nat}
def zGk (Q : Exit->Act->World->Prop) (N : Act->World->Prop) : Exit->Act->World->Prop
 | .normal => N
 | .exit id => Q (.exit id)
 | .goto l => Q (.goto l)
 | .ret => Q .ret
 | .panic c => Q (.panic c)
 | .outgrown => Q .outgrown
theorem zI1 {F : Fence} {m : Nat} {o : Oper} {next : Act->World->Prop} {Q : Exit->Act->World->Prop} {N : Act->World->Prop} (h : o.wpIn F m P a w next (zGk Q N)) : o.wpIn F m P a w next Q := by
 unfold Oper.wpIn at *;refine ⟨h.1,?_⟩;have hh := h.2;generalize (o.semAt F.round a.eval).run P w = r at *;cases r with
 | ok x w' =>
  cases x <;> simp only [Oper.uponIn] at hh ⊢ <;>
   first
    | exact hh
    | exact ⟨hh.1,CallsIn.mono hh.2 (fun e w'' he => by cases e <;> exact he)⟩
    | exact ⟨hh.1,RoundIn.mono hh.2 (fun e w'' he => by cases e <;> exact he)⟩
 | halt x w' => cases x <;> simp only [Oper.uponIn] at hh ⊢ <;> exact hh
theorem zEU (hk : zEm ops h = true) : h <= ops.size/\(∀ i j,i < h->h <= j->j < ops.size->((Region.before ops).getD j 0).testBit i = true)/\∀ i o jb,i < h->ops[i]? = some o->o.guard = some jb->jb.1 < h := by
 unfold zEm at hk;simp only [zYA,zYy,zYR,zY9,zZq] at hk;obtain ⟨⟨h1,h2⟩,h3⟩ := hk;refine ⟨h1,fun i j hi hj hjs => ?_,fun i o jb hi ho hg => ?_⟩
 ·rcases h2 j hjs with h4 | h4
  ·omega
  ·exact h4 i hi
 ·have := h3 i hi;rw [ho] at this;simp only [zYZ,zZj,hg,Option.all_some,zYy] at this;exact this
theorem zJJ (hle : h <= ops.size) {i : Nat} (hi : i < h) : (ops.extract 0 h)[i]? = ops[i]? := by
 rw [Array.getElem?_extract];simp only [zzal,zY0];rw [if_pos (by omega)]
theorem zKD (hle : h <= ops.size) : (ops.extract 0 h).size = h := by
 rw [Array.size_extract];omega
theorem zI0 (hle : h <= ops.size) (tmps : Array Value) {j : Nat} (hj : j < h) : yielded (ops.extract 0 h) tmps j = yielded ops tmps j := by
 unfold yielded;rw [zJJ hle hj]
theorem zH9 {F : Fence} {m : Nat} {Q : Exit->Act->World->Prop} (hE : zAx ops = true) (hk : zEm ops h = true) :
  ∀ (fuel : Nat) (l' l : Array Bool) (a : Act) (w : World),l'.size = h->l.size = ops.size->(∀ k,k < h->l'.getD k false = l.getD k false)->(∀ k,h <= k->l.getD k false = false)->Closed ops l->fuel = left l' h ->
   wpAnyIn F m P .any (ops.extract 0 h) (zGk Q fun a w => ∀ l2 : Array Bool,l2.size = ops.size->(∀ k,k < h->l2.getD k false = true)->(∀ k,h <= k->l2.getD k false = false)->Closed ops l2->wpAnyIn F m P .any ops Q (ops.size - h) l2 a w) fuel l' a w ->
   wpAnyIn F m P .any ops Q (fuel + (ops.size - h)) l a w := by
 obtain ⟨hle,hbef,hgd⟩ := zEU hk;intro fuel;induction fuel with
 | zero =>
  intro l' l a w s1 s2 h1 h2 hc hf hh;rw [zY0];refine hh.2 l s2 (fun k hk => ?_) h2 hc;rw [<- h1 k hk];cases hb : l'.getD k false with
  | true => rfl
  | false =>
   rw [zV (by omega)] at hb;have := zDo hb h hk;omega
 | succ fuel ih =>
  intro l' l a w s1 s2 h1 h2 hc hf hh;have hun : ∃ i,i < h/\l.getD i true = false := by
   refine zYX fun hno => ?_;have := zBI (listed := l') (h := h) h fun j hj => by
    rw [<- zV (by omega),h1 j hj,zV (by omega)];cases hb : l.getD j true with
    | true => simp [hj]
    | false => exact absurd ⟨j,hj,hb⟩ hno
   omega
  obtain ⟨i0,hi0,hi0u,hi0l⟩ := zCL hun;have hr0 : i0 ∈ Region.ready .any ops l := zCp hE (by omega) hi0u fun j hj => by rw [zV (by omega)]; exact hi0l j hj
  rw [show fuel + 1 + (ops.size - h) = (fuel + (ops.size - h)) + 1 by omega];refine ⟨fun h0 => by rw [h0] at hr0; simp at hr0,fun i hi => ?_⟩;obtain ⟨hiu,oi,hoi,hiall⟩ := mem_ready.1 hi;have his : i < ops.size := (zYJ.1 hoi).1;have hih : i < h := by
   refine zYX fun hge => ?_;have g1 := zP hc i oi i0 hoi (hbef i0 i hi0 (by omega) his) hiall;rw [zV (by omega),hi0u] at g1;cases g1
  have hi' : i ∈ Region.ready .any (ops.extract 0 h) l' := by
   refine mem_ready.2 ⟨by rw [<- zV (by omega),h1 i hih,zV (by omega)]; exact hiu,oi,by rw [zJJ hle hih]; exact hoi,fun ed hed hb => ?_⟩;have hel : ed.on < i := by
    unfold zAx at hE;have g1 := zYR.1 hE i (zY9.2 his);rw [hoi] at g1;simp only [zYZ,zZj] at g1;have g2 := Array.all_eq_true'.1 g1 ed hed
    simpa [hb] using g2
   rw [h1 ed.on (by omega)];exact hiall ed hed hb
  have hx := hh.2 i hi';unfold wpOpIn at hx ⊢;rw [zJJ hle hih,hoi] at hx;rw [hoi];simp only at hx ⊢;have hw : Region.wanted oi (yielded (ops.extract 0 h) a.tmps) = Region.wanted oi (yielded ops a.tmps) := by
   unfold Region.wanted;cases hg : oi.guard with
   | none => rfl
   | some jb =>
    obtain ⟨j,b⟩ := jb;simp only;rw [zI0 hle _ (hgd i oi _ hih hoi hg)]
  rw [hw] at hx;have hK : ∀ a w,wpAnyIn F m P .any (ops.extract 0 h) (zGk Q fun a w => ∀ l2 : Array Bool,l2.size = ops.size->(∀ k,k < h->l2.getD k false = true)->(∀ k,h <= k->l2.getD k false = false)->Closed ops l2->wpAnyIn F m P .any ops Q (ops.size - h) l2 a w) fuel (l'.setIfInBounds i true) a w->wpAnyIn F m P .any ops Q (fuel + (ops.size - h)) (l.setIfInBounds i true) a w := by
   intro a w;refine ih _ _ a w (by simpa using s1) (by simpa using s2) (fun k hk => ?_) (fun k hk => ?_) (hc.set hi) ?_
   ·rw [zAc,zAc,h1 k hk];by_cases hki : k = i
    ·rw [if_pos ⟨hki,by omega⟩,if_pos ⟨hki,by omega⟩]
    ·rw [if_neg fun hh => hki hh.1,if_neg fun hh => hki hh.1]
   ·rw [zAc,if_neg (by omega)];exact h2 k hk
   ·have g := zDn (listed := l') (i := i) (by rw [<- zV (by omega),h1 i hih,zV (by omega)]; exact hiu) h;rw [if_pos hih] at g;omega
  split
  ·rename_i hw; rw [if_pos hw] at hx; exact Oper.wpIn_mono hK (zI1 hx)
  ·rename_i hw; rw [if_neg hw] at hx; exact ⟨hx.1,hK _ _ hx.2⟩
theorem zKr {lo : LO} (hg : lo.g = none) (hk : zLt lo.op = true) {l : List LO} {K : Env->zB->Prop} (hh : zAD P (lo :: l) e H K) :
  ∃ x,zAD P l (ups e lo.d x) H K/\∀ (e' : Env) (l' : List LO) (K' : Env->zB->Prop),(∀ t ∈ lo.rd,e t = e' t)->zAD P l' (ups e' lo.d x) H K'->zAD P (lo :: l') e' H K' := by
 obtain ⟨d,g,op⟩ := lo;simp only at hg hk;subst hg;cases op <;> simp only [zLt] at hk <;> try (cases hk)
 case mv x =>
  have hh : zAD P l (ups e d (ev e x)) H K := by simpa [zAD,aop,zBb] using hh
  refine ⟨ev e x,hh,fun e' l' K' hr hl => ?_⟩;have e1 : ev e' x = ev e x := (zAk fun t ht => hr t (by simp [LO.rd,LOp.rd,ht])).symm;simp only [zAD,aop,zBb,e1];exact ⟨trivial,hl⟩
 case ext x i =>
  have hh : (rExt (ev e x) i H).ok/\zAD P l (ups e d (rExt (ev e x) i H).x) (rExt (ev e x) i H).H K := by simpa [zAD,aop,zBb] using hh
  have hH : (rExt (ev e x) i H).H = H := by unfold rExt; split <;> rfl
  rw [hH] at hh;refine ⟨_,hh.2,fun e' l' K' hr hl => ?_⟩;have e1 : ev e' x = ev e x := (zAk fun t ht => hr t (by simp [LO.rd,LOp.rd,ht])).symm;simp only [zAD,aop,zBb,e1];rw [hH];exact ⟨hh.1,hl⟩
theorem zGT {lo : LO} (hg : lo.g = none) (hk : zLt lo.op = true) {l2 : List LO} {K : Env->zB->Prop} : ∀ (l1 : List LO) (e : Env),(∀ c ∈ l1,c.g = none/\zLt c.op = true/\zAt c lo = false)->zAD P (l1 ++ lo :: l2) e H K->zAD P (lo :: (l1 ++ l2)) e H K
 | [],e,_,hh => hh
 | c :: l1,e,hc,hh => by
  obtain ⟨c1,c2,c3⟩ := hc c (by simp);obtain ⟨f1,f2,f3⟩ := zBh c3;obtain ⟨x,hx,hre⟩ := zKr c1 c2 (l := l1 ++ lo :: l2) hh;have h2 := zGT hg hk l1 _ (fun c hc' => hc c (by simp [hc'])) hx;obtain ⟨y,hy,hre2⟩ := zKr hg hk h2;refine hre2 e _ K (fun t ht => ?_) (hre _ _ K (fun t ht => ?_) ?_)
  ·cases hd : c.d with
   | none => rfl
   | some u =>
    simp only [ups];unfold up;rw [if_neg];rintro rfl;exact f1 _ hd ht
  ·cases hd : lo.d with
   | none => rfl
   | some u =>
    simp only [ups];unfold up;rw [if_neg];rintro rfl;exact f2 _ hd ht
  ·have : ups (ups e lo.d y) c.d x = ups (ups e c.d x) lo.d y := by
    cases hd : c.d with
    | none => rfl
    | some u =>
     cases hd2 : lo.d with
     | none => rfl
     | some v =>
      have : u ≠ v := fun huv => f3 u hd (by rw [hd2,huv])
      funext t
      simp only [ups,up];by_cases h1 : t = u
      ·subst h1;rw [if_pos rfl,if_neg this,if_pos rfl]
      ·rw [if_neg h1,if_neg h1]
   rw [this];exact hy
theorem zNv (hk : zIC P n hs reg ops h = true) : (∀ j o,h <= j->ops[j]? = some o->∃ imm,zAP P n imm ops o = some (zAS P n hs reg ops j))/\(∀ j,h <= j->j < ops.size->(zAS P n hs reg ops j).g = none/\zLt (zAS P n hs reg ops j).op = true) /\
  ∀ i j,h <= i->i < j->j < ops.size->((Region.before ops).getD j 0).testBit i = true\/zAt (zAS P n hs reg ops i) (zAS P n hs reg ops j) = false := by
 unfold zIC at hk;simp only [zYA,zYR,zY9,zZq,zYy,zZi] at hk;obtain ⟨h1,h2⟩ := hk;refine ⟨fun j o hj ho => ?_,fun j hj hjs => ?_,fun i j hi hij hjs => ?_⟩
 ·have hjs := (zYJ.1 ho).1;rcases h1 j hjs with g | ⟨⟨g1,g2⟩,g3⟩
  ·omega
  ·refine ⟨zBn hs reg j,?_⟩;rw [ho] at g1;unfold zAS;rw [ho];simp only [zYZ,zZ7,zYq] at g1 ⊢;cases hl : zAP P n (zBn hs reg j) ops o with
   | none => rw [hl] at g1; simp at g1
   | some lo => rfl
 ·rcases h1 j hjs with g | ⟨⟨g1,g2⟩,g3⟩
  ·omega
  ·exact ⟨by simpa using g2,g3⟩
 ·rcases h2 j hjs i hij with (g | g) | g
  ·omega
  ·exact .inl g
  ·exact .inr g
theorem zPC {r : Option Nat} {m0 : Nat} {K : Env->zB->Prop} {Q : Exit->Act->World->Prop} {pres : List LO} (hE : zAx ops = true) (hk : zIC P n hs reg ops h = true) (hg : zC6 n pres = true)
  (hQ : ∀ e' H' a' w',K e' H'->St B X w0 ρ0 n0 n e' H' a' w'->Q .normal a' w') :
  ∀ (fuel : Nat) (R : List Nat) (l : Array Bool) (e : Env) (H : zB) (a : Act) (w : World),R.length = fuel->l.size = ops.size->R.Pairwise (· < ·)->(∀ j,j ∈ R ↔ h <= j/\j < ops.size/\l.getD j false = false)->(∀ j,j < h->j < ops.size->l.getD j false = true)->Closed ops l ->
   zAD P (R.map (zAS P n hs reg ops) ++ pres) e H K->St B X w0 ρ0 n0 n e H a w->wpAnyIn (WR r) m0 P .any ops Q fuel l a w := by
 obtain ⟨k1,k2,k3⟩ := zNv hk;intro fuel;induction fuel with
 | zero =>
  intro R l e H a w hR hs hp hm hlo hc hh hst;obtain rfl := zYQ.1 hR;refine ⟨zZk.2 fun i hi => ?_,?_⟩
  ·obtain ⟨h1,o,h2,_⟩ := mem_ready.1 hi;have his := (zYJ.1 h2).1;rw [<- zV (by omega)] at h1;by_cases hih : i < h
   ·rw [hlo i hih his] at h1; cases h1
   ·have := (hm i).2 ⟨by omega,his,h1⟩;simp at this
  ·obtain ⟨e2,H2,g1,g2⟩ := zAp pres (los := []) hg (by simpa using hh) hst;exact hQ _ _ _ _ g1 g2
 | succ fuel ih =>
  intro R l e H a w hR hs hp hm hlo hc hh hst;have hun : ∃ i,i < ops.size/\l.getD i true = false := by
   cases R with
   | nil => simp at hR
   | cons i R =>
    obtain ⟨_,g2,g3⟩ := (hm i).1 (by simp);exact ⟨i,g2,by rw [<- zV (by omega)]; exact g3⟩
  obtain ⟨i0,hi0,hi0u,hi0l⟩ := zCL hun;have hr0 : i0 ∈ Region.ready .any ops l := zCp hE (by omega) hi0u fun j hj => by rw [zV (by omega)]; exact hi0l j hj
  refine ⟨fun h0 => by rw [h0] at hr0; simp at hr0,fun i hi => ?_⟩;obtain ⟨hiu,oi,hoi,hiall⟩ := mem_ready.1 hi;have his : i < ops.size := (zYJ.1 hoi).1;have hiuf : l.getD i false = false := by rw [zV (by omega)]; exact hiu
  have hih : h <= i := by
   refine zYX fun hlt => ?_;rw [hlo i (by omega) his] at hiuf;cases hiuf
  have hiR : i ∈ R := (hm i).2 ⟨hih,his,hiuf⟩;obtain ⟨R1,R2,rfl⟩ := List.append_of_mem hiR;obtain ⟨g1,g2⟩ := k2 i hih his;have hlt1 : ∀ j ∈ R1,j < i := fun j hj => (List.pairwise_append.1 hp).2.2 j hj i (by simp);rw [zzac,zZA,zY8,zYB] at hh;have hh2 := zGT g1 g2 _ _ (fun c hcm => by
   obtain ⟨j,hj,rfl⟩ := zZl.1 hcm;obtain ⟨q1,q2,q3⟩ := (hm j).1 (by simp [hj]);obtain ⟨r1,r2⟩ := k2 j q1 q2;refine ⟨r1,r2,?_⟩;rcases k3 j i q1 (hlt1 j hj) his with s | s
   ·have := zP hc i oi j hoi s hiall;rw [q3] at this;cases this
   ·exact s) hh
  obtain ⟨imm,hlow⟩ := k1 i oi hih hoi;have hnx := zBl (r := r) (m0 := m0) hlow hh2 hst (next := wpAnyIn (WR r) m0 P .any ops Q fuel (l.setIfInBounds i true)) (Q := Q) fun e'' H'' a'' w'' hK'' hs'' => by
   have hnd : i ∉ R1 ++ R2 := by
    intro hmem;rcases zY2.1 hmem with hmem | hmem
    ·have := hlt1 i hmem; omega
    ·have := (List.pairwise_cons.1 (List.pairwise_append.1 hp).2.1).1 i hmem; omega
   refine ih (R1 ++ R2) _ e'' H'' a'' w'' (by simp at hR ⊢; omega) (by simpa using hs) (hp.sublist (by simp)) (fun j => ?_) (fun j hj hjs => ?_) (hc.set hi) (by rw [zzac,zY8]; exact hK'') hs''
   ·rw [zAc];constructor
    ·intro hj;have hji : j ≠ i := fun hji => hnd (hji ▸ hj);obtain ⟨q1,q2,q3⟩ := (hm j).1 (by
      rcases zY2.1 hj with hj | hj
      ·exact List.mem_append_left _ hj
      ·exact List.mem_append_right _ (by simp [hj]))
     exact ⟨q1,q2,by rw [if_neg fun hh => hji hh.1]; exact q3⟩
    ·rintro ⟨q1,q2,q3⟩;have hji : j ≠ i := by
      rintro rfl;rw [if_pos ⟨rfl,by omega⟩] at q3;cases q3
     rw [if_neg fun hh => hji hh.1] at q3;have := (hm j).2 ⟨q1,q2,q3⟩;rcases zY2.1 this with hj | hj
     ·exact List.mem_append_left _ hj
     ·rcases zY5.1 hj with hj | hj
      ·exact absurd hj hji
      ·exact List.mem_append_right _ hj
   ·rw [zAc];split
    ·rfl
    ·exact hlo j hj hjs
  unfold wpOpIn;rw [hoi];simp only;exact hnx
theorem zN3 {r : Option Nat} {m0 : Nat} {K : Env->zB->Prop} {Z : Value->zB->Prop} {Q : Exit->Act->World->Prop} (hD : zCT P n hs reg (ops.extract 0 h) T = true) (hE1 : zAx (ops.extract 0 h) = true) (hE : zAx ops = true) (hk : zEm ops h = true) (hl : zIC P n hs reg ops h = true)
  (hp : (zAn hs reg h).isEmpty = true) (hg : zC6 n (zAn hs reg ops.size) = true)
  (hK : zAR P (hdA P n hs reg (ops.extract 0 h) T) e H fun e1 => zEO P (hdA P n hs reg (ops.extract 0 h) T) e1 (tlX P n hs reg (ops.extract 0 h) T 0) e1 H (fun e' H' => zAD P ((List.range' h (ops.size - h)).map (zAS P n hs reg ops) ++ zAn hs reg ops.size) e' H' K) Z) (hst : St B X w0 ρ0 n0 n e H a w)
  (hQ : ∀ e' H' a' w',K e' H'->St B X w0 ρ0 n0 n e' H' a' w'->Q .normal a' w')
  (hZ : ∀ v H' a' w',Z v H'->St B X w0 ρ0 n0 n (zPx e (hdA P n hs reg (ops.extract 0 h) T) (tlX P n hs reg (ops.extract 0 h) T 0)) H' a' w'->Q (.panic [{ v,recovered := false }]) a' w') : wpAnyIn (WR r) m0 P .any ops Q ops.size (Array.replicate ops.size false) a { w with drawn := w.drawn + 1 } := by
 have hle := (zEU hk).1;have hsz := zKD (ops := ops) hle;have hpn : zAn hs reg h = [] := zzap.1 hp;have hz : ∀ (m j : Nat),(Array.replicate m false).getD j false = false := fun m j => getD_replicate_false _ _;have hclz : ∀ m,Closed ops (Array.replicate m false) := fun m j oj _ hlj => by rw [hz] at hlj; cases hlj
 have h1 := zGc (r := r) (m0 := m0) (Q := zGk Q fun a w => ∀ l2 : Array Bool,l2.size = ops.size->(∀ k,k < h->l2.getD k false = true)->(∀ k,h <= k->l2.getD k false = false)->Closed ops l2->wpAnyIn (WR r) m0 P .any ops Q (ops.size - h) l2 a w)
  (K := fun e' H' => zAD P ((List.range' h (ops.size - h)).map (zAS P n hs reg ops) ++ zAn hs reg ops.size) e' H' K) (Z := Z) hD hE1 (by rw [hsz,hpn]; rfl) (by rw [hsz,hpn]; exact hK) hst
  (fun e' H' a' w' hk' hs' => ?_) (fun v H' a' w' hz hs' => hZ v H' a' w' hz hs')
 ·have h2 := zH9 (P := P) hE hk h (Array.replicate h false) (Array.replicate ops.size false) a { w with drawn := w.drawn + 1 } (by simp) (by simp) (fun k _ => by rw [hz,hz]) (fun k _ => hz _ _) (hclz _) (by
   have := zBI (listed := Array.replicate h false) (h := 0) h fun j hj => by rw [<- zV (by simpa using hj),hz]; simp
   omega) (by rw [hsz] at h1; exact h1)
  rw [show h + (ops.size - h) = ops.size by omega] at h2;exact h2
 ·intro l2 q1 q2 q3 q4;refine zPC (B := B) (X := X) (w0 := w0) (ρ0 := ρ0) (n0 := n0) hE hl hg hQ (ops.size - h) (List.range' h (ops.size - h)) l2 e' H' a' w' (by simp) q1 List.pairwise_lt_range' (fun j => ?_) (fun j hj _ => q2 j hj) q4 hk' hs';rw [List.mem_range'_1];constructor
  ·rintro ⟨s1,s2⟩; exact ⟨s1,by omega,q3 j s1⟩
  ·rintro ⟨s1,s2,_⟩; omega
end
section
variable {P : Program} {w w' : World} {X M M' M'' : Nat → Prop} {ρ ρ' : Nat → Loc} {H : zB} {n n' : Nat}
theorem Rep.narrow {x : AV} {u : Value} (h : Rep w M' ρ 0 x u) (hM : ∀ b,M'' b->M' b) : Rep w M'' ρ 0 x u :=
 h.fut (n0 := 0) (Fut.refl _ _ _) (fun b _ hb hb' => hb (hM b hb')) (fun b _ ⟨r,o,hr,_⟩ => by omega) (zYH _)
theorem Rep.scope {x : AV} {u0 : Value} (h0 : Rep w M ρ n x u0) (hM : ∀ b,M'' b->M' b) : ∀ {u : Value},Rep w' M' ρ' n' x u->Rep w' M'' ρ' n x u := by
 induction h0 with
 | any => intro u _; exact .any _ _
 | v => intro u h; cases h; exact .v _ _
 | agg n cs us hl _ ih =>
  intro u h;cases h with
  | agg _ _ us' hl' h' =>
   refine .agg _ _ _ hl' fun i x u hx hu => ?_;have hlt : i < us.size := by rw [<- hl]; exact (zYr.1 hx).1
   exact ih i x us[i] hx (by simp [hlt]) (h' i x u hx hu)
 | tup n cs us hl _ ih =>
  intro u h;cases h with
  | tup _ _ us' hl' h' =>
   refine .tup _ _ _ hl' fun i x u hx hu => ?_;have hlt : i < us.size := by rw [<- hl]; exact (zYr.1 hx).1
   exact ih i x us[i] hx (by simp [hlt]) (h' i x u hx hu)
 | nc => intro u h; cases h; exact .nc _ _
 | bnil => intro u h; cases h; exact .bnil _ _
 | slE =>
  intro u h;cases h with
  | slE => exact .slE _ _ _ _
  | slN _ _ _ b o cap c hm hb hcap hsz hcell hc => exact .slN _ _ _ _ _ _ c (fun h => hm (hM _ h)) hb hcap hsz hcell fun i j x y hx hy => (hc i j x y hx hy).narrow hM
 | slN =>
  intro u h;cases h with
  | slE => exact .slE _ _ _ _
  | slN _ _ _ b o cap c hm hb hcap hsz hcell hc => exact .slN _ _ _ _ _ _ c (fun h => hm (hM _ h)) hb hcap hsz hcell fun i j x y hx hy => (hc i j x y hx hy).narrow hM
 | vp =>
  intro u h;cases h with
  | vp _ _ _ b o c hm hb hcell hc => exact .vp _ _ _ _ _ c (fun h => hm (hM _ h)) hb hcell fun j y hy => (hc j y hy).narrow hM
 | fn n f first caps fs us h1 h2 _ _ ih1 ih2 =>
  intro u h;cases h with
  | fn _ _ _ _ fs' us' g1 g2 g3 g4 =>
   refine .fn _ _ _ _ _ _ g1 g2 (fun i x u hx hu => ?_) (fun i x u hx hu => ?_)
   ·have hlt : i < fs.size := by rw [<- h1]; exact (zYr.1 hx).1
    exact ih1 i x fs[i] hx (by simp [hlt]) (g3 i x u hx hu)
   ·have hlt : i < us.size := by rw [<- h2]; exact (zYr.1 hx).1
    exact ih2 i x us[i] hx (by simp [hlt]) (g4 i x u hx hu)
 | mp =>
  intro u h;cases h with
  | mp _ _ _ b es clock hm hb hh hks hvs hc => exact .mp _ _ _ _ es clock (fun h => hm (hM _ h)) hb hh hks hvs fun i x e hx he => (hc i x e hx he).narrow hM
 | os n r ver off len u hr _ _ _ =>
  intro u h;cases h with
  | os _ _ _ _ _ _ _ hle h1 hp => exact .os _ _ _ _ _ _ hr hle h1 hp
 | ptr n r ver off u hr _ _ _ =>
  intro u h;cases h with
  | ptr _ _ _ _ _ _ hle h1 hp => exact .ptr _ _ _ _ _ hr hle h1 hp
 | pe n r ver i off u hr _ _ _ =>
  intro u h;cases h with
  | pe _ _ _ _ _ _ _ hle h1 hp => exact .pe _ _ _ _ _ _ hr hle h1 hp
 | om n r ver u hr _ _ _ =>
  intro u h;cases h with
  | om _ _ _ _ _ hle h1 hp => exact .om _ _ _ _ hr hle h1 hp
theorem ObjOk.scope {l l' : Loc} {o : HO} (h0 : ObjOk w M ρ n l o) (hM : ∀ b,M'' b->M' b) (h : ObjOk w' M' ρ' n' l' o) : ObjOk w' M'' ρ' n l' o := by
 cases o with
 | dead => trivial
 | box cs =>
  obtain ⟨_,_,c0,_,_,_,_,hl0,_,h06⟩ := h0;obtain ⟨h1,b,c,e,fr,h2,h3,h4,h5,h6⟩ := h;refine ⟨h1,b,c,e,fr,h2,h3,h4,h5,fun j y u hy hu => ⟨?_,(h6 j y u hy hu).2⟩⟩;have hlt : j < c0.size := by rw [<- hl0]; exact (zYr.1 hy).1
  exact (h06 j y c0[j] hy (by simp [hlt])).1.scope hM (h6 j y u hy hu).1
 | arr ver sz xs =>
  obtain ⟨_,_,h03,h04,h05,h06⟩ := h0;obtain ⟨h1,h2,h3,h4,h5,h6⟩ := h;refine ⟨h1,h2,h3,h4,h5,?_⟩;have old : ∀ (i j : Nat) (x : List AV) (y : AV),xs[i]? = some x->x[j]? = some y->∃ u0,Rep w M ρ n y u0 := fun i j x y hx hy => by
   cases hb : l.blk with
   | none => rw [hb] at h06; simp only at h06; subst h06; simp at hx
   | some bo =>
    obtain ⟨b,o⟩ := bo;rw [hb] at h06;obtain ⟨c,e,fr,g1,g2,g3,g4⟩ := h06;have hi := (zYr.1 hx).1;have hj := (zYr.1 hy).1;rw [h04 x (zYW hx)] at hj;have hm : (i + 1) * sz <= xs.length * sz := zZa _ hi;have hlt : o + i * sz + j < c.size := by rw [zZs] at hm; omega
    exact ⟨c[o + i * sz + j],(g4 i j x y _ hx hy (by simp [hlt])).1⟩
  split
  ·rename_i hl; rw [hl] at h6; exact h6
  ·rename_i b o hl;rw [hl] at h6;obtain ⟨c,e,fr,g1,g2,g3,g4⟩ := h6;exact ⟨c,e,fr,g1,g2,g3,fun i j x y u hx hy hu => ⟨(old i j x y hx hy).elim fun u0 h0 => h0.scope hM (g4 i j x y u hx hy hu).1,(g4 i j x y u hx hy hu).2⟩⟩
 | map ver ks vs =>
  obtain ⟨h1,b,es,clock,h2,h3,h4,h5,h6⟩ := h;exact ⟨h1,b,es,clock,h2,h3,h4,h5,fun i x e hx he => (h6 i x e hx he).narrow hM⟩
 | iter s pos => exact h
 | lp b lr e st =>
  obtain ⟨_,_,_,h04⟩ := h0;obtain ⟨h1,h2,h3,h4⟩ := h;exact ⟨h1,h2,h3,fun t u hu => (h04 t u hu).scope hM (h4 t u hu)⟩
 | mit ks vs left cur =>
  obtain ⟨h1,b,m,es,clock,since,seen,c0,h2,h3,h4,h5,h6⟩ := h;exact ⟨h1,b,m,es,clock,since,seen,c0,h2,h3,h4,h5.narrow hM,h6⟩
 | barr t ver bl => exact h
theorem ObjOk.map (f : ∀ x u,Rep w M ρ n x u->Rep w M ρ' n' x u) (f0 : ∀ x u,Rep w M ρ 0 x u->Rep w M ρ' 0 x u) {l : Loc} {o : HO} (h : ObjOk w M ρ n l o) : ObjOk w M ρ' n' l o := by
 cases o with
 | dead => trivial
 | box cs =>
  obtain ⟨h1,b,c,e,fr,h2,h3,h4,h5,h6⟩ := h;exact ⟨h1,b,c,e,fr,h2,h3,h4,h5,fun j y u hy hu => ⟨f _ _ (h6 j y u hy hu).1,(h6 j y u hy hu).2⟩⟩
 | arr ver sz xs =>
  obtain ⟨h1,h2,h3,h4,h5,h6⟩ := h;refine ⟨h1,h2,h3,h4,h5,?_⟩;split
  ·rename_i hl; rw [hl] at h6; exact h6
  ·rename_i b o hl;rw [hl] at h6;obtain ⟨c,e,fr,g1,g2,g3,g4⟩ := h6;exact ⟨c,e,fr,g1,g2,g3,fun i j x y u hx hy hu => ⟨f _ _ (g4 i j x y u hx hy hu).1,(g4 i j x y u hx hy hu).2⟩⟩
 | map ver ks vs =>
  obtain ⟨h1,b,es,clock,h2,h3,h4,h5,h6⟩ := h;exact ⟨h1,b,es,clock,h2,h3,h4,h5,fun i x e hx he => f0 _ _ (h6 i x e hx he)⟩
 | iter s pos => exact h
 | lp b lr e st =>
  obtain ⟨h1,h2,h3,h4⟩ := h;exact ⟨h1,h2,h3,fun t u hu => f _ _ (h4 t u hu)⟩
 | mit ks vs left cur =>
  obtain ⟨h1,b,m,es,clock,since,seen,c0,h2,h3,h4,h5,h6⟩ := h;exact ⟨h1,b,m,es,clock,since,seen,c0,h2,h3,h4,f0 _ _ h5,h6⟩
 | barr t ver bl => exact h
end
section
variable {B : DB} {P : Program} {w w0 w2 : World} {X : Nat->Prop} {ρ ρ0 ρ2 : Nat->Loc} {H : zB} {e e2 : Env} {a a2 : Act} {n n0 : Nat}
theorem zHR {zs : List AV} (h : zOF zs = true) {j : Nat} {y : AV} (hy : zs[j]? = some y) : ∃ u,y = .v u := by
 have := zYR.1 h y (zYW hy);cases y <;> first | exact ⟨_,rfl⟩ | cases this
theorem St.swap {z0 z1 : List AV} {d0 d1 : Nat} (hd : d0 ≠ d1) (hz0 : zOF z0 = true) (hz1 : zOF z1 = true) (h : St B X w0 ρ0 n0 n e H a w)
  (h2 : St B X w0 ρ0 n0 n (up (up e d1 (.ptr H.length 0 0)) d0 (.ptr (H.length + 1) 0 0)) (H ++ [.box z1] ++ [.box z0]) a2 w2) :
  St B X w0 ρ0 n0 n (up (up e d0 (.ptr H.length 0 0)) d1 (.ptr (H.length + 1) 0 0)) (H ++ [.box z0] ++ [.box z1]) a2 w2 := by
 obtain ⟨hn,ρ,hrel,he,hf,hm⟩ := h;obtain ⟨hn2,ρ2,hrel2,he2,hf2,hm2⟩ := h2;have hlen2 : (H ++ [HO.box z1] ++ [HO.box z0]).length = H.length + 2 := by simp
 have hlen3 : (H ++ [HO.box z0] ++ [HO.box z1]).length = H.length + 2 := by simp
 have ob2 := hrel2.objs;rw [hlen2] at ob2 hf2 hm2;have he2 : ∀ t,t < n->Rep w2 (Mut X ρ2 (H.length + 2)) ρ2 (H.length + 2) (up (up e d1 (.ptr H.length 0 0)) d0 (.ptr (H.length + 1) 0 0) t) (a2.tmps.getD t undef) := by
  have := he2;unfold ER at this
  rwa [hlen2] at this
 have inj2 := hrel2.inj;have lt2 := hrel2.lt;have gl2 := hrel2.gl;rw [hlen2] at inj2 lt2 gl2;obtain ⟨σ,hσ⟩ : ∃ σ : Nat->Nat,σ = fun i => if i = H.length then H.length + 1 else if i = H.length + 1 then H.length else i := ⟨_,rfl⟩
 have σ0 : σ H.length = H.length + 1 := by subst hσ; simp
 have σ1 : σ (H.length + 1) = H.length := by subst hσ; simp
 have σo : ∀ i,i < H.length->σ i = i := fun i hi => by subst hσ; simp only; rw [if_neg (by omega),if_neg (by omega)]
 have σl : ∀ i,i < H.length + 2->σ i < H.length + 2 := fun i hi => by
  rcases zZY i H.length with h | h
  ·rw [σo i h]; omega
  ·rcases zZY H.length i with h' | h'
   ·obtain rfl : i = H.length + 1 := by omega
    rw [σ1]; omega
   ·obtain rfl : i = H.length := by omega
    rw [σ0]; omega
 have σσ : ∀ i,i < H.length + 2->σ (σ i) = i := fun i hi => by
  rcases zZY i H.length with h | h
  ·rw [σo i h,σo i h]
  ·rcases zZY H.length i with h' | h'
   ·obtain rfl : i = H.length + 1 := by omega
    rw [σ1,σ0]
   ·obtain rfl : i = H.length := by omega
    rw [σ0,σ1]
 have hown : ∀ b,Own (fun i => ρ2 (σ i)) (H.length + 2) b ↔ Own ρ2 (H.length + 2) b := fun b =>
  ⟨fun ⟨r,o,hr,hb⟩ => ⟨σ r,o,σl r hr,hb⟩,fun ⟨r,o,hr,hb⟩ => ⟨σ r,o,σl r hr,by simp only; rw [σσ r hr]; exact hb⟩⟩
 have hM : Mut X (fun i => ρ2 (σ i)) (H.length + 2) = Mut X ρ2 (H.length + 2) := by
  funext b
  exact propext (or_congr Iff.rfl (hown b))
 have hF : Fut w2 ρ2 H.length w2 (fun i => ρ2 (σ i)) H.length := ⟨rfl,rfl,rfl,zYH _,fun _ _ _ => rfl,fun b ⟨r,o,hr,hb⟩ => .inl ⟨r,o,hr,by simp only at hb; rw [σo r hr] at hb; exact hb⟩,zYH _,fun r hr => .inl (by show ρ2 (σ r) = ρ2 r; rw [σo r hr])⟩;have reloc : ∀ k,k <= H.length->∀ x u,Rep w2 (Mut X ρ2 (H.length + 2)) ρ2 k x u->Rep w2 (Mut X ρ2 (H.length + 2)) (fun i => ρ2 (σ i)) k x u := fun k hk x u hx =>
  hx.fut hF (fun b _ hb => hb) (fun b hb ⟨r,o,hr,hbl⟩ => hb (.inr ⟨r,o,by omega,hbl⟩)) hk
 have box : ∀ (r : Nat) (z : List AV),zOF z = true->ObjOk w2 (Mut X ρ2 (H.length + 2)) ρ2 (H.length + 2) (ρ2 r) (.box z)->ObjOk w2 (Mut X ρ2 (H.length + 2)) (fun i => ρ2 (σ i)) (H.length + 2) (ρ2 r) (.box z) := fun r z hz ho => by
  obtain ⟨h1,b,c,e,fr,h2,h3,h4,h5,h6⟩ := ho;refine ⟨h1,b,c,e,fr,h2,h3,h4,h5,fun j y u hy hu => ?_⟩;obtain ⟨v,rfl⟩ := zHR hz hy;have := h6 j _ u hy hu;have e : u = v := by have h := this.1; cases h; rfl
  subst e;exact ⟨.v _ _,this.2⟩
 refine ⟨hn2,fun i => ρ2 (σ i),⟨?_,?_,?_,hrel2.xlt,?_⟩,?_,?_,?_⟩
 ·intro r o hr;rw [hlen3,hM];have hlt : r < H.length + 2 := by rw [<- hlen3]; exact (zYr.1 hr).1
  rcases zZY r H.length with hrl | hrl
  ·have ho : H[r]? = some o := by rw [zY8,zYD hrl] at hr; exact hr
   have := (hrel.objs r o ho).scope (M'' := Mut X ρ2 (H.length + 2)) (fun b hb => hb) (ob2 r o (by rw [zY8,zYD hrl]; exact ho));show ObjOk _ _ _ _ (ρ2 (σ r)) o;rw [σo r hrl];exact this.map (fun x u hx => (reloc _ (zYH _) x u hx).mono (by omega)) (fun x u hx => reloc 0 (zYO _) x u hx)
  ·rcases zZY H.length r with h' | h'
   ·obtain rfl : r = H.length + 1 := by omega
    have ho : o = .box z1 := by
     rw [zYz (by simp)] at hr
     simpa using hr.symm
    subst ho;show ObjOk _ _ _ _ (ρ2 (σ (H.length + 1))) _;rw [σ1];exact box _ _ hz1 (ob2 _ _ (by rw [zY8,zYz (by omega)]; simp))
   ·obtain rfl : r = H.length := by omega
    have ho : o = .box z0 := by
     rw [zY8,zYz (by omega)] at hr
     simpa using hr.symm
    subst ho;show ObjOk _ _ _ _ (ρ2 (σ H.length)) _;rw [σ0];exact box _ _ hz0 (ob2 _ _ (by rw [zYz (by simp)]; simp))
 ·intro r r' b o b' o' hr hr' hne hb hb';rw [hlen3] at hr hr';exact inj2 (σ r) (σ r') b o b' o' (σl r hr) (σl r' hr') (fun e => hne (by rw [<- σσ r hr,<- σσ r' hr',e])) hb hb'
 ·intro r b o hr hb;rw [hlen3] at hr;exact lt2 (σ r) b o (σl r hr) hb
 ·rw [hlen3];exact fun g hg => ⟨fun ho => (gl2 g hg).1 ((hown g).1 ho),(gl2 g hg).2⟩
 ·intro t ht;rw [hlen3,hM];have g := he2 t ht;by_cases h1 : t = d1
  ·subst h1;simp only [up,if_true] at g ⊢;rw [if_neg (fun e => hd e.symm)] at g;cases g with
   | ptr _ _ _ _ _ hr hle hone hp => exact .ptr _ _ _ _ _ (by omega) (by rw [σ1]; exact hle) hone (by rw [σ1]; exact hp)
  ·by_cases h0 : t = d0
   ·subst h0;simp only [up,if_true] at g ⊢;rw [if_neg hd];cases g with
    | ptr _ _ _ _ _ hr hle hone hp => exact .ptr _ _ _ _ _ (by omega) (by rw [σ0]; exact hle) hone (by rw [σ0]; exact hp)
   ·simp only [up] at g ⊢;rw [if_neg h0,if_neg h1] at g;rw [if_neg h1,if_neg h0];exact (reloc _ (zYH _) _ _ ((he t ht).scope (fun b hb => hb) g)).mono (by omega)
 ·rw [hlen3];exact ⟨hf2.os,hf2.tape,hf2.output,hf2.size,hf2.keep,fun b hb => hf2.own b ((hown b).1 hb),hf2.len,fun r hr => by
   have := hf.len;rw [σo r (by omega)];exact hf2.loc r hr⟩
 ·rw [hlen3];obtain ⟨ds,k1,k2,k3,k4⟩ := hm2;exact ⟨ds,k1,k2,k3,fun D hD => ⟨(k4 D hD).1,(k4 D hD).2.1,fun ho => (k4 D hD).2.2.1 ((hown D).1 ho),(k4 D hD).2.2.2⟩⟩
variable {ops : Array Oper} {T : List Nat} {hs : List Hn} {reg h : Nat}
theorem zMY (hk : zIm P n hs reg ops h = true) : h + 2 <= ops.size/\(∀ j o,h <= j->j < h + 2->ops[j]? = some o->∃ imm,zAP P n imm ops o = some (zAS P n hs reg ops j)) /\
  (∃ d0 d1 z0 z1,d0 ≠ d1/\zOF z0 = true/\zOF z1 = true/\zAS P n hs reg ops h = ⟨some d0,none,.alloc z0⟩/\zAS P n hs reg ops (h + 1) = ⟨some d1,none,.alloc z1⟩) /\
  ∀ i j,h <= i->i < j->j < ops.size->h + 2 <= j->((Region.before ops).getD j 0).testBit i = true := by
 unfold zIm at hk;simp only [zYA,zYR,zY9,zZq,zYy] at hk;obtain ⟨⟨⟨h1,h2⟩,h3⟩,h4⟩ := hk;refine ⟨h1,fun j o hj hj2 ho => ?_,?_,fun i j hi hij hjs hj2 => ?_⟩
 ·refine ⟨zBn hs reg j,?_⟩;have g1 := h2 j (zYJ.1 ho).1;rcases g1 with g1 | g1
  ·omega
  rcases g1 with g1 | g1
  ·omega
  rw [ho] at g1;unfold zAS;rw [ho];simp only [zYZ,zZ7,zYq] at g1 ⊢;cases hl : zAP P n (zBn hs reg j) ops o with
  | none => rw [hl] at g1; simp at g1
  | some lo => rfl
 ·unfold zQq at h3;split at h3
  ·rename_i d0 z0 d1 z1 e0 e1;simp only [zYA,zZi,beq_eq_false_iff_ne,ne_eq] at h3;exact ⟨d0,d1,z0,z1,h3.1.1,h3.1.2,h3.2,e0,e1⟩
  ·cases h3
 ·rcases h4 j hjs i hij with g | g
  ·omega
  ·exact g
theorem zB2 {z : List AV} {d : Nat} {l : List LO} {K : Env->zB->Prop} : zAD P (⟨some d,none,.alloc z⟩ :: l) e H K = (c1s z = true/\zAD P l (up e d (.ptr H.length 0 0)) (H ++ [.box z]) K) := rfl
theorem zPn {r : Option Nat} {m0 : Nat} {K : Env->zB->Prop} {Q : Exit->Act->World->Prop} {los : List LO} (hE : zAx ops = true) (hk : zIm P n hs reg ops h = true) (hlo : zBK P n hs reg ops (h + 2) (ops.toList.drop (h + 2)) = some los)
  (hQ : ∀ e' H' a' w',K e' H'->St B X w0 ρ0 n0 n e' H' a' w'->Q .normal a' w') (l : Array Bool) (hs1 : l.size = ops.size) (lo : ∀ k,k < h->l.getD k false = true) (hi : ∀ k,h <= k->l.getD k false = false) (hc : Closed ops l)
  (hh : zAD P (zAS P n hs reg ops h :: zAS P n hs reg ops (h + 1) :: los) e H K) (hst : St B X w0 ρ0 n0 n e H a w) : wpAnyIn (WR r) m0 P .any ops Q (ops.size - h) l a w := by
 obtain ⟨k0,k1,⟨d0,d1,z0,z1,hd,v0,v1,t0,t1⟩,k3⟩ := zMY hk;rw [t0,t1,zB2,zB2] at hh;obtain ⟨q0,q1,hK⟩ := hh;have hsz : (H ++ [HO.box z0]).length = H.length + 1 := by simp
 rw [hsz] at hK;have tail : ∀ (l3 : Array Bool) (a' : Act) (w' : World),l3.size = ops.size->(∀ j,j < ops.size->l3.getD j true = decide (j < h + 2))->Closed ops l3->St B X w0 ρ0 n0 n (up (up e d0 (.ptr H.length 0 0)) d1 (.ptr (H.length + 1) 0 0)) (H ++ [.box z0] ++ [.box z1]) a' w'->wpAnyIn (WR r) m0 P .any ops Q (ops.size - (h + 2)) l3 a' w' := fun l3 a' w' g1 g2 g3 g4 =>
  zCr (h := h + 2) (K := K) hE (fun i j hi hij hj => k3 i j (by omega) hij hj (by omega)) hQ (ops.size - (h + 2)) (h + 2) los _ _ a' w' l3 (zYH _) (by omega) g1 g2 g3 hlo hK g4
 have nx : ∀ (l : Array Bool) (k : Nat),l.size = ops.size->Closed ops l->(∀ j,j < h->l.getD j false = true)->h <= k->k < h + 2->l.getD k false = false->(∀ j,h + 2 <= j->l.getD j false = false)->Region.ready .any ops l ≠ []/\∀ i ∈ Region.ready .any ops l,h <= i/\i < h + 2/\l.getD i false = false/\∃ oi,ops[i]? = some oi := fun l k hsl hc hlow hk1 hk2 hkf hhi => by
  have hun : ∃ i,i < ops.size/\l.getD i true = false := ⟨k,by omega,by rw [<- zV (by omega)]; exact hkf⟩;obtain ⟨i0,hi0,hi0u,hi0l⟩ := zCL hun;have hr0 : i0 ∈ Region.ready .any ops l := zCp hE (by omega) hi0u fun j hj => by rw [zV (by omega)]; exact hi0l j hj
  refine ⟨fun h0 => by rw [h0] at hr0; simp at hr0,fun i hi => ?_⟩;obtain ⟨hiu,oi,hoi,hiall⟩ := mem_ready.1 hi;have his : i < ops.size := (zYJ.1 hoi).1;have hiuf : l.getD i false = false := by rw [zV (by omega)]; exact hiu
  refine ⟨zzay fun hlt => ?_,Nat.lt_of_not_le fun hge => ?_,hiuf,oi,hoi⟩
  ·rw [hlow i hlt] at hiuf; cases hiuf
  ·have := zP hc i oi k hoi (k3 k i hk1 (by omega) his hge) hiall;rw [hkf] at this;cases this
 rw [show ops.size - h = (ops.size - (h + 2) + 1) + 1 by omega];obtain ⟨n1,n2⟩ := nx l h hs1 hc lo (zYH _) (by omega) (hi h (zYH _)) (fun j hj => hi j (by omega));refine ⟨fun h0 => absurd h0 n1,fun i hi1 => ?_⟩;obtain ⟨g1,g2,g3,oi,hoi⟩ := n2 i hi1;have hc2 := hc.set hi1;have get2 : ∀ j,(l.setIfInBounds i true).getD j false = if j = i then true else l.getD j false := fun j => by
  rw [zAc];by_cases hji : j = i
  ·rw [if_pos ⟨hji,by omega⟩,if_pos hji]
  ·rw [if_neg fun hh => hji hh.1,if_neg hji]
 obtain ⟨imm,hlow⟩ := k1 i oi g1 g2 hoi;have step2 : ∀ (k : Nat) (hk1 : h <= k) (hk2 : k < h + 2) (hki : k ≠ i) (e1 : Env) (H1 : zB) (a1 : Act) (w1 : World) (K1 : Env->zB->Prop),zAD P [zAS P n hs reg ops k] e1 H1 K1->St B X w0 ρ0 n0 n e1 H1 a1 w1 ->
   (∀ e2 H2 a2 w2,K1 e2 H2->St B X w0 ρ0 n0 n e2 H2 a2 w2->St B X w0 ρ0 n0 n (up (up e d0 (.ptr H.length 0 0)) d1 (.ptr (H.length + 1) 0 0)) (H ++ [.box z0] ++ [.box z1]) a2 w2) ->
   wpAnyIn (WR r) m0 P .any ops Q (ops.size - (h + 2) + 1) (l.setIfInBounds i true) a1 w1 := by
  intro k hk1 hk2 hki e1 H1 a1 w1 K1 hone hst1 hend;obtain ⟨m1,m2⟩ := nx (l.setIfInBounds i true) k (by simpa using hs1) hc2 (fun j hj => by rw [get2,if_neg (by omega)]; exact lo j hj) hk1 hk2 (by rw [get2,if_neg hki]; exact hi k hk1) (fun j hj => by rw [get2,if_neg (by omega)]; exact hi j (by omega));refine ⟨fun h0 => absurd h0 m1,fun i2 hi2 => ?_⟩;obtain ⟨g1',g2',g3',oi2,hoi2⟩ := m2 i2 hi2;have hi2k : i2 = k := by
   rw [get2] at g3';split at g3'
   ·cases g3'
   ·omega
  subst hi2k;obtain ⟨imm2,hlow2⟩ := k1 i2 oi2 g1' g2' hoi2;have hnx := zBl (r := r) (m0 := m0) hlow2 hone hst1 (next := wpAnyIn (WR r) m0 P .any ops Q (ops.size - (h + 2)) ((l.setIfInBounds i true).setIfInBounds i2 true)) (Q := Q) fun e'' H'' a'' w'' hK'' hs'' => by
   refine tail _ a'' w'' (by simpa using hs1) (fun j hj => ?_) (hc2.set hi2) (hend _ _ _ _ hK'' hs'');rw [<- zV (by simpa using (by omega : j < l.size)),zAc];by_cases hj2 : j = i2
   ·rw [if_pos ⟨hj2,by simp; omega⟩]; simp; omega
   ·rw [if_neg fun hh => hj2 hh.1,get2];by_cases hji : j = i
    ·rw [if_pos hji]; simp; omega
    ·rw [if_neg hji];rcases zZY j h with hjh | hjh
     ·rw [lo j hjh]; simp; omega
     ·rw [hi j hjh]; simp; omega
  unfold wpOpIn;rw [hoi2];simp only;exact hnx
 have hnx : ∀ (K1 : Env->zB->Prop),zAD P [zAS P n hs reg ops i] e H K1->(∀ e1 H1 a1 w1,K1 e1 H1->St B X w0 ρ0 n0 n e1 H1 a1 w1->wpAnyIn (WR r) m0 P .any ops Q (ops.size - (h + 2) + 1) (l.setIfInBounds i true) a1 w1) ->
   wpOpIn (WR r) m0 P ops Q i (wpAnyIn (WR r) m0 P .any ops Q (ops.size - (h + 2) + 1) (l.setIfInBounds i true)) a w := by
  intro K1 hone hnext;have hnx := zBl (r := r) (m0 := m0) hlow hone hst (next := wpAnyIn (WR r) m0 P .any ops Q (ops.size - (h + 2) + 1) (l.setIfInBounds i true)) (Q := Q) fun e'' H'' a'' w'' hK'' hs'' => hnext _ _ _ _ hK'' hs'';unfold wpOpIn;rw [hoi];simp only;exact hnx
 by_cases hih : i = h
 ·subst hih;refine hnx (fun e1 H1 => e1 = up e d0 (.ptr H.length 0 0)/\H1 = H ++ [.box z0]) (by rw [t0,zB2]; exact ⟨q0,rfl,rfl⟩) ?_;rintro e1 H1 a1 w1 ⟨rfl,rfl⟩ hs';refine step2 (i + 1) (by omega) (by omega) (by omega) _ _ a1 w1 (fun e1 H1 => e1 = up (up e d0 (.ptr H.length 0 0)) d1 (.ptr (H.length + 1) 0 0)/\H1 = H ++ [.box z0] ++ [.box z1]) (by rw [t1,zB2,hsz]; exact ⟨q1,rfl,rfl⟩) hs' ?_;rintro e2 H2 a2 w2 ⟨rfl,rfl⟩ hs2;exact hs2
 ·obtain rfl : i = h + 1 := by omega
  refine hnx (fun e1 H1 => e1 = up e d1 (.ptr H.length 0 0)/\H1 = H ++ [.box z1]) (by rw [t1,zB2]; exact ⟨q1,rfl,rfl⟩) ?_;rintro e1 H1 a1 w1 ⟨rfl,rfl⟩ hs';refine step2 h (by omega) (by omega) (by omega) _ _ a1 w1 (fun e1 H1 => e1 = up (up e d1 (.ptr H.length 0 0)) d0 (.ptr (H.length + 1) 0 0)/\H1 = H ++ [.box z1] ++ [.box z0]) (by rw [t0,zB2]; exact ⟨q0,by simp,rfl⟩) hs' ?_;rintro e2 H2 a2 w2 ⟨rfl,rfl⟩ hs2;exact St.swap hd v0 v1 hst hs2
theorem zN2 {r : Option Nat} {m0 : Nat} {K : Env->zB->Prop} {Q : Exit->Act->World->Prop} {los : List LO} (hD : zCT P n hs reg (ops.extract 0 h) T = true) (hE1 : zAx (ops.extract 0 h) = true) (hE : zAx ops = true) (hk : zEm ops h = true) (hl : zIm P n hs reg ops h = true)
  (hp : (zAn hs reg h).isEmpty = true) (hlo : zBK P n hs reg ops (h + 2) (ops.toList.drop (h + 2)) = some los)
  (hK : zAR P (hdA P n hs reg (ops.extract 0 h) T) e H fun e1 => zDb P (hdA P n hs reg (ops.extract 0 h) T) e1 (tlA P n hs reg (ops.extract 0 h) T 0) e1 H fun e' H' => zAD P (zAS P n hs reg ops h :: zAS P n hs reg ops (h + 1) :: los) e' H' K) (hst : St B X w0 ρ0 n0 n e H a w)
  (hQ : ∀ e' H' a' w',K e' H'->St B X w0 ρ0 n0 n e' H' a' w'->Q .normal a' w') : wpAnyIn (WR r) m0 P .any ops Q ops.size (Array.replicate ops.size false) a { w with drawn := w.drawn + 1 } := by
 have hle := (zEU hk).1;have hsz := zKD (ops := ops) hle;have hpn : zAn hs reg h = [] := zzap.1 hp;have hz : ∀ (m j : Nat),(Array.replicate m false).getD j false = false := fun m j => getD_replicate_false _ _;have hclz : ∀ m,Closed ops (Array.replicate m false) := fun m j oj _ hlj => by rw [hz] at hlj; cases hlj
 have h1 := zGe (r := r) (m0 := m0) (Q := zGk Q fun a w => ∀ l2 : Array Bool,l2.size = ops.size->(∀ k,k < h->l2.getD k false = true)->(∀ k,h <= k->l2.getD k false = false)->Closed ops l2->wpAnyIn (WR r) m0 P .any ops Q (ops.size - h) l2 a w)
  (K := fun e' H' => zAD P (zAS P n hs reg ops h :: zAS P n hs reg ops (h + 1) :: los) e' H' K) hD hE1 (by rw [hsz,hpn]; rfl) (by rw [hsz,hpn]; exact hK) hst
  (fun e' H' a' w' hk' hs' => ?_)
 ·have h2 := zH9 (P := P) hE hk h (Array.replicate h false) (Array.replicate ops.size false) a { w with drawn := w.drawn + 1 } (by simp) (by simp) (fun k _ => by rw [hz,hz]) (fun k _ => hz _ _) (hclz _) (by
   have := zBI (listed := Array.replicate h false) (h := 0) h fun j hj => by rw [<- zV (by simpa using hj),hz]; simp
   omega) (by rw [hsz] at h1; exact h1)
  rw [show h + (ops.size - h) = ops.size by omega] at h2;exact h2
 ·intro l2 q1 q2 q3 q4;exact zPn (B := B) (X := X) (w0 := w0) (ρ0 := ρ0) (n0 := n0) hE hl hlo hQ l2 q1 q2 q3 q4 hk' hs'
end
section
variable {B : DB} {P : Program} {w w0 : World} {X : Nat → Prop} {ρ ρ0 : Nat → Loc} {H H' ext : zB} {e e1 : Env} {a : Act} {n n0 : Nat}
variable {ops : Array Oper} {hd : List LO} {xs : Nat → AV} {T : List Nat} {hs : List Hn} {reg : Nat} {f : Nat → LO}
theorem zNK {i : Nat} (hi : i < ops.size) : (hdF f ops.size T).getD i default = if T.contains i then zFg else f i := by
 simp [hdF,zYI,hi]
theorem zJ0 {q i : Nat} (h : q <= i) (hn : ∀ j,q <= j->j < i->T.contains j = false) : tlF f ops T q = tlF f ops T i := by
 induction i with
 | zero => rw [show q = 0 by omega]
 | succ i ih =>
  by_cases hq : q = i + 1
  ·rw [hq]
  ·rw [ih (by omega) fun j a b => hn j a (by omega)];unfold tlF;by_cases hi : i < ops.size
   ·rw [show ops.size - i = (ops.size - (i + 1)) + 1 by omega,zzah,zZ2 (by rw [hn i (by omega) (by omega)]; simp)]
   ·rw [show ops.size - i = 0 by omega,show ops.size - (i + 1) = 0 by omega];simp
theorem zOU {i : Nat} (hi : i < ops.size) (hT : T.contains i = true) : tlF f ops T i = prF f ops T i :: tlF f ops T (i + 1) := by
 unfold tlF;rw [show ops.size - i = (ops.size - (i + 1)) + 1 by omega,zzah,zZC hT,zZA]
structure OkF (f : Nat->LO) (ops : Array Oper) (T : List Nat) (hd : List LO) : Prop where
 hh : ∀ i j,j < ops.size->i < j->T.contains i = false->T.contains j = false->((Region.before ops).getD j 0).testBit i = true\/zAt (hd.getD i default) (hd.getD j default) = false
 tt : ∀ i j,j < ops.size->i < j->T.contains i = true->T.contains j = true->((Region.before ops).getD j 0).testBit i = true
 ht : ∀ i j,j < ops.size->i < ops.size->T.contains i = false->T.contains j = true->((Region.before ops).getD j 0).testBit i = true\/zAt (hd.getD i default) (f j) = false
 sa : ∀ j,j < ops.size->T.contains j = false->zBg (hd.getD j default).op = true\/zSV hd j = true
theorem zLM (h : zEt f ops T = true) : OkF f ops T (hdF f ops.size T) := by
 unfold zEt at h;simp only [zYA] at h;obtain ⟨h2,h3⟩ := h;have g : ∀ i j,j < ops.size->i < j->_ := fun i j hj hi => zYR.1 (zYR.1 h2 j (zY9.2 hj)) i (zY9.2 hi);refine ⟨fun i j hj hi a b => ?_,fun i j hj hi a b => ?_,fun i j hj hi a b => ?_,fun j hj a => ?_⟩
 ·have := g i j hj hi;rw [a,b] at this
  simpa using this
 ·have := g i j hj hi;rw [a,b] at this
  simpa using this
 ·rcases zzaN i j with hij | hij | hij
  ·have := g i j hj hij;rw [a,b] at this
   simpa using this
  ·subst hij; rw [a] at b; cases b
  ·have := g j i hi hij;rw [a,b] at this;exact .inr (by simpa using this)
 ·have := zYR.1 h3 j (zY9.2 hj);rw [a] at this
  simpa using this
theorem zLW {S : Array Bool->Env->zB->Act->World->Prop} {f : Nat->LO} {r : Option Nat} {m0 : Nat} {K : Env->zB->Prop} {Q : Exit->Act->World->Prop} (hE : zAx ops = true) (hD : OkF f ops T hd) (hlen : hd.length = ops.size) (hhd : hd = hdF f ops.size T)
  (he1 : e1 = ED hd xs e (fun _ => true) ops.size)
  (hQ : ∀ (listed : Array Bool) e' H' a' w',(∀ j,j < ops.size->listed.getD j true = true)->listed.size = ops.size->K e' H'->S listed e' H' a' w'->Q .normal a' w')
  (hstepS : ∀ (i : Nat) (oi : Oper) (e' : Env) (H' : zB) (a : Act) (w : World) (listed : Array Bool) (K1 : Env->zB->Prop) (next : Act->World->Prop),ops[i]? = some oi->listed.size = ops.size->listed.getD i false = false->Closed ops listed ->
   (∀ e ∈ oi.after,Region.binds .any e = true->listed.getD e.on false = true)->S listed e' H' a w->zAD P [f i] e' H' K1->(∀ e2 H2 a2 w2,K1 e2 H2->S (listed.setIfInBounds i true) e2 H2 a2 w2->next a2 w2)->wpOpIn (WR r) m0 P ops Q i next a w) :
  ∀ (fuel q : Nat) (ws : List (Option Nat × AV)) (H : zB) (a : Act) (w : World) (listed : Array Bool),q <= ops.size->fuel = left listed ops.size->listed.size = ops.size ->
   (∀ j,j < ops.size->T.contains j = true->listed.getD j true = decide (j < q))->Closed ops listed->zDb P hd e1 (tlF f ops T q) (wr ws e1) H K ->
   (∀ i,i < ops.size->T.contains i = false->listed.getD i false = false->zDe P (hd.getD i default) (ED hd xs e (fun _ => true) i) H (xs i)) ->
   (∀ i,i < ops.size->T.contains i = false->listed.getD i false = false->∀ t x,(some t,x) ∈ ws->t ∉ (hd.getD i default).rd/\(hd.getD i default).d ≠ some t) ->
   S listed (wr ws (ED hd xs e (fun j => listed.getD j false) ops.size)) H a w->wpAnyIn (WR r) m0 P .any ops Q fuel listed a w := by
 have hcf1 : ∀ a b : LO,∀ t,a.d = some t->t ∈ b.rd->zAt a b = true := by
  intro a b t h1 h2;cases hb : zAt a b with
  | true => rfl
  | false => exact absurd h2 ((zBh hb).1 t h1)
 have hcf2 : ∀ a b : LO,∀ t,b.d = some t->t ∈ a.rd->zAt a b = true := by
  intro a b t h1 h2;cases hb : zAt a b with
  | true => rfl
  | false => exact absurd h2 ((zBh hb).2.1 t h1)
 have hcf3 : ∀ a b : LO,∀ t,a.d = some t->b.d = some t->zAt a b = true := by
  intro a b t h1 h2;cases hb : zAt a b with
  | true => rfl
  | false => exact absurd h2 ((zBh hb).2.2 t h1)
 have hnoop : ∀ j,j < ops.size->T.contains j = true->hd.getD j default = zFg := by
  intro j hj hT;rw [hhd,zNK hj,if_pos hT]
 intro fuel;induction fuel with
 | zero =>
  intro q ws H a w listed hq hf hsz ht hc hK hx hw hst;have hall : ∀ j,j < ops.size->listed.getD j true = true := by
   intro j hj;cases hb : listed.getD j true with
   | true => rfl
   | false => have := zDo hb ops.size hj; omega
  have hE' : ED hd xs e (fun j => listed.getD j false) ops.size = e1 := by
   rw [he1]
   funext t
   exact zAv ops.size fun j hj _ => by rw [zV (by omega),hall j (by omega)]
  rw [hE'] at hst;have hnil : tlF f ops T q = [] := by
   rw [zJ0 hq fun j a b => ?_]
   ·unfold tlF;rw [zzaF]; rfl
   ·cases hT : T.contains j with
    | false => rfl
    | true =>
     have := ht j b hT;rw [hall j b] at this;simp at this;omega
  rw [hnil] at hK;refine ⟨zZk.2 fun i hi => ?_,hQ listed _ _ _ _ hall hsz hK hst⟩;obtain ⟨h1,o,h2,_⟩ := mem_ready.1 hi;rw [hall i (zYJ.1 h2).1] at h1;cases h1
 | succ fuel ih =>
  intro q ws H a w listed hq hf hsz ht hc hK hx hw hst;have hun : ∃ i,i < ops.size/\listed.getD i true = false := by
   refine zYX fun hno => ?_;have := zBI (listed := listed) (h := ops.size) ops.size fun j hj => by
    cases hb : listed.getD j true with
    | true => simp [hj]
    | false => exact absurd ⟨j,hj,hb⟩ hno
   omega
  obtain ⟨i0,hi0,hi0u,hi0l⟩ := zCL hun;have hr0 : i0 ∈ Region.ready .any ops listed := zCp hE (by omega) hi0u fun j hj => by rw [zV (by omega)]; exact hi0l j hj
  refine ⟨fun h0 => by rw [h0] at hr0; simp at hr0,fun i hi => ?_⟩;obtain ⟨hiu,oi,hoi,hiall⟩ := mem_ready.1 hi;have his : i < ops.size := (zYJ.1 hoi).1;have hidf : listed.getD i false = false := by rw [zV (by omega)]; exact hiu
  have hcount : fuel = left (listed.setIfInBounds i true) ops.size := by
   have := zDn hiu ops.size;rw [if_pos his] at this;omega
  by_cases hih : T.contains i = false
  ·
   have hgi : hd.getD i default = f i := by rw [hhd,zNK his,if_neg (by rw [hih]; simp)]
   have hbef : ∀ j,j < i->zAt (hd.getD j default) (hd.getD i default) = true->listed.getD j false = true := by
    intro j hj hcf;cases hT : T.contains j with
    | true => rw [hnoop j (by omega) hT,zCt.1] at hcf; cases hcf
    | false =>
     rcases hD.hh j i his hj hT hih with g6 | g6
     ·exact zP hc i oi j hoi g6 hiall
     ·rw [g6] at hcf; cases hcf
   have hbeh : ∀ j,i < j->j < ops.size->zAt (hd.getD i default) (hd.getD j default) = true->listed.getD j false = false := by
    intro j hj hjh hcf;cases hT : T.contains j with
    | true => rw [hnoop j hjh hT,zCt.2] at hcf; cases hcf
    | false =>
     rcases hD.hh i j hjh hj hih hT with g6 | g6
     ·cases hb : listed.getD j false with
      | false => rfl
      | true =>
       obtain ⟨oj,hoj⟩ : ∃ oj,ops[j]? = some oj := ⟨ops[j]'(by omega),by simp [show j < ops.size by omega]⟩;have := zP hc j oj i hoj g6 (hc j oj hoj hb);rw [hidf] at this;cases this
     ·rw [g6] at hcf; cases hcf
   have hwi := hw i his hih hidf;have hA : ∀ t ∈ (hd.getD i default).rd,ED hd xs e (fun _ => true) i t = wr ws (ED hd xs e (fun j => listed.getD j false) ops.size) t := by
    intro t htr;rw [zKU ws _ fun x hx => (hwi t x hx).1 htr,zBa (i := i) ops.size (by omega) fun j h1 h2 h3 => by
     by_cases hji : j = i
     ·rw [hji]; exact hidf
     ·exact hbeh j (by omega) h2 (hcf2 _ _ t h3 htr)]
    exact zAv i fun j h1 h2 => (hbef j h1 (hcf1 _ _ t h2 htr)).symm
   have hB0 : ups (ED hd xs e (fun j => listed.getD j false) ops.size) (hd.getD i default).d (xs i) = ED hd xs e (fun j => (listed.setIfInBounds i true).getD j false) ops.size := by
    funext t
    by_cases hdt : (hd.getD i default).d = some t
    ·rw [zBa (i := i + 1) ops.size (by omega) fun j h1 h2 h3 => by
      rw [zAc,if_neg (by omega)];exact hbeh j (by omega) h2 (hcf3 _ _ t hdt h3)]
     rw [hdt,zBc];have hset : (listed.setIfInBounds i true).getD i false = true := by rw [zAc,if_pos ⟨rfl,by omega⟩]
     simp only [ED];rw [if_pos hset,hdt,zBc]
    ·rw [zBJ hdt];exact zAv ops.size fun j h1 h2 => by
      rw [zAc,if_neg];rintro ⟨rfl,_⟩;exact hdt h2
   have hB : ups (wr ws (ED hd xs e (fun j => listed.getD j false) ops.size)) (hd.getD i default).d (xs i) = wr ws (ED hd xs e (fun j => (listed.setIfInBounds i true).getD j false) ops.size) := by
    rw [zHX ws _ fun t ht x hx => (hwi t x hx).2 ht,hB0]
   have hstep := zBk hA (hx i his hih hidf);have hone : zAD P [hd.getD i default] (wr ws (ED hd xs e (fun j => listed.getD j false) ops.size)) H fun e' H' => e' = wr ws (ED hd xs e (fun j => (listed.setIfInBounds i true).getD j false) ops.size)/\H' = H := by
    refine zCm ?_;rcases hstep with ⟨g1,g2⟩ | ⟨g1,g2⟩
    ·refine .inl ⟨g1,?_⟩;have := zCy g2;simp only [zAD];refine zBF this ?_;rintro y H' ⟨rfl,rfl⟩;exact ⟨hB,rfl⟩
    ·refine .inr ⟨g1,?_⟩;rw [<- g2];exact ⟨hB,rfl⟩
   rw [hgi] at hone;refine hstepS i oi _ _ a w listed _ _ hoi hsz hidf hc hiall hst hone fun e'' H'' a'' w'' hK'' hs'' => ?_
   ·obtain ⟨rfl,rfl⟩ := hK'';have hsub : ∀ j,(listed.setIfInBounds i true).getD j false = false->listed.getD j false = false := fun j hl => by
     rw [zAc] at hl;split at hl
     ·cases hl
     ·exact hl
    refine ih q ws _ a'' w'' _ hq hcount (by simpa using hsz) (fun j h1 h2 => ?_) (hc.set hi) hK (fun j hj hT hl => hx j hj hT (hsub j hl)) (fun j hj hT hl => hw j hj hT (hsub j hl)) hs'';rw [zAc,if_neg]
    ·exact ht j h1 h2
    ·rintro ⟨rfl,_⟩;rw [hih] at h2; cases h2
  ·
   have hiT : T.contains i = true := by simpa using hih
   have hqi : q <= i := by
    have g1 := ht i his hiT;rw [hiu] at g1
    simpa using g1.symm
   have hno : ∀ j,q <= j->j < i->T.contains j = false := by
    intro j h1 h2;cases hT : T.contains j with
    | false => rfl
    | true =>
     have g1 := zP hc i oi j hoi (hD.tt j i his h2 hT hiT) hiall;rw [zV (by omega),ht j (by omega) hT] at g1;simp at g1;omega
   rw [zJ0 hqi hno,zOU his hiT] at hK;generalize hlo : f i = lo;have hpr : prF f ops T i = (lo,zCc hd T ((Region.before ops).getD i 0)) := by unfold prF; rw [hlo,hhd]
   rw [hpr] at hK;have hK : zAD P [lo] (wr ws e1) H fun e' H' => zC3 P hd e1 H' (zCc hd T ((Region.before ops).getD i 0))/\zDb P hd e1 (tlF f ops T (i + 1)) e' H' K := hK;have hfr : ∀ j,j < ops.size->T.contains j = false->listed.getD j false = false->((Region.before ops).getD i 0).testBit j = false/\zAt (hd.getD j default) lo = false := by
    intro j hj hT hl;have hnb : ((Region.before ops).getD i 0).testBit j = false := by
     cases hb : ((Region.before ops).getD i 0).testBit j with
     | false => rfl
     | true =>
      have := zP hc i oi j hoi hb hiall;rw [hl] at this;cases this
    refine ⟨hnb,?_⟩;rcases hD.ht j i his hj hT hiT with g | g
    ·rw [hnb] at g; cases g
    ·rw [<- hlo]; exact g
   have hR : ∀ t ∈ lo.rd,wr ws e1 t = wr ws (ED hd xs e (fun j => listed.getD j false) ops.size) t := by
    intro t htr;have : ∀ (l : List (Option Nat × AV)) (e1 e2 : Env),e1 t = e2 t->wr l e1 t = wr l e2 t := by
     intro l;induction l with
     | nil => intro e1 e2 h; exact h
     | cons p l ihl =>
      intro e1 e2 h;obtain ⟨d,x⟩ := p;refine ihl _ _ ?_;by_cases hdt : d = some t
      ·rw [hdt,zBc,zBc]
      ·rw [zBJ hdt,zBJ hdt]; exact h
    refine this ws _ _ ?_;rw [he1];refine zAv ops.size fun j hj hdj => ?_;cases hb : listed.getD j false with
    | true => rfl
    | false =>
     cases hT : T.contains j with
     | true =>
      rw [hnoop j hj hT] at hdj;cases hdj
     | false =>
      have := (zBh (hfr j hj hT hb).2).1 t hdj;exact absurd htr this
   have hwant : zBi lo.g (wr ws e1) = zBi lo.g (wr ws (ED hd xs e (fun j => listed.getD j false) ops.size)) := zBV fun t want hg => hR t (by simp [LO.rd,hg]);have hone : zAD P [lo] (wr ws (ED hd xs e (fun j => listed.getD j false) ops.size)) H fun e' H2 => ∃ x,e' = ups (wr ws (ED hd xs e (fun j => listed.getD j false) ops.size)) lo.d x/\zC3 P hd e1 H2 (zCc hd T ((Region.before ops).getD i 0))/\zDb P hd e1 (tlF f ops T (i + 1)) (ups (wr ws e1) lo.d x) H2 K := by
    refine zCm ?_;rcases zCg hK with ⟨g1,g2⟩ | ⟨g1,g2⟩
    ·refine .inl ⟨by rw [<- hwant]; exact g1,?_⟩;have g3 := zDX (fun t ht => hR t (by simp [LO.rd,ht])) g2;refine zBF g3 fun x H2 hx2 => ?_;simp only [zAD] at hx2 ⊢;exact ⟨x,rfl,hx2.1,hx2.2⟩
    ·refine .inr ⟨by rw [<- hwant]; exact g1,?_⟩;simp only [zAD] at g2 ⊢;exact ⟨zAu,rfl,g2.1,g2.2⟩
   refine hstepS i oi _ _ a w listed _ _ hoi hsz hidf hc hiall hst (by rw [hlo]; exact hone) fun e'' H'' a'' w'' hK'' hs'' => ?_
   ·obtain ⟨x,rfl,hkp,hK2⟩ := hK'';have hsame : ∀ j,j ≠ i->(listed.setIfInBounds i true).getD j false = listed.getD j false := fun j hj => by rw [zAc,if_neg (by omega)]
    have hED : ED hd xs e (fun j => (listed.setIfInBounds i true).getD j false) ops.size = ED hd xs e (fun j => listed.getD j false) ops.size := by
     funext t
     refine zAv ops.size fun j hj hdj => hsame j ?_;rintro rfl;rw [hnoop j hj hiT] at hdj;cases hdj
    have hne : ∀ j,T.contains j = false->j ≠ i := by
     rintro j hT rfl;rw [hiT] at hT; cases hT
    refine ih (i + 1) (ws ++ [(lo.d,x)]) H'' a'' w'' _ (by omega) hcount (by simpa using hsz) (fun j hj1 hj2 => ?_) (hc.set hi) (by rw [zDd]; exact hK2) (fun j hj hT hl => ?_) (fun j hj hT hl t y hy => ?_) (by rw [zDd,hED]; exact hs'')
    ·rw [zAc];by_cases hji : j = i
     ·rw [if_pos ⟨hji,by omega⟩]; simp; omega
     ·rw [if_neg fun hh => hji hh.1,ht j hj1 hj2];by_cases hjq : j < q
      ·simp [hjq]; omega
      ·simp [hjq];have : ¬ j < i := fun hlt => by rw [hno j (by omega) hlt] at hj2; cases hj2
       omega
    ·rw [hsame j (hne j hT)] at hl;have hold := hx j hj hT hl;rcases hD.sa j hj hT with g | g
     ·exact zCE g hold
     ·by_cases hhl : zBg (hd.getD j default).op = true
      ·exact zCE hhl hold
      ·have hmem : j ∈ zCc hd T ((Region.before ops).getD i 0) := by
        unfold zCc;simp only [zZ4,zY9,zYA,zZi];exact ⟨by omega,⟨hT,by simpa using hhl⟩,(hfr j hj hT hl).1⟩
       obtain ⟨y,hy1,hy2⟩ := zDa (hkp j hmem);obtain ⟨s1,t,s2,s3⟩ := zMj (xs := xs) (e := e) g (by omega);rw [hlen,<- he1] at s1 s3;have hy2 : ups e1 (hd.getD j default).d y = e1 := hy2;have hyx : y = xs j := by
        have := congrFun hy2 t;rw [s2,zBc] at this;rw [this,s3]
       rw [hyx] at hy1;exact zBk s1 hy1
    ·rw [hsame j (hne j hT)] at hl;rcases zY2.1 hy with hy | hy
     ·exact hw j hj hT hl t y hy
     ·simp only [zZI,zYS] at hy;have hcf := zBh (hfr j hj hT hl).2;exact ⟨hcf.2.1 t hy.1.symm,fun hdj => hcf.2.2 t hdj hy.1.symm⟩
theorem zGd {S : Array Bool->Env->zB->Act->World->Prop} {r : Option Nat} {m0 : Nat} {K : Env->zB->Prop} {Q : Exit->Act->World->Prop} (hD : zEt f ops T = true) (hE : zAx ops = true)
  (hK : zAR P (hdF f ops.size T) e H fun e1 => zDb P (hdF f ops.size T) e1 (tlF f ops T 0) e1 H K) (hst : S (Array.replicate ops.size false) e H a { w with drawn := w.drawn + 1 })
  (hQ : ∀ (listed : Array Bool) e' H' a' w',(∀ j,j < ops.size->listed.getD j true = true)->listed.size = ops.size->K e' H'->S listed e' H' a' w'->Q .normal a' w')
  (hstepS : ∀ (i : Nat) (oi : Oper) (e' : Env) (H' : zB) (a : Act) (w : World) (listed : Array Bool) (K1 : Env->zB->Prop) (next : Act->World->Prop),ops[i]? = some oi->listed.size = ops.size->listed.getD i false = false->Closed ops listed ->
   (∀ e ∈ oi.after,Region.binds .any e = true->listed.getD e.on false = true)->S listed e' H' a w->zAD P [f i] e' H' K1->(∀ e2 H2 a2 w2,K1 e2 H2->S (listed.setIfInBounds i true) e2 H2 a2 w2->next a2 w2)->wpOpIn (WR r) m0 P ops Q i next a w) : wpAnyIn (WR r) m0 P .any ops Q ops.size (Array.replicate ops.size false) a { w with drawn := w.drawn + 1 } := by
 have hlen : (hdF f ops.size T).length = ops.size := by simp [hdF]
 obtain ⟨xs,g3,g4⟩ := zB4 _ hK;rw [hlen] at g3 g4;have h0 : ∀ j,(Array.replicate ops.size false).getD j false = false := fun j => getD_replicate_false _ _;have h1 : ∀ j,j < ops.size->(Array.replicate ops.size false).getD j true = false := fun j hj => by rw [<- zV (by simpa using hj)]; exact h0 j
 refine zLW hE (zLM hD) hlen rfl rfl (K := K) hQ hstepS ops.size 0 [] H a _ _ (zYO _) ?_ (by simp) (fun j hj _ => by rw [h1 j hj]; simp) (fun j oj hj hl => ?_) g3 (fun i hi _ _ => g4 i hi) (fun i _ _ _ t x hx => by simp at hx) ?_
 ·have := zBI (listed := Array.replicate ops.size false) (h := 0) ops.size fun j hj => by rw [h1 j hj]; simp
  omega
 ·rw [h0 j] at hl;cases hl
 ·have : ED (hdF f ops.size T) xs e (fun j => (Array.replicate ops.size false).getD j false) ops.size = e := by
   funext t
   rw [zBa (i := 0) ops.size (zYO _) fun j _ _ _ => h0 j];rfl
  show S _ (ED _ xs e (fun j => (Array.replicate ops.size false).getD j false) ops.size) H a _;rw [this];exact hst
end
section
variable {B : DB} {P : Program} {w w0 : World} {X : Nat → Prop} {ρ ρ0 : Nat → Loc} {H H' ext : zB} {e e1 : Env} {a : Act} {n n0 : Nat}
variable {ops : Array Oper} {T : List Nat} {hs : List Hn} {reg : Nat}
theorem St.off {e' : Env} (h : St B X w0 ρ0 n0 n e H a w) (he : ∀ t,t < n->e' t = e t) : St B X w0 ρ0 n0 n e' H a w := by
 obtain ⟨h1,ρ,h2,h3,h4,h5⟩ := h;exact ⟨h1,ρ,h2,fun t ht => by rw [he t ht]; exact h3 t ht,h4,h5⟩
def zGM (x : AV) : Prop := ∀ r ver off,x ≠ .ptr r ver off
theorem zGE {sz : Nat} {x i : AV} (h : (rIaddr sz x i H).ok) : zGM (rIaddr sz x i H).x/\(rIaddr sz x i H).H = H := by
 unfold rIaddr at h ⊢;split <;> simp_all [zGM,Res.no]
theorem zEK {r r2 : Nat} {o : HO} (h : r ≠ r2) : (H.set r2 o)[r]? = H[r]? := zYL (fun e => h e.symm)
theorem zLg {sz : Nat} {x i : AV} {r2 : Nat} {cs cs' : List AV} (hb : H[r2]? = some (.box cs)) (h : (rIaddr sz x i H).ok) : (rIaddr sz x i (H.set r2 (.box cs'))).ok/\(rIaddr sz x i (H.set r2 (.box cs'))).x = (rIaddr sz x i H).x/\(rIaddr sz x i (H.set r2 (.box cs'))).H = H.set r2 (.box cs') := by
 unfold rIaddr at h ⊢;split at h
 ·exact ⟨h,rfl,rfl⟩
 ·rename_i r ver off len k m;obtain ⟨h1,h2,h3,h4⟩ := h;have hr : r ≠ r2 := by
   rintro rfl;simp only [szOk,hb] at h3
  simp only [szOk] at h3;refine ⟨⟨h1,h2,?_,?_⟩,rfl,rfl⟩
  ·simp only [szOk,zEK hr]; exact h3
  ·rw [zEK hr]; exact h4
 ·exact h.elim
def zTk (x : AV) : Prop := (cellsOf x).length = 1/\c1s (cellsOf x) = true
theorem zJl {sz bytes : Nat} {s x : AV} (h : (rAppend sz bytes s x H).ok) : zTk (rAppend sz bytes s x H).x := by
 unfold rAppend at h ⊢;split at h
 ·rename_i r ver len;simp only [Res.also] at h ⊢;unfold rAppendO at h ⊢;split at h
  ·split at h
   ·exact ⟨rfl,rfl⟩
   ·exact h.2.elim
  ·exact h.2.elim
 ·simp only [Res.also] at h ⊢;unfold rAppendN at h ⊢;split at h
  ·exact ⟨rfl,rfl⟩
  ·exact h.2.elim
 ·simp only [Res.also] at h ⊢;unfold rAppendC at h ⊢;split at h <;> first | exact ⟨rfl,rfl⟩ | exact h.2.elim | skip
  unfold rAppendN at h ⊢;split at h <;> first | exact ⟨rfl,rfl⟩ | exact h.2.elim
 ·exact h.elim
theorem zP5 {lo : LO} {K C : Env->zB->Prop} (h : zAD P [lo] e H K) (hC : ∀ x H2,C (ups e lo.d x) H2) : zAD P [lo] e H fun e2 H2 => K e2 H2/\C e2 H2 := by
 refine zCm ?_;rcases zCg h with ⟨g1,g2⟩ | ⟨g1,g2⟩
 ·exact .inl ⟨g1,zBF g2 fun x H2 hh => ⟨hh,hC x H2⟩⟩
 ·exact .inr ⟨g1,g2,hC _ _⟩
theorem zLR {ia ib k : Nat} (hk : zHN P n hs reg ops ia ib k = true) : (k + 1 = ops.size/\ia < ib/\ib < k)/\(∀ j o,ops[j]? = some o->∃ imm,zAP P n imm ops o = some (zAS P n hs reg ops j)) /\
  (∃ d1 s xb xi n1 x1 tp tv j0 s0 by0 x0 y0,zAS P n hs reg ops ia = ⟨some d1,none,.iaddr s xb xi⟩/\zAS P n hs reg ops ib = ⟨none,none,.store n1 (.t d1) x1⟩/\zAS P n hs reg ops k = ⟨none,none,.store 1 (.t tp) (.t tv)⟩/\zAS P n hs reg ops j0 = ⟨some tv,none,.append s0 by0 x0 y0⟩/\j0 < k/\d1 ≠ tp/\d1 ≠ tv/\tp < n/\tv < n /\
   ∀ i,i < ops.size->(i ≠ ia->(zAS P n hs reg ops i).d ≠ some d1)/\(i ≠ j0->(zAS P n hs reg ops i).d ≠ some tv)) /\
  (∀ i,i < k->i ≠ ia->i ≠ ib->((Region.before ops).getD k 0).testBit i = true)/\((Region.before ops).getD ib 0).testBit ia = true := by
 unfold zHN at hk;simp only [zYA,zYR,zY9,zZq,zYy] at hk;obtain ⟨⟨⟨⟨⟨⟨h1,h2⟩,h3⟩,h4⟩,h5⟩,h6⟩,h7⟩ := hk;refine ⟨h1,fun j o ho => ?_,?_,fun i hi ha hb => ?_,h5⟩
 ·refine ⟨zBn hs reg j,?_⟩;have g1 := h2 j (zYJ.1 ho).1;rw [ho] at g1;unfold zAS;rw [ho];simp only [zYZ,zZ7,zYq] at g1 ⊢;cases hl : zAP P n (zBn hs reg j) ops o with
  | none => rw [hl] at g1; simp at g1
  | some lo => rfl
 ·generalize zOa P n hs reg ops k = j0 at h3 h6 h7;unfold zOb at h3;split at h3
  ·rename_i d1 s xb xi n1 d2 x1 tp tv d3 s0 by0 x0 y0 e1 e2 e3 e4;simp only [zYA,zZi,beq_eq_false_iff_ne,ne_eq,zZ7,zYy] at h3;obtain ⟨⟨⟨⟨⟨rfl,g2⟩,g3⟩,g4⟩,g5⟩,rfl⟩ := h3;refine ⟨_,_,_,_,_,_,_,_,j0,_,_,_,_,e1,e2,e3,e4,h7,g2,g3,g4,g5,fun i hi => ⟨fun hia hd => ?_,fun hij hd => ?_⟩⟩
   ·rcases (h6 i hi).1 with g | g
    ·exact hia g
    ·rw [hd,e1] at g;simp at g
   ·rcases (h6 i hi).2 with g | g
    ·exact hij g
    ·rw [hd,e4] at g;simp at g
  ·cases h3
 ·rcases h4 i hi with g | g
  ·omega
  ·exact g
theorem zLL {ia ib k : Nat} {r : Option Nat} {m0 : Nat} {K : Env->zB->Prop} {Q : Exit->Act->World->Prop} (hD : zEt (chF P n hs reg ops k) ops T = true) (hE : zAx ops = true) (hc : zHN P n hs reg ops ia ib k = true)
  (hK : zAR P (hdF (chF P n hs reg ops k) ops.size T) e H fun e1 => zDb P (hdF (chF P n hs reg ops k) ops.size T) e1 (tlF (chF P n hs reg ops k) ops T 0) e1 H fun e' H' => zAD P [zAS P n hs reg ops k] e' H' K) (hst : St B X w0 ρ0 n0 n e H a w)
  (hQ : ∀ e' H' a' w',K e' H'->St B X w0 ρ0 n0 n e' H' a' w'->Q .normal a' w') : wpAnyIn (WR r) m0 P .any ops Q ops.size (Array.replicate ops.size false) a { w with drawn := w.drawn + 1 } := by
 obtain ⟨⟨k1,k2,k3⟩,kl,⟨d1,s,xb,xi,n1,x1,tp,tv,j0,s0,by0,x0,y0,ta,tb,tk,tj,qj,q1,q2,q3,q4,q5⟩,kb,kab⟩ := zLR hc;have fk : chF P n hs reg ops k k = ⟨some n,none,.stchk 1 (.t tp) (.c (.v (.bool false)))⟩ := by simp [chF,tk]
 have fo : ∀ i,i ≠ k->chF P n hs reg ops k i = zAS P n hs reg ops i := fun i hi => by simp [chF,hi]
 rw [tk] at hK;refine zGd (S := fun l e H a w => ((l.getD ia false = true->zGM (e d1))/\(l.getD j0 false = true->zTk (e tv)))/\(l.getD k false = false->St B X w0 ρ0 n0 n e H a w)/\(l.getD k false = true->∃ r2 off cs,e tp = .ptr r2 0 off/\H[r2]? = some (.box cs)/\off + 1 <= cs.length/\(cellsOf (e tv)).length = 1/\c1s (cellsOf (e tv)) = true /\
   St B X w0 ρ0 n0 n e (H.set r2 (.box (splice cs off (cellsOf (e tv))))) a w)) hD hE hK ?_ ?_ ?_
 ·refine ⟨⟨fun h => (by rw [getD_replicate_false] at h; cases h),fun h => (by rw [getD_replicate_false] at h; cases h)⟩,fun _ => hst.still ⟨rfl,rfl,rfl,zYH _⟩ rfl,fun h => (by rw [getD_replicate_false] at h; cases h)⟩
 ·intro l e' H' a' w' hall hsz hk ⟨_,_,h3⟩;obtain ⟨r2,off,cs,g1,g2,g3,g4,g5,g6⟩ := h3 (by rw [zV (by omega)]; exact hall k (by omega));have hk : (rStore 1 (e' tp) (e' tv) H').ok/\K e' (rStore 1 (e' tp) (e' tv) H').H := hk;rw [g1] at hk;simp only [rStore,Res.also,g2,rStoreO] at hk;exact hQ _ _ _ _ hk.2 g6
 ·intro i oi e' H' a' w' l K1 next hoi hsz hun hcl hbef ⟨⟨hnp,hpj⟩,h0,h1⟩ hone hnext
  have his := (zYJ.1 hoi).1;obtain ⟨imm,hlow⟩ := kl i oi hoi;have gset : ∀ j,(l.setIfInBounds i true).getD j false = if j = i then true else l.getD j false := fun j => by
   rw [zAc];by_cases hji : j = i
   ·rw [if_pos ⟨hji,by omega⟩,if_pos hji]
   ·rw [if_neg fun hh => hji hh.1,if_neg hji]
  have run : ∀ {e3 : Env} {H3 : zB} {K3 : Env->zB->Prop},zAD P [zAS P n hs reg ops i] e3 H3 K3->St B X w0 ρ0 n0 n e3 H3 a' w'->(∀ e2 H2 a2 w2,K3 e2 H2->St B X w0 ρ0 n0 n e2 H2 a2 w2->next a2 w2)->wpOpIn (WR r) m0 P ops Q i next a' w' := fun hone3 hst3 hn3 => by
   have hnx := zBl (r := r) (m0 := m0) hlow hone3 hst3 (next := next) (Q := Q) fun e'' H'' a'' w'' hK'' hs'' => hn3 _ _ _ _ hK'' hs'';unfold wpOpIn;rw [hoi];simp only;exact hnx
  by_cases hik : i = k
  ·subst hik;rw [fk] at hone;have hone : (zFR 1 (e' tp) (.v (.bool false)) H').ok/\K1 (up e' n (zFR 1 (e' tp) (.v (.bool false)) H').x) (zFR 1 (e' tp) (.v (.bool false)) H').H := hone;have hj0 : l.getD j0 false = true := zP hcl i oi j0 hoi (kb j0 qj (fun h => by rw [h,ta] at tj; cases tj) (fun h => by rw [h,tb] at tj; cases tj)) hbef;obtain ⟨g4,g5⟩ := hpj hj0;cases htp : e' tp with
   | ptr r2 ver off =>
    rw [htp] at hone;simp only [zFR] at hone;obtain ⟨hok,hK1⟩ := hone;simp only [rStore,Res.also] at hok;obtain ⟨⟨hb,hv⟩,hok⟩ := hok;obtain ⟨cs,ho⟩ := zC4 hb;rw [ho] at hv hok;simp only [isVer] at hv;subst hv;simp only [rStoreO] at hok;obtain ⟨g3,_,_⟩ := hok;refine run (e3 := e') (H3 := H') (K3 := fun e2 H2 => e2 = e'/\H2 = H'.set r2 (.box (splice cs off (cellsOf (e' tv))))) ?_ (h0 hun) ?_
    ·rw [tk];show (rStore 1 (e' tp) (e' tv) H').ok/\e' = e'/\(rStore 1 (e' tp) (e' tv) H').H = _;rw [htp];simp only [rStore,Res.also,ho,rStoreO];exact ⟨⟨⟨trivial,rfl⟩,g3,g4,g5⟩,by simp⟩
    ·rintro e2 H2 a2 w2 ⟨rfl,rfl⟩ hs2;have hev : up e2 n .any tv = e2 tv := by simp only [up]; rw [if_neg (by omega)]
     refine hnext _ _ a2 w2 hK1 ⟨⟨fun hia => ?_,fun _ => by rw [hev]; exact ⟨g4,g5⟩⟩,fun hh => ?_,fun _ => ⟨r2,off,cs,?_,ho,g3,by rw [hev]; exact g4,by rw [hev]; exact g5,?_⟩⟩
     ·rw [gset,if_neg (by omega)] at hia;have := hnp hia;simp only [up];split
      ·intro r ver off hh; cases hh
      ·exact this
     ·rw [gset,if_pos rfl] at hh; cases hh
     ·simp only [up]; rw [if_neg (by omega)]; exact htp
     ·rw [hev];exact hs2.off fun t ht => by simp only [up]; rw [if_neg (by omega)]
   | _ => rw [htp] at hone; exact hone.1.elim
  ·rw [fo i hik] at hone;cases hlk : l.getD k false with
   | false =>
    have hkeep : ∀ x,i ≠ ia->ups e' (zAS P n hs reg ops i).d x d1 = e' d1 := fun x hia => zBJ ((q5 i his).1 hia);have hkeep2 : ∀ x,i ≠ j0->ups e' (zAS P n hs reg ops i).d x tv = e' tv := fun x hij => zBJ ((q5 i his).2 hij);have hij : ia ≠ j0 := fun h => by rw [<- h,ta] at tj; cases tj
    refine run (K3 := fun e2 H2 => K1 e2 H2/\((i = ia->zGM (e2 d1))/\(i ≠ ia->e2 d1 = e' d1)/\(i = j0->zTk (e2 tv))/\(i ≠ j0->e2 tv = e' tv))) ?_ (h0 hlk) ?_
    ·by_cases hia : i = ia
     ·subst hia;rw [ta] at hone ⊢;have hone : (rIaddr s (ev e' xb) (ev e' xi) H').ok/\K1 (up e' d1 (rIaddr s (ev e' xb) (ev e' xi) H').x) (rIaddr s (ev e' xb) (ev e' xi) H').H := hone;refine ⟨hone.1,hone.2,fun _ => ?_,fun hh => absurd rfl hh,fun hh => absurd hh hij,fun _ => ?_⟩
      ·show zGM (up e' d1 (rIaddr s (ev e' xb) (ev e' xi) H').x d1);simp only [up,if_true];exact (zGE hone.1).1
      ·show up e' d1 (rIaddr s (ev e' xb) (ev e' xi) H').x tv = e' tv;simp only [up];rw [if_neg (fun h => q2 h.symm)]
     ·by_cases hj : i = j0
      ·subst hj;rw [tj] at hone ⊢;have hone : (rAppend s0 by0 (ev e' x0) (ev e' y0) H').ok/\K1 (up e' tv (rAppend s0 by0 (ev e' x0) (ev e' y0) H').x) (rAppend s0 by0 (ev e' x0) (ev e' y0) H').H := hone;refine ⟨hone.1,hone.2,fun hh => absurd hh hia,fun _ => ?_,fun _ => ?_,fun hh => absurd rfl hh⟩
       ·show up e' tv (rAppend s0 by0 (ev e' x0) (ev e' y0) H').x d1 = e' d1;simp only [up];rw [if_neg q2]
       ·show zTk (up e' tv (rAppend s0 by0 (ev e' x0) (ev e' y0) H').x tv);simp only [up,if_true];exact zJl hone.1
      ·exact zP5 (C := fun e2 _ => (i = ia->zGM (e2 d1))/\(i ≠ ia->e2 d1 = e' d1)/\(i = j0->zTk (e2 tv))/\(i ≠ j0->e2 tv = e' tv)) hone fun x H2 => ⟨fun hh => absurd hh hia,fun _ => hkeep x hia,fun hh => absurd hh hj,fun _ => hkeep2 x hj⟩
    ·rintro e2 H2 a2 w2 ⟨hK1,hc1,hc2,hc3,hc4⟩ hs2;refine hnext _ _ a2 w2 hK1 ⟨⟨fun hia => ?_,fun hj => ?_⟩,fun _ => hs2,fun hh => ?_⟩
     ·by_cases hi : i = ia
      ·exact hc1 hi
      ·rw [gset,if_neg (fun hh => hi hh.symm)] at hia;rw [hc2 hi];exact hnp hia
     ·by_cases hi : i = j0
      ·exact hc3 hi
      ·rw [gset,if_neg (fun hh => hi hh.symm)] at hj;rw [hc4 hi];exact hpj hj
     ·rw [gset,if_neg (fun hh => hik hh.symm),hlk] at hh; cases hh
   | true =>
    obtain ⟨r2,off,cs,g1,g2,g3,g4,g5,g6⟩ := h1 hlk;have hiab : i = ia\/i = ib := by
     refine zYX fun hno => ?_;have hok : ∃ ok,ops[k]? = some ok := ⟨ops[k]'(by omega),by simp [show k < ops.size by omega]⟩;obtain ⟨ok,hok⟩ := hok;have := zP hcl k ok i hok (kb i (by omega) (fun h => hno (.inl h)) (fun h => hno (.inr h))) (hcl k ok hok hlk);rw [hun] at this;cases this
    rcases hiab with rfl | rfl
    ·rw [ta] at hone;have hone : (rIaddr s (ev e' xb) (ev e' xi) H').ok/\K1 (up e' d1 (rIaddr s (ev e' xb) (ev e' xi) H').x) (rIaddr s (ev e' xb) (ev e' xi) H').H := hone;obtain ⟨hn1,hn2⟩ := zGE hone.1;obtain ⟨p1,p2,p3⟩ := zLg (cs' := splice cs off (cellsOf (e' tv))) g2 hone.1;refine run (e3 := e') (H3 := H'.set r2 (.box (splice cs off (cellsOf (e' tv))))) (K3 := fun e2 H2 => e2 = up e' d1 (rIaddr s (ev e' xb) (ev e' xi) H').x/\H2 = H'.set r2 (.box (splice cs off (cellsOf (e' tv))))) ?_ g6 ?_
     ·rw [ta];exact ⟨p1,by rw [<- p2]; rfl,p3⟩
     ·rintro e2 H2 a2 w2 ⟨rfl,rfl⟩ hs2;have hK1 := hone.2;rw [hn2] at hK1;have hev : up e' d1 (rIaddr s (ev e' xb) (ev e' xi) H').x tv = e' tv := by simp only [up]; rw [if_neg (fun h => q2 h.symm)]
      have hj0 : zTk (e' tv) := ⟨g4,g5⟩;refine hnext _ _ a2 w2 hK1 ⟨⟨fun _ => ?_,fun _ => by rw [hev]; exact hj0⟩,fun hh => ?_,fun _ => ⟨r2,off,cs,?_,g2,g3,by rw [hev]; exact g4,by rw [hev]; exact g5,by rw [hev]; exact hs2⟩⟩
      ·simp only [up,if_true]; exact hn1
      ·rw [gset,if_neg (by omega),hlk] at hh; cases hh
      ·simp only [up]; rw [if_neg (fun h => q1 h.symm)]; exact g1
    ·rw [tb] at hone;have hone : (rStore n1 (e' d1) (ev e' x1) H').ok/\K1 e' (rStore n1 (e' d1) (ev e' x1) H').H := hone;have hia : l.getD ia false = true := zP hcl i oi ia hoi kab hbef;have hnp := hnp hia;cases hd : e' d1 with
     | pe r1 ver1 i1 off1 =>
      rw [hd] at hone;have hone0 := hone;simp only [rStore,Res.also] at hone;obtain ⟨⟨⟨ha,hv⟩,hok⟩,hK1⟩ := hone;obtain ⟨ver',sz',rows,ho⟩ := zBr ha;have hne : r1 ≠ r2 := by
       rintro rfl;rw [g2] at ho;cases ho
      have hHS : (H'.set r2 (.box (splice cs off (cellsOf (e' tv)))))[r1]? = some (.arr ver' sz' rows) := by rw [zEK hne]; exact ho
      rw [ho] at hv hok hK1;refine run (e3 := e') (H3 := H'.set r2 (.box (splice cs off (cellsOf (e' tv))))) (K3 := fun e2 H2 => e2 = e'/\H2 = (rStoreO n1 i1 off1 r1 (ev e' x1) (H'.set r2 (.box (splice cs off (cellsOf (e' tv))))) (some (.arr ver' sz' rows))).H) ?_ g6 ?_
      ·rw [tb];show (rStore n1 (e' d1) (ev e' x1) _).ok/\e' = e'/\(rStore n1 (e' d1) (ev e' x1) _).H = _;rw [hd];simp only [rStore,Res.also,hHS];exact ⟨⟨⟨trivial,hv⟩,hok⟩,by simp⟩
      ·rintro e2 H2 a2 w2 ⟨rfl,rfl⟩ hs2;refine hnext _ _ a2 w2 hK1 ⟨⟨fun _ => hnp,fun _ => ⟨g4,g5⟩⟩,fun hh => ?_,fun _ => ⟨r2,off,cs,g1,?_,g3,g4,g5,?_⟩⟩
       ·rw [gset,if_neg (by omega),hlk] at hh; cases hh
       ·simp only [rStoreO];rw [zEK (fun h => hne h.symm)];exact g2
       ·simp only [rStoreO] at hs2 ⊢;rw [List.set_comm _ _ hne];exact hs2
     | ptr r1 ver1 off1 => exact absurd hd (hnp _ _ _)
     | _ => rw [hd] at hone; exact hone.1.elim
end
end Go.Ax
