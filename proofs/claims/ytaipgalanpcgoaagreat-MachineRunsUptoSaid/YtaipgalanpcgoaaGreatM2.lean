/- Parts, merged by a program (wip/tools/merge2.py): Ax16 Ax17 Ax18 Ax19 Ax20 Ax20b Ax20c Ax20d Ax20e Ax20f Ax20g Ax21 Ax22 Ax24 Ax25 Ax27 Ax4b Ax4c. -/
import Derived.Test.YtaipgalanpcgoaaGreatM1
import Derived.Maps.RangeRun
import Derived.Deep.LoopGhost
import Derived.TacticsIn
import Derived.OrdersIn
import Derived.StillTail
import Derived.RangeFuncIn
import Derived.RangeFuncLeaves
import Derived.RangeFuncRecord
import Derived.Below
import Derived.ChangeSame
import Derived.Carry
import Derived.ChangeArms
import Derived.ProofKit
import Derived.HandedShaped
import Derived.Shelf.Vars
import Derived.Test.YtaipgalanpcgoaaGreatRows
import Derived.JoinedCond
namespace Go.Ax
open Go Go.RowKit
set_option linter.unusedSimpArgs false
section
variable {P : Program} {w : World} {X : Nat → Prop} {ρ : Nat → Loc} {H : zC} {e : Env} {a : Act} {n : Nat}
abbrev ER (w : World) (X : Nat → Prop) (ρ : Nat → Loc) (H : zC) (n : Nat) (e : Env) (a : Act) : Prop := zXo w (Mut X ρ H.length) ρ H.length n e a
def zLd (P : Program) (o : Oper) (a : Act) (w : World) (X : Nat → Prop) (ρ : Nat → Loc) (H : zC) (r : Res) : Prop :=
 r.ok → ∃ u w' ρ', ((execOp a.eval o).run P w = .ok (.value u) w' ∨ ((execOp a.eval o).run P w = .ok .skip w' ∧ u = undef)) ∧ HRel w' X ρ' r.H ∧ Rep w' (Mut X ρ' r.H.length) ρ' r.H.length r.x u ∧ Fut w ρ H.length w' ρ' r.H.length
theorem zAH {o : Oper} {s : Sem Value} {r : Res} (h : zA4 P s w X ρ H r) (he : execOp a.eval o = (do pure (.value (← s)))) : zLd P o a w X ρ H r := by
 intro hok
 obtain ⟨u, w', ρ', h1, h2, h3, h4⟩ := h hok
 exact ⟨u, w', ρ', .inl (by rw [he]; simp [h1]), h2, h3, h4⟩
theorem zL2 {o : Oper} {s : Sem Unit} {r : Res} (h : zNk P s w X ρ H r) (he : execOp a.eval o = (do s; pure .skip)) : zLd P o a w X ρ H r := by
 intro hok
 obtain ⟨hx, w', ρ', h1, h2, h3⟩ := h hok
 exact ⟨undef, w', ρ', .inr ⟨by rw [he]; simp [h1], rfl⟩, h2, by rw [hx]; exact .any _ _, h3⟩
theorem zFN {o : Oper} : zLd P o a w X ρ H (.no H) := fun h => h.elim
theorem zCg {M : Nat → Prop} {k : Nat} (he : zXo w M ρ k n e a) : ∀ (l : List Operand) (m : List LX), lxs n l = some m → m.length = l.length ∧ ∀ (i : Nat) (x : AV) (u : Value), (m.map (ev e))[i]? = some x → (l.map a.eval)[i]? = some u → Rep w M ρ k x u
 | [], m, h => by simp [lxs] at h; subst h; exact ⟨rfl, fun i x u hx => by simp at hx⟩
 | o :: l, m, h => by
  unfold lxs at h
  cases ho : lx n o with
  | none => simp [ho] at h
  | some y =>
   cases hm : lxs n l with
   | none => simp [ho, hm] at h
   | some m' =>
    simp [ho, hm] at h
    subst h
    obtain ⟨h1, h2⟩ := zCg he l m' hm
    refine ⟨by simp [h1], fun i x u hx hu => ?_⟩
    cases i with
    | zero => simp at hx hu; subst hx hu; exact zAm he ho
    | succ i => exact h2 i x u (by simpa using hx) (by simpa using hu)
theorem zFS (he : ER w X ρ H n e a) {place : Nat → Option (Nat × Nat)} : ∀ (l : List (Nat × Operand)) (m : List (Nat × Nat × LX)), zHi n place l = some m → zUZ w X ρ H place (l.map fun (i, x) => (i, a.eval x)) (m.map fun (o, k, x) => (o, k, ev e x))
 | [], m, h => by simp [zHi] at h; subst h; trivial
 | (i, o) :: l, m, h => by
  unfold zHi at h
  cases hp : place i with
  | none => simp [hp] at h
  | some pl =>
   obtain ⟨off, sz⟩ := pl
   cases ho : lx n o with
   | none => simp [hp, ho] at h
   | some y =>
    cases hm : zHi n place l with
    | none => simp [hp, ho, hm] at h
    | some m' =>
     simp [hp, ho, hm] at h
     subst h
     exact ⟨hp, zAm he ho, zFS he l m' hm⟩
theorem zH8 (he : ER w X ρ H n e a) : ∀ (l : List (Nat × Operand)) (m : List (Nat × LX)), zJf n l = some m → zVO w X ρ H (l.map fun (i, x) => (i, a.eval x)) (m.map fun (i, x) => (i, ev e x))
 | [], m, h => by simp [zJf] at h; subst h; trivial
 | (i, o) :: l, m, h => by
  unfold zJf at h
  cases ho : lx n o with
  | none => simp [ho] at h
  | some y =>
   cases hm : zJf n l with
   | none => simp [ho, hm] at h
   | some m' =>
    simp [ho, hm] at h
    subst h
    exact ⟨rfl, zAm he ho, zH8 he l m' hm⟩
theorem zKz {x : AV} {u : Value} {o : Oper} {ox : Operand} (ho : o.op = .nilCheck ox) (hu : a.eval ox = u) (h : HRel w X ρ H) (hx : Rp w X ρ H x u) : zLd P o a w X ρ H (rNil x H) := by
 have key : ∀ v : Value, (∃ p, v = .pointer (some p)) ∨ (∃ r, v = .map r) ∨ (∃ f fs us, v = .func (.func f) fs us) → u = v → (execOp a.eval o).run P w = .ok (.value v) w := by
  intro v hv huv
  unfold execOp
  rw [ho]
  simp only [hu, huv]
  rcases hv with ⟨p, rfl⟩ | ⟨r, rfl⟩ | ⟨f, fs, us, rfl⟩ <;> rfl
 cases x with
 | vp cs off =>
  intro _
  cases hx with
  | vp _ _ _ b o' c hm hb hcell hrep => exact ⟨_, w, ρ, .inl (key _ (.inl ⟨_, rfl⟩) rfl), h, .vp _ _ _ _ _ c hm hb hcell hrep, Fut.refl _ _ _⟩
 | mp ks vs =>
  intro _
  cases hx with
  | mp _ _ _ b es clock hm hb hh hks hvs hr => exact ⟨_, w, ρ, .inl (key _ (.inr (.inl ⟨_, rfl⟩)) rfl), h, .mp _ _ _ _ es clock hm hb hh hks hvs hr, Fut.refl _ _ _⟩
 | fn f fs us =>
  cases f <;> first | exact zFN | skip
  intro _
  have hx' := hx
  cases hx with
  | fn => exact ⟨_, w, ρ, .inl (key _ (.inr (.inr ⟨_, _, _, rfl⟩)) rfl), h, hx', Fut.refl _ _ _⟩
 | ptr r ver off =>
  intro hv
  have hx' := hx
  cases hx with
  | ptr _ _ _ _ _ hr hle hone hp =>
   have hver : ver = (ρ r).ver := by
    have hv : isVer ver H[r]? := hv
    cases ho' : H[r]? with
    | none => rw [ho'] at hv; exact hv.elim
    | some obj =>
     rw [ho'] at hv
     have hob := h.objs r _ ho'
     cases obj <;> simp only [isVer] at hv <;> first | exact hv.elim | skip
     ·rw [hob.1]; exact hv
     ·rw [hob.1]; exact hv
     ·rw [hob.1]; exact hv
   obtain ⟨b, o', _, rfl⟩ := hp hver
   exact ⟨_, w, ρ, .inl (key _ (.inl ⟨_, rfl⟩) rfl), h, hx', Fut.refl _ _ _⟩
 | pe r ver i off =>
  intro hv
  have hx' := hx
  cases hx with
  | pe _ _ _ _ _ _ hr hle hone hp =>
   have hver : ver = (ρ r).ver := by
    have hv : isVer ver H[r]? := hv
    cases ho' : H[r]? with
    | none => rw [ho'] at hv; exact hv.elim
    | some obj =>
     rw [ho'] at hv
     have hob := h.objs r _ ho'
     cases obj <;> simp only [isVer] at hv <;> first | exact hv.elim | skip
     ·rw [hob.1]; exact hv
     ·rw [hob.1]; exact hv
     ·rw [hob.1]; exact hv
   obtain ⟨b, o', _, rfl⟩ := hp hver
   exact ⟨_, w, ρ, .inl (key _ (.inl ⟨_, rfl⟩) rfl), h, hx', Fut.refl _ _ _⟩
 | _ => exact zFN
def zCK : LOp → Bool
 | .call _ _ => false
 | .callh _ _ => false
 | .pick _ _ _ => false
 | .isnil _ _ => false
 | .nextm _ => false
 | .frz _ => false
 | .own _ _ => false
 | .frzf _ _ _ => false
 | _ => true
theorem zAu {α β : Type} {x : Option α} {f : α → β} {y : β} (h : x.map f = some y) : ∃ a, x = some a ∧ f a = y := by
 cases x with
 | none => cases h
 | some a => exact ⟨a, rfl, by simpa using h⟩
theorem zGj {c : Call} {lo : LOp} (hl : zCI P n c = some lo) : zCK lo = true ∨ ∃ f g m, c.callee = .value f ∧ lx n f = some g ∧ lxs n c.args.toList = some m ∧ lo = .callh g m := by
 unfold zCI at hl
 split at hl
 ·rename_i f hc
  split at hl
  ·rename_i g m hg hm; cases hl; exact .inr ⟨f, g, m, hc, hg, hm, rfl⟩
  ·cases hl
 ·split at hl
  ·split at hl
   ·split at hl
    ·split at hl
     ·cases hl; exact .inl rfl
     ·cases hl
    ·cases hl
   ·cases hl
  ·cases hl
 ·cases hl
theorem zJi {c : Call} {lo : LOp} {o : Oper} (ho : o.op = .call c) (hl : zCI P n c = some lo) (hp : zCK lo = true) (h : HRel w X ρ H) (he : ER w X ρ H n e a) : zLd P o a w X ρ H (zB2 lo e H) := by
 obtain ⟨callee, args, tys⟩ := c
 unfold zCI at hl
 cases callee with
 | value f =>
  simp only at hl
  split at hl
  ·cases hl; simp [zCK] at hp
  ·cases hl
 | invoke r m => simp at hl
 | builtin b =>
  obtain ⟨bcs, hex⟩ : ∃ cs, execOp a.eval o = builtin b tys o.type cs (args.map a.eval) := by
   unfold execOp
   rw [ho]
   exact ⟨_, rfl⟩
  cases b <;> simp only at hl <;> first | (cases hl; done) | skip
  cases hm : lxs n args.toList with
  | none => simp [hm] at hl
  | some m =>
   obtain ⟨hlen, hrep⟩ := zCg he _ _ hm
   match m, hlen, hl with
   | [], _, hl => simp [hm] at hl
   | [_], _, hl => simp [hm] at hl
   | _ :: _ :: _ :: _, _, hl => simp [hm] at hl
   | [s, x], hlen, hl =>
    obtain ⟨so, xo, hao⟩ : ∃ so xo, args.toList = [so, xo] := by
     match h1 : args.toList, hlen with
     | [so, xo], _ => exact ⟨so, xo, rfl⟩
    have hae : args.map a.eval = #[a.eval so, a.eval xo] := by apply zYF; simp [hao]
    have hs : Rp w X ρ H (ev e s) (a.eval so) := hrep 0 _ _ rfl (by simp [hao])
    have hx : Rp w X ρ H (ev e x) (a.eval xo) := hrep 1 _ _ rfl (by simp [hao])
    match ht : tys.toList, hl with
    | [], hl => simp [hm] at hl
    | [_], hl => simp [hm] at hl
    | _ :: _ :: _ :: _, hl => simp [hm] at hl
    | [t, u], hl =>
     have hty : tys = #[t, u] := by apply zYF; simpa using ht
     simp only [hm] at hl
     cases hu : P.underlying t with
     | none => simp [hu] at hl
     | some d =>
      cases d with
      | slice el =>
       cases hv : P.underlying u with
       | none => simp [hu, hv] at hl
       | some d2 =>
        cases d2 with
        | string =>
         simp only [hu, hv] at hl
         cases hi : P.info? el with
         | none => simp [hi] at hl
         | some i =>
          simp only [hi] at hl
          split at hl
          ·rename_i hc
           obtain ⟨h1, h2, h3⟩ := hc
           obtain ⟨z, hz1, hz2⟩ := zAu h3
           cases hl
           exact zAH (s := Builtin.append_ #[t, u] o.type #[a.eval so, a.eval xo]) (zIY hu ⟨_, hv, fun k hk => by cases hk⟩ hi hz1 hz2 h1 h2 h hs hx) (by rw [hex, hae, hty]; rfl)
          ·cases hl
        | _ => simp [hu, hv] at hl
      | _ => simp [hu] at hl
theorem zKP {c : Call} {lo : LOp} {o : Oper} (ho : o.op = .call c) (hl : zC5 P n c = some lo) (hp : zCK lo = true) (h : HRel w X ρ H) (he : ER w X ρ H n e a) : zLd P o a w X ρ H (zB2 lo e H) := by
 obtain ⟨callee, args, tys⟩ := c
 have hex : ∀ b : Builtin, callee = .builtin b → ∃ cs, execOp a.eval o = builtin b tys o.type cs (args.map a.eval) := by
  intro b hb
  subst hb
  unfold execOp
  rw [ho]
  exact ⟨_, rfl⟩
 unfold zC5 at hl
 cases callee with
 | value f =>
  simp only at hl
  cases hf : lx n f with
  | none => simp [hf] at hl
  | some g =>
   cases hm : lxs n args.toList with
   | none => simp [hf, hm] at hl
   | some m => simp [hf, hm] at hl; subst hl; simp [zCK] at hp
 | invoke r m => simp at hl
 | builtin b =>
  obtain ⟨bcs, hex⟩ := hex b rfl
  cases b <;> simp only at hl <;> first | (cases hl; done) | skip
  case len =>
   cases hm : lxs n args.toList with
   | none => simp [hm] at hl
   | some m =>
    obtain ⟨hlen, hrep⟩ := zCg he _ _ hm
    match m, hlen, hl with
    | [], _, hl => simp [hm] at hl
    | _ :: _ :: _, _, hl => simp [hm] at hl
    | [x], hlen, hl =>
     obtain ⟨ao, hao⟩ : ∃ ao, args.toList = [ao] := by
      match h1 : args.toList, hlen with
      | [ao], _ => exact ⟨ao, rfl⟩
     have hae : args.map a.eval = #[a.eval ao] := by apply zYF; simp [hao]
     have hx : Rp w X ρ H (ev e x) (a.eval ao) := hrep 0 _ _ rfl (by simp [hao])
     match ht : tys.toList, hl with
     | [], hl => simp [hm] at hl
     | _ :: _ :: _, hl => simp [hm] at hl
     | [t], hl =>
      have hty : tys = #[t] := by apply zYF; simpa using ht
      simp only [hm] at hl
      refine zAH (s := Builtin.len_ #[t] o.type #[a.eval ao]) ?_ (by rw [hex, hae, hty]; rfl)
      cases hu : P.underlying t with
      | none => simp [hu] at hl
      | some d =>
       simp only [hu] at hl
       cases d <;> simp at hl <;> subst hl <;> refine zQm ⟨?_, ?_, ?_⟩ h hx <;> intro hk <;> first | (cases hk; done) | exact hu | exact ⟨_, hu⟩ | exact ⟨_, _, hu⟩
  case append =>
   cases hm : lxs n args.toList with
   | none => simp [hm] at hl
   | some m =>
    obtain ⟨hlen, hrep⟩ := zCg he _ _ hm
    match m, hlen, hl with
    | [], _, hl => simp [hm] at hl
    | [_], _, hl => simp [hm] at hl
    | _ :: _ :: _ :: _, _, hl => simp [hm] at hl
    | [s, x], hlen, hl =>
     obtain ⟨so, xo, hao⟩ : ∃ so xo, args.toList = [so, xo] := by
      match h1 : args.toList, hlen with
      | [so, xo], _ => exact ⟨so, xo, rfl⟩
     have hae : args.map a.eval = #[a.eval so, a.eval xo] := by apply zYF; simp [hao]
     have hs : Rp w X ρ H (ev e s) (a.eval so) := hrep 0 _ _ rfl (by simp [hao])
     have hx : Rp w X ρ H (ev e x) (a.eval xo) := hrep 1 _ _ rfl (by simp [hao])
     match ht : tys.toList, hl with
     | [], hl => simp [hm] at hl
     | [_], hl => simp [hm] at hl
     | _ :: _ :: _ :: _, hl => simp [hm] at hl
     | [t, u], hl =>
      have hty : tys = #[t, u] := by apply zYF; simpa using ht
      simp only [hm] at hl
      cases hu : P.underlying t with
      | none => simp [hu] at hl
      | some d =>
       simp only [hu] at hl
       cases d <;> simp only at hl <;> first | (cases hl; done) | skip
       rename_i el
       cases hi : P.info? el with
       | none => simp [hi] at hl
       | some i =>
        cases hv : P.underlying u with
        | none => simp [hi, hv] at hl
        | some d2 =>
         simp only [hi, hv] at hl
         have fin : (i.zero.map (·.cells.size)) = some i.size → lo = .append i.size i.bytes s x → (∀ k, d2 ≠ .int k) → zLd P o a w X ρ H (zB2 lo e H) := by
          intro hz hlo hd2
          obtain ⟨z, hz1, hz2⟩ := zAu hz
          subst hlo
          exact zAH (s := Builtin.append_ #[t, u] o.type #[a.eval so, a.eval xo]) (zKB hu ⟨d2, hv, hd2⟩ hi hz1 hz2 h hs hx) (by rw [hex, hae, hty]; rfl)
         cases d2 <;> simp only at hl <;> first | (cases hl; done) | skip
         case slice =>
          split at hl
          ·rename_i hc; exact fin hc.2 (by simpa using hl.symm) (fun k hk => by cases hk)
          ·cases hl
         case string =>
          split at hl
          ·rename_i hc; exact fin (by rw [hc.2, hc.1]) (by simpa using hl.symm) (fun k hk => by cases hk)
          ·cases hl
  case copy =>
   cases hm : lxs n args.toList with
   | none => simp [hm] at hl
   | some m =>
    obtain ⟨hlen, hrep⟩ := zCg he _ _ hm
    match m, hlen, hl with
    | [], _, hl => simp [hm] at hl
    | [_], _, hl => simp [hm] at hl
    | _ :: _ :: _ :: _, _, hl => simp [hm] at hl
    | [s, x], hlen, hl =>
     obtain ⟨so, xo, hao⟩ : ∃ so xo, args.toList = [so, xo] := by
      match h1 : args.toList, hlen with
      | [so, xo], _ => exact ⟨so, xo, rfl⟩
     have hae : args.map a.eval = #[a.eval so, a.eval xo] := by apply zYF; simp [hao]
     have hs : Rp w X ρ H (ev e s) (a.eval so) := hrep 0 _ _ rfl (by simp [hao])
     have hx : Rp w X ρ H (ev e x) (a.eval xo) := hrep 1 _ _ rfl (by simp [hao])
     match ht : tys.toList, hl with
     | [], hl => simp [hm] at hl
     | [_], hl => simp [hm] at hl
     | _ :: _ :: _ :: _, hl => simp [hm] at hl
     | [t, u], hl =>
      have hty : tys = #[t, u] := by apply zYF; simpa using ht
      simp only [hm] at hl
      cases hu : P.underlying t with
      | none => simp [hu] at hl
      | some d =>
       simp only [hu] at hl
       cases d <;> simp only at hl <;> first | (cases hl; done) | skip
       rename_i el
       cases hn : zCF P el with
       | none => simp [hn] at hl
       | some sz =>
        simp only [hn, zZh] at hl
        split at hl
        ·rename_i hc
         simp only [zXt] at hl
         subst hl
         exact zAH (s := Builtin.copy_ #[t, u] o.type #[a.eval so, a.eval xo]) (zNM hu hn hc h hs hx) (by rw [hex, hae, hty]; rfl)
        ·cases hl
  case min =>
   cases hm : lxs n args.toList with
   | none => simp [hm] at hl
   | some m =>
    obtain ⟨hlen, hrep⟩ := zCg he _ _ hm
    match m, hlen, hl with
    | [], _, hl => simp [hm] at hl
    | [_], _, hl => simp [hm] at hl
    | _ :: _ :: _ :: _, _, hl => simp [hm] at hl
    | [s, x], hlen, hl =>
     obtain ⟨so, xo, hao⟩ : ∃ so xo, args.toList = [so, xo] := by
      match h1 : args.toList, hlen with
      | [so, xo], _ => exact ⟨so, xo, rfl⟩
     have hae : args.map a.eval = #[a.eval so, a.eval xo] := by apply zYF; simp [hao]
     have hs : Rp w X ρ H (ev e s) (a.eval so) := hrep 0 _ _ rfl (by simp [hao])
     have hx : Rp w X ρ H (ev e x) (a.eval xo) := hrep 1 _ _ rfl (by simp [hao])
     simp only [hm, zXt] at hl
     subst hl
     exact zAH (s := Builtin.min_ tys o.type #[a.eval so, a.eval xo]) (zQk h hs hx) (by rw [hex, hae]; rfl)
  case max =>
   cases hm : lxs n args.toList with
   | none => simp [hm] at hl
   | some m =>
    obtain ⟨hlen, hrep⟩ := zCg he _ _ hm
    match m, hlen, hl with
    | [], _, hl => simp [hm] at hl
    | [_], _, hl => simp [hm] at hl
    | _ :: _ :: _ :: _ :: _, _, hl => simp [hm] at hl
    | [s, x, z], hlen, hl =>
     obtain ⟨so, xo, zo, hao⟩ : ∃ so xo zo, args.toList = [so, xo, zo] := by
      match h1 : args.toList, hlen with
      | [so, xo, zo], _ => exact ⟨so, xo, zo, rfl⟩
     have hae : args.map a.eval = #[a.eval so, a.eval xo, a.eval zo] := by apply zYF; simp [hao]
     have hs : Rp w X ρ H (ev e s) (a.eval so) := hrep 0 _ _ rfl (by simp [hao])
     have hx : Rp w X ρ H (ev e x) (a.eval xo) := hrep 1 _ _ rfl (by simp [hao])
     have hz : Rp w X ρ H (ev e z) (a.eval zo) := hrep 2 _ _ rfl (by simp [hao])
     simp only [hm, zXt] at hl
     subst hl
     exact zAH (s := Builtin.max_ tys o.type #[a.eval so, a.eval xo, a.eval zo]) (zNH h hs hx hz) (by rw [hex, hae]; rfl)
    | [s, x], hlen, hl =>
     obtain ⟨so, xo, hao⟩ : ∃ so xo, args.toList = [so, xo] := by
      match h1 : args.toList, hlen with
      | [so, xo], _ => exact ⟨so, xo, rfl⟩
     have hae : args.map a.eval = #[a.eval so, a.eval xo] := by apply zYF; simp [hao]
     have hs : Rp w X ρ H (ev e s) (a.eval so) := hrep 0 _ _ rfl (by simp [hao])
     have hx : Rp w X ρ H (ev e x) (a.eval xo) := hrep 1 _ _ rfl (by simp [hao])
     simp only [hm, zXt] at hl
     subst hl
     exact zAH (s := Builtin.max_ tys o.type #[a.eval so, a.eval xo]) (zQl h hs hx) (by rw [hex, hae]; rfl)
end
section
variable {P : Program} {w : World} {X : Nat → Prop} {ρ : Nat → Loc} {H : zC} {e : Env} {a : Act} {n : Nat}
theorem zEP (he : ER w X ρ H n e a) {o : Option Operand} {x : Option LX} (h : lxo n o = some x) : RpO w X ρ H (x.map (ev e)) (o.map a.eval) := by
 cases o with
 | none => simp [lxo] at h; subst h; trivial
 | some o =>
  obtain ⟨y, h1, h2⟩ := zAu h
  subst h2
  exact zAm he h1
theorem zO6 {M : Nat → Prop} {ρ : Nat → Loc} {k : Nat} {y u : Value} (h : Rep w M ρ k (.v y) u) : u = y := by cases h; rfl
theorem zHG {M : Nat → Prop} {ρ : Nat → Loc} {k : Nat} : ∀ {cs : List AV} {l us : List Value}, zG1 cs = some l → cs.length = us.length → (∀ (i : Nat) (x : AV) (u : Value), cs[i]? = some x → us[i]? = some u → Rep w M ρ k x u) → us = l
 | [], l, us, h, hl, _ => by
  simp only [zG1, zXt] at h
  subst h
  exact zXK.1 hl.symm
 | .v v :: cs, l, us, h, hl, hr => by
  match us, hl with
  | u :: us, hl =>
   simp only [zG1] at h
   obtain ⟨m, hm, rfl⟩ := zAu h
   have h1 := zO6 (hr 0 _ _ rfl rfl)
   have h2 := zHG hm (us := us) (by simpa using hl) fun i x u hx hu => hr (i + 1) x u (by simpa using hx) (by simpa using hu)
   rw [h1, h2]
 | .any :: _, _, _, h, _, _ | .agg _ :: _, _, _, h, _, _ | .tup _ :: _, _, _, h, _, _ | .sl .. :: _, _, _, h, _, _ | .vp .. :: _, _, _, h, _, _ | .fn .. :: _, _, _, h, _, _ | .mp .. :: _, _, _, h, _, _
 | .os .. :: _, _, _, h, _, _ | .ptr .. :: _, _, _, h, _, _ | .pe .. :: _, _, _, h, _, _ | .om .. :: _, _, _, h, _, _ | .nc :: _, _, _, h, _, _ | .bnil _ :: _, _, _, h, _, _ => by cases h
theorem zJB {M : Nat → Prop} {ρ : Nat → Loc} {k : Nat} {x : AV} {v u : Value} (h : zOS x = some v) (hr : Rep w M ρ k x u) : u = v := by
 cases x with
 | v y => simp only [zOS, zXt] at h; subst h; exact zO6 hr
 | agg cs =>
  simp only [zOS] at h
  obtain ⟨l, hl, rfl⟩ := zAu h
  cases hr with
  | agg _ _ us h1 h2 =>
   have := zHG hl (us := us.toList) (by simpa using h1) fun i x u hx hu => h2 i x u hx (by simpa using hu)
   rw [← this]
 | _ => cases h
theorem zHW {t : TypeId} {z : Value} (hz : zBj P t = some z) (w : World) : (zeroValue t).run P w = .ok z w := by
 unfold zBj at hz
 cases hi : P.info? t with
 | none => simp [hi] at hz
 | some i => simp [hi] at hz; simp [zeroValue, typeInfo, hi, hz]
theorem zPU (v : Value) : vA v = zIK v := by cases v <;> rfl
theorem zK4 {d : Nat} {t : TypeId} {ms : Array (String × TypeId)} (ht : P.underlying t = some (.interface ms)) : (Op.equalIn (d + 1) t .nilIface .nilIface).run P w = .ok true w := by
 simp [Op.equalIn, run_underlying ht]
theorem zMN {t : TypeId} {ms : Array (String × TypeId)} (ht : P.underlying t = some (.interface ms)) : (Op.equal t .nilIface .nilIface).run P w = .ok true w := zK4 (d := 9999) ht
theorem zJq {d : Nat} {t : TypeId} {ms : Array (String × TypeId)} {t' : TypeId} {v : Value} (ht : P.underlying t = some (.interface ms)) : (Op.equalIn (d + 1) t (.iface t' v) .nilIface).run P w = .ok false w := by
 simp [Op.equalIn, run_underlying ht]
theorem zK3 {t : TypeId} {ms : Array (String × TypeId)} {t' : TypeId} {v : Value} (ht : P.underlying t = some (.interface ms)) : (Op.equal t (.iface t' v) .nilIface).run P w = .ok false w := zJq (d := 9999) ht
theorem zGF {op : BinOp} {t : TypeId} {x : Operand} {u : Value} : (eqGuard op t x (.const .nilIface) u .nilIface).run P w = .ok () w := by
 cases op <;> simp [eqGuard] <;> cases u <;> simp
theorem zNG {o : Oper} {op : BinOp} {t yt : TypeId} {ox oy : Operand} {ms : Array (String × TypeId)} {neg : Bool} {x : AV} (ho : o.op = .binOp op t ox oy yt) (hu : P.underlying t = some (.interface ms)) (hq : zNo op = some neg) (hy : oy = .const .nilIface)
  (h : HRel w X ρ H) (hx : Rp w X ρ H x (a.eval ox)) : zLd P o a w X ρ H (rNilI neg x H) := by
 subst hy
 cases x with
 | v v =>
  have hv := zA0 hx
  cases v <;> first | exact zFN | skip
  case iface t' v =>
   intro _
   refine ⟨.bool neg, w, ρ, .inl ?_, h, .v _ _, Fut.refl _ _ _⟩
   unfold execOp
   rw [ho]
   simp only [show a.eval (.const .nilIface) = .nilIface from rfl, hv]
   cases op <;> simp [zNo] at hq <;> subst hq <;> simp [zGF, binOp, zK3 hu]
  case nilIface =>
   intro _
   refine ⟨.bool (!neg), w, ρ, .inl ?_, h, .v _ _, Fut.refl _ _ _⟩
   unfold execOp
   rw [ho]
   simp only [show a.eval (.const .nilIface) = .nilIface from rfl, hv]
   cases op <;> simp [zNo] at hq <;> subst hq <;> simp [zGF, binOp, zMN hu]
 | _ => exact zFN
theorem zNO {t xt : TypeId} {d : TypeDesc} {z : Value} {x : AV} {u : Value} (hu : P.underlying t = some d) (hni : ∀ ms, d ≠ .interface ms) (hz : zBj P t = some z) (h : HRel w X ρ H) (hx : Rp w X ρ H x u) :
  zA4 P (Instr.typeAssert u xt t true) w X ρ H (rAsrt t (zIK z) x H) := by
 have two : ∀ (y : AV) (b : Bool) (v : Value), Rp w X ρ H y v → Rp w X ρ H (.tup [y, bool b]) (.tuple #[v, .bool b]) := fun y b v hv => by
  refine .tup _ _ _ rfl fun i x u hx hu => ?_
  match i with
  | 0 => simp at hx hu; subst hx; subst hu; exact hv
  | 1 => simp at hx hu; subst hx; subst hu; exact .v _ _
  | n + 2 => simp at hx
 cases x with
 | v v =>
  have hv := zA0 hx
  subst hv
  cases u <;> first | exact zK | skip
  case iface t' v =>
   refine zAb h fun _ => ?_
   by_cases ht : t' = t
   ·rw [if_pos ht]
    refine ⟨.tuple #[v, .bool true], ?_, two _ _ _ (by rw [zPU]; exact zDl v)⟩
    unfold Instr.typeAssert
    rw [Sem.run_bind, run_underlying hu, Result.andThen_ok]
    cases d <;> first | exact absurd rfl (hni _) | simp [ht]
   ·rw [if_neg ht]
    refine ⟨.tuple #[z, .bool false], ?_, two _ _ _ (zDl z)⟩
    unfold Instr.typeAssert
    rw [Sem.run_bind, run_underlying hu, Result.andThen_ok]
    cases d <;> first | exact absurd rfl (hni _) | simp [ht, zHW hz]
  case nilIface =>
   refine zAb h fun _ => ⟨.tuple #[z, .bool false], ?_, two _ _ _ (zDl z)⟩
   unfold Instr.typeAssert
   rw [Sem.run_bind, run_underlying hu, Result.andThen_ok]
   cases d <;> first | exact absurd rfl (hni _) | simp [zHW hz]
 | _ => exact zK
theorem zKy {t kt el : TypeId} {x : AV} {u : Value} (hu : P.underlying t = some (.map kt el)) (h : HRel w X ρ H) (hx : Rp w X ρ H x u) : zA4 P (Instr.range t u) w X ρ H (rRangeM x H) := by
 cases x with
 | mp ks vs =>
  intro _
  have hx' := hx.of_cl (by simp [AV.cl])
  cases hx with
  | mp _ _ _ m es clock hm hb hh hks hvs hr =>
   have hle : ks.length = es.size := by rw [hks.1]; simp
   have hle2 : ∀ i, i ∈ List.range ks.length ↔ ∃ e, es[i]? = some e ∧ (#[] : Array Nat).contains e.born = false := by
    intro i
    rw [zYk, hle]
    constructor
    ·intro hi; exact ⟨es[i], by simp [hi], by simp⟩
    ·rintro ⟨e, he, _⟩; exact (zXM.1 he).1
   obtain ⟨ρ', hl, hrel, hf⟩ := h.push (w' := w.alloc (.mapIter (some m) clock #[] clock)) { blk := some (w.heap.size, 0) } (.mit ks vs (List.range ks.length) none) (Same.alloc _ _) (fun b o hb => by simp at hb; obtain ⟨rfl, _⟩ := hb; simp) (zBk w _)
    (fun ρ' hf hl' => ⟨rfl, w.heap.size, m, es, clock, clock, #[], clock, rfl, zBJ w _, by rw [zBk w _ m hb]; exact hh, hx'.next hf (zXJ _), hks.2.1, ⟨zXL _, zXL _⟩, hle2, fun i hi => by cases hi⟩)
   refine ⟨.pointer (some ⟨w.heap.size, 0, none⟩), _, ρ', run_range_map w t kt el m es clock hu hh, hrel, ?_, hf⟩
   exact .ptr _ _ _ _ _ (by show H.length < (H ++ [_]).length; simp) (by rw [hl]; exact zXL _) rfl fun _ => ⟨w.heap.size, 0, by rw [hl], rfl⟩
 | _ => exact zK
theorem zOe {es : Array MapEntry} {seen : Array Nat} {e : MapEntry} {i : Nat} (hnd : (es.toList.map (·.born)).Nodup) (he : es[i]? = some e) (j : Nat) :
  ((∃ e', es[j]? = some e' ∧ seen.contains e'.born = false) ∧ j ≠ i) ↔ ∃ e', es[j]? = some e' ∧ (seen.push e.born).contains e'.born = false := by
 have hinj : ∀ e', es[j]? = some e' → e'.born = e.born → j = i := by
  intro e' he' hb
  have hj : j < (es.toList.map (·.born)).length := by simp; exact (zXM.1 he').1
  have hi : i < (es.toList.map (·.born)).length := by simp; exact (zXM.1 he).1
  obtain ⟨_, h1⟩ := zXM.1 he'
  obtain ⟨_, h2⟩ := zXM.1 he
  have heq : (es.toList.map (·.born))[j] = (es.toList.map (·.born))[i] := by simp [h1, h2, hb]
  have hp := List.pairwise_iff_getElem.1 hnd
  rcases Nat.lt_trichotomy j i with hlt | hlt | hlt
  ·exact absurd heq (hp j i hj hi hlt)
  ·exact hlt
  ·exact absurd heq.symm (hp i j hi hj hlt)
 constructor
 ·rintro ⟨⟨e', he', hs⟩, hne⟩
  refine ⟨e', he', ?_⟩
  have : e'.born ≠ e.born := fun hb => hne (hinj e' he' hb)
  simp at hs ⊢
  exact ⟨hs, this⟩
 ·rintro ⟨e', he', hs⟩
  simp at hs
  refine ⟨⟨e', he', by simpa using hs.1⟩, fun hji => ?_⟩
  subst hji
  rw [he] at he'
  cases he'
  exact hs.2 rfl
theorem zPj {r : Nat} {ks : List Value} {vs : List AV} {left : List Nat} {cur : Option Nat} {u : Value} (h : HRel w X ρ H) (hx : Rp w X ρ H (.ptr r 0 0) u) (ho : H[r]? = some (.mit ks vs left cur)) :
  ∃ b m es clock since seen c0, r < H.length ∧ u = .pointer (some ⟨b, 0, none⟩) ∧ (ρ r).blk = some (b, 0) ∧ (ρ r).ver = 0 ∧ w.heap[b]? = some (.mapIter (some m) since seen c0) ∧ w.heap[m]? = some (.map es clock) ∧ Rep w (Mut X ρ H.length) ρ 0 (.mp ks vs) (.map (some m)) ∧ zU0 es clock since seen c0 left cur := by
 obtain ⟨h1, b, m, es, clock, since, seen, c0, h2, h3, h4, h5, h6⟩ := h.objs r _ ho
 cases hx with
 | ptr _ _ _ _ _ hr hle hone hp =>
  obtain ⟨b', o', hb', rfl⟩ := hp h1.symm
  rw [h2] at hb'
  simp only [zXt, zXO] at hb'
  obtain ⟨rfl, rfl⟩ := hb'
  exact ⟨b, m, es, clock, since, seen, c0, hr, rfl, h2, h1, h3, h4, h5, h6⟩
theorem zMc {ks : List Value} {vs : List AV} {m : Nat} {es : Array MapEntry} {clock : Nat} (hrep : Rep w (Mut X ρ H.length) ρ 0 (.mp ks vs) (.map (some m))) (hm : w.heap[m]? = some (.map es clock)) :
  zVT ks es clock ∧ vs.length = es.size ∧ ¬ Mut X ρ H.length m ∧ m < w.heap.size ∧ ∀ (i : Nat) (e : MapEntry), es[i]? = some e → ks.getD i default = e.key ∧ Rep w (Mut X ρ H.length) ρ 0 (vs.getD i .any) e.val := by
 cases hrep with
 | mp _ _ _ _ es' clock' hmm hb hh hks hvs hr =>
  rw [hm] at hh
  simp only [zXt, Obj.map.injEq] at hh
  obtain ⟨rfl, rfl⟩ := hh
  refine ⟨hks, hvs, hmm, hb, fun i e he => ⟨?_, ?_⟩⟩
  ·rw [hks.1]; simp [zXC, he]
  ·have hi : i < es.size := (zXM.1 he).1
   have hv : vs[i]? = some (vs.getD i .any) := by
    rw [zXC, zXP (by omega), zYn]
   exact hr i _ e hv he
theorem zKA {x : AV} {u : Value} (h : HRel w X ρ H) (hx : Rp w X ρ H x u) : zA4 P (Instr.entry u) w X ρ H (rEntryM x H) := by
 unfold rEntryM
 split
 ·rename_i r
  unfold rEntryO
  split
  ·rename_i ks vs left i ho
   refine zAb h fun _ => ?_
   obtain ⟨b, m, es, clock, since, seen, c0, hr, rfl, h2, h1, h3, h4, h5, h6⟩ := zPj h hx ho
   obtain ⟨g1, g2, g3, g4⟩ := h6
   obtain ⟨e, seen0, he, rfl, rfl⟩ := g4 i rfl
   obtain ⟨hks, hvs, _, _, hkv⟩ := zMc h5 h4
   obtain ⟨k1, k2⟩ := hkv i e he
   have hmem : e ∈ es.toList := by
    obtain ⟨hi, rfl⟩ := zXM.1 he
    simp
   refine ⟨_, run_entry_at w b m since seen0 es _ e h3 h4 hmem hks.2.2, ?_⟩
   refine .tup _ _ _ rfl fun j x u hx hu => ?_
   match j with
   | 0 => simp at hx hu; subst hx; subst hu; rw [← k1, zXC]; exact .v _ _
   | 1 => simp at hx hu; subst hx; subst hu; rw [← zXC]; exact k2.mono (zXJ _)
   | n + 2 => simp at hx
  ·exact zK
 ·exact zK
theorem zLC {ty : TypeId} {K : AV → zC → Prop} {x : AV} {u : Value} (h : HRel w X ρ H) (hx : Rp w X ρ H x u) (hk : nextA x H K) :
  ∃ u' x' H' w' ρ', (Instr.next u false ty).run P w = .ok u' w' ∧ K x' H' ∧ HRel w' X ρ' H' ∧ Rep w' (Mut X ρ' H'.length) ρ' H'.length x' u' ∧ Fut w ρ H.length w' ρ' H'.length := by
 unfold nextA at hk
 split at hk
 ·rename_i r
  unfold zOa at hk
  split at hk
  ·rename_i ks vs left cur ho
   obtain ⟨k0, k1⟩ := hk
   obtain ⟨b, m, es, clock, since, seen, c0, hr, rfl, h2, h1, h3, h4, h5, h6⟩ := zPj h hx ho
   obtain ⟨g1, g2, g3, g4⟩ := h6
   obtain ⟨hks, hvs, hmm, hmlt, hkv⟩ := zMc h5 h4
   rcases run_next_at (P := P) w ty b m since c0 seen es clock h3 h4 g1 g2.1 with ⟨hl0, hrun⟩ | ⟨e, hel, w1, hw1, hrun⟩
   ·have hle : left = [] := by
     apply zYs.2
     intro i hi
     obtain ⟨e, he, hs⟩ := (g3 i).1 hi
     have hmem : e ∈ leftOf es seen := by
      unfold leftOf
      rw [Array.mem_filter]
      exact ⟨Array.mem_of_getElem? he, by simpa using hs⟩
     have := Array.size_pos_of_mem hmem
     omega
    refine ⟨_, _, _, w, ρ, hrun, k0 hle, h, ?_, Fut.refl _ _ _⟩
    refine .tup _ _ _ rfl fun j x u hx hu => ?_
    match j with
    | 0 => simp at hx hu; subst hx; subst hu; exact .v _ _
    | n + 1 => simp at hx
   ·have hel' : e ∈ es ∧ seen.contains e.born = false := by
     have : e ∈ leftOf es seen := by simpa using hel
     unfold leftOf at this
     rw [Array.mem_filter] at this
     exact ⟨this.1, by simpa using this.2⟩
    obtain ⟨i, hi, hie⟩ := Array.getElem_of_mem hel'.1
    have he : es[i]? = some e := by rw [zXM]; exact ⟨hi, hie⟩
    have hil : i ∈ left := (g3 i).2 ⟨e, he, hel'.2⟩
    obtain ⟨q1, q2⟩ := hkv i e he
    have hne : b ≠ m := fun hh => by subst hh; rw [h3] at h4; cases h4
    have hsame : Same w w1 := by rcases hw1 with rfl | rfl; exact Same.refl _; exact Same.drew _
    have hheap : w1.heap = w.heap := by rcases hw1 with rfl | rfl <;> rfl
    have hblt : b < w.heap.size := (h.lt r b 0 hr h2).1
    obtain ⟨ρ', hρ, hrel, hfu⟩ := h.setAt (w' := ChangeMaps.setBlock w1 b (.mapIter (some m) since (seen.push e.born) clock)) hr (ρ r) (.mit ks vs (left.filter fun j => !decide (j = i)) (some i))
     ⟨hsame.os, hsame.tape, hsame.output, by simp [ChangeMaps.setBlock, hheap]⟩ (.inl rfl) (fun b o hb => .inl ⟨o, hb⟩)
     (fun b' _ hne' => by
      have : b ≠ b' := fun hh => hne' 0 (by rw [← hh]; exact h2)
      simp [ChangeMaps.setBlock, hheap, zYq this])
     (fun ρ' _ hf' => by
      refine ⟨h1, b, m, es, clock, since, seen.push e.born, clock, h2, by simp [ChangeMaps.setBlock, hheap, hblt], by simp [ChangeMaps.setBlock, hheap, zYq hne]; exact h4, h5.next hf' (zXJ _), g1, ?_, fun j => ?_, ?_⟩
      ·exact ⟨g2.2, g2.2⟩
      ·rw [zYR, g3 j, ← zOe hks.2.2 he j]
       simp
      ·intro j hj
       cases hj
       exact ⟨e, seen, he, rfl, rfl⟩)
    refine ⟨_, _, _, _, ρ', hrun, k1 i hil, hrel, ?_, hfu⟩
    refine .tup _ _ _ rfl fun j x u hx hu => ?_
    match j with
    | 0 => simp at hx hu; subst hx; subst hu; exact .v _ _
    | 1 => simp at hx hu; subst hx; subst hu; rw [← q1, zXC]; exact .v _ _
    | 2 => simp at hx hu; subst hx; subst hu; rw [← zXC]; exact (q2.next hfu (zXJ _)).mono (zXJ _)
    | n + 3 => simp at hx
  ·exact hk.elim
 ·exact hk.elim
theorem zKO {src dst : TypeId} {x : Operand} {lo : LOp} {o : Oper} (ho : o.op = .convert src dst x) (hl : zFT P n src dst x = some lo) (h : HRel w X ρ H) (he : ER w X ρ H n e a) : zLd P o a w X ρ H (zB2 lo e H) := by
 have hex : execOp a.eval o = (do pure (.value (← convert src dst (a.eval x)))) := by unfold execOp; rw [ho]
 unfold zFT at hl
 cases hs : P.underlying src with
 | none => simp [hs] at hl
 | some sd =>
  cases hd : P.underlying dst with
  | none => cases sd <;> simp [hs, hd] at hl
  | some dd =>
   cases hx : lx n x with
   | none => cases sd <;> cases dd <;> simp [hs, hd, hx] at hl
   | some y =>
    have hr := zAm he hx
    cases sd <;> cases dd <;> simp [hs, hd, hx] at hl
    case int.int => subst hl; exact zAH (zDK ⟨⟨_, hs⟩, hd⟩ h hr) hex
    case int.string => subst hl; exact zAH (zDK ⟨⟨_, hs⟩, hd⟩ h hr) hex
    case string.string => subst hl; exact zAH (zDK ⟨hs, hd⟩ h hr) hex
    case string.slice el =>
     cases hu : P.underlying el with
     | none => simp [hu] at hl
     | some ud =>
      cases ud <;> simp [hu] at hl
      rename_i k
      cases k <;> simp at hl
      subst hl
      exact zAH (zDK ⟨hs, el, hd, hu⟩ h hr) hex
    case slice.string el =>
     cases hu : P.underlying el with
     | none => simp [hu] at hl
     | some ud =>
      cases ud <;> simp [hu] at hl
      rename_i k
      cases k <;> first | (simp at hl; done) | skip
      cases hz : zCF P el with
      | none => simp [hz] at hl
      | some z =>
       match z, hl with
       | 1, hl =>
        simp [hz] at hl
        subst hl
        exact zAH (zDK ⟨⟨el, hs, hu⟩, hd⟩ h hr) hex
       | 0, hl => simp [hz] at hl
       | _ + 2, hl => simp [hz] at hl
    case slice.slice el el2 =>
     cases hu : P.underlying el with
     | none => simp [hu] at hl
     | some ud =>
      cases ud <;> simp [hu] at hl
      rename_i k
      cases k <;> simp at hl
      obtain ⟨h1, hl⟩ := hl
      subst hl
      exact zAH (zDK ⟨el, hs, hu, h1⟩ h hr) hex
theorem zMi {imm : Bool} {o : Oper} {lo : LOp} (hl : zDt P n imm o = some lo) (hp : zCK lo = true) (h : HRel w X ρ H) (he : ER w X ρ H n e a) : zLd P o a w X ρ H (zB2 lo e H) := by
 unfold zDt at hl
 cases ho : o.op <;> rw [ho] at hl <;> simp only at hl <;> first | (cases hl; done) | skip
 case move x =>
  obtain ⟨y, h1, rfl⟩ := zAu hl
  intro _
  exact ⟨_, w, ρ, .inl (by unfold execOp; rw [ho]; rfl), h, zAm he h1, Fut.refl _ _ _⟩
 case assign x =>
  obtain ⟨y, h1, rfl⟩ := zAu hl
  intro _
  exact ⟨_, w, ρ, .inl (by unfold execOp; rw [ho]; rfl), h, zAm he h1, Fut.refl _ _ _⟩
 case pick c x y =>
  cases hc : lx n c <;> cases hx : lx n x <;> cases hy : lx n y <;> simp [hc, hx, hy] at hl
  subst hl
  simp [zCK] at hp
 case alloc t =>
  cases hz : zBj P t with
  | none => simp [hz] at hl
  | some z =>
   simp only [hz, zXt] at hl
   subst hl
   split
   ·exact zAH (zKC hz h) (by unfold execOp; rw [ho])
   ·exact zAH (zLF hz h) (by unfold execOp; rw [ho])
 case box t x =>
  obtain ⟨y, h1, rfl⟩ := zAu hl
  exact zAH (zQr h (zAm he h1)) (by unfold execOp; rw [ho])
 case build t ps =>
  unfold zFj at hl
  cases hz : zBj P t with
  | none => simp [hz] at hl
  | some z =>
   cases z <;> simp only [hz] at hl <;> first | (cases hl; done) | skip
   rename_i z
   cases hu : P.underlying t with
   | none => simp [hu] at hl
   | some d =>
    cases d <;> simp only [hu] at hl <;> first | (cases hl; done) | skip
    case struct fs =>
     cases hpl : zCH P fs.toList with
     | none => simp [hpl] at hl
     | some pl =>
      simp only [hpl] at hl
      obtain ⟨m, h1, rfl⟩ := zAu hl
      refine zAH (s := Instr.build t (ps.map fun (i, x) => (i, a.eval x))) (zE7 hz hu hpl h ?_) (by unfold execOp; rw [ho])
      have := zFS he _ _ h1
      simpa using this
    case array k el =>
     cases hs : zCF P el with
     | none => simp [hs] at hl
     | some sz =>
      simp only [hs] at hl
      obtain ⟨m, h1, rfl⟩ := zAu hl
      refine zAH (s := Instr.build t (ps.map fun (i, x) => (i, a.eval x))) (zFI hz hu hs h ?_) (by unfold execOp; rw [ho])
      have := zFS he _ _ h1
      simpa using this
 case buildSlice t len ps =>
  unfold zJU at hl
  cases hu : P.underlying t with
  | none => simp [hu] at hl
  | some d =>
   cases d <;> simp only [hu] at hl <;> first | (cases hl; done) | skip
   rename_i el
   cases hs : zCF P el with
   | none => simp [hs] at hl
   | some sz =>
    cases hz : zBj P el with
    | none => simp [hs, hz] at hl
    | some z =>
     cases hm : zJf n ps.toList with
     | none => simp [hs, hz, hm] at hl
     | some m =>
      simp only [hs, hz, hm] at hl
      split at hl
      ·rename_i hc
       simp only [zXt] at hl
       subst hl
       refine zAH (s := Instr.buildSlice t len (ps.map fun (i, x) => (i, a.eval x))) (zQq hu hs hz hc.1 hc.2.1 hc.2.2.1 hc.2.2.2 h ?_) (by unfold execOp; rw [ho])
       have := zH8 he _ _ hm
       simpa using this
      ·cases hl
 case makeMap t r =>
  cases r with
  | some r => cases hl
  | none =>
   simp only [zXt] at hl
   subst hl
   exact zAH (zLD h) (by unfold execOp; rw [ho]; rfl)
 case insert t m k x =>
  cases hu : P.underlying t with
  | none => simp [hu] at hl
  | some d =>
   cases d <;> simp only [hu] at hl <;> first | (cases hl; done) | skip
   rename_i kt el
   cases hm : lx n m <;> cases hk : lx n k <;> cases hx : lx n x <;> simp only [hm, hk, hx] at hl <;> first | (cases hl; done) | skip
   obtain ⟨kd, h1, rfl⟩ := zAu hl
   exact zL2 (zLE hu h1 h (zAm he hm) (zHl (zAm he hk)) (zAm he hx)) (by unfold execOp; rw [ho])
 case mapUpdate t m k x =>
  cases hu : P.underlying t with
  | none => simp [hu] at hl
  | some d =>
   cases d <;> simp only [hu] at hl <;> first | (cases hl; done) | skip
   rename_i kt el
   cases hm : lx n m <;> cases hk : lx n k <;> cases hx : lx n x <;> simp only [hm, hk, hx] at hl <;> first | (cases hl; done) | skip
   obtain ⟨kd, h1, rfl⟩ := zAu hl
   exact zL2 (zLE hu h1 h (zAm he hm) (zHl (zAm he hk)) (zAm he hx)) (by unfold execOp; rw [ho])
 case load t p =>
  cases hag : zE0 P t <;> cases hs : zCF P t <;> cases hx : lx n p <;> simp only [hag, hs, hx] at hl <;> first | (cases hl; done) | skip
  simp only [zXt] at hl
  subst hl
  cases imm with
  | false => exact zAH (zJI hag hs h (zAm he hx)) (by unfold execOp; rw [ho])
  | true =>
   refine zAH (r := zLL _ _ _ H) (fun hok => ?_) (by unfold execOp; rw [ho])
   have hr := zAm he hx
   generalize ev e _ = x at hok hr ⊢
   cases x <;> first | exact hok.elim | exact zJI hag hs h hr hok
 case store t p x =>
  cases hs : zCF P t <;> cases hq : lx n p <;> cases hx : lx n x <;> simp only [hs, hq, hx] at hl <;> first | (cases hl; done) | skip
  simp only [zXt] at hl
  subst hl
  exact zL2 (zLB hs h (zAm he hq) (zAm he hx)) (by unfold execOp; rw [ho])
 case nilCheck x =>
  obtain ⟨y, h1, rfl⟩ := zAu hl
  exact zKz ho rfl h (zAm he h1)
 case binOp op t x y yt =>
  unfold zJV at hl
  have fin : ∀ kd, zHQ P t = some kd → ∀ x' y', lx n x = some x' → lx n y = some y' → zLd P o a w X ρ H (zB2 (.bin kd op x' y') e H) := fun kd hk x' y' hx hy =>
   zAH (zQs hk h (zAm he hx) (zAm he hy)) (by unfold execOp; rw [ho])
  have fin2 : (match zHQ P t, lx n x, lx n y with | some kd, some x, some y => some (LOp.bin kd op x y) | _, _, _ => none) = some lo → zLd P o a w X ρ H (zB2 lo e H) := by
   intro hl
   cases hk : zHQ P t <;> cases hx : lx n x <;> cases hy : lx n y <;> simp only [hk, hx, hy] at hl <;> first | (cases hl; done) | skip
   simp only [zXt] at hl
   subst hl
   exact fin _ hk _ _ hx hy
  cases hu : P.underlying t with
  | none => rw [hu] at hl; exact fin2 hl
  | some d =>
   rw [hu] at hl
   cases d <;> first | exact fin2 hl | skip
   case slice el =>
    cases hq : zNo op <;> cases hx : lx n x <;> simp only [hq, hx] at hl <;> first | (cases hl; done) | skip
    split at hl
    ·simp only [zXt] at hl; subst hl; simp [zCK] at hp
    ·cases hl
   case interface ms =>
    cases hq : zNo op <;> cases hx : lx n x <;> simp only [hq, hx] at hl <;> first | (cases hl; done) | skip
    rename_i neg lxx
    split at hl
    ·rename_i hnc
     simp only [zXt] at hl
     subst hl
     have hy : y = .const .nilIface := by
      cases y with
      | const v => cases v <;> first | rfl | (simp [zMs] at hnc; done)
      | _ => simp [zMs] at hnc
     exact zNG ho hu hq hy h (zAm he hx)
    ·cases hl
 case unOp op t x =>
  cases op <;> simp only at hl <;> first | (cases hl; done) | skip
  case not =>
   obtain ⟨y, h1, rfl⟩ := zAu hl
   exact zAH (zQh h (zAm he h1)) (by unfold execOp; rw [ho])
  case neg =>
   obtain ⟨y, h1, rfl⟩ := zAu hl
   exact zAH (zQi h (zAm he h1)) (by unfold execOp; rw [ho])
 case convert src dst x => exact zKO ho hl h he
 case makeFunc f first caps =>
  cases hf : lxs n first.toList <;> cases hc : lxs n caps.toList <;> simp only [hf, hc] at hl <;> first | (cases hl; done) | skip
  simp only [zXt] at hl
  subst hl
  obtain ⟨h1, h2⟩ := zCg he _ _ hf
  obtain ⟨h3, h4⟩ := zCg he _ _ hc
  intro _
  refine ⟨.func f (first.map a.eval) (caps.map a.eval), w, ρ, .inl (by unfold execOp; rw [ho]; rfl), h, ?_, Fut.refl _ _ _⟩
  refine .fn _ _ _ _ _ _ (by simpa using h1) (by simpa using h3) (fun i x u hx hu => h2 i x u hx (by simpa using hu)) (fun i x u hx hu => h4 i x u hx (by simpa using hu))
 case makeSlice t l c =>
  cases hu : P.underlying t with
  | none => simp [hu] at hl
  | some d =>
   cases d <;> simp only [hu] at hl <;> first | (cases hl; done) | skip
   rename_i el
   cases hx : lx n l <;> cases hy : lx n c <;> simp only [hx, hy] at hl <;> first | (cases hl; done) | skip
   cases hi : P.info? el with
   | none => simp [hi] at hl
   | some i =>
    simp only [hi] at hl
    cases hz : i.zero with
    | none => simp [hz] at hl
    | some z =>
     simp only [hz] at hl
     split at hl
     ·rename_i hc
      simp only [zXt] at hl
      subst hl
      exact zAH (zQj hu hi hz hc.1 hc.2.1 hc.2.2 h (zAm he hx) (zAm he hy)) (by unfold execOp; rw [ho])
     ·cases hl
 case slice t x l hi mx =>
  cases mx with
  | some m => cases hl
  | none =>
   cases hu : P.underlying t with
   | none => simp [hu] at hl
   | some d =>
    cases d <;> simp only [hu] at hl <;> first | (cases hl; done) | skip
    case string =>
     cases hx : lx n x <;> cases h1 : lxo n l <;> cases h2 : lxo n hi <;> simp only [hx, h1, h2] at hl <;> first | (cases hl; done) | skip
     simp only [zXt] at hl
     subst hl
     exact zAH (s := Instr.sliceAt t (a.eval x) (l.map a.eval) (hi.map a.eval) none) (zFH (.inl ⟨rfl, hu⟩) h (zAm he hx) (zEP he h1) (zEP he h2)) (by unfold execOp; rw [ho]; rfl)
    case slice el =>
     cases hx : lx n x <;> cases h1 : lxo n l <;> cases h2 : lxo n hi <;> simp only [hx, h1, h2] at hl <;> first | (cases hl; done) | skip
     obtain ⟨sz, hs, rfl⟩ := zAu hl
     cases imm with
     | false => exact zAH (s := Instr.sliceAt t (a.eval x) (l.map a.eval) (hi.map a.eval) none) (zFH (.inr ⟨rfl, el, hu, hs⟩) h (zAm he hx) (zEP he h1) (zEP he h2)) (by unfold execOp; rw [ho]; rfl)
     | true =>
      refine zAH (s := Instr.sliceAt t (a.eval x) (l.map a.eval) (hi.map a.eval) none) (r := zFK _ _ _ _ _ H) (fun hok => ?_) (by unfold execOp; rw [ho]; rfl)
      have hr := zAm he hx
      have g1 := zEP he h1
      have g2 := zEP he h2
      generalize ev e _ = x0 at hok hr ⊢
      cases x0 <;> first | exact hok.elim | exact zFH (.inr ⟨rfl, el, hu, hs⟩) h hr g1 g2 hok
 case fieldAddr s p f =>
  cases hu : P.underlying s with
  | none => simp [hu] at hl
  | some d =>
   cases d <;> simp only [hu] at hl <;> first | (cases hl; done) | skip
   rename_i fs
   cases hx : lx n p with
   | none => simp [hx] at hl
   | some y =>
    simp only [hx] at hl
    cases hf : fs[f]? with
    | none => simp [hf] at hl
    | some fd =>
     simp only [hf] at hl
     cases hn : zCF P fd.type with
     | none => simp [hn] at hl
     | some k =>
      cases k with
      | zero => simp [hn] at hl
      | succ k =>
       simp only [hn, zXt] at hl
       subst hl
       cases imm with
       | false => exact zAH (zHU hu hf hn (by omega) h (zAm he hx)) (by unfold execOp; rw [ho])
       | true =>
        refine zAH (r := zI3 _ _ H) (fun hok => ?_) (by unfold execOp; rw [ho])
        have hr := zAm he hx
        generalize ev e _ = x at hok hr ⊢
        cases x <;> first | exact hok.elim | exact zHU hu hf hn (by omega) h hr hok
 case field s x f =>
  cases hu : P.underlying s with
  | none => simp [hu] at hl
  | some d =>
   cases d <;> simp only [hu] at hl <;> first | (cases hl; done) | skip
   rename_i fs
   cases hx : lx n x with
   | none => simp [hx] at hl
   | some y =>
    simp only [hx] at hl
    cases hf : fs[f]? with
    | none => simp [hf] at hl
    | some fd =>
     simp only [hf] at hl
     cases hag : zE0 P fd.type <;> cases hn : zCF P fd.type <;> simp only [hag, hn] at hl <;> first | (cases hl; done) | skip
     simp only [zXt] at hl
     subst hl
     exact zAH (zQo hu hf hag hn h (zAm he hx)) (by unfold execOp; rw [ho])
 case indexAddr t x i =>
  cases hu : P.underlying t with
  | none => simp [hu] at hl
  | some d =>
   cases d <;> simp only [hu] at hl <;> first | (cases hl; done) | skip
   cases hx : lx n x <;> cases hi : lx n i <;> simp only [hx, hi] at hl <;> first | (cases hl; done) | skip
   obtain ⟨sz, hs, rfl⟩ := zAu hl
   cases imm with
   | false => exact zAH (zHT hu hs h (zAm he hx) (zAm he hi)) (by unfold execOp; rw [ho])
   | true =>
    refine zAH (r := zEM _ _ _ H) (fun hok => ?_) (by unfold execOp; rw [ho])
    have hr := zAm he hx
    have hr2 := zAm he hi
    generalize ev e _ = x at hok hr ⊢
    cases x <;> first | exact hok.elim | exact zHT hu hs h hr hr2 hok
 case index t x i =>
  cases hu : P.underlying t with
  | none => simp [hu] at hl
  | some d =>
   cases d <;> simp only [hu] at hl <;> first | (cases hl; done) | skip
   cases hx : lx n x <;> cases hi : lx n i <;> simp only [hx, hi] at hl <;> first | (cases hl; done) | skip
   simp only [zXt] at hl
   subst hl
   exact zAH (zQn hu h (zAm he hx) (zAm he hi)) (by unfold execOp; rw [ho])
 case lookup t m k ok =>
  cases hu : P.underlying t with
  | none => simp [hu] at hl
  | some d =>
   cases d <;> simp only [hu] at hl <;> first | (cases hl; done) | skip
   cases hx : lx n m <;> cases hi : lx n k <;> simp only [hx, hi] at hl <;> first | (cases hl; done) | skip
   rename_i kt el _ _
   cases hk : zFX P kt <;> cases hz : zBj P el <;> simp only [hk, hz] at hl <;> first | (cases hl; done) | skip
   simp only [zXt] at hl
   subst hl
   exact zAH (zNI hu hk hz h (zAm he hx) (zHl (zAm he hi))) (by unfold execOp; rw [ho])
 case extract x i =>
  obtain ⟨y, h1, rfl⟩ := zAu hl
  exact zAH (zQp h (zAm he h1)) (by unfold execOp; rw [ho])
 case typeAssert x xt t ok =>
  cases ok with
  | false => cases hl
  | true =>
   simp only at hl
   cases hu : P.underlying t with
   | none => simp [hu] at hl
   | some d =>
    have hni : ∀ ms, d ≠ .interface ms := by
     rintro ms rfl
     simp [hu] at hl
    cases hx : lx n x <;> cases hz : zBj P t <;> cases d <;> simp only [hu, hx, hz] at hl <;> first | (cases hl; done) | skip
    all_goals
     simp only [zXt] at hl
     subst hl
     exact zAH (zNO hu hni hz h (zAm he hx)) (by unfold execOp; rw [ho])
 case makeInterface t x =>
  cases hx : lx n x <;> cases hu : P.underlying t <;> simp only [hx, hu] at hl <;> first | (cases hl; done) | skip
  rename_i y d
  split at hl
  ·rename_i hni
   simp only [zXt] at hl
   subst hl
   refine zAH (s := Instr.makeInterface t (a.eval x)) ?_ (by unfold execOp; rw [ho])
   have hr := zAm he hx
   simp only [zB2, rMkif]
   cases hv : zOS (ev e y) with
   | none => exact zK
   | some v =>
    refine zAb h fun _ => ⟨.iface t v, ?_, .v _ _⟩
    rw [zJB hv hr]
    cases d <;> simp [zFi] at hni <;> simp [Instr.makeInterface, run_underlying hu]
  ·cases hl
 case range t x =>
  cases hu : P.underlying t with
  | none => simp [hu] at hl
  | some d =>
   cases d <;> simp only [hu] at hl <;> first | (cases hl; done) | skip
   obtain ⟨y, h1, rfl⟩ := zAu hl
   exact zAH (zKy hu h (zAm he h1)) (by unfold execOp; rw [ho])
 case next x s =>
  cases s with
  | true => cases hl
  | false =>
   obtain ⟨y, h1, rfl⟩ := zAu hl
   simp [zCK] at hp
 case panic x =>
  obtain ⟨y, h1, rfl⟩ := zAu hl
  exact zFN
 case entry x =>
  obtain ⟨y, h1, rfl⟩ := zAu hl
  exact zAH (zKA h (zAm he h1)) (by unfold execOp; rw [ho])
 case call c =>
  split at hl
  ·exact zJi ho hl hp h he
  ·exact zKP ho hl hp h he
end
set_option linter.unusedVariables false
section
variable {P : Program} {w : World} {X : Nat → Prop} {ρ : Nat → Loc} {H : zC} {e : Env} {a : Act} {n : Nat}
abbrev Cont (X : Nat → Prop) (w : World) (ρ : Nat → Loc) (H : zC) (a : Act) (d : Option Nat) (K : AV → zC → Prop) (next : Act → World → Prop) : Prop :=
 ∀ u x H' ρ' w', K x H' → HRel w' X ρ' H' → Rep w' (Mut X ρ' H'.length) ρ' H'.length x u → Fut w ρ H.length w' ρ' H'.length → next (a.put d u) w'
theorem zNb {lo : LOp} (hp : zCK lo = true) {K : AV → zC → Prop} (h : aop P lo e H K) : (zB2 lo e H).ok ∧ K (zB2 lo e H).x (zB2 lo e H).H := by
 cases lo <;> first | exact h | (simp [zCK] at hp)
theorem zKE {x : AV} {u : Value} (h : HRel w X ρ H) (hx : Rp w X ρ H x u) (hs : slcK H x) : ∃ b l c, u = .slice b l c ∧ nilOk x b.isNone := by
 cases x with
 | v x =>
  have := zA0 hx; subst this
  cases u with
  | slice b l c => cases b <;> cases l <;> cases c <;> simp [slcK] at hs; exact ⟨_, _, _, rfl, rfl⟩
  | _ => simp [slcK] at hs
 | sl sz xs =>
  cases hx with
  | slE _ _ b c => exact ⟨b, 0, c, rfl, fun _ => rfl⟩
  | slN => exact ⟨_, _, _, rfl, fun hh => by simp at hh⟩
 | os r ver off len =>
  obtain ⟨hb, hv⟩ := hs
  obtain ⟨v, sz, xs, ho⟩ := zBN hb
  rw [ho] at hv
  obtain ⟨_, _, _, _, _, _, ⟨b, c, rfl, hlc, hcap⟩, _⟩ := zD9 h hx ho hv
  refine ⟨_, _, _, rfl, fun hh => ?_⟩
  rcases hcap with h0 | ⟨_, _, _, rfl, _⟩
  ·omega
  ·simp at hh
 | nc => cases hx; exact ⟨_, _, _, rfl, trivial⟩
 | _ => simp [slcK] at hs
theorem zK2 {d : Nat} {t el : TypeId} {b : Option Addr} {l c : Nat} (ht : P.underlying t = some (.slice el)) : (Op.equalIn (d + 1) t (.slice b l c) (.slice none 0 0)).run P w = .ok b.isNone w := by
 cases b <;> simp [Op.equalIn, run_underlying ht]
theorem zIp {t el : TypeId} {b : Option Addr} {l c : Nat} (ht : P.underlying t = some (.slice el)) : (Op.equal t (.slice b l c) (.slice none 0 0)).run P w = .ok b.isNone w :=
 zK2 (d := 9999) ht
abbrev WR (r : Option Nat) : Fence := { Fence.wide with round := r }
theorem zFd {r : Option Nat} {k : Nat} : (WR r).depth.isSome = true → 1 ≤ k := fun h => by cases h
theorem zEV {r : Option Nat} {m : Nat} {f : FuncId} {args : Array Value} {R : Ending → World → Prop} (h : Calls P f args w R) : CallsIn (WR r) m P f args w R := (callsIn_wide (n := m)).2 h
theorem zKF {r : Option Nat} {m m' : Nat} {l : Nat} {f : FuncId} {tmps : Array Value} {asg bdy : Code} {R : Ending → World → Prop} (h : RoundIn Fence.wide m P l f tmps asg bdy w R) : RoundIn (WR r) m' P l f tmps asg bdy w R :=
 ⟨trivial, fun c cs _ => h.2 c cs (room_wide _)⟩
theorem zBD {r : Option Nat} {m : Nat} {o : Oper} {next : Act → World → Prop} {Q : Exit → Act → World → Prop} (hd : ∀ c, o.op ≠ .defer c) (h : o.uponIn (WR r) m P a next Q ((execOp a.eval o).run P w)) : o.wpIn (WR r) m P a w next Q :=
 ⟨fun _ _ => trivial, by rw [Oper.semAt_eq _ _ _ hd]; exact h⟩
theorem zJe {imm : Bool} {o : Oper} {lo : LOp} (hl : zDt P n imm o = some lo) (c : Call) : o.op ≠ .defer c := fun hc => by
 unfold zDt at hl; rw [hc] at hl; cases hl
theorem zR7 {x : Value} {args : List AV} {K : AV → zC → Prop} (h : zGl P (.v x) args H K) : ∃ l, x = .func (.yield l) #[] #[] ∧ AYield P l args H K := by
 unfold zGl at h
 split at h
 ·rename_i he; cases he
 ·rename_i l he; cases he; exact ⟨l, rfl, h⟩
 ·exact h.elim
def zJP : Option LOp → Bool
 | some lo => zCK lo
 | none => true
theorem zNa {r : Option Nat} {m0 : Nat} {imm : Bool} {o : Oper} {K : AV → zC → Prop} (hop : aop P (zH9 P n imm o) e H K) (h : HRel w X ρ H) (he : ER w X ρ H n e a) {next : Act → World → Prop} {Q : Exit → Act → World → Prop}
  (hn : Cont X w ρ H a o.dst K next) : o.wpIn (WR r) m0 P a w next Q := by
 unfold zH9 at hop
 cases hl : zDt P n imm o with
 | none => rw [hl] at hop; exact hop.1.elim
 | some lo =>
  rw [hl] at hop
  simp only [zYn] at hop
  have hnd := zJe hl
  by_cases hp : zCK lo = true
  ·obtain ⟨h1, h2⟩ := zNb hp hop
   obtain ⟨u, w', ρ', hr, g1, g2, g3⟩ := zMi hl hp h he h1
   refine zBD hnd ?_
   rcases hr with hr | ⟨hr, rfl⟩
   ·rw [hr]; exact hn _ _ _ _ _ h2 g1 g2 g3
   ·rw [hr]; exact hn _ _ _ _ _ h2 g1 g2 g3
  ·unfold zDt at hl
   cases ho : o.op <;> rw [ho] at hl <;> simp only at hl <;> first | (cases hl; done) | skip
   case pick c x y =>
    cases hc : lx n c <;> cases hx : lx n x <;> cases hy : lx n y <;> simp [hc, hx, hy] at hl
    subst hl
    have rc := zAm he hc
    have rx := zAm he hx
    have ry := zAm he hy
    simp only [aop] at hop
    refine zBD hnd ?_
    unfold execOp
    rw [ho]
    split at hop
    ·rename_i t htb
     rw [htb] at rc
     have hcv := zA0 rc
     split at hop
     ·rename_i hb
      subst hb
      simp only [hcv, asBool, Sem.run_bind, Sem.run_pure, Result.andThen_ok, if_true]
      exact hn _ _ _ _ _ hop h rx (Fut.refl _ _ _)
     ·rename_i hb
      have hb' : t = false := by simpa using hb
      subst hb'
      simp only [hcv, asBool, Sem.run_bind, Sem.run_pure, Result.andThen_ok, zXH, if_false]
      exact hn _ _ _ _ _ hop h ry (Fut.refl _ _ _)
    ·exact hop.elim
   case binOp op t x y yt =>
    unfold zJV at hl
    have bad : (match zHQ P t, lx n x, lx n y with | some kd, some x, some y => some (LOp.bin kd op x y) | _, _, _ => none) = some lo → False := by
     intro hl
     cases hk : zHQ P t <;> cases hx : lx n x <;> cases hy : lx n y <;> simp only [hk, hx, hy] at hl <;> first | (cases hl; done) | skip
     simp only [zXt] at hl
     subst hl
     simp [zCK] at hp
    cases hu : P.underlying t with
    | none => rw [hu] at hl; exact (bad hl).elim
    | some d =>
     rw [hu] at hl
     cases d <;> first | exact (bad hl).elim | skip
     case interface ms =>
      cases hq : zNo op <;> cases hx : lx n x <;> simp only [hq, hx] at hl <;> first | (cases hl; done) | skip
      split at hl
      ·simp only [zXt] at hl; subst hl; simp [zCK] at hp
      ·cases hl
     rename_i el
     cases hq : zNo op <;> cases hx : lx n x <;> simp only [hq, hx] at hl <;> first | (cases hl; done) | skip
     rename_i neg lxx
     split at hl
     ·rename_i hnc
      simp only [zXt] at hl
      subst hl
      obtain ⟨hs, hK⟩ := hop
      obtain ⟨b, l, c, hae, hnil⟩ := zKE h (zAm he hx) hs
      have hy : a.eval y = .slice none 0 0 := by
       cases y with
       | const v => cases v with
        | slice b l c => cases b <;> cases l <;> cases c <;> simp [zJ1] at hnc; rfl
        | _ => simp [zJ1] at hnc
       | _ => simp [zJ1] at hnc
      have hex : (execOp a.eval o).run P w = .ok (.value (.bool (b.isNone ^^ neg))) w := by
       unfold execOp
       rw [ho]
       cases op <;> simp [zNo] at hq <;> subst hq
       ·simp [hae, hy, eqGuard_at_slice, binOp, zIp hu]
       ·simp [hae, hy, eqGuard_at_slice, binOp, zIp hu]
      refine zBD hnd ?_
      rw [hex]
      exact hn _ _ _ _ _ (hK _ hnil) h (.v _ _) (Fut.refl _ _ _)
     ·cases hl
   case next x s =>
    cases s with
    | true => cases hl
    | false =>
     obtain ⟨y, h1, rfl⟩ := zAu hl
     obtain ⟨u', x', H', w', ρ', q1, q2, q3, q4, q5⟩ := zLC (P := P) (ty := o.type) h (zAm he h1) hop
     have hex : (execOp a.eval o).run P w = .ok (.value u') w' := by
      unfold execOp
      rw [ho]
      simp [q1]
     refine zBD hnd ?_
     rw [hex]
     exact hn _ _ _ _ _ q2 q3 q4 q5
   case call c =>
    obtain ⟨lo, hl, hop, hp⟩ : ∃ lo, zC5 P n c = some lo ∧ aop P lo e H K ∧ ¬ zCK lo = true := by
     split at hl
     ·rcases zGj hl with hq | ⟨f, g, m, h1, h2, h3, rfl⟩
      ·exact absurd hq hp
      ·exact ⟨.call g m, by unfold zC5; simp only [h1, h2, h3], hop, by simp [zCK]⟩
     ·exact ⟨lo, hl, hop, hp⟩
    obtain ⟨callee, args, tys⟩ := c
    unfold zC5 at hl
    cases callee with
    | value f =>
     simp only at hl
     cases hf : lx n f with
     | none => simp [hf] at hl
     | some g =>
      cases hm : lxs n args.toList with
      | none => simp [hf, hm] at hl
      | some m =>
       simp [hf, hm] at hl
       subst hl
       have rf := zAm he hf
       obtain ⟨hlen, hrep⟩ := zCg he _ _ hm
       simp only [aop] at hop
       cases hfv : ev e g with
       | fn fk first caps =>
        rw [hfv] at hop rf
        cases fk <;> simp only [zGl] at hop <;> first | exact hop.elim | skip
        rename_i k
        obtain ⟨⟨fn, hfn, hbody, hname⟩, hcall⟩ := hop
        generalize hfe : a.eval f = fv at rf
        cases rf with
        | fn _ _ _ _ fs us h1 h2 h3 h4 =>
         have hex : (execOp a.eval o).run P w = .ok (.enter k (fs ++ args.map a.eval ++ us)) w := by
          unfold execOp
          rw [ho]
          simp only [resolve, hfe, Deferred.ofValue, Sem.run_bind, Sem.run_pure, Result.andThen_ok, invoke, callFunc, run_program, hfn, hname, zXH, if_false, hbody]
         refine zBD hnd ?_
         rw [hex]
         refine ⟨zFd, zEV ((hcall X ρ w _ h ⟨?_, ?_⟩).mono ?_)⟩
         ·simp [h1, h2, hlen]
         ·intro i x u hx hu
          rw [zYm, zX8] at hx
          rw [zZy, zYo] at hu
          by_cases hi : i < first.length
          ·rw [if_pos hi] at hx
           rw [if_pos (by omega)] at hu
           exact h3 i x u hx hu
          ·rw [if_neg hi, zX8] at hx
           rw [if_neg (by omega), zYo] at hu
           simp only [zXr, zZV] at hx hu
           have hl2 : m.length = args.size := by simpa using hlen
           by_cases hj : i - first.length < m.length
           ·rw [if_pos hj] at hx
            rw [if_pos (by omega)] at hu
            exact hrep (i - first.length) x u hx (by rw [← h1] at hu; simpa using hu)
           ·rw [if_neg hj] at hx
            rw [if_neg (by omega)] at hu
            exact h4 (i - first.length - m.length) x u hx (by rw [← h1, ← hl2] at hu; exact hu)
         ·rintro en w' ⟨v, x, H', ρ', rfl, hK, g1, g2, g3⟩
          exact hn _ _ _ _ _ hK g1 g2 g3
       | v x =>
        rw [hfv] at hop rf
        have hfe := zA0 rf
        obtain ⟨l, rfl, hy⟩ := zR7 hop
        obtain ⟨fn', tmps, asg, bdy, hyr, hround⟩ := hy X ρ w (args.map a.eval) h ⟨by simp [hlen], fun i x u hx hu => hrep i x u hx (by simpa using hu)⟩
        have hex : (execOp a.eval o).run P w = .ok (.round l fn' tmps asg bdy) w := by
         unfold execOp
         rw [ho]
         simp only [resolve, hfe, Deferred.ofValue, Sem.run_bind, Sem.run_pure, Result.andThen_ok, invoke, callFunc, run_program]
         simpa using hyr
        refine zBD hnd ?_
        rw [hex]
        refine ⟨zFd, zKF (hround.mono ?_)⟩
        rintro en w' ⟨v, x, H', ρ', rfl, hK, g1, g2, g3⟩
        exact hn _ _ _ _ _ hK g1 g2 g3
       | _ => rw [hfv] at hop; exact hop.elim
    | invoke r m => simp at hl
    | builtin b =>
     refine absurd (show zJP (some lo) = true from ?_) hp
     rw [← hl]
     cases b <;> simp only <;> (repeat' split) <;> first | rfl | (cases zCF P _ <;> simp only [zZN, zZh] <;> (try split) <;> rfl)
   case unOp op t x => cases op <;> simp only at hl <;> first | (cases hl; done) | (obtain ⟨_, _, rfl⟩ := zAu hl; exact absurd rfl hp)
   case typeAssert x xt t ok =>
    cases ok with
    | false => cases hl
    | true =>
     simp only at hl
     cases hu : P.underlying t with
     | none => simp [hu] at hl
     | some d => cases hx : lx n x <;> cases hz : zBj P t <;> cases d <;> simp only [hu, hx, hz] at hl <;> first | (cases hl; done) | (cases hl; exact absurd rfl hp)
   case makeInterface t x =>
    refine absurd (show zJP (some lo) = true from ?_) hp
    cases hx : lx n x <;> cases hu : P.underlying t <;> simp only [hx, hu] at hl <;> first | (cases hl; done) | skip
    rw [← hl]
    split <;> rfl
   case makeMap t r => cases r <;> simp only at hl <;> first | (cases hl; done) | (cases hl; exact absurd rfl hp)
   case slice t x lo hi mx => cases mx <;> simp only at hl <;> first | (cases hl; done) | (refine absurd (show zJP (some _) = true from ?_) hp; rw [← hl]; (repeat' split) <;> first | rfl | (cases zCF P _ <;> first | rfl | (cases imm <;> rfl)))
   all_goals
    refine absurd (show zJP (some lo) = true from ?_) hp
    rw [← hl]
    (try unfold zFj); (try unfold zJU); (try unfold zFT)
    (repeat' split) <;> first | rfl | (cases lx n _ <;> rfl) | (cases zHi n _ _ <;> rfl) | (cases zHQ P _ <;> rfl) | (cases zFX P _ <;> rfl) | (cases zCF P _ <;> rfl)
end
structure DB where
 ds : List Deferred
 ok : Prop
section
variable {B : DB} {P : Program} {w w0 : World} {X : Nat → Prop} {ρ ρ0 : Nat → Loc} {H : zC} {e : Env} {a : Act} {n n0 : Nat}
def zRb (D : Nat) : Deferred := { target := .collected D, args := #[] }
def Mk (B : DB) (w0 w : World) (ρ : Nat → Loc) (n : Nat) (df : List Deferred) : Prop :=
 ∃ ds : List Nat, df = ds.map zRb ++ B.ds ∧ (B.ok ∨ ds = []) ∧ ds.Nodup ∧ ∀ D ∈ ds, w0.heap.size ≤ D ∧ D < w.heap.size ∧ ¬ Own ρ n D ∧ w.heap[D]? = some (.deferred (some []))
theorem Mk.fut {w' : World} {ρ' : Nat → Loc} {n' : Nat} {df : List Deferred} (h : Mk B w0 w ρ n df) (hf : Fut w ρ n w' ρ' n') : Mk B w0 w' ρ' n' df := by
 obtain ⟨ds, h1, h0, h2, h3⟩ := h
 refine ⟨ds, h1, h0, h2, fun D hD => ?_⟩
 obtain ⟨g1, g2, g3, g4⟩ := h3 D hD
 exact ⟨g1, zXN g2 hf.size, fun ho => (hf.own D ho).elim g3 fun h => by omega, by rw [hf.keep D g2 g3]; exact g4⟩
theorem Mk.nil {w0 w : World} {ρ : Nat → Loc} {n : Nat} : Mk B w0 w ρ n B.ds := ⟨[], rfl, .inr rfl, .nil, by simp⟩
def St (B : DB) (X : Nat → Prop) (w0 : World) (ρ0 : Nat → Loc) (n0 n : Nat) (e : Env) (H : zC) (a : Act) (w : World) : Prop :=
 a.tmps.size = n ∧ ∃ ρ, HRel w X ρ H ∧ ER w X ρ H n e a ∧ Fut w0 ρ0 n0 w ρ H.length ∧ Mk B w0 w ρ H.length a.defers
theorem zLN (a : Act) (d t : Nat) (u : Value) : (a.put (some d) u).tmps.getD t undef = if t = d ∧ d < a.tmps.size then u else a.tmps.getD t undef := by
 simp only [Act.put, zXX]
 by_cases h : t = d
 ·subst h
  by_cases h2 : t < a.tmps.size
  ·simp [h2]
  ·simp [h2]
 ·rw [zYq (fun e => h e.symm), if_neg (fun hh => h hh.1)]
theorem zUA {w' : World} {ρ' : Nat → Loc} {H' : zC} {d : Option Nat} {u : Value} {x : AV} (he : ER w X ρ H n e a) (hf : Fut w ρ H.length w' ρ' H'.length) (hx : Rep w' (Mut X ρ' H'.length) ρ' H'.length x u) (hn : a.tmps.size = n) :
  ER w' X ρ' H' n (ups e d x) (a.put d u) := by
 intro t ht
 cases d with
 | none => exact (he t ht).nextN hf
 | some d =>
  rw [zLN]
  simp only [ups, up]
  by_cases h : t = d
  ·subst h
   rw [if_pos rfl, if_pos ⟨rfl, by omega⟩]
   exact hx
  ·rw [if_neg h, if_neg (fun hh => h hh.1)]
   exact (he t ht).nextN hf
theorem zN0 (a : Act) (d : Option Nat) (u : Value) : (a.put d u).tmps.size = a.tmps.size := by
 cases d <;> simp [Act.put]
theorem zQR (a : Act) (d : Option Nat) (u : Value) : (a.put d u).defers = a.defers := by
 cases d <;> rfl
theorem St.put {w' : World} {H' : zC} {ρ' : Nat → Loc} {d : Option Nat} {u : Value} {x : AV} (hm : Mk B w0 w ρ H.length a.defers) (hs : a.tmps.size = n) (he : ER w X ρ H n e a) (h0 : Fut w0 ρ0 n0 w ρ H.length) (g1 : HRel w' X ρ' H')
  (g2 : Rep w' (Mut X ρ' H'.length) ρ' H'.length x u) (g3 : Fut w ρ H.length w' ρ' H'.length) : St B X w0 ρ0 n0 n (ups e d x) H' (a.put d u) w' :=
 ⟨by rw [zN0]; exact hs, ρ', g1, zUA he g3 g2 hs, h0.trans g3, by rw [zQR]; exact hm.fut g3⟩
theorem zKw {t : Nat} {x : AV} (h : e t = x) : up e t x = e := by
 funext u
 simp only [up]
 split
 ·rename_i hu; rw [hu, h]
 ·rfl
theorem zMB {d : Option Nat} {op : LOp} (h : zRt d op = true) : ∃ t, d = some t ∧ (op = .frz (.t t) ∨ (∃ sz off, op = .frzf sz off (.t t)) ∨ ∃ sz, op = .own sz (.t t)) := by
 cases op <;> simp [zRt] at h
 case frz x => cases x <;> simp at h; exact ⟨_, h, .inl rfl⟩
 case own sz x => cases x <;> simp at h; exact ⟨_, h, .inr (.inr ⟨sz, rfl⟩)⟩
 case frzf sz off x => cases x <;> simp at h; exact ⟨_, h, .inr (.inl ⟨sz, off, rfl⟩)⟩
theorem zAt : ∀ (gs : List LO) {los : List LO} {e : Env} {H : zC} {K : Env → zC → Prop}, zCW n gs = true → zA8 P (gs ++ los) e H K → St B X w0 ρ0 n0 n e H a w → ∃ e' H', zA8 P los e' H' K ∧ St B X w0 ρ0 n0 n e' H' a w
 | [], _, e, H, _, _, h, hst => ⟨e, H, h, hst⟩
 | g :: gs, los, e, H, K, hg, h, ⟨hn, ρ, hrel, he, hf, hm⟩ => by
  simp only [zCW, zZL, zXE] at hg
  obtain ⟨⟨⟨g1, g2⟩, g3⟩, g4⟩ := hg
  obtain ⟨d, gg, op⟩ := g
  cases gg with
  | some _ => simp at g1
  | none =>
   obtain ⟨t, rfl, hop⟩ := zMB g2
   have ht : t < n := by simpa using g3
   have hput : ∀ (w' : World) (ρ' : Nat → Loc) (H' : zC) (x : AV), Fut w ρ H.length w ρ' H'.length → HRel w X ρ' H' → Rep w (Mut X ρ' H'.length) ρ' H'.length x (a.tmps.getD t undef) → St B X w0 ρ0 n0 n (up e t x) H' a w := by
    intro w' ρ' H' x f1 f2 f3
    refine ⟨hn, ρ', f2, fun u hu => ?_, hf.trans f1, hm.fut f1⟩
    simp only [up]
    split
    ·rename_i hut; rw [hut]; exact f3
    ·exact (he u hu).nextN f1
   rcases hop with rfl | ⟨sz, off, rfl⟩ | ⟨sz, rfl⟩
   ·obtain ⟨h1, h2⟩ := h
    obtain ⟨ρ', f1, f2, f3⟩ := zIX hrel (he t ht) h1
    exact zAt gs g4 h2 (hput w ρ' _ _ f3 f1 f2)
   ·obtain ⟨h1, h2⟩ := h
    obtain ⟨ρ', f1, f2, f3⟩ := zNK hrel (he t ht) h1
    exact zAt gs g4 h2 (hput w ρ' _ _ f3 f1 f2)
   ·obtain ⟨h1, h2⟩ := h
    obtain ⟨ρ', f1, f2, f3⟩ := zQg hrel (he t ht) h1
    exact zAt gs g4 h2 (hput w ρ' _ _ f3 f1 f2)
def zBO (g : Option (Nat × Bool)) (e : Env) : Option Bool :=
 match g with
 | none => some true
 | some (t, want) => match e t with
  | .v (.bool b) => some (b == want)
  | .v (.tuple _) => some false
  | _ => none
theorem zEG {ops : Array Oper} {o : Oper} {g : Option (Nat × Bool)} {b : Bool} (hg : zUh ops n o.guard = some g) (he : ER w X ρ H n e a) (hn : a.tmps.size = n) (hw : zBO g e = some b) : Region.wanted o (yielded ops a.tmps) = b := by
 unfold zUh at hg
 cases hog : o.guard with
 | none =>
  rw [hog] at hg
  simp at hg
  subst hg
  simp [zBO] at hw
  subst hw
  simp [Region.wanted, hog]
 | some jw =>
  obtain ⟨j, want⟩ := jw
  rw [hog] at hg
  simp only at hg
  cases hd : (ops[j]?).bind (·.dst) with
  | none => simp [hd] at hg
  | some t =>
   simp only [hd] at hg
   by_cases ht : t < n
   ·rw [if_pos ht] at hg
    simp only [zXt] at hg
    subst hg
    simp only [zBO] at hw
    have hr := he t ht
    have hget : a.tmps[t]? = some (a.tmps.getD t undef) := by
     have : t < a.tmps.size := by rw [hn]; exact ht
     simp [this]
    simp only [Region.wanted, hog, yielded, hd, zZh, hget]
    cases het : e t with
    | v x =>
     rw [het] at hr hw
     have := zA0 hr
     rw [this]
     cases x <;> simp at hw
     case bool c => subst hw; cases c <;> cases want <;> rfl
     case tuple us => subst hw; rfl
    | _ => rw [het] at hw; simp at hw
   ·rw [if_neg ht] at hg; cases hg
theorem zED {o : LO} {l : List LO} {K : Env → zC → Prop} (h : zA8 P (o :: l) e H K) :
  (zBO o.g e = some true ∧ aop P o.op e H fun x H' => zA8 P l (ups e o.d x) H' K) ∨ (zBO o.g e = some false ∧ zA8 P l (ups e o.d zAJ) H K) := by
 simp only [zA8] at h
 cases hg : o.g with
 | none => rw [hg] at h; exact .inl ⟨rfl, h⟩
 | some tw =>
  obtain ⟨t, want⟩ := tw
  rw [hg] at h
  simp only at h
  cases het : e t with
  | v x =>
   rw [het] at h
   cases x <;> simp only at h <;> first | exact h.elim | skip
   case bool b =>
    have hu : up e t (bool b) = e := zKw het
    cases b <;> cases want <;> simp only [hu, if_true, zXH, if_false, zBO, het] at h ⊢ <;> first | exact .inl ⟨rfl, h⟩ | exact .inr ⟨rfl, h⟩
   case tuple us => exact .inr ⟨by simp [zBO, het], h⟩
  | _ => rw [het] at h; exact h.elim
theorem zGz {imm : Bool} {ops : Array Oper} {o : Oper} {lo : LO} (h : zBF P n imm ops o = some lo) : lo.d = o.dst ∧ zUh ops n o.guard = some lo.g ∧ lo.op = zH9 P n imm o := by
 unfold zBF at h
 cases hg : zUh ops n o.guard with
 | none => simp [hg] at h
 | some g =>
  simp only [hg] at h
  split at h
  ·simp only [zXt] at h
   subst h
   exact ⟨rfl, rfl, rfl⟩
  ·cases h
theorem zCL {r : Option Nat} {m0 : Nat} {imm : Bool} {ops : Array Oper} {o : Oper} {lo : LO} {l : List LO} {K : Env → zC → Prop} (hl : zBF P n imm ops o = some lo) (h : zA8 P (lo :: l) e H K) (hst : St B X w0 ρ0 n0 n e H a w) {next : Act → World → Prop} {Q : Exit → Act → World → Prop}
  (hn : ∀ e' H' a' w', zA8 P l e' H' K → St B X w0 ρ0 n0 n e' H' a' w' → next a' w') :
  if Region.wanted o (yielded ops a.tmps) then o.wpIn (WR r) m0 P a w next Q else (∀ f, o.about P w a.eval = some f → (WR r).fn f) ∧ next (a.put o.dst undef) w := by
 obtain ⟨hd, hg, hop⟩ := zGz hl
 obtain ⟨h2, ρ, hrel, he, hf, hm⟩ := hst
 rcases zED h with ⟨hw, h⟩ | ⟨hw, h⟩
 ·rw [zEG hg he h2 hw, if_pos rfl]
  rw [hop] at h
  refine zNa h hrel he fun u x H' ρ' w' hK g1 g2 g3 => hn _ _ _ _ hK ?_
  rw [hd]
  exact St.put hm h2 he hf g1 g2 g3
 ·rw [zEG hg he h2 hw, if_neg (by simp)]
  refine ⟨fun _ _ => trivial, hn _ _ _ _ h ?_⟩
  rw [hd]
  exact St.put hm h2 he hf hrel (.v _ _) (Fut.refl _ _ _)
theorem zH0 {r : Option Nat} {m0 : Nat} {hs : List Hn} {reg : Nat} {ops : Array Oper} {K : Env → zC → Prop} {Q : Exit → Act → World → Prop} (hQ : ∀ e' H' a' w', K e' H' → St B X w0 ρ0 n0 n e' H' a' w' → Q .normal a' w') :
  ∀ (l : List Oper) (i : Nat) (los : List LO) (e : Env) (H : zC) (a : Act) (w : World), zCU P n hs reg ops i l = some los → zA8 P los e H K → St B X w0 ρ0 n0 n e H a w → wpListIn (WR r) m0 P ops Q l a w
 | [], i, los, e, H, a, w, hl, h, hst => by
  unfold zCU at hl
  split at hl
  ·rename_i hg
   simp only [zXt] at hl
   subst hl
   obtain ⟨e', H', h', hst'⟩ := zAt (zAF hs reg i) (los := []) hg (by simpa using h) hst
   exact hQ _ _ _ _ h' hst'
  ·cases hl
 | o :: l, i, los, e, H, a, w, hl, h, hst => by
  unfold zCU at hl
  cases h1 : zBF P n (zCV hs reg i) ops o with
  | none => simp [h1] at hl
  | some lo =>
   cases h2 : zCU P n hs reg ops (i + 1) l with
   | none => simp [h1, h2] at hl
   | some m =>
    simp only [h1, h2] at hl
    split at hl
    ·rename_i hg
     simp only [zXt] at hl
     subst hl
     obtain ⟨e', H', h', hst'⟩ := zAt (zAF hs reg i) hg h hst
     have := zCL (r := r) (m0 := m0) h1 h' hst' (next := wpListIn (WR r) m0 P ops Q l) (Q := Q) fun e'' H'' a'' w'' hK hs'' => zH0 hQ l (i + 1) m e'' H'' a'' w'' h2 hK hs''
     unfold wpListIn
     exact this
    ·cases hl
theorem zB3 {ops : Array Oper} {o : Oper} (h : o.guard = none) (tmps : Array Value) : Region.wanted o (yielded ops tmps) = true := by simp [Region.wanted, h]
theorem zGS {r : Option Nat} {m0 : Nat} {o : Oper} {f : Operand} {args : Array Operand} {tys : Array TypeId} {g : LX} {m : List LX} {K : AV → zC → Prop} {Z : Value → zC → Prop} (ho : o.op = .call ⟨.value f, args, tys⟩) (hf : lx n f = some g) (hm : lxs n args.toList = some m)
  (h : zEc P (ev e g) (m.map (ev e)) H K Z) (hst : St B X w0 ρ0 n0 n e H a w) {next : Act → World → Prop} {Q : Exit → Act → World → Prop}
  (hn : ∀ x H' a' w', K x H' → St B X w0 ρ0 n0 n (ups e o.dst x) H' a' w' → next a' w') (hp : ∀ v H' a' w', Z v H' → St B X w0 ρ0 n0 n e H' a' w' → Q (.panic [{ v, recovered := false }]) a' w') :
  o.wpIn (WR r) m0 P a w next Q := by
 obtain ⟨h2, ρ, hrel, he, hfu, hmk⟩ := hst
 have rf := zAm he hf
 obtain ⟨hlen, hrep⟩ := zCg he _ _ hm
 simp only [zEc] at h
 cases hfv : ev e g with
 | fn fk first caps =>
  rw [hfv] at h rf
  cases fk <;> simp only at h <;> first | exact h.elim | skip
  rename_i k
  obtain ⟨⟨fn, hfn, hbody, hname⟩, hcall⟩ := h
  generalize hfe : a.eval f = fv at rf
  cases rf with
  | fn _ _ _ _ fs us h1 h2' h3 h4 =>
   have hex : (execOp a.eval o).run P w = .ok (.enter k (fs ++ args.map a.eval ++ us)) w := by
    unfold execOp
    rw [ho]
    simp only [resolve, hfe, Deferred.ofValue, Sem.run_bind, Sem.run_pure, Result.andThen_ok, invoke, callFunc, run_program, hfn, hname, zXH, if_false, hbody]
   refine zBD (by rw [ho]; intro c' hc; cases hc) ?_
   rw [hex]
   refine ⟨zFd, zEV ((hcall X ρ w _ hrel ⟨?_, ?_⟩).mono ?_)⟩
   ·simp [h1, h2', hlen]
   ·intro i x u hx hu
    rw [zYm, zX8] at hx
    rw [zZy, zYo] at hu
    by_cases hi : i < first.length
    ·rw [if_pos hi] at hx
     rw [if_pos (by omega)] at hu
     exact h3 i x u hx hu
    ·rw [if_neg hi, zX8] at hx
     rw [if_neg (by omega), zYo] at hu
     simp only [zXr, zZV] at hx hu
     have hl2 : m.length = args.size := by simpa using hlen
     by_cases hj : i - first.length < m.length
     ·rw [if_pos hj] at hx
      rw [if_pos (by omega)] at hu
      exact hrep (i - first.length) x u hx (by rw [← h1] at hu; simpa using hu)
     ·rw [if_neg hj] at hx
      rw [if_neg (by omega)] at hu
      exact h4 (i - first.length - m.length) x u hx (by rw [← h1, ← hl2] at hu; exact hu)
   ·rintro en w' (⟨v, x, H', ρ', rfl, hK, g1, g2, g3⟩ | ⟨z, H', ρ', rfl, hK, g1, g3⟩)
    ·exact hn _ _ _ _ hK (St.put hmk h2 he hfu g1 g2 g3)
    ·exact hp _ _ _ _ hK ⟨h2, ρ', g1, fun t ht => (he t ht).nextN g3, hfu.trans g3, hmk.fut g3⟩
 | _ => rw [hfv] at h; exact h.elim
theorem zOC {r : Option Nat} {m0 : Nat} {ops : Array Oper} {o : Oper} {c : LCode} {K : Out → Env → zC → Prop} (hl : zMk n o = some c) (h : awp P c e H K) (hst : St B X w0 ρ0 n0 n e H a w) {next : Act → World → Prop} {Q : Exit → Act → World → Prop}
  (hn : ∀ e' H' a' w', K .normal e' H' → St B X w0 ρ0 n0 n e' H' a' w' → next a' w') (hp : ∀ v e' H' a' w', K (.pan v) e' H' → St B X w0 ρ0 n0 n e' H' a' w' → Q (.panic [{ v, recovered := false }]) a' w') :
  Region.wanted o (yielded ops a.tmps) = true ∧ o.wpIn (WR r) m0 P a w next Q := by
 unfold zMk at hl
 split at hl
 ·rename_i f args tys ho hg
  refine ⟨zB3 hg _, ?_⟩
  cases hf : lx n f with
  | none => simp [hf] at hl
  | some g =>
   cases hm : lxs n args.toList with
   | none => simp [hf, hm] at hl
   | some m =>
    simp only [hf, hm] at hl
    split at hl
    ·simp only [zXt] at hl
     subst hl
     exact zGS ho hf hm h hst (fun x H' a' w' hK hs' => hn _ _ _ _ hK hs') fun v H' a' w' hK hs' => hp _ _ _ _ _ hK hs'
    ·cases hl
 ·cases hl
theorem zN6 {r : Option Nat} {m0 : Nat} {ops : Array Oper} {o q : Oper} {l : List Oper} {c : LCode} {K : Out → Env → zC → Prop} (hl : zMh P n o q = some c) (h : awp P c e H K) (hst : St B X w0 ρ0 n0 n e H a w) {Q : Exit → Act → World → Prop}
  (hp : ∀ v e' H' a' w', K (.pan v) e' H' → St B X w0 ρ0 n0 n e' H' a' w' → Q (.panic [{ v, recovered := false }]) a' w') : wpListIn (WR r) m0 P ops Q (o :: q :: l) a w := by
 unfold zMh at hl
 split at hl
 ·rename_i t x d d' ho hg hd hq hqg
  split at hl
  ·rename_i x' u hx hu
   split at hl
   ·rename_i hc
    obtain ⟨rfl, hdn, hni⟩ := hc
    simp only [zXt] at hl
    subst hl
    simp only [awp] at h
    obtain ⟨v, hv, hK⟩ := h
    obtain ⟨h2, ρ, hrel, he, hfu, hmk⟩ := hst
    have hxv := zJB hv (zAm he hx)
    unfold wpListIn
    rw [if_pos (zB3 hg _)]
    refine zBD (by rw [ho]; intro c' hc; cases hc) ?_
    have hex : (execOp a.eval o).run P w = .ok (.value (.iface t v)) w := by
     unfold execOp
     rw [ho]
     cases u <;> simp [zFi] at hni <;> simp [Instr.makeInterface, run_underlying hu, hxv]
    rw [hex]
    show wpListIn (WR r) m0 P ops Q (q :: l) (a.put o.dst (.iface t v)) w
    unfold wpListIn
    rw [if_pos (zB3 hqg _)]
    refine zBD (by rw [hq]; intro c' hc; cases hc) ?_
    have hget : (a.put o.dst (.iface t v)).eval (.tmp d) = .iface t v := by
     rw [hd]
     show (a.put (some d) _).tmps.getD d undef = _
     rw [zLN, if_pos ⟨rfl, by rw [h2]; exact hdn⟩]
    have hex2 : (execOp (a.put o.dst (.iface t v)).eval q).run P w = .halt (.panic (.iface t v)) w := by
     unfold execOp
     rw [hq]
     simp only [hget]
     simp [Instr.panic, goPanic]
    rw [hex2]
    have hst' := St.put (B := B) (d := some d) (u := .iface t v) (x := .v (.iface t v)) hmk h2 he hfu hrel (.v _ _) (Fut.refl _ _ _)
    rw [← hd] at hst'
    refine hp _ _ H _ _ hK ?_
    rw [hd] at hst' ⊢
    exact hst'
   ·cases hl
  ·cases hl
 ·cases hl
def zHw : LOp → Bool
 | .call _ _ => true
 | .panicv _ => true
 | _ => false
def zDc : Option LOp → Bool
 | some lo => zHw lo
 | none => false
theorem zFR {imm : Bool} {o : Oper} {lo : LOp} (hl : zDt P n imm o = some lo) (hc : zHw lo = true) : (∃ c, o.op = .call c ∧ (if imm = true then zCI P n c else zC5 P n c) = some lo) ∨ ∃ x, o.op = .panic x ∧ (lx n x).map LOp.panicv = some lo := by
 have hp : ¬ zDc (some lo) = false := by simp [zDc, hc]
 unfold zDt at hl
 cases ho : o.op <;> rw [ho] at hl <;> simp only at hl <;> first | (cases hl; done) | skip
 case call c => exact .inl ⟨c, rfl, by cases imm <;> exact hl⟩
 case panic x => exact .inr ⟨x, rfl, hl⟩
 case unOp op t x => cases op <;> simp only at hl <;> first | (cases hl; done) | (obtain ⟨_, _, rfl⟩ := zAu hl; exact absurd rfl hp)
 case makeMap t r => cases r <;> simp only at hl <;> first | (cases hl; done) | (cases hl; exact absurd rfl hp)
 case next x s => cases s <;> simp only at hl <;> first | (cases hl; done) | (obtain ⟨_, _, rfl⟩ := zAu hl; exact absurd rfl hp)
 case typeAssert x xt t ok =>
  cases ok with
  | false => cases hl
  | true =>
   simp only at hl
   cases hu : P.underlying t with
   | none => simp [hu] at hl
   | some d => cases hx : lx n x <;> cases hz : zBj P t <;> cases d <;> simp only [hu, hx, hz] at hl <;> first | (cases hl; done) | (cases hl; exact absurd rfl hp)
 case makeInterface t x =>
  refine absurd ?_ hp
  cases hx : lx n x <;> cases hu : P.underlying t <;> simp only [hx, hu] at hl <;> first | (cases hl; done) | skip
  rw [← hl]
  split <;> rfl
 case slice t x lo hi mx => cases mx <;> simp only at hl <;> first | (cases hl; done) | (refine absurd ?_ hp; rw [← hl]; (repeat' split) <;> first | rfl | (cases zCF P _ <;> first | rfl | (cases imm <;> rfl)))
 case binOp op t x y yt =>
  refine absurd ?_ hp
  rw [← hl]
  unfold zJV
  (repeat' split) <;> rfl
 all_goals
  refine absurd ?_ hp
  rw [← hl]
  (try unfold zFj); (try unfold zJU); (try unfold zFT)
  (repeat' split) <;> first | rfl | (cases lx n _ <;> rfl) | (cases zHi n _ _ <;> rfl) | (cases zHQ P _ <;> rfl) | (cases zFX P _ <;> rfl) | (cases zCF P _ <;> rfl)
theorem zGy {imm : Bool} {o : Oper} {lo : LOp} (h : zH9 P n imm o = lo) (hb : lo ≠ .bad) : zDt P n imm o = some lo := by
 unfold zH9 at h
 cases hl : zDt P n imm o with
 | none => rw [hl] at h; exact absurd h.symm hb
 | some l => rw [hl] at h; exact congrArg some h
theorem zFU {c : Call} {lo : LOp} (h : zCI P n c = some lo) : zDc (some lo) = false := by
 rw [← h]
 unfold zCI
 (repeat' split) <;> rfl
theorem zKM {imm : Bool} {o : Oper} {f : LX} {args : List LX} (h : zH9 P n imm o = .call f args) : ∃ f' args' tys, o.op = .call ⟨.value f', args', tys⟩ ∧ lx n f' = some f ∧ lxs n args'.toList = some args := by
 rcases zFR (zGy h (by simp)) rfl with ⟨c, ho, hc⟩ | ⟨x, _, hx⟩
 ·cases imm with
  | true => exact absurd (zFU (by simpa using hc)) (by simp [zDc, zHw])
  | false =>
   simp only [zXH, if_false] at hc
   obtain ⟨callee, az, tys⟩ := c
   unfold zC5 at hc
   cases callee with
   | value f' =>
    simp only at hc
    cases hf : lx n f' <;> cases hm : lxs n az.toList <;> simp only [hf, hm] at hc <;> first | (cases hc; done) | skip
    simp only [zXt, LOp.call.injEq] at hc
    exact ⟨f', az, tys, ho, by rw [hf, hc.1], by rw [hm, hc.2]⟩
   | invoke r m => simp at hc
   | builtin b =>
    exfalso
    have : zDc (some (LOp.call f args)) = false := by
     rw [← hc]
     cases b
     all_goals (try simp only)
     all_goals (repeat' split)
     all_goals first | rfl | (cases zCF P _ <;> (try simp only [zZN, zZh]) <;> (try split) <;> rfl)
    cases this
 ·obtain ⟨_, _, h2⟩ := zAu hx
  cases h2
theorem zJg {imm : Bool} {o : Oper} {x : LX} (h : zH9 P n imm o = .panicv x) : ∃ ao, o.op = .panic ao ∧ lx n ao = some x := by
 rcases zFR (zGy h (by simp)) rfl with ⟨c, ho, hc⟩ | ⟨y, ho, hx⟩
 ·exfalso
  cases imm with
  | true => exact absurd (zFU (by simpa using hc)) (by simp [zDc, zHw])
  | false =>
   simp only [zXH, if_false] at hc
   obtain ⟨callee, az, tys⟩ := c
   unfold zC5 at hc
   cases callee with
   | value f' =>
    simp only at hc
    cases hf : lx n f' <;> cases hm : lxs n az.toList <;> simp only [hf, hm] at hc <;> cases hc
   | invoke r m => simp at hc
   | builtin b =>
    have : zDc (some (LOp.panicv x)) = false := by
     rw [← hc]
     cases b
     all_goals (try simp only)
     all_goals (repeat' split)
     all_goals first | rfl | (cases zCF P _ <;> (try simp only [zZN, zZh]) <;> (try split) <;> rfl)
    cases this
 ·obtain ⟨a, h1, h2⟩ := zAu hx
  simp only [LOp.panicv.injEq] at h2
  exact ⟨y, ho, by rw [h1, h2]⟩
theorem zFx {g : Option (Nat × Bool)} {A B' : Prop} (h : zGh g e A B') : (zBO g e = some true ∧ A) ∨ (zBO g e = some false ∧ B') := by
 unfold zGh at h
 cases g with
 | none => exact .inl ⟨rfl, h⟩
 | some p =>
  obtain ⟨t, want⟩ := p
  simp only at h
  cases het : e t with
  | v x =>
   rw [het] at h
   cases x <;> simp only at h <;> first | exact h.elim | skip
   case bool b =>
    cases b <;> cases want <;> simp [zBO, het] at h ⊢ <;> exact h
   case tuple us => exact .inr ⟨by simp [zBO, het], h⟩
  | _ => rw [het] at h; exact h.elim
theorem zLs {r : Option Nat} {m0 : Nat} {imm c : Bool} {ops : Array Oper} {o : Oper} {lo : LO} {K : Env → zC → Prop} {Z : Value → zC → Prop} (hl : zBF P n imm ops o = some lo) (h : aTI P c lo e H K Z) (hst : St B X w0 ρ0 n0 n e H a w) {next : Act → World → Prop} {Q : Exit → Act → World → Prop}
  (hn : ∀ e' H' a' w', K e' H' → St B X w0 ρ0 n0 n e' H' a' w' → next a' w') (hp : ∀ v H' a' w', Z v H' → St B X w0 ρ0 n0 n e H' a' w' → Q (.panic [{ v, recovered := false }]) a' w') :
  if Region.wanted o (yielded ops a.tmps) then o.wpIn (WR r) m0 P a w next Q else (∀ f, o.about P w a.eval = some f → (WR r).fn f) ∧ next (a.put o.dst undef) w := by
 obtain ⟨hd, hg, hop⟩ := zGz hl
 unfold aTI at h
 split at h
 ·rename_i f args hf
  rw [hop] at hf
  obtain ⟨f', args', tys, ho, h1, h2⟩ := zKM hf
  have hst' := hst
  obtain ⟨h3, ρ, hrel, he, hfu, hm⟩ := hst'
  rcases zFx h with ⟨hw, h⟩ | ⟨hw, h⟩
  ·rw [zEG hg he h3 hw, if_pos rfl]
   refine zGS ho h1 h2 h hst (fun x H' a' w' hK hs' => hn _ _ _ _ hK ?_) hp
   rw [hd]
   exact hs'
  ·rw [zEG hg he h3 hw, if_neg (by simp)]
   refine ⟨fun _ _ => trivial, hn _ _ _ _ h ?_⟩
   rw [hd]
   exact St.put hm h3 he hfu hrel (.v _ _) (Fut.refl _ _ _)
 ·rename_i x hf
  rw [hop] at hf
  obtain ⟨ao, ho, h2⟩ := zJg hf
  have hst' := hst
  obtain ⟨h3, ρ, hrel, he, hfu, hm⟩ := hst'
  rcases zFx h with ⟨hw, t, z, hz, h⟩ | ⟨hw, h⟩
  ·rw [zEG hg he h3 hw, if_pos rfl]
   refine zBD (by rw [ho]; intro c' hc; cases hc) ?_
   have hr := zAm he h2
   rw [hz] at hr
   have hv := zA0 hr
   have hex2 : (execOp a.eval o).run P w = .halt (.panic (.iface t z)) w := by
    unfold execOp
    rw [ho]
    simp [Instr.panic, hv, goPanic]
   rw [hex2]
   exact hp _ _ _ _ h hst
  ·rw [zEG hg he h3 hw, if_neg (by simp)]
   refine ⟨fun _ _ => trivial, hn _ _ _ _ h ?_⟩
   rw [hd]
   exact St.put hm h3 he hfu hrel (.v _ _) (Fut.refl _ _ _)
 ·exact zCL hl h hst fun e' H' a' w' hK hs' => hn e' H' a' w' (by simpa only [zA8] using hK) hs'
theorem zDP {r : Option Nat} {m0 : Nat} {hs : List Hn} {reg : Nat} {ops : Array Oper} {K : Out → Env → zC → Prop} {Q : Exit → Act → World → Prop} (hQ : ∀ e' H' a' w', K .normal e' H' → St B X w0 ρ0 n0 n e' H' a' w' → Q .normal a' w')
  (hp : ∀ v e' H' a' w', K (.pan v) e' H' → St B X w0 ρ0 n0 n e' H' a' w' → Q (.panic [{ v, recovered := false }]) a' w') :
  ∀ (l : List Oper) (i : Nat) (lc : LCode) (e : Env) (H : zC) (a : Act) (w : World), zEf P n hs reg ops i l = some lc → awp P lc e H K → St B X w0 ρ0 n0 n e H a w → wpListIn (WR r) m0 P ops Q l a w
 | [], i, lc, e, H, a, w, hl, h, hst => by
  unfold zEf at hl
  split at hl
  ·rename_i hg
   simp only [zXt] at hl
   subst hl
   simp only [awp] at h
   obtain ⟨e', H', h', hst'⟩ := zAt (zAF hs reg i) (los := []) hg (by simpa using h) hst
   exact hQ _ _ _ _ h' hst'
  ·cases hl
 | o :: l, i, lc, e, H, a, w, hl, h, hst => by
  unfold zEf at hl
  split at hl
  ·rename_i hg
   split at hl
   ·split at hl
    ·rename_i c m hc hm
     simp only [zXt] at hl
     subst hl
     simp only [awp] at h
     obtain ⟨e', H', h', hst'⟩ := zAt (zAF hs reg i) (los := []) hg (by simpa using h) hst
     simp only [zA8] at h'
     obtain ⟨hw, hx⟩ := zOC (r := r) (m0 := m0) (ops := ops) (next := wpListIn (WR r) m0 P ops Q l) (Q := Q) hc h' hst' (fun e2 H2 a2 w2 hk hs2 => zDP hQ hp l (i + 1) m e2 H2 a2 w2 hm hk hs2) (fun v e2 H2 a2 w2 hk hs2 => hp v e2 H2 a2 w2 hk hs2)
     unfold wpListIn
     rw [if_pos hw]
     exact hx
    ·split at hl
     ·rename_i c hc
      simp only [zXt] at hl
      subst hl
      cases l with
      | nil => cases hc
      | cons q l' =>
       simp only [awp] at h
       obtain ⟨e', H', h', hst'⟩ := zAt (zAF hs reg i) (los := []) hg (by simpa using h) hst
       simp only [zA8] at h'
       exact zN6 hc h' hst' hp
     ·split at hl
      ·rename_i lo m h1 h2
       split at hl
       ·simp only [zXt] at hl
        subst hl
        simp only [awp] at h
        obtain ⟨e', H', h', hst'⟩ := zAt (zAF hs reg i) (los := []) hg (by simpa using h) hst
        simp only [zA8] at h'
        have := zLs (r := r) (m0 := m0) h1 h' hst' (next := wpListIn (WR r) m0 P ops Q l) (Q := Q) (fun e'' H'' a'' w'' hK hs'' => zDP hQ hp l (i + 1) m e'' H'' a'' w'' h2 hK hs'') fun v H' a' w' hK hs' => hp v _ _ _ _ hK hs'
        unfold wpListIn
        exact this
       ·cases hl
      ·cases hl
   ·split at hl
    ·rename_i lo m h1 h2
     simp only [zXt] at hl
     subst hl
     simp only [awp] at h
     obtain ⟨e', H', h', hst'⟩ := zAt (zAF hs reg i) hg h hst
     have := zCL (r := r) (m0 := m0) h1 h' hst' (next := wpListIn (WR r) m0 P ops Q l) (Q := Q) fun e'' H'' a'' w'' hK hs'' => zDP hQ hp l (i + 1) m e'' H'' a'' w'' h2 (by simpa only [zA8] using hK) hs''
     unfold wpListIn
     exact this
    ·cases hl
  ·cases hl
end
section edges
variable {ops : Array Oper}
def stp (acc : Array Nat) (o : Oper) : Nat := o.after.foldl (fun s e => if Region.binds .any e then s ||| 2 ^ e.on ||| acc.getD e.on 0 else s) 0
theorem zJH (acc : Array Nat) (i : Nat) : ∀ (l : List Edge) (s : Nat), (l.foldl (fun s e => if Region.binds .any e then s ||| 2 ^ e.on ||| acc.getD e.on 0 else s) s).testBit i = true →
  s.testBit i = true ∨ ∃ e ∈ l, Region.binds .any e = true ∧ (e.on = i ∨ (acc.getD e.on 0).testBit i = true)
 | [], s, h => .inl h
 | e :: l, s, h => by
  simp only [zZg] at h
  rcases zJH acc i l _ h with h1 | ⟨e', h1, h2⟩
  ·split at h1
   ·rename_i hb
    rw [Nat.testBit_or, Nat.testBit_or, Nat.testBit_two_pow] at h1
    simp only [zYS, zXB] at h1
    rcases h1 with (h1 | h1) | h1
    ·exact .inl h1
    ·exact .inr ⟨e, by simp, hb, .inl h1⟩
    ·exact .inr ⟨e, by simp, hb, .inr h1⟩
   ·exact .inl h1
  ·exact .inr ⟨e', by simp [h1], h2⟩
theorem zIh : ∀ (l : List Oper) (acc : Array Nat),
  (l.foldl (fun acc o => acc.push (stp acc o)) acc).size = acc.size + l.length ∧ (∀ k, k < acc.size → (l.foldl (fun acc o => acc.push (stp acc o)) acc).getD k 0 = acc.getD k 0) ∧
  ∀ k o, l[k]? = some o → ∃ acc' : Array Nat, acc'.size = acc.size + k ∧ (∀ m, m < acc.size + k → acc'.getD m 0 = (l.foldl (fun acc o => acc.push (stp acc o)) acc).getD m 0) ∧ (l.foldl (fun acc o => acc.push (stp acc o)) acc).getD (acc.size + k) 0 = stp acc' o
 | [], acc => ⟨rfl, fun _ _ => rfl, fun k o h => by simp at h⟩
 | x :: l, acc => by
  obtain ⟨h1, h2, h3⟩ := zIh l (acc.push (stp acc x))
  simp only [zZg, Array.size_push] at h1 h2 h3 ⊢
  have hp : ∀ k, k < acc.size → (acc.push (stp acc x)).getD k 0 = acc.getD k 0 := by
   intro k hk
   simp only [zXX, Array.getElem?_push]
   rw [if_neg (by omega)]
  refine ⟨by rw [h1]; simp; omega, fun k hk => by rw [h2 k (by omega), hp k hk], fun k o ho => ?_⟩
  cases k with
  | zero =>
   simp at ho
   subst ho
   refine ⟨acc, rfl, fun m hm => by rw [h2 m (by omega), hp m (by omega)], ?_⟩
   rw [zYr, h2 _ (by omega)]
   simp [zXX]
  | succ k =>
   obtain ⟨acc', g1, g2, g3⟩ := h3 k o (by simpa using ho)
   exact ⟨acc', by omega, fun m hm => g2 m (by omega), by rw [show acc.size + (k + 1) = acc.size + 1 + k by omega]; exact g3⟩
theorem zJu {j : Nat} {oj : Oper} (hj : ops[j]? = some oj) {i : Nat} (h : ((Region.before ops).getD j 0).testBit i = true) :
  ∃ e ∈ oj.after, Region.binds .any e = true ∧ (e.on = i ∨ (e.on < j ∧ ((Region.before ops).getD e.on 0).testBit i = true)) := by
 have hb : Region.before ops = ops.toList.foldl (fun acc o => acc.push (stp acc o)) #[] := by
  unfold Region.before
  rw [← zZx]
  rfl
 obtain ⟨_, _, h3⟩ := zIh ops.toList #[]
 obtain ⟨acc', g1, g2, g3⟩ := h3 j oj (by simpa using hj)
 simp only [List.size_toArray, zX6, zXF] at g1 g2 g3
 rw [hb] at h ⊢
 rw [g3] at h
 unfold stp at h
 rw [← zZx] at h
 rcases zJH acc' i _ _ h with h1 | ⟨e, he, hbd, h1⟩
 ·simp at h1
 ·refine ⟨e, by simpa using he, hbd, ?_⟩
  rcases h1 with h1 | h1
  ·exact .inl h1
  ·have hlt : e.on < j := by
    rcases Nat.lt_or_ge e.on acc'.size with h2 | h2
    ·omega
    ·simp [zXX, zYW h2] at h1
   rw [g2 _ hlt] at h1
   exact .inr ⟨hlt, h1⟩
def Closed (ops : Array Oper) (listed : Array Bool) : Prop := ∀ j oj, ops[j]? = some oj → listed.getD j false = true → ∀ e ∈ oj.after, Region.binds .any e = true → listed.getD e.on false = true
theorem zAr {listed : Array Bool} (hc : Closed ops listed) : ∀ (j : Nat) (oj : Oper) (i : Nat), ops[j]? = some oj → ((Region.before ops).getD j 0).testBit i = true → (∀ e ∈ oj.after, Region.binds .any e = true → listed.getD e.on false = true) → listed.getD i false = true := by
 intro j
 induction j using Nat.strongRecOn with
 | _ j ih =>
  intro oj i hj hb hall
  obtain ⟨e, he, hbd, h1⟩ := zJu hj hb
  rcases h1 with h1 | ⟨hlt, h1⟩
  ·rw [← h1]; exact hall e he hbd
  ·have hjlt := (zXM.1 hj).1
   have ho : ops[e.on]? = some ops[e.on] := by simp [show e.on < ops.size by omega]
   exact ih e.on hlt _ i ho h1 (hc _ _ ho (hall e he hbd))
theorem zAP (listed : Array Bool) (i k : Nat) (b : Bool) : (listed.setIfInBounds i true).getD k b = if k = i ∧ i < listed.size then true else listed.getD k b := by
 simp only [zXX]
 by_cases h : k = i
 ·subst h
  by_cases h2 : k < listed.size
  ·simp [h2]
  ·simp [h2]
 ·rw [zYq (fun e => h e.symm), if_neg (fun hh => h hh.1)]
theorem Closed.set {listed : Array Bool} (hc : Closed ops listed) {i : Nat} (hi : i ∈ Region.ready .any ops listed) : Closed ops (listed.setIfInBounds i true) := by
 obtain ⟨_, oi, hoi, hall⟩ := mem_ready.1 hi
 intro j oj hj hl e he hb
 rw [zAP] at hl ⊢
 split
 ·rfl
 ·split at hl
  ·rename_i h1
   obtain ⟨rfl, _⟩ := h1
   have : oj = oi := Option.some.inj (hj.symm.trans hoi)
   subst this
   exact hall e he hb
  ·exact hc j oj hj hl e he hb
def left (listed : Array Bool) : Nat → Nat
 | 0 => 0
 | k + 1 => left listed k + if listed.getD k true = true then 0 else 1
theorem zEq {listed : Array Bool} {i : Nat} (hi : listed.getD i true = false) : ∀ k, left (listed.setIfInBounds i true) k + (if i < k then 1 else 0) = left listed k
 | 0 => by simp [left]
 | k + 1 => by
  have ih := zEq hi k
  have hil : i < listed.size := by
   rcases Nat.lt_or_ge i listed.size with h | h
   ·exact h
   ·simp [zYW h] at hi
  simp only [left]
  rw [zAP]
  by_cases hk : k = i
  ·subst hk
   rw [if_neg (by omega)] at ih
   have h2 : k < k + 1 := by omega
   have h3 : (if k = k ∧ k < listed.size then true else listed.getD k true) = true := if_pos ⟨rfl, hil⟩
   rw [if_pos h2, if_pos h3, hi, if_neg (by simp)]
   omega
  ·have h3 : (if k = i ∧ i < listed.size then true else listed.getD k true) = listed.getD k true := if_neg fun hh => hk hh.1
   rw [h3]
   generalize (if listed.getD k true = true then 0 else 1) = z
   by_cases h2 : i < k
   ·rw [if_pos h2] at ih; rw [if_pos (show i < k + 1 by omega)]; omega
   ·rw [if_neg h2] at ih; rw [if_neg (show ¬ i < k + 1 by omega)]; omega
theorem zEr {listed : Array Bool} {i : Nat} (hi : listed.getD i true = false) : ∀ k, i < k → 0 < left listed k
 | 0, h => by omega
 | k + 1, h => by
  simp only [left]
  by_cases hk : i = k
  ·subst hk; rw [hi]; simp
  ·have := zEr hi k (by omega); omega
theorem zDL {listed : Array Bool} (he : zBm ops = true) {i : Nat} (hi : i < ops.size) (hun : listed.getD i true = false) (hall : ∀ j, j < i → listed.getD j false = true) : i ∈ Region.ready .any ops listed := by
 refine mem_ready.2 ⟨hun, ops[i], by simp [hi], fun e hee hb => ?_⟩
 unfold zBm at he
 have h1 := zXZ.1 he i (zYk.2 hi)
 simp only [zY1 hi, zYj, zYn] at h1
 have h2 := Array.all_eq_true'.1 h1 e hee
 simp only [hb, Bool.not_true, Bool.false_or, zXB] at h2
 exact hall _ h2
theorem zEs {listed : Array Bool} {n : Nat} (h : ∃ i, i < n ∧ listed.getD i true = false) : ∃ i, i < n ∧ listed.getD i true = false ∧ ∀ j, j < i → listed.getD j true = true := by
 obtain ⟨i, hi, hun⟩ := h
 induction i using Nat.strongRecOn with
 | _ i ih =>
  by_cases hx : ∃ j, j < i ∧ listed.getD j true = false
  ·obtain ⟨j, hj, hj2⟩ := hx
   exact ih j hj (by omega) hj2
  ·refine ⟨i, hi, hun, fun j hj => ?_⟩
   cases hb : listed.getD j true with
   | true => rfl
   | false => exact absurd ⟨j, hj, hb⟩ hx
end edges
theorem zAw {l : Array Bool} {i : Nat} (hi : i < l.size) : l.getD i false = l.getD i true := by
 simp [hi]
theorem zCM {listed : Array Bool} {h : Nat} : ∀ k, (∀ j, j < k → listed.getD j true = decide (j < h)) → left listed k = k - h
 | 0, _ => by simp [left]
 | k + 1, hh => by
  simp only [left]
  rw [zCM k fun j hj => hh j (by omega), hh k (by omega)]
  by_cases hk : k < h
  ·simp [hk]; omega
  ·simp [hk]; omega
section
variable {B : DB} {P : Program} {w w0 : World} {X : Nat → Prop} {ρ ρ0 : Nat → Loc} {H : zC} {e : Env} {a : Act} {n n0 : Nat}
theorem St.still {w' : World} (hst : St B X w0 ρ0 n0 n e H a w) (hs : Same w w') (hh : w'.heap = w.heap) : St B X w0 ρ0 n0 n e H a w' := by
 obtain ⟨h2, ρ, h3, h4, h5, h6⟩ := hst
 obtain ⟨g1, g2⟩ := h3.more hs fun b _ => by rw [hh]
 exact ⟨h2, ρ, g1, fun t ht => (h4 t ht).nextN g2, h5.trans g2, h6.fut g2⟩
theorem APure.frame {k : FuncId} {args : List AV} {x : AV} (h : APure P k args x) (hc : clL args = true) (H : zC) : ACall P k args H fun y H' => y = x ∧ H' = H := by
 refine ⟨h.1, fun X ρ w vs hrel hargs => ?_⟩
 have hno : ∀ (ρ : Nat → Loc) b, ¬ Own ρ 0 b := fun ρ b ⟨r, o, hr, _⟩ => by omega
 have hm : ∀ (ρ' : Nat → Loc) b, Mut (Mut X ρ H.length) ρ' 0 b ↔ Mut X ρ H.length b := fun ρ' b => ⟨fun hb => hb.elim id fun ho => absurd ho (hno _ _), .inl⟩
 refine (h.2 (Mut X ρ H.length) (fun _ => {}) w vs ⟨?_, ?_, ?_, ?_, fun g hg => ⟨fun ⟨r, o, hr, _⟩ => by simp at hr, (hrel.gl g hg).2⟩⟩ ⟨hargs.1, ?_⟩).mono ?_
 ·intro r o hr; simp at hr
 ·intro r r' b o b' o' hr; simp at hr
 ·intro r b o hr; simp at hr
 ·intro b hb
  rcases hb with hb | hb
  ·exact hrel.xlt b hb
  ·exact hb.lt hrel
 ·intro i x u hx hu
  have h1 := ((hargs.2 i x u hx hu).of_cl (zC9 hc hx)).closed rfl (fun _ => {}) 0
  exact h1.fut (n0 := 0) (Fut.refl _ _ _) (fun b _ hb hb' => hb ((hm _ b).1 hb')) (fun b _ => hno _ b) (zXL _)
 ·rintro en w' ⟨v, y, H', ρ', rfl, ⟨rfl, rfl⟩, g1, g2, g3⟩
  have hkeep : ∀ b, b < w.heap.size → w'.heap[b]? = w.heap[b]? := fun b hb => g3.keep b hb (hno _ b)
  obtain ⟨f1, f2⟩ := hrel.more ⟨g3.os, g3.tape, g3.output, g3.size⟩ hkeep
  refine ⟨v, y, H, ρ, rfl, ⟨rfl, rfl⟩, f1, ?_, f2⟩
  have h1 : Rep w' (Mut X ρ H.length) ρ' 0 y v := g2.fut (n0 := 0) (Fut.refl _ _ _) (fun b _ hb hb' => hb ((hm _ b).2 hb')) (fun b _ => hno _ b) (zXL _)
  exact h1.closed rfl ρ H.length
theorem zKK {x : AV} {K K' : AV → zC → Prop} (h : nextA x H K) (hK : ∀ x H', K x H' → K' x H') : nextA x H K' := by
 unfold nextA at h ⊢
 split at h
 ·unfold zOa at h ⊢
  split at h
  ·exact ⟨fun h0 => hK _ _ (h.1 h0), fun i hi => hK _ _ (h.2 i hi)⟩
  ·exact h.elim
 ·exact h.elim
theorem zD2 {op : LOp} {K K' : AV → zC → Prop} (h : aop P op e H K) (hK : ∀ x H', K x H' → K' x H') : aop P op e H K' := by
 cases op <;> simp only [aop] at h ⊢ <;> first | exact ⟨h.1, hK _ _ h.2⟩ | exact ⟨h.1, fun b hb => hK _ _ (h.2 b hb)⟩ | exact zKK h hK | skip
 case call f args =>
  unfold zGl at h ⊢
  split at h
  ·exact ACall.mono h hK
  ·exact AYield.mono h hK
  ·exact h.elim
 case callh f args =>
  unfold zGl at h ⊢
  split at h
  ·exact ACall.mono h hK
  ·exact AYield.mono h hK
  ·exact h.elim
 case pick c a b =>
  split at h
  ·split at h
   ·rename_i hb; rw [if_pos hb]; exact hK _ _ h
   ·rename_i hb; rw [if_neg hb]; exact hK _ _ h
  ·exact h.elim
theorem zEi {op : LOp} {x : AV} (h : zDk P op e H fun y => y = x) : aop P op e H fun y H' => y = x ∧ H' = H := by
 cases op <;> simp only [zDk, aop] at h ⊢ <;> first | exact ⟨h.1, h.2.2, h.2.1⟩ | exact h.elim | skip
 case call f args =>
  split at h
  ·rename_i k first caps hf
   obtain ⟨y, h1, h2, rfl⟩ := h
   rw [hf]
   exact h1.frame h2 H
  ·exact h.elim
 case callh f args =>
  split at h
  ·rename_i k first caps hf
   obtain ⟨y, h1, rfl⟩ := h
   rw [hf]
   exact h1
  ·exact h.elim
 case pick c a b =>
  split at h
  ·split at h
   ·rename_i hb; rw [if_pos hb]; exact ⟨h, trivial⟩
   ·rename_i hb; rw [if_neg hb]; exact ⟨h, trivial⟩
  ·exact h.elim
theorem zR5 {op : LOp} {K : AV → Prop} (h : zDk P op e H K) : ∃ x, K x ∧ zDk P op e H fun y => y = x := by
 cases op <;> simp only [zDk] at h ⊢ <;> first | exact ⟨_, h.2.2, h.1, h.2.1, rfl⟩ | exact h.elim | skip
 case call f args =>
  split at h
  ·obtain ⟨y, h1, h2, h3⟩ := h
   exact ⟨y, h3, y, h1, h2, rfl⟩
  ·exact h.elim
 case callh f args =>
  split at h
  ·obtain ⟨y, h1, h3⟩ := h
   exact ⟨y, h3, y, h1, rfl⟩
  ·exact h.elim
 case pick c a b =>
  split at h
  ·split at h
   ·rename_i hb; exact ⟨_, h, by rw [if_pos hb]⟩
   ·rename_i hb; exact ⟨_, h, by rw [if_neg hb]⟩
  ·exact h.elim
theorem zAo {e e' : Env} {x : LX} (h : ∀ t ∈ x.rd, e t = e' t) : ev e x = ev e' x := by
 cases x with
 | t n => exact h n (by simp [LX.rd])
 | c _ => rfl
theorem zCC {e e' : Env} {l : List LX} (h : ∀ t ∈ rdL l, e t = e' t) : l.map (ev e) = l.map (ev e') :=
 zZv fun x hx => zAo fun t ht => h t (zZO.2 ⟨x, hx, ht⟩)
theorem zEz {e e' : Env} {l : Option LX} (h : ∀ t ∈ rdO l, e t = e' t) : l.map (ev e) = l.map (ev e') := by
 cases l with
 | none => rfl
 | some x => exact congrArg some (zAo h)
theorem zGU {op : LOp} {e e' : Env} (h : ∀ t ∈ op.rd, e t = e' t) : zB2 op e H = zB2 op e' H := by
 cases op <;> simp only [LOp.rd, zXV] at h <;> simp only [zB2] <;> first | rfl | (rw [zAo h]; done) | (rw [zAo fun t ht => h t (.inl ht), zAo fun t ht => h t (.inr ht)]; done) | skip
 case build zs ps =>
  congr 1
  exact zZv fun p hp => by rw [zAo fun t ht => h t (zZO.2 ⟨p, hp, ht⟩)]
 case bsl imm sz len zs ps =>
  congr 1
  exact zZv fun p hp => by rw [zAo fun t ht => h t (zZO.2 ⟨p, hp, ht⟩)]
 case ins kd m k x => rw [zAo fun t ht => h t (.inl (.inl ht)), zAo fun t ht => h t (.inl (.inr ht)), zAo fun t ht => h t (.inr ht)]
 case mkfn f a b => rw [zCC fun t ht => h t (.inl ht), zCC fun t ht => h t (.inr ht)]
 case max3 x y z => rw [zAo fun t ht => h t (.inl (.inl ht)), zAo fun t ht => h t (.inl (.inr ht)), zAo fun t ht => h t (.inr ht)]
 case slicev lk k x lo hi => rw [zAo fun t ht => h t (.inl (.inl ht)), zEz fun t ht => h t (.inl (.inr ht)), zEz fun t ht => h t (.inr ht)]
 case slice lk k x lo hi => rw [zAo fun t ht => h t (.inl (.inl ht)), zEz fun t ht => h t (.inl (.inr ht)), zEz fun t ht => h t (.inr ht)]
theorem zK9 {op : LOp} {e e' : Env} {K : AV → Prop} (h : ∀ t ∈ op.rd, e t = e' t) (hk : zDk P op e H K) : zDk P op e' H K := by
 have ha := zGU (H := H) h
 cases op <;> simp only [zDk] at hk ⊢ <;> first | (rw [← ha]; exact hk) | exact hk | skip
 case call f args =>
  simp only [LOp.rd, zXV] at h
  rw [← zAo fun t ht => h t (.inl ht), ← zCC fun t ht => h t (.inr ht)]
  exact hk
 case callh f args =>
  simp only [LOp.rd, zXV] at h
  rw [← zAo fun t ht => h t (.inl ht), ← zCC fun t ht => h t (.inr ht)]
  exact hk
 case pick c a b =>
  simp only [LOp.rd, zXV] at h
  rw [← zAo fun t ht => h t (.inl (.inl ht)), ← zAo fun t ht => h t (.inl (.inr ht)), ← zAo fun t ht => h t (.inr ht)]
  exact hk
def zG6 (P : Program) (o : LO) (e : Env) (H : zC) (x : AV) : Prop :=
 (zBO o.g e = some true ∧ zDk P o.op e H fun y => y = x) ∨ (zBO o.g e = some false ∧ x = zAJ)
theorem zEd {g : Option (Nat × Bool)} {e e' : Env} (h : ∀ t want, g = some (t, want) → e t = e' t) : zBO g e = zBO g e' := by
 cases g with
 | none => rfl
 | some p =>
  obtain ⟨t, want⟩ := p
  simp only [zBO]
  rw [h t want rfl]
theorem zCu {o : LO} {e e' : Env} {x : AV} (h : ∀ t ∈ o.rd, e t = e' t) (hk : zG6 P o e H x) : zG6 P o e' H x := by
 have hg : zBO o.g e = zBO o.g e' := zEd fun t want hg => h t (by simp [LO.rd, hg])
 rcases hk with ⟨h1, h2⟩ | ⟨h1, h2⟩
 ·exact .inl ⟨by rw [← hg]; exact h1, zK9 (fun t ht => h t (by simp [LO.rd, ht])) h2⟩
 ·exact .inr ⟨by rw [← hg]; exact h1, h2⟩
theorem zEW {o : LO} {l : List LO} {K : Env → zC → Prop} (h : (zBO o.g e = some true ∧ aop P o.op e H fun x H' => zA8 P l (ups e o.d x) H' K) ∨ (zBO o.g e = some false ∧ zA8 P l (ups e o.d zAJ) H K)) : zA8 P (o :: l) e H K := by
 simp only [zA8]
 cases hg : o.g with
 | none =>
  rw [hg] at h
  rcases h with h | h
  ·exact h.2
  ·simp [zBO] at h
 | some tw =>
  obtain ⟨t, want⟩ := tw
  rw [hg] at h
  simp only [zBO] at h
  cases het : e t with
  | v x =>
   rw [het] at h
   cases x <;> simp only [zXt, reduceCtorEq, false_and, or_self, zXH, false_or, true_and] at h ⊢ <;> first | exact h | skip
   case bool b =>
    have hu : up e t (bool b) = e := zKw het
    cases b <;> cases want <;> simp [hu, het] at h ⊢ <;> exact h
   case tuple us => rw [het]; exact h
  | _ => rw [het] at h; simp at h
theorem zD1 {o : LO} {l : List LO} {K : Env → Prop} (h : zBc P (o :: l) e H K) : ∃ x, zG6 P o e H x ∧ zBc P l (ups e o.d x) H K := by
 have fin : (zBO o.g e = some true ∧ zDk P o.op e H fun x => zBc P l (ups e o.d x) H K) ∨ (zBO o.g e = some false ∧ zBc P l (ups e o.d zAJ) H K) := by
  simp only [zBc] at h
  cases hg : o.g with
  | none => rw [hg] at h; exact .inl ⟨rfl, h⟩
  | some tw =>
   obtain ⟨t, want⟩ := tw
   rw [hg] at h
   simp only at h
   cases het : e t with
   | v x =>
    rw [het] at h
    cases x <;> simp only at h <;> first | exact h.elim | skip
    case bool b =>
     have hu : up e t (bool b) = e := zKw het
     cases b <;> cases want <;> simp only [hu, if_true, zXH, if_false, zBO, het] at h ⊢ <;> first | exact .inl ⟨rfl, h⟩ | exact .inr ⟨rfl, h⟩
    case tuple us => exact .inr ⟨by simp [zBO, het], h⟩
   | _ => rw [het] at h; exact h.elim
 rcases fin with ⟨h1, h2⟩ | ⟨h1, h2⟩
 ·obtain ⟨x, h3, h4⟩ := zR5 h2
  exact ⟨x, .inl ⟨h1, h4⟩, h3⟩
 ·exact ⟨_, .inr ⟨h1, rfl⟩, h2⟩
def ED (hd : List LO) (xs : Nat → AV) (e : Env) (D : Nat → Bool) : Nat → Env
 | 0 => e
 | k + 1 => if D k = true then ups (ED hd xs e D k) (hd.getD k default).d (xs k) else ED hd xs e D k
theorem zD6 {d : Option Nat} {x : AV} {t : Nat} (h : d ≠ some t) : ups e d x t = e t := by
 cases d with
 | none => rfl
 | some d => simp only [ups, up]; rw [if_neg fun hh => h (by rw [hh])]
theorem zCn {x : AV} {t : Nat} : ups e (some t) x t = x := by simp [ups, up]
variable {hd : List LO} {xs : Nat → AV}
theorem zBn {D D' : Nat → Bool} {t : Nat} : ∀ k, (∀ j, j < k → (hd.getD j default).d = some t → D j = D' j) → ED hd xs e D k t = ED hd xs e D' k t
 | 0, _ => rfl
 | k + 1, h => by
  have ih := zBn k fun j hj => h j (by omega)
  simp only [ED]
  by_cases hd' : (hd.getD k default).d = some t
  ·rw [h k (by omega) hd', hd']
   split
   ·rw [zCn, zCn]
   ·exact ih
  ·split <;> split <;> simp only [zD6 hd', ih]
theorem zB7 {D : Nat → Bool} {t i : Nat} : ∀ k, i ≤ k → (∀ j, i ≤ j → j < k → (hd.getD j default).d = some t → D j = false) → ED hd xs e D k t = ED hd xs e D i t
 | 0, hk, _ => by rw [show i = 0 by omega]
 | k + 1, hk, h => by
  by_cases hik : i = k + 1
  ·rw [hik]
  ·rw [← zB7 k (by omega) fun j h1 h2 => h j h1 (by omega)]
   simp only [ED]
   by_cases hd' : (hd.getD k default).d = some t
   ·rw [h k (by omega) (by omega) hd']; simp
   ·split
    ·exact zD6 hd'
    ·rfl
theorem zHA {o : LO} {l : List LO} {x : AV} {xs : Nat → AV} : ∀ i, ED (o :: l) (fun i => match i with | 0 => x | i + 1 => xs i) e (fun _ => true) (i + 1) = ED l xs (ups e o.d x) (fun _ => true) i
 | 0 => by simp [ED]
 | i + 1 => by
  have ih := zHA (o := o) (l := l) (x := x) (xs := xs) i
  rw [ED, ih]
  simp [ED]
theorem zDe : ∀ (hd : List LO) {e : Env} {K : Env → Prop}, zBc P hd e H K → ∃ xs : Nat → AV, K (ED hd xs e (fun _ => true) hd.length) ∧ ∀ i, i < hd.length → zG6 P (hd.getD i default) (ED hd xs e (fun _ => true) i) H (xs i)
 | [], e, K, h => ⟨fun _ => .any, h, fun i hi => by simp at hi⟩
 | o :: l, e, K, h => by
  obtain ⟨x, h1, h2⟩ := zD1 h
  obtain ⟨xs, h3, h4⟩ := zDe l h2
  refine ⟨fun i => match i with | 0 => x | i + 1 => xs i, ?_, fun i hi => ?_⟩
  ·rw [zXI, zHA]; exact h3
  ·cases i with
   | zero => exact h1
   | succ i =>
    rw [zHA]
    exact h4 i (by simpa using hi)
theorem zFQ {t : Nat} {l : List Nat} (h : zSr (some t) l = false) : t ∉ l := by simpa [zSr] using h
theorem zIa {hs : List Hn} {reg : Nat} {ops : Array Oper} : ∀ (l : List Oper) (i : Nat) (hd : List LO), zJh P n hs reg ops i l = some hd → hd.length = l.length ∧ ∀ k o, l[k]? = some o → ∃ imm, zBF P n imm ops o = some (hd.getD k default)
 | [], i, hd, h => by
  simp only [zJh, zXt] at h
  subst h
  exact ⟨rfl, fun k o h => by simp at h⟩
 | o :: l, i, hd, h => by
  unfold zJh at h
  cases h1 : zBF P n (zCV hs reg i) ops o with
  | none => simp [h1] at h
  | some lo =>
   cases h2 : zJh P n hs reg ops (i + 1) l with
   | none => simp [h1, h2] at h
   | some m =>
    simp only [h1, h2, zXt] at h
    subst h
    obtain ⟨g1, g2⟩ := zIa l (i + 1) m h2
    refine ⟨by simp [g1], fun k o' hk => ?_⟩
    cases k with
    | zero => simp at hk; subst hk; exact ⟨_, h1⟩
    | succ k => simpa using g2 k o' (by simpa using hk)
variable {ops : Array Oper}
theorem zDW {hdl : List LO} {h : Nat} (hd : zGL ops hdl h = true) {i j : Nat} (hj : j < ops.size) (hi : i < j) :
  ((Region.before ops).getD j 0).testBit i = true ∨ (j < h ∧ zBa (hdl.getD i default) (hdl.getD j default) = false) := by
 unfold zGL at hd
 have h1 := zXZ.1 hd j (zYk.2 hj)
 have h2 := zXZ.1 h1 i (zYk.2 hi)
 simp only [zYS, zXE, zXB, zYA] at h2
 exact h2
theorem zEH {r : Option Nat} {m0 : Nat} {hs : List Hn} {reg h : Nat} {K : Env → zC → Prop} {Q : Exit → Act → World → Prop} (hE : zBm ops = true) (hT : ∀ i j, h ≤ i → i < j → j < ops.size → ((Region.before ops).getD j 0).testBit i = true)
  (hQ : ∀ e' H' a' w', K e' H' → St B X w0 ρ0 n0 n e' H' a' w' → Q .normal a' w') :
  ∀ (fuel k : Nat) (los : List LO) (e : Env) (H : zC) (a : Act) (w : World) (listed : Array Bool), h ≤ k → fuel + k = ops.size → listed.size = ops.size → (∀ j, j < ops.size → listed.getD j true = decide (j < k)) → Closed ops listed →
   zCU P n hs reg ops k (ops.toList.drop k) = some los → zA8 P los e H K → St B X w0 ρ0 n0 n e H a w → wpAnyIn (WR r) m0 P .any ops Q fuel listed a w
 | 0, k, los, e, H, a, w, listed, hk, hf, hsz, hl, hc, hlo, h, hst => by
  rw [List.drop_eq_nil_of_le (by simp; omega)] at hlo
  unfold zCU at hlo
  split at hlo
  ·rename_i hg
   simp only [zXt] at hlo
   subst hlo
   obtain ⟨e', H', h', hst'⟩ := zAt (zAF hs reg k) (los := []) hg (by simpa using h) hst
   refine ⟨zYs.2 fun i hi => ?_, hQ _ _ _ _ h' hst'⟩
   obtain ⟨h1, o, h2, _⟩ := mem_ready.1 hi
   have h3 := (zXM.1 h2).1
   rw [hl i h3] at h1
   simp at h1
   omega
  ·cases hlo
 | fuel + 1, k, los, e, H, a, w, listed, hk, hf, hsz, hl, hc, hlo, h, hst => by
  have hks : k < ops.size := by omega
  rw [zYp (by simpa using hks)] at hlo
  have hop : ops[k]? = some (ops.toList[k]'(by simpa using hks)) := by simp [hks]
  generalize ops.toList[k]'(by simpa using hks) = o at hlo hop
  unfold zCU at hlo
  cases h1 : zBF P n (zCV hs reg k) ops o with
  | none => simp [h1] at hlo
  | some lo =>
   cases h2 : zCU P n hs reg ops (k + 1) (ops.toList.drop (k + 1)) with
   | none => simp [h1, h2] at hlo
   | some m =>
    simp only [h1, h2] at hlo
    split at hlo
    ·rename_i hg
     simp only [zXt] at hlo
     subst hlo
     obtain ⟨e', H', h', hst'⟩ := zAt (zAF hs reg k) hg h hst
     have hkr : k ∈ Region.ready .any ops listed := zDL hE hks (by rw [hl k hks]; simp) fun j hj => by rw [zAw (by omega), hl j (by omega)]; simpa using hj
     refine ⟨fun h0 => by rw [h0] at hkr; simp at hkr, fun i hi => ?_⟩
     have hik : i = k := by
      obtain ⟨g1, oi, g2, g3⟩ := mem_ready.1 hi
      have g4 := (zXM.1 g2).1
      rw [hl i g4] at g1
      simp only [zXQ, Nat.not_lt] at g1
      rcases Nat.lt_or_ge k i with g5 | g5
      ·have := zAr hc i oi k g2 (hT k i hk g5 g4) g3
       rw [zAw (by omega), hl k hks] at this
       simp at this
      ·omega
     subst hik
     have hnx := zCL (r := r) (m0 := m0) h1 h' hst' (next := wpAnyIn (WR r) m0 P .any ops Q fuel (listed.setIfInBounds i true)) (Q := Q) fun e'' H'' a'' w'' hK hs'' =>
      zEH hE hT hQ fuel (i + 1) m e'' H'' a'' w'' (listed.setIfInBounds i true) (by omega) (by omega) (by simpa using hsz) (fun j hj => by
       rw [zAP]
       by_cases hji : j = i
       ·rw [if_pos ⟨hji, by omega⟩]; simp; omega
       ·rw [if_neg fun hh => hji hh.1, hl j hj]
        have : (j < i) = (j < i + 1) := by simp; omega
        simp only [this]) (hc.set hi) h2 hK hs''
     unfold wpOpIn
     rw [hop]
     simp only
     exact hnx
    ·cases hlo
theorem zCJ {a b : LO} (h : zBa a b = false) : (∀ t, a.d = some t → t ∉ b.rd) ∧ (∀ t, b.d = some t → t ∉ a.rd) ∧ ∀ t, a.d = some t → b.d ≠ some t := by
 simp only [zBa, Bool.or_eq_false_iff] at h
 refine ⟨fun t ht => zFQ (by rw [← ht]; exact h.1.1), fun t ht => zFQ (by rw [← ht]; exact h.1.2), fun t ht ht' => ?_⟩
 have := h.2
 rw [ht, ht'] at this
 simp at this
theorem zF5 {hdl : List LO} {h : Nat} (hd : zGL ops hdl h = true) : ∀ i j, h ≤ i → i < j → j < ops.size → ((Region.before ops).getD j 0).testBit i = true := fun i j h1 h2 h3 => by
 rcases zDW hd h3 h2 with g | g
 ·exact g
 ·omega
theorem zKS {r : Option Nat} {m0 : Nat} {hs : List Hn} {reg h : Nat} {tl : List LO} {K : Env → zC → Prop} {Q : Exit → Act → World → Prop} (hE : zBm ops = true) (hD : zGL ops hd h = true) (hh : h ≤ ops.size)
  (hlen : hd.length = h) (hget : ∀ k o, k < h → ops[k]? = some o → ∃ imm, zBF P n imm ops o = some (hd.getD k default)) (hx : ∀ i, i < h → zG6 P (hd.getD i default) (ED hd xs e (fun _ => true) i) H (xs i))
  (htl : zCU P n hs reg ops h (ops.toList.drop h) = some tl) (hK : zA8 P tl (ED hd xs e (fun _ => true) h) H K)
  (hQ : ∀ e' H' a' w', K e' H' → St B X w0 ρ0 n0 n e' H' a' w' → Q .normal a' w') :
  ∀ (fuel : Nat) (a : Act) (w : World) (listed : Array Bool), fuel = left listed ops.size → listed.size = ops.size → (∀ j, h ≤ j → j < ops.size → listed.getD j true = false) → Closed ops listed →
   St B X w0 ρ0 n0 n (ED hd xs e (fun j => listed.getD j false) h) H a w → wpAnyIn (WR r) m0 P .any ops Q fuel listed a w := by
 intro fuel
 induction fuel with
 | zero =>
  intro a w listed hf hsz ht hc hst
  have hall : ∀ j, j < ops.size → listed.getD j true = decide (j < h) := by
   intro j hj
   by_cases hjh : j < h
   ·cases hb : listed.getD j true with
    | true => simp [hjh]
    | false => have := zEr hb ops.size hj; omega
   ·rw [ht j (by omega) hj]; simp [hjh]
  have hE' : ED hd xs e (fun j => listed.getD j false) h = ED hd xs e (fun _ => true) h := by
   funext t
   exact zBn h fun j hj _ => by rw [zAw (by omega), hall j (by omega)]; simpa using hj
  rw [hE'] at hst
  have h0 := zCM ops.size hall
  exact zEH hE (zF5 hD) hQ 0 h tl _ H a w listed (zXL _) (by omega) hsz hall hc htl hK hst
 | succ fuel ih =>
  intro a w listed hf hsz ht hc hst
  by_cases hfull : ∀ j, j < h → listed.getD j true = true
  ·have hall : ∀ j, j < ops.size → listed.getD j true = decide (j < h) := by
    intro j hj
    by_cases hjh : j < h
    ·rw [hfull j hjh]; simp [hjh]
    ·rw [ht j (by omega) hj]; simp [hjh]
   have hE' : ED hd xs e (fun j => listed.getD j false) h = ED hd xs e (fun _ => true) h := by
    funext t
    exact zBn h fun j hj _ => by rw [zAw (by omega), hall j (by omega)]; simpa using hj
   rw [hE'] at hst
   have h0 := zCM ops.size hall
   exact zEH hE (zF5 hD) hQ (fuel + 1) h tl _ H a w listed (zXL _) (by omega) hsz hall hc htl hK hst
  ·have hun : ∃ i, i < h ∧ listed.getD i true = false := by
    refine zXY fun hno => hfull fun j hj => ?_
    cases hb : listed.getD j true with
    | true => rfl
    | false => exact absurd ⟨j, hj, hb⟩ hno
   obtain ⟨i0, hi0, hi0u, hi0l⟩ := zEs hun
   have hr0 : i0 ∈ Region.ready .any ops listed := zDL hE (by omega) hi0u fun j hj => by rw [zAw (by omega)]; exact hi0l j hj
   refine ⟨fun h0 => by rw [h0] at hr0; simp at hr0, fun i hi => ?_⟩
   obtain ⟨hiu, oi, hoi, hiall⟩ := mem_ready.1 hi
   have his : i < ops.size := (zXM.1 hoi).1
   have hih : i < h := by
    refine zXY fun hge => ?_
    rcases zDW hD (i := i0) his (by omega) with g6 | g6
    ·have := zAr hc i oi i0 hoi g6 hiall
     rw [zAw (by omega), hi0u] at this
     cases this
    ·omega
   have hidf : listed.getD i false = false := by rw [zAw (by omega)]; exact hiu
   have hbef : ∀ j, j < i → zBa (hd.getD j default) (hd.getD i default) = true → listed.getD j false = true := by
    intro j hj hcf
    rcases zDW hD his hj with g6 | g6
    ·exact zAr hc i oi j hoi g6 hiall
    ·rw [g6.2] at hcf; cases hcf
   have hbeh : ∀ j, i < j → j < h → zBa (hd.getD i default) (hd.getD j default) = true → listed.getD j false = false := by
    intro j hj hjh hcf
    rcases zDW hD (show j < ops.size by omega) hj with g6 | g6
    ·cases hb : listed.getD j false with
     | false => rfl
     | true =>
      obtain ⟨oj, hoj⟩ : ∃ oj, ops[j]? = some oj := ⟨ops[j]'(by omega), by simp [show j < ops.size by omega]⟩
      have := zAr hc j oj i hoj g6 (hc j oj hoj hb)
      rw [hidf] at this
      cases this
    ·rw [g6.2] at hcf; cases hcf
   have hcf1 : ∀ a b : LO, ∀ t, a.d = some t → t ∈ b.rd → zBa a b = true := by
    intro a b t h1 h2
    cases hb : zBa a b with
    | true => rfl
    | false => exact absurd h2 ((zCJ hb).1 t h1)
   have hcf2 : ∀ a b : LO, ∀ t, b.d = some t → t ∈ a.rd → zBa a b = true := by
    intro a b t h1 h2
    cases hb : zBa a b with
    | true => rfl
    | false => exact absurd h2 ((zCJ hb).2.1 t h1)
   have hcf3 : ∀ a b : LO, ∀ t, a.d = some t → b.d = some t → zBa a b = true := by
    intro a b t h1 h2
    cases hb : zBa a b with
    | true => rfl
    | false => exact absurd h2 ((zCJ hb).2.2 t h1)
   have hA : ∀ t ∈ (hd.getD i default).rd, ED hd xs e (fun _ => true) i t = ED hd xs e (fun j => listed.getD j false) h t := by
    intro t htr
    rw [zB7 (i := i) h (by omega) fun j h1 h2 h3 => by
     by_cases hji : j = i
     ·rw [hji]; exact hidf
     ·exact hbeh j (by omega) h2 (hcf2 _ _ t h3 htr)]
    exact zBn i fun j h1 h2 => (hbef j h1 (hcf1 _ _ t h2 htr)).symm
   have hB : ups (ED hd xs e (fun j => listed.getD j false) h) (hd.getD i default).d (xs i) = ED hd xs e (fun j => (listed.setIfInBounds i true).getD j false) h := by
    funext t
    by_cases hdt : (hd.getD i default).d = some t
    ·rw [zB7 (i := i + 1) h (by omega) fun j h1 h2 h3 => by
      rw [zAP, if_neg (by omega)]
      exact hbeh j (by omega) h2 (hcf3 _ _ t hdt h3)]
     rw [hdt, zCn]
     have hset : (listed.setIfInBounds i true).getD i false = true := by rw [zAP, if_pos ⟨rfl, by omega⟩]
     simp only [ED]
     rw [if_pos hset, hdt, zCn]
    ·rw [zD6 hdt]
     exact zBn h fun j h1 h2 => by
      rw [zAP, if_neg]
      rintro ⟨rfl, _⟩
      exact hdt h2
   have hstep := zCu hA (hx i hih)
   obtain ⟨imm, hlow⟩ := hget i oi hih hoi
   have hone : zA8 P [hd.getD i default] (ED hd xs e (fun j => listed.getD j false) h) H fun e' H' => e' = ED hd xs e (fun j => (listed.setIfInBounds i true).getD j false) h ∧ H' = H := by
    refine zEW ?_
    rcases hstep with ⟨g1, g2⟩ | ⟨g1, g2⟩
    ·refine .inl ⟨g1, ?_⟩
     have := zEi g2
     simp only [zA8]
     refine zD2 this ?_
     rintro y H' ⟨rfl, rfl⟩
     exact ⟨hB, rfl⟩
    ·refine .inr ⟨g1, ?_⟩
     rw [← g2]
     exact ⟨hB, rfl⟩
   have hnx := zCL (r := r) (m0 := m0) hlow hone hst (next := wpAnyIn (WR r) m0 P .any ops Q fuel (listed.setIfInBounds i true)) (Q := Q) fun e'' H'' a'' w'' hK'' hs'' => by
    obtain ⟨rfl, rfl⟩ := hK''
    refine ih a'' w'' _ ?_ (by simpa using hsz) (fun j h1 h2 => by rw [zAP, if_neg (by omega)]; exact ht j h1 h2) (hc.set hi) hs''
    have := zEq hiu ops.size
    rw [if_pos his] at this
    omega
   unfold wpOpIn
   rw [hoi]
   simp only
   exact hnx
theorem zK6 {r : Option Nat} {m0 : Nat} {hs : List Hn} {id h : Nat} {tl : List LO} {K : Env → zC → Prop} {Q : Exit → Act → World → Prop} (hhd : zJh P n hs id ops 0 (ops.toList.take h) = some hd) (htl : zCU P n hs id ops h (ops.toList.drop h) = some tl)
  (hD : zGL ops hd h = true) (hE : zBm ops = true) (hm : P.follows .mixedOrders = true) (hh : h ≤ ops.size) (hK : zBc P hd e H fun e' => zA8 P tl e' H K) (hst : St B X w0 ρ0 n0 n e H a w)
  (hQ : ∀ e' H' a' w', K e' H' → St B X w0 ρ0 n0 n e' H' a' w' → Q .normal a' w') : wpAnyIn (WR r) m0 P .any ops Q ops.size (Array.replicate ops.size false) a { w with drawn := w.drawn + 1 } := by
 obtain ⟨g1, g2⟩ := zIa _ _ _ hhd
 have hlen : hd.length = h := by rw [g1]; simp; omega
 obtain ⟨xs, g3, g4⟩ := zDe hd hK
 rw [hlen] at g3 g4
 have h0 : ∀ j, (Array.replicate ops.size false).getD j false = false := fun j => getD_replicate_false _ _
 have h1 : ∀ j, j < ops.size → (Array.replicate ops.size false).getD j true = false := fun j hj => by rw [← zAw (by simpa using hj)]; exact h0 j
 refine zKS hE hD hh hlen (fun k o hk ho => g2 k o ?_) g4 htl g3 hQ ops.size a _ _ ?_ (by simp) (fun j _ hj => h1 j hj) ?_ ?_
 ·rw [zX4, if_pos hk]; simpa using ho
 ·have := zCM (listed := Array.replicate ops.size false) (h := 0) ops.size fun j hj => by rw [h1 j hj]; simp
  omega
 ·intro j oj hj hl
  rw [h0 j] at hl
  cases hl
 ·have : ED hd xs e (fun j => (Array.replicate ops.size false).getD j false) h = e := by
   funext t
   rw [zB7 (i := 0) h (zXJ _) fun j _ _ _ => h0 j]
   rfl
  rw [this]
  exact hst.still ⟨rfl, rfl, rfl, zXL _⟩ rfl
end
section
variable {B : DB} {P : Program} {w w0 : World} {X : Nat → Prop} {ρ ρ0 : Nat → Loc} {H H' ext : zC} {e : Env} {a : Act} {n n0 : Nat}
def Res.at (r : Res) (H : zC) : Res := ⟨r.ok, r.x, H⟩
theorem zRq (op : BinOp) (k k' : IntKind) (a b : Int) : iBin op k k' a b H' = (iBin op k k' a b H).at H' := by cases op <;> rfl
theorem zQu (op : BinOp) (a b : List UInt8) : sBin op a b H' = (sBin op a b H).at H' := by cases op <;> rfl
theorem zFp (op : BinOp) (p : Prop) (b : Bool) : eqRes op p b H' = (eqRes op p b H).at H' := by cases op <;> rfl
theorem zNY (t : TypeId) (x : AV) : rMkif t x H' = (rMkif t x H).at H' := by unfold rMkif; split <;> rfl
theorem zQQ (kd : KD) (op : BinOp) (x y : AV) : rBin kd op x y H' = (rBin kd op x y H).at H' := by
 unfold rBin
 split
 ·exact zRq _ _ _ _ _
 ·exact zQu _ _ _
 ·exact zFp _ _ _
 ·cases kd <;> first | rfl | exact zFp _ _ _
 ·exact zFp _ _ _
 ·exact zFp _ _ _
 ·rfl
theorem zQH (x : AV) : rNot x H' = (rNot x H).at H' := by unfold rNot; split <;> rfl
theorem zQI (x : AV) : rNeg x H' = (rNeg x H).at H' := by unfold rNeg; split <;> rfl
theorem zQM (ag : Bool) (o k : Nat) (x : AV) : rFld ag o k x H' = (rFld ag o k x H).at H' := by unfold rFld; split <;> rfl
theorem zQL (x i : AV) : rIdx x i H' = (rIdx x i H).at H' := by unfold rIdx; split <;> rfl
theorem zQN (x : AV) (i : Nat) : rExt x i H' = (rExt x i H).at H' := by unfold rExt; split <;> rfl
theorem zQJ (x y : AV) : rMin x y H' = (rMin x y H).at H' := by unfold rMin; split <;> rfl
theorem zNZ (x y z : AV) : rMax3 x y z H' = (rMax3 x y z H).at H' := by unfold rMax3; split <;> rfl
theorem zQK (x y : AV) : rMax x y H' = (rMax x y H).at H' := by unfold rMax; split <;> rfl
theorem zKG (lk : LK) (n : Nat) (x : AV) (lo hi : Option AV) : zFK lk n x lo hi H' = (zFK lk n x lo hi H).at H' := by
 cases x with
 | sl a b =>
  show rSlice _ _ _ _ _ _ = (rSlice _ _ _ _ _ _).at _
  unfold rSlice
  generalize bnd 0 lo = l
  generalize bnd ((lenOf (AV.sl a b)).getD 0) hi = h
  cases l <;> cases h <;> rfl
 | v v =>
  show rSlice _ _ _ _ _ _ = (rSlice _ _ _ _ _ _).at _
  unfold rSlice
  generalize bnd 0 lo = l
  generalize bnd ((lenOf (AV.v v)).getD 0) hi = h
  cases v with
  | slice a b c => cases a <;> cases b <;> cases c <;> cases l <;> cases h <;> rfl
  | _ => cases l <;> cases h <;> rfl
 | _ => rfl
theorem zKH (sz : Nat) (x i : AV) : zEM sz x i H' = (zEM sz x i H).at H' := by
 unfold zEM rIaddr
 split
 ·split
  ·rfl
  ·rename_i h; cases h
  ·rfl
 ·rfl
theorem zQP (x : AV) : rBox true x H' = (rBox true x H).at H' := rfl
theorem zQO (sz len : Nat) (zs : List AV) (ps : List (Nat × AV)) : rBsl true sz len zs ps H' = (rBsl true sz len zs ps H).at H' := rfl
theorem zJl {op : LOp} (hq : zBW op = true) (hc : ∀ f args, op ≠ .call f args) (hp : ∀ c x y, op ≠ .pick c x y) : zB2 op e H' = (zB2 op e H).at H' := by
 cases op <;> simp only [zBW] at hq <;> simp only [zB2] <;> first
  | exact (Bool.false_ne_true hq).elim
  | rfl
  | exact zQQ ..
  | exact zQH ..
  | exact zNY ..
  | exact zQI ..
  | exact zQM ..
  | exact zQL ..
  | exact zQN ..
  | exact zQJ ..
  | exact zQK ..
  | exact zNZ ..
  | exact absurd rfl (hc _ _)
  | exact absurd rfl (hp _ _ _)
  | exact zKH ..
  | exact zKG ..
  | (subst hq; exact zQP ..)
  | (subst hq; exact zQO ..)
theorem zR6 {op : LOp} {x : AV} (hq : zBW op = true) (h : zDk P op e H fun y => y = x) : zDk P op e H' fun y => y = x := by
 have hh : ∀ (op : LOp), zBW op = true → (∀ f args, op ≠ .call f args) → (∀ c x y, op ≠ .pick c x y) → ((zB2 op e H).ok ∧ (zB2 op e H).H = H ∧ (zB2 op e H).x = x) → ((zB2 op e H').ok ∧ (zB2 op e H').H = H' ∧ (zB2 op e H').x = x) := fun op hq hc hp ⟨h1, h2, h3⟩ => by
  rw [zJl (H := H) hq hc hp]
  exact ⟨h1, rfl, h3⟩
 cases op <;> simp only [zDk] at h ⊢ <;> first | exact h | (cases hq; done) | exact hh _ hq (by simp) (by simp) h
theorem zFg {o : LO} {x : AV} (hq : zBW o.op = true) (h : zG6 P o e H x) : zG6 P o e H' x := by
 rcases h with ⟨h1, h2⟩ | h
 ·exact .inl ⟨h1, zR6 hq h2⟩
 ·exact .inr h
def wr : List (Option Nat × AV) → Env → Env
 | [], e => e
 | (d, x) :: l, e => wr l (ups e d x)
theorem zFu : ∀ (l : List (Option Nat × AV)) (e : Env) (d : Option Nat) (x : AV), wr (l ++ [(d, x)]) e = ups (wr l e) d x
 | [], _, _, _ => rfl
 | (d', x') :: l, e, d, x => zFu l (ups e d' x') d x
theorem zNq {t : Nat} : ∀ (l : List (Option Nat × AV)) (e : Env), (∀ x, (some t, x) ∉ l) → wr l e t = e t
 | [], _, _ => rfl
 | (d, x) :: l, e, h => by
  rw [wr, zNq l _ fun y hy => h y (zYE _ hy), zD6]
  intro hd; exact h x (by rw [hd]; exact zZc)
theorem zNy {d d' : Option Nat} {x x' : AV} (h : ∀ t, d = some t → d' ≠ some t) : ups (ups e d x) d' x' = ups (ups e d' x') d x := by
 funext t
 cases d with
 | none => rfl
 | some a =>
  cases d' with
  | none => rfl
  | some b =>
   have hab : a ≠ b := fun hh => h a rfl (by rw [hh])
   simp only [ups, up]
   by_cases h1 : t = b
   ·rw [if_pos h1, if_neg (by omega), if_pos h1]
   ·rw [if_neg h1, if_neg h1]
theorem zLf {d : Option Nat} {y : AV} : ∀ (l : List (Option Nat × AV)) (e : Env), (∀ t, d = some t → ∀ x, (some t, x) ∉ l) → ups (wr l e) d y = wr l (ups e d y)
 | [], _, _ => rfl
 | (d', x) :: l, e, h => by
  rw [wr, wr, zLf l _ fun t ht z hz => h t ht z (zYE _ hz), zNy]
  intro t ht hd
  exact h t hd x (by rw [ht]; exact zZc)
theorem zIE {op : LOp} {e e' : Env} {K : AV → zC → Prop} (h : ∀ t ∈ op.rd, e t = e' t) (hk : aop P op e H K) : aop P op e' H K := by
 have ha := zGU (H := H) h
 cases op <;> simp only [aop] at hk ⊢ <;> first | (rw [← ha]; exact hk) | exact hk | skip
 case call f args =>
  simp only [LOp.rd, zXV] at h
  rw [← zAo fun t ht => h t (.inl ht), ← zCC fun t ht => h t (.inr ht)]
  exact hk
 case callh f args =>
  simp only [LOp.rd, zXV] at h
  rw [← zAo fun t ht => h t (.inl ht), ← zCC fun t ht => h t (.inr ht)]
  exact hk
 case pick c a b =>
  simp only [LOp.rd, zXV] at h
  rw [← zAo fun t ht => h t (.inl (.inl ht)), ← zAo fun t ht => h t (.inl (.inr ht)), ← zAo fun t ht => h t (.inr ht)]
  exact hk
 case isnil neg x =>
  rw [← zAo h]
  exact hk
 case nextm x =>
  rw [← zAo h]
  exact hk
variable {ops : Array Oper} {hd : List LO} {xs : Nat → AV}
def Pr (P : Program) (n : Nat) (hs : List Hn) (reg : Nat) (ops : Array Oper) (hd : List LO) (h p1 p2 : Nat) : Prop := ∀ i j, j < ops.size → i < j →
 ((Region.before ops).getD j 0).testBit i = true ∨ (j < h ∧ zBa (hd.getD i default) (hd.getD j default) = false) ∨
  (i < h ∧ h ≤ j ∧ zAF hs reg j = [] ∧ zTn (hd.getD i default).op = true ∧ zBa (hd.getD i default) (zEj P n hs reg ops j) = false ∧ comm (hd.getD i default).op (zEj P n hs reg ops j).op = true) ∨ (p1 ≤ i ∧ j < p2)
end
section
variable {P : Program} {π : List Nat} {ops : Array Oper} {n : Nat}
theorem zCb (h : zCR π n = true) : π.length = n ∧ ∀ k, k < n → π.getD k 0 < n ∧ π.idxOf (π.getD k 0) = k ∧ π.idxOf k < n ∧ π.getD (π.idxOf k) 0 = k := by
 simp only [zCR, zXE, zXB, zXZ, zYk] at h
 exact ⟨h.1, fun k hk => ⟨(h.2 k hk).1.1.1, (h.2 k hk).1.1.2, (h.2 k hk).1.2, (h.2 k hk).2⟩⟩
theorem zJ3 (h : zCR π n = true) {j : Nat} (hj : n ≤ j) : n ≤ π.idxOf j := by
 obtain ⟨hl, hp⟩ := zCb h
 refine zXY fun hlt => ?_
 have hlt : π.idxOf j < n := by omega
 have hmem : j ∈ π := List.idxOf_lt_length_iff.1 (by omega)
 obtain ⟨k, hk, rfl⟩ := zYB.1 hmem
 have := (hp k (by omega)).1
 simp [zXC, hk] at this
 omega
theorem zDq (h : zCR π ops.size = true) : (zB4 π ops).size = ops.size := by simp [zB4, (zCb h).1]
theorem zI5 (h : zCR π ops.size = true) {k : Nat} (hk : k < ops.size) : (zB4 π ops)[k]? = (ops[π.getD k 0]?).map (zHd π) := by
 obtain ⟨hl, hp⟩ := zCb h
 have h1 := (hp k hk).1
 have hkl : k < π.length := by omega
 have h2 : π[k]?.getD 0 < ops.size := by simpa [zXC] using h1
 simp [zB4, hkl] at h2 ⊢
 simp [zXX, h2]
theorem zEN (h : zCR π ops.size = true) (j : Nat) : (zB4 π ops)[π.idxOf j]? = (ops[j]?).map (zHd π) := by
 obtain ⟨hl, hp⟩ := zCb h
 by_cases hj : j < ops.size
 ·rw [zI5 h (hp j hj).2.2.1, (hp j hj).2.2.2]
 ·have h1 := zJ3 h (j := j) (by omega)
  rw [zYW (by rw [zDq h]; exact h1), zYW (by omega)]
  rfl
theorem zHF (h : zCR π ops.size = true) (tmps : Array Value) (j : Nat) : yielded (zB4 π ops) tmps (π.idxOf j) = yielded ops tmps j := by
 unfold yielded
 rw [zEN h j]
 cases ops[j]? <;> rfl
theorem zIP (h : zCR π ops.size = true) (o : Oper) (tmps : Array Value) : Region.wanted (zHd π o) (yielded (zB4 π ops) tmps) = Region.wanted o (yielded ops tmps) := by
 unfold Region.wanted zHd
 cases hg : o.guard with
 | none => rfl
 | some jb =>
  obtain ⟨j, b⟩ := jb
  simp only [zYj]
  rw [zHF h]
def Alike (π : List Nat) (n : Nat) (l l' : Array Bool) : Prop := l.size = n ∧ l'.size = n ∧ ∀ k, k < n → l'.getD k false = l.getD (π.getD k 0) false
theorem Alike.at_idx {l l' : Array Bool} (h : zCR π n = true) (ha : Alike π n l l') (j : Nat) : l'.getD (π.idxOf j) false = l.getD j false := by
 obtain ⟨hl, hp⟩ := zCb h
 by_cases hj : j < n
 ·rw [ha.2.2 _ (hp j hj).2.2.1, (hp j hj).2.2.2]
 ·have h1 := zJ3 h (j := j) (by omega)
  have e1 : l'.getD (π.idxOf j) false = false := by simp [zXX, zYW (show l'.size ≤ π.idxOf j by rw [ha.2.1]; exact h1)]
  have e2 : l.getD j false = false := by simp [zXX, zYW (show l.size ≤ j by rw [ha.1]; omega)]
  rw [e1, e2]
theorem Alike.set {l l' : Array Bool} (h : zCR π n = true) (ha : Alike π n l l') {i : Nat} (hi : i < n) : Alike π n (l.setIfInBounds i true) (l'.setIfInBounds (π.idxOf i) true) := by
 obtain ⟨hl, hp⟩ := zCb h
 refine ⟨by simpa using ha.1, by simpa using ha.2.1, fun k hk => ?_⟩
 rw [zAP, zAP, ha.2.2 k hk]
 by_cases hki : k = π.idxOf i
 ·subst hki
  rw [if_pos ⟨rfl, by rw [ha.2.1]; exact hk⟩, if_pos ⟨(hp i hi).2.2.2, by rw [ha.1]; exact hi⟩]
 ·rw [if_neg (fun hh => hki hh.1), if_neg]
  rintro ⟨e, _⟩
  have := (hp k hk).2.1
  rw [e] at this
  exact hki this.symm
theorem zEL {md : Region.Mode} {l l' : Array Bool} (h : zCR π ops.size = true) (ha : Alike π ops.size l l') {i : Nat} (hi : i < ops.size) : π.idxOf i ∈ Region.ready md (zB4 π ops) l' ↔ i ∈ Region.ready md ops l := by
 obtain ⟨hl, hp⟩ := zCb h
 rw [mem_ready, mem_ready, zEN h i]
 have e1 : l'.getD (π.idxOf i) true = l.getD i true := by
  rw [← zAw (by rw [ha.2.1]; exact (hp i hi).2.2.1), ← zAw (by rw [ha.1]; exact hi)]
  exact ha.at_idx h i
 rw [e1]
 refine and_congr Iff.rfl ⟨?_, ?_⟩
 ·rintro ⟨o', ho, hall⟩
  obtain ⟨o, hoo, rfl⟩ := zZz.1 ho
  refine ⟨o, hoo, fun e he hb => ?_⟩
  have := hall { e with on := π.idxOf e.on } (by simp only [zHd]; exact Array.mem_map.2 ⟨e, he, rfl⟩) hb
  rw [← ha.at_idx h e.on]
  exact this
 ·rintro ⟨o, ho, hall⟩
  refine ⟨zHd π o, by rw [ho]; rfl, fun e' he' hb => ?_⟩
  simp only [zHd] at he'
  obtain ⟨e, he, rfl⟩ := Array.mem_map.1 he'
  show l'.getD (π.idxOf e.on) false = true
  rw [ha.at_idx h e.on]
  exact hall e he hb
theorem zN5 {F : Fence} {m : Nat} {md : Region.Mode} {Q : Exit → Act → World → Prop} (h : zCR π ops.size = true) : ∀ (fuel : Nat) (l l' : Array Bool) (a : Act) (w : World), Alike π ops.size l l' →
  wpAnyIn F m P md (zB4 π ops) Q fuel l' a w → wpAnyIn F m P md ops Q fuel l a w := by
 obtain ⟨hl, hp⟩ := zCb h
 have emp : ∀ l l', Alike π ops.size l l' → (Region.ready md (zB4 π ops) l' = [] ↔ Region.ready md ops l = []) := by
  intro l l' ha
  rw [zYs, zYs]
  refine ⟨fun hh i hi => ?_, fun hh k hk => ?_⟩
  ·have his : i < ops.size := by obtain ⟨_, o, ho, _⟩ := mem_ready.1 hi; exact (zXM.1 ho).1
   exact hh _ ((zEL h ha his).2 hi)
  ·have hks : k < ops.size := by obtain ⟨_, o, ho, _⟩ := mem_ready.1 hk; have := (zXM.1 ho).1; rwa [zDq h] at this
   have := (zEL (md := md) h ha (hp k hks).1)
   rw [(hp k hks).2.1] at this
   exact hh _ (this.1 hk)
 intro fuel
 induction fuel with
 | zero => exact fun l l' a w ha hh => ⟨(emp l l' ha).1 hh.1, hh.2⟩
 | succ fuel ih =>
  intro l l' a w ha hh
  refine ⟨fun h0 => hh.1 ((emp l l' ha).2 h0), fun i hi => ?_⟩
  have his : i < ops.size := by obtain ⟨_, o, ho, _⟩ := mem_ready.1 hi; exact (zXM.1 ho).1
  have h1 := hh.2 _ ((zEL h ha his).2 hi)
  have hi2 : ops[i]? = some ops[i] := by simp [his]
  have hi1 : (zB4 π ops)[π.idxOf i]? = some (zHd π ops[i]) := by rw [zEN h i, hi2]; rfl
  unfold wpOpIn at h1 ⊢
  rw [hi1] at h1
  rw [hi2]
  simp only [zIP h] at h1 ⊢
  have hK : ∀ a w, wpAnyIn F m P md (zB4 π ops) Q fuel (l'.setIfInBounds (π.idxOf i) true) a w → wpAnyIn F m P md ops Q fuel (l.setIfInBounds i true) a w := fun a w => ih _ _ a w (ha.set h his)
  split
  ·rename_i hw; rw [if_pos hw] at h1; exact Oper.wpIn_mono hK h1
  ·rename_i hw; rw [if_neg hw] at h1; exact ⟨h1.1, hK _ _ h1.2⟩
theorem zC4 {F : Fence} {m : Nat} {Q : Exit → Act → World → Prop} {hs : List Hn} {id : Nat} {a : Act} {w : World} (hm : P.follows .mixedOrders = true)
  (h : wpAnyIn F m P .any (zHZ hs id ops) Q (zHZ hs id ops).size (Array.replicate (zHZ hs id ops).size false) a { w with drawn := w.drawn + 1 }) : (Code.region id ops true).wpIn F m P Q a w := by
 refine wpIn_region_any hm ?_
 unfold zHZ at h
 split at h
 ·rename_i π _
  split at h
  ·rename_i hk
   rw [zDq hk] at h
   exact zN5 hk _ _ _ _ _ ⟨by simp, by simp, fun k _ => by rw [getD_replicate_false, getD_replicate_false]⟩ h
  ·exact h
 ·exact h
end
section
variable {B : DB} {P : Program} {w w0 : World} {X : Nat → Prop} {ρ ρ0 : Nat → Loc} {H H' ext : zC} {e : Env} {a : Act} {n n0 : Nat}
variable {ops : Array Oper} {hd : List LO} {xs : Nat → AV}
end
section
variable {B : DB} {P : Program} {w w0 : World} {X : Nat → Prop} {ρ ρ0 : Nat → Loc} {H H' ext : zC} {e e1 : Env} {a : Act} {n n0 : Nat}
variable {ops : Array Oper} {hd : List LO} {xs : Nat → AV} {T : List Nat} {hs : List Hn} {reg : Nat}
theorem zHn {i : Nat} (hi : i < ops.size) : (hdA P n hs reg ops T).getD i default = if T.contains i then zJb else zEj P n hs reg ops i := by
 simp [hdA, zXC, hi]
theorem zJG {q i : Nat} (h : q ≤ i) (hn : ∀ j, q ≤ j → j < i → T.contains j = false) : tlA P n hs reg ops T q = tlA P n hs reg ops T i := by
 induction i with
 | zero => rw [show q = 0 by omega]
 | succ i ih =>
  by_cases hq : q = i + 1
  ·rw [hq]
  ·rw [ih (by omega) fun j a b => hn j a (by omega)]
   unfold tlA
   by_cases hi : i < ops.size
   ·rw [show ops.size - i = (ops.size - (i + 1)) + 1 by omega, zZB, List.filter_cons_of_neg (by rw [hn i (by omega) (by omega)]; simp)]
   ·rw [show ops.size - i = 0 by omega, show ops.size - (i + 1) = 0 by omega]
    simp
theorem zNA {i : Nat} (hi : i < ops.size) (hT : T.contains i = true) : tlA P n hs reg ops T i = prA P n hs reg ops T i :: tlA P n hs reg ops T (i + 1) := by
 unfold tlA
 rw [show ops.size - i = (ops.size - (i + 1)) + 1 by omega, zZB, List.filter_cons_of_pos hT, zYx]
theorem zDY {x : LO} : zBa zJb x = false ∧ zBa x zJb = false := by
 cases hx : x.d <;> simp [zBa, zJb, zSr, LO.rd, LOp.rd, LX.rd, hx]
structure OkA (P : Program) (n : Nat) (hs : List Hn) (reg : Nat) (ops : Array Oper) (T : List Nat) (hd : List LO) : Prop where
 low : ∀ i o, ops[i]? = some o → ∃ imm, zBF P n imm ops o = some (zEj P n hs reg ops i)
 hh : ∀ i j, j < ops.size → i < j → T.contains i = false → T.contains j = false → ((Region.before ops).getD j 0).testBit i = true ∨ zBa (hd.getD i default) (hd.getD j default) = false
 tt : ∀ i j, j < ops.size → i < j → T.contains i = true → T.contains j = true → ((Region.before ops).getD j 0).testBit i = true
 ht : ∀ i j, j < ops.size → i < ops.size → T.contains i = false → T.contains j = true → ((Region.before ops).getD j 0).testBit i = true ∨ zBa (hd.getD i default) (zEj P n hs reg ops j) = false
 sa : ∀ j, j < ops.size → T.contains j = false → zBW (hd.getD j default).op = true ∨ zVd hd j = true
theorem zGK (h : zDD P n hs reg ops T = true) : OkA P n hs reg ops T (hdA P n hs reg ops T) := by
 unfold zDD at h
 simp only [zXE] at h
 obtain ⟨⟨h1, h2⟩, h3⟩ := h
 have g : ∀ i j, j < ops.size → i < j → _ := fun i j hj hi => zXZ.1 (zXZ.1 h2 j (zYk.2 hj)) i (zYk.2 hi)
 refine ⟨fun i o ho => ?_, fun i j hj hi a b => ?_, fun i j hj hi a b => ?_, fun i j hj hi a b => ?_, fun j hj a => ?_⟩
 ·have hi := (zXM.1 ho).1
  have := zXZ.1 h1 i (zYk.2 hi)
  rw [ho] at this
  simp only [zYj, beq_iff_eq, zXt, zXE] at this
  refine ⟨zCV hs reg i, ?_⟩
  unfold zEj
  rw [ho]
  simp only
  cases hl : zBF P n (zCV hs reg i) ops o with
  | none => rw [hl] at this; simp at this
  | some lo => rfl
 ·have := g i j hj hi
  rw [a, b] at this
  simpa using this
 ·have := g i j hj hi
  rw [a, b] at this
  simpa using this
 ·rcases Nat.lt_trichotomy i j with hij | hij | hij
  ·have := g i j hj hij
   rw [a, b] at this
   simpa using this
  ·subst hij; rw [a] at b; cases b
  ·have := g j i hi hij
   rw [a, b] at this
   exact .inr (by simpa using this)
 ·have := zXZ.1 h3 j (zYk.2 hj)
  rw [a] at this
  simpa using this
theorem zO0 {j : Nat} (h : zVd hd j = true) (hj : j < hd.length) : (∀ t ∈ (hd.getD j default).rd, ED hd xs e (fun _ => true) hd.length t = ED hd xs e (fun _ => true) j t) ∧ ∃ t, (hd.getD j default).d = some t ∧ ED hd xs e (fun _ => true) hd.length t = xs j := by
 unfold zVd at h
 simp only [zXE, zXZ, zYk, zYS, zXB, zYA, Bool.and_eq_false_iff] at h
 obtain ⟨h1, h2⟩ := h
 obtain ⟨t, ht⟩ := Option.isSome_iff_exists.1 h1
 have nw : ∀ k, j ≤ k → k < hd.length → ∀ u ∈ (hd.getD j default).rd, (hd.getD k default).d ≠ some u := by
  intro k hk hkl u hu hd'
  rcases h2 k hkl with g | g
  ·omega
  ·have := zFQ (by rw [← hd']; exact g.1)
   exact this hu
 refine ⟨fun u hu => ?_, t, ht, ?_⟩
 ·exact zB7 (i := j) hd.length (by omega) fun k a b c => absurd c (nw k a b u hu)
 ·rw [zB7 (i := j + 1) hd.length (by omega) fun k a b c => ?_]
  ·simp only [ED, if_true]
   rw [ht, zCn]
  ·rcases h2 k b with g | g
   ·omega
   ·rcases g.2 with g2 | g2
    ·omega
    ·rw [c, ht] at g2
     simp at g2
theorem zNc {r : Option Nat} {m0 : Nat} {K : Env → zC → Prop} {Q : Exit → Act → World → Prop} (hE : zBm ops = true) (hD : OkA P n hs reg ops T hd) (hlen : hd.length = ops.size) (hhd : hd = hdA P n hs reg ops T)
  (he1 : e1 = ED hd xs e (fun _ => true) ops.size)
  (hQ : ∀ e' H' a' w', K e' H' → St B X w0 ρ0 n0 n e' H' a' w' → Q .normal a' w') :
  ∀ (fuel q : Nat) (ws : List (Option Nat × AV)) (H : zC) (a : Act) (w : World) (listed : Array Bool), q ≤ ops.size → fuel = left listed ops.size → listed.size = ops.size →
   (∀ j, j < ops.size → T.contains j = true → listed.getD j true = decide (j < q)) → Closed ops listed → zEX P hd e1 (tlA P n hs reg ops T q) (wr ws e1) H K →
   (∀ i, i < ops.size → T.contains i = false → listed.getD i false = false → zG6 P (hd.getD i default) (ED hd xs e (fun _ => true) i) H (xs i)) →
   (∀ i, i < ops.size → T.contains i = false → listed.getD i false = false → ∀ t x, (some t, x) ∈ ws → t ∉ (hd.getD i default).rd ∧ (hd.getD i default).d ≠ some t) →
   St B X w0 ρ0 n0 n (wr ws (ED hd xs e (fun j => listed.getD j false) ops.size)) H a w → wpAnyIn (WR r) m0 P .any ops Q fuel listed a w := by
 have hcf1 : ∀ a b : LO, ∀ t, a.d = some t → t ∈ b.rd → zBa a b = true := by
  intro a b t h1 h2
  cases hb : zBa a b with
  | true => rfl
  | false => exact absurd h2 ((zCJ hb).1 t h1)
 have hcf2 : ∀ a b : LO, ∀ t, b.d = some t → t ∈ a.rd → zBa a b = true := by
  intro a b t h1 h2
  cases hb : zBa a b with
  | true => rfl
  | false => exact absurd h2 ((zCJ hb).2.1 t h1)
 have hcf3 : ∀ a b : LO, ∀ t, a.d = some t → b.d = some t → zBa a b = true := by
  intro a b t h1 h2
  cases hb : zBa a b with
  | true => rfl
  | false => exact absurd h2 ((zCJ hb).2.2 t h1)
 have hnoop : ∀ j, j < ops.size → T.contains j = true → hd.getD j default = zJb := by
  intro j hj hT
  rw [hhd, zHn hj, if_pos hT]
 intro fuel
 induction fuel with
 | zero =>
  intro q ws H a w listed hq hf hsz ht hc hK hx hw hst
  have hall : ∀ j, j < ops.size → listed.getD j true = true := by
   intro j hj
   cases hb : listed.getD j true with
   | true => rfl
   | false => have := zEr hb ops.size hj; omega
  have hE' : ED hd xs e (fun j => listed.getD j false) ops.size = e1 := by
   rw [he1]
   funext t
   exact zBn ops.size fun j hj _ => by rw [zAw (by omega), hall j (by omega)]
  rw [hE'] at hst
  have hnil : tlA P n hs reg ops T q = [] := by
   rw [zJG hq fun j a b => ?_]
   ·unfold tlA
    rw [zZl]; rfl
   ·cases hT : T.contains j with
    | false => rfl
    | true =>
     have := ht j b hT
     rw [hall j b] at this
     simp at this
     omega
  rw [hnil] at hK
  refine ⟨zYs.2 fun i hi => ?_, hQ _ _ _ _ hK hst⟩
  obtain ⟨h1, o, h2, _⟩ := mem_ready.1 hi
  rw [hall i (zXM.1 h2).1] at h1
  cases h1
 | succ fuel ih =>
  intro q ws H a w listed hq hf hsz ht hc hK hx hw hst
  have hun : ∃ i, i < ops.size ∧ listed.getD i true = false := by
   refine zXY fun hno => ?_
   have := zCM (listed := listed) (h := ops.size) ops.size fun j hj => by
    cases hb : listed.getD j true with
    | true => simp [hj]
    | false => exact absurd ⟨j, hj, hb⟩ hno
   omega
  obtain ⟨i0, hi0, hi0u, hi0l⟩ := zEs hun
  have hr0 : i0 ∈ Region.ready .any ops listed := zDL hE (by omega) hi0u fun j hj => by rw [zAw (by omega)]; exact hi0l j hj
  refine ⟨fun h0 => by rw [h0] at hr0; simp at hr0, fun i hi => ?_⟩
  obtain ⟨hiu, oi, hoi, hiall⟩ := mem_ready.1 hi
  have his : i < ops.size := (zXM.1 hoi).1
  have hidf : listed.getD i false = false := by rw [zAw (by omega)]; exact hiu
  have hcount : fuel = left (listed.setIfInBounds i true) ops.size := by
   have := zEq hiu ops.size
   rw [if_pos his] at this
   omega
  obtain ⟨imm, hlow⟩ := hD.low i oi hoi
  by_cases hih : T.contains i = false
  ·
   have hgi : hd.getD i default = zEj P n hs reg ops i := by rw [hhd, zHn his, if_neg (by rw [hih]; simp)]
   rw [← hgi] at hlow
   have hbef : ∀ j, j < i → zBa (hd.getD j default) (hd.getD i default) = true → listed.getD j false = true := by
    intro j hj hcf
    cases hT : T.contains j with
    | true => rw [hnoop j (by omega) hT, zDY.1] at hcf; cases hcf
    | false =>
     rcases hD.hh j i his hj hT hih with g6 | g6
     ·exact zAr hc i oi j hoi g6 hiall
     ·rw [g6] at hcf; cases hcf
   have hbeh : ∀ j, i < j → j < ops.size → zBa (hd.getD i default) (hd.getD j default) = true → listed.getD j false = false := by
    intro j hj hjh hcf
    cases hT : T.contains j with
    | true => rw [hnoop j hjh hT, zDY.2] at hcf; cases hcf
    | false =>
     rcases hD.hh i j hjh hj hih hT with g6 | g6
     ·cases hb : listed.getD j false with
      | false => rfl
      | true =>
       obtain ⟨oj, hoj⟩ : ∃ oj, ops[j]? = some oj := ⟨ops[j]'(by omega), by simp [show j < ops.size by omega]⟩
       have := zAr hc j oj i hoj g6 (hc j oj hoj hb)
       rw [hidf] at this
       cases this
     ·rw [g6] at hcf; cases hcf
   have hwi := hw i his hih hidf
   have hA : ∀ t ∈ (hd.getD i default).rd, ED hd xs e (fun _ => true) i t = wr ws (ED hd xs e (fun j => listed.getD j false) ops.size) t := by
    intro t htr
    rw [zNq ws _ fun x hx => (hwi t x hx).1 htr, zB7 (i := i) ops.size (by omega) fun j h1 h2 h3 => by
     by_cases hji : j = i
     ·rw [hji]; exact hidf
     ·exact hbeh j (by omega) h2 (hcf2 _ _ t h3 htr)]
    exact zBn i fun j h1 h2 => (hbef j h1 (hcf1 _ _ t h2 htr)).symm
   have hB0 : ups (ED hd xs e (fun j => listed.getD j false) ops.size) (hd.getD i default).d (xs i) = ED hd xs e (fun j => (listed.setIfInBounds i true).getD j false) ops.size := by
    funext t
    by_cases hdt : (hd.getD i default).d = some t
    ·rw [zB7 (i := i + 1) ops.size (by omega) fun j h1 h2 h3 => by
      rw [zAP, if_neg (by omega)]
      exact hbeh j (by omega) h2 (hcf3 _ _ t hdt h3)]
     rw [hdt, zCn]
     have hset : (listed.setIfInBounds i true).getD i false = true := by rw [zAP, if_pos ⟨rfl, by omega⟩]
     simp only [ED]
     rw [if_pos hset, hdt, zCn]
    ·rw [zD6 hdt]
     exact zBn ops.size fun j h1 h2 => by
      rw [zAP, if_neg]
      rintro ⟨rfl, _⟩
      exact hdt h2
   have hB : ups (wr ws (ED hd xs e (fun j => listed.getD j false) ops.size)) (hd.getD i default).d (xs i) = wr ws (ED hd xs e (fun j => (listed.setIfInBounds i true).getD j false) ops.size) := by
    rw [zLf ws _ fun t ht x hx => (hwi t x hx).2 ht, hB0]
   have hstep := zCu hA (hx i his hih hidf)
   have hone : zA8 P [hd.getD i default] (wr ws (ED hd xs e (fun j => listed.getD j false) ops.size)) H fun e' H' => e' = wr ws (ED hd xs e (fun j => (listed.setIfInBounds i true).getD j false) ops.size) ∧ H' = H := by
    refine zEW ?_
    rcases hstep with ⟨g1, g2⟩ | ⟨g1, g2⟩
    ·refine .inl ⟨g1, ?_⟩
     have := zEi g2
     simp only [zA8]
     refine zD2 this ?_
     rintro y H' ⟨rfl, rfl⟩
     exact ⟨hB, rfl⟩
    ·refine .inr ⟨g1, ?_⟩
     rw [← g2]
     exact ⟨hB, rfl⟩
   have hnx := zCL (r := r) (m0 := m0) hlow hone hst (next := wpAnyIn (WR r) m0 P .any ops Q fuel (listed.setIfInBounds i true)) (Q := Q) fun e'' H'' a'' w'' hK'' hs'' => by
    obtain ⟨rfl, rfl⟩ := hK''
    have hsub : ∀ j, (listed.setIfInBounds i true).getD j false = false → listed.getD j false = false := fun j hl => by
     rw [zAP] at hl
     split at hl
     ·cases hl
     ·exact hl
    refine ih q ws _ a'' w'' _ hq hcount (by simpa using hsz) (fun j h1 h2 => ?_) (hc.set hi) hK (fun j hj hT hl => hx j hj hT (hsub j hl)) (fun j hj hT hl => hw j hj hT (hsub j hl)) hs''
    rw [zAP, if_neg]
    ·exact ht j h1 h2
    ·rintro ⟨rfl, _⟩
     rw [hih] at h2; cases h2
   unfold wpOpIn
   rw [hoi]
   simp only
   exact hnx
  ·
   have hiT : T.contains i = true := by simpa using hih
   have hqi : q ≤ i := by
    have g1 := ht i his hiT
    rw [hiu] at g1
    simpa using g1.symm
   have hno : ∀ j, q ≤ j → j < i → T.contains j = false := by
    intro j h1 h2
    cases hT : T.contains j with
    | false => rfl
    | true =>
     have g1 := zAr hc i oi j hoi (hD.tt j i his h2 hT hiT) hiall
     rw [zAw (by omega), ht j (by omega) hT] at g1
     simp at g1
     omega
   rw [zJG hqi hno, zNA his hiT] at hK
   generalize hlo : zEj P n hs reg ops i = lo at hlow
   have hpr : prA P n hs reg ops T i = (lo, zDu hd T ((Region.before ops).getD i 0)) := by unfold prA; rw [hlo, hhd]
   rw [hpr] at hK
   have hK : zA8 P [lo] (wr ws e1) H fun e' H' => zDh P hd e1 H' (zDu hd T ((Region.before ops).getD i 0)) ∧ zEX P hd e1 (tlA P n hs reg ops T (i + 1)) e' H' K := hK
   have hfr : ∀ j, j < ops.size → T.contains j = false → listed.getD j false = false → ((Region.before ops).getD i 0).testBit j = false ∧ zBa (hd.getD j default) lo = false := by
    intro j hj hT hl
    have hnb : ((Region.before ops).getD i 0).testBit j = false := by
     cases hb : ((Region.before ops).getD i 0).testBit j with
     | false => rfl
     | true =>
      have := zAr hc i oi j hoi hb hiall
      rw [hl] at this
      cases this
    refine ⟨hnb, ?_⟩
    rcases hD.ht j i his hj hT hiT with g | g
    ·rw [hnb] at g; cases g
    ·rw [← hlo]; exact g
   have hR : ∀ t ∈ lo.rd, wr ws e1 t = wr ws (ED hd xs e (fun j => listed.getD j false) ops.size) t := by
    intro t htr
    have : ∀ (l : List (Option Nat × AV)) (e1 e2 : Env), e1 t = e2 t → wr l e1 t = wr l e2 t := by
     intro l
     induction l with
     | nil => intro e1 e2 h; exact h
     | cons p l ihl =>
      intro e1 e2 h
      obtain ⟨d, x⟩ := p
      refine ihl _ _ ?_
      by_cases hdt : d = some t
      ·rw [hdt, zCn, zCn]
      ·rw [zD6 hdt, zD6 hdt]; exact h
    refine this ws _ _ ?_
    rw [he1]
    refine zBn ops.size fun j hj hdj => ?_
    cases hb : listed.getD j false with
    | true => rfl
    | false =>
     cases hT : T.contains j with
     | true =>
      rw [hnoop j hj hT] at hdj
      cases hdj
     | false =>
      have := (zCJ (hfr j hj hT hb).2).1 t hdj
      exact absurd htr this
   have hwant : zBO lo.g (wr ws e1) = zBO lo.g (wr ws (ED hd xs e (fun j => listed.getD j false) ops.size)) := zEd fun t want hg => hR t (by simp [LO.rd, hg])
   have hone : zA8 P [lo] (wr ws (ED hd xs e (fun j => listed.getD j false) ops.size)) H fun e' H2 => ∃ x, e' = ups (wr ws (ED hd xs e (fun j => listed.getD j false) ops.size)) lo.d x ∧ zDh P hd e1 H2 (zDu hd T ((Region.before ops).getD i 0)) ∧ zEX P hd e1 (tlA P n hs reg ops T (i + 1)) (ups (wr ws e1) lo.d x) H2 K := by
    refine zEW ?_
    rcases zED hK with ⟨g1, g2⟩ | ⟨g1, g2⟩
    ·refine .inl ⟨by rw [← hwant]; exact g1, ?_⟩
     have g3 := zIE (fun t ht => hR t (by simp [LO.rd, ht])) g2
     refine zD2 g3 fun x H2 hx2 => ?_
     simp only [zA8] at hx2 ⊢
     exact ⟨x, rfl, hx2.1, hx2.2⟩
    ·refine .inr ⟨by rw [← hwant]; exact g1, ?_⟩
     simp only [zA8] at g2 ⊢
     exact ⟨zAJ, rfl, g2.1, g2.2⟩
   have hnx := zCL (r := r) (m0 := m0) hlow hone hst (next := wpAnyIn (WR r) m0 P .any ops Q fuel (listed.setIfInBounds i true)) (Q := Q) fun e'' H'' a'' w'' hK'' hs'' => by
    obtain ⟨x, rfl, hkp, hK2⟩ := hK''
    have hsame : ∀ j, j ≠ i → (listed.setIfInBounds i true).getD j false = listed.getD j false := fun j hj => by rw [zAP, if_neg (by omega)]
    have hED : ED hd xs e (fun j => (listed.setIfInBounds i true).getD j false) ops.size = ED hd xs e (fun j => listed.getD j false) ops.size := by
     funext t
     refine zBn ops.size fun j hj hdj => hsame j ?_
     rintro rfl
     rw [hnoop j hj hiT] at hdj
     cases hdj
    have hne : ∀ j, T.contains j = false → j ≠ i := by
     rintro j hT rfl
     rw [hiT] at hT; cases hT
    refine ih (i + 1) (ws ++ [(lo.d, x)]) H'' a'' w'' _ (by omega) hcount (by simpa using hsz) (fun j hj1 hj2 => ?_) (hc.set hi) (by rw [zFu]; exact hK2) (fun j hj hT hl => ?_) (fun j hj hT hl t y hy => ?_) (by rw [zFu, hED]; exact hs'')
    ·rw [zAP]
     by_cases hji : j = i
     ·rw [if_pos ⟨hji, by omega⟩]; simp; omega
     ·rw [if_neg fun hh => hji hh.1, ht j hj1 hj2]
      by_cases hjq : j < q
      ·simp [hjq]; omega
      ·simp [hjq]
       have : ¬ j < i := fun hlt => by rw [hno j (by omega) hlt] at hj2; cases hj2
       omega
    ·rw [hsame j (hne j hT)] at hl
     have hold := hx j hj hT hl
     rcases hD.sa j hj hT with g | g
     ·exact zFg g hold
     ·by_cases hhl : zBW (hd.getD j default).op = true
      ·exact zFg hhl hold
      ·have hmem : j ∈ zDu hd T ((Region.before ops).getD i 0) := by
        unfold zDu
        simp only [zYR, zYk, zXE, zYA]
        exact ⟨by omega, ⟨hT, by simpa using hhl⟩, (hfr j hj hT hl).1⟩
       obtain ⟨y, hy1, hy2⟩ := zD1 (hkp j hmem)
       obtain ⟨s1, t, s2, s3⟩ := zO0 (xs := xs) (e := e) g (by omega)
       rw [hlen, ← he1] at s1 s3
       have hy2 : ups e1 (hd.getD j default).d y = e1 := hy2
       have hyx : y = xs j := by
        have := congrFun hy2 t
        rw [s2, zCn] at this
        rw [this, s3]
       rw [hyx] at hy1
       exact zCu s1 hy1
    ·rw [hsame j (hne j hT)] at hl
     rcases zXV.1 hy with hy | hy
     ·exact hw j hj hT hl t y hy
     ·simp only [zYL, zXO] at hy
      have hcf := zCJ (hfr j hj hT hl).2
      exact ⟨hcf.2.1 t hy.1.symm, fun hdj => hcf.2.2 t hdj hy.1.symm⟩
   unfold wpOpIn
   rw [hoi]
   simp only
   exact hnx
theorem zJr {r : Option Nat} {m0 : Nat} {K : Env → zC → Prop} {Q : Exit → Act → World → Prop} (hD : zDD P n hs reg ops T = true) (hE : zBm ops = true) (hg : zCW n (zAF hs reg ops.size) = true)
  (hK : zBc P (hdA P n hs reg ops T) e H fun e1 => zEX P (hdA P n hs reg ops T) e1 (tlA P n hs reg ops T 0) e1 H fun e' H' => zA8 P (zAF hs reg ops.size) e' H' K) (hst : St B X w0 ρ0 n0 n e H a w)
  (hQ : ∀ e' H' a' w', K e' H' → St B X w0 ρ0 n0 n e' H' a' w' → Q .normal a' w') : wpAnyIn (WR r) m0 P .any ops Q ops.size (Array.replicate ops.size false) a { w with drawn := w.drawn + 1 } := by
 have hlen : (hdA P n hs reg ops T).length = ops.size := by simp [hdA]
 obtain ⟨xs, g3, g4⟩ := zDe _ hK
 rw [hlen] at g3 g4
 have h0 : ∀ j, (Array.replicate ops.size false).getD j false = false := fun j => getD_replicate_false _ _
 have h1 : ∀ j, j < ops.size → (Array.replicate ops.size false).getD j true = false := fun j hj => by rw [← zAw (by simpa using hj)]; exact h0 j
 refine zNc (B := B) (X := X) (w0 := w0) (ρ0 := ρ0) (n0 := n0) hE (zGK hD) hlen rfl rfl (K := fun e' H' => zA8 P (zAF hs reg ops.size) e' H' K) (fun e' H' a' w' hk hs' => ?_) ops.size 0 [] H a _ _ (zXJ _) ?_ (by simp) (fun j hj _ => by rw [h1 j hj]; simp) (fun j oj hj hl => ?_) g3 (fun i hi _ _ => g4 i hi) (fun i _ _ _ t x hx => by simp at hx) ?_
 ·obtain ⟨e2, H2, k1, k2⟩ := zAt (zAF hs reg ops.size) (los := []) hg (by simpa using hk) hs'
  exact hQ _ _ _ _ k1 k2
 ·have := zCM (listed := Array.replicate ops.size false) (h := 0) ops.size fun j hj => by rw [h1 j hj]; simp
  omega
 ·rw [h0 j] at hl
  cases hl
 ·have : ED (hdA P n hs reg ops T) xs e (fun j => (Array.replicate ops.size false).getD j false) ops.size = e := by
   funext t
   rw [zB7 (i := 0) ops.size (zXJ _) fun j _ _ _ => h0 j]
   rfl
  show St B X w0 ρ0 n0 n (ED _ xs e (fun j => (Array.replicate ops.size false).getD j false) ops.size) H a _
  rw [this]
  exact hst.still ⟨rfl, rfl, rfl, zXL _⟩ rfl
end
section
variable {B : DB} {P : Program} {w w0 : World} {X : Nat → Prop} {ρ ρ0 : Nat → Loc} {H H' ext : zC} {e e1 em : Env} {a : Act} {n n0 : Nat}
variable {ops : Array Oper} {hd : List LO} {xs : Nat → AV} {T : List Nat} {hs : List Hn} {reg : Nat}
theorem zGg {f : AV} {args : List AV} {K K' : AV → zC → Prop} {Z Z' : Value → zC → Prop} (h : zEc P f args H K Z) (hK : ∀ x H', K x H' → K' x H') (hZ : ∀ v H', Z v H' → Z' v H') : zEc P f args H K' Z' := by
 unfold zEc at h ⊢
 split at h
 ·exact ACallX.mono h hK hZ
 ·exact h.elim
theorem zDJ {g : Option (Nat × Bool)} {A A' C C' : Prop} (h : zGh g e A C) (hA : A → A') (hC : C → C') : zGh g e A' C' := by
 unfold zGh at h ⊢
 split at h
 ·exact hA h
 ·split at h
  ·split at h
   ·rename_i hb; rw [if_pos hb]; exact hA h
   ·rename_i hb; rw [if_neg hb]; exact hC h
  ·exact hC h
  ·exact h.elim
theorem zFw {g : Option (Nat × Bool)} {e e' : Env} {A C : Prop} (hg : ∀ t want, g = some (t, want) → e t = e' t) (h : zGh g e A C) : zGh g e' A C := by
 unfold zGh at h ⊢
 cases g with
 | none => exact h
 | some p => obtain ⟨t, want⟩ := p; simp only at h ⊢; rw [← hg t want rfl]; exact h
theorem zNf {c : Bool} {lo : LO} {e e' : Env} {G : Env → zC → Prop} {Z : Value → zC → Prop} (hR : ∀ t ∈ lo.rd, e t = e' t) (h : aTI P c lo e H G Z) :
  aTI P c lo e' H (fun e2 H2 => ∃ x, e2 = ups e' lo.d x ∧ G (ups e lo.d x) H2) Z := by
 have hgd : ∀ t want, lo.g = some (t, want) → e t = e' t := fun t want hg => hR t (by simp [LO.rd, hg])
 unfold aTI at h ⊢
 split at h
 ·rename_i f args hop
  rw [← zAo fun t ht => hR t (by simp [LO.rd, hop, LOp.rd, ht]), ← zCC fun t ht => hR t (by simp [LO.rd, hop, LOp.rd, ht])]
  exact zFw hgd (zDJ h (fun h => zGg h (fun x H' hx => ⟨x, rfl, hx⟩) fun _ _ hz => hz) fun h => ⟨zAJ, rfl, h⟩)
 ·rename_i x hop
  rw [← zAo fun t ht => hR t (by simp [LO.rd, hop, LOp.rd, ht])]
  exact zFw hgd (zDJ h id fun h => ⟨zAJ, rfl, h⟩)
 ·refine zEW ?_
  have hw : zBO lo.g e = zBO lo.g e' := zEd hgd
  rcases zED h with ⟨g1, g2⟩ | ⟨g1, g2⟩
  ·refine .inl ⟨by rw [← hw]; exact g1, ?_⟩
   have g3 := zIE (fun t ht => hR t (by simp [LO.rd, ht])) g2
   refine zD2 g3 fun x H2 hx2 => ?_
   simp only [zA8] at hx2 ⊢
   exact ⟨x, rfl, hx2⟩
  ·refine .inr ⟨by rw [← hw]; exact g1, ?_⟩
   simp only [zA8] at g2 ⊢
   exact ⟨zAJ, rfl, g2⟩
theorem zJF {q i : Nat} (h : q ≤ i) (hn : ∀ j, q ≤ j → j < i → T.contains j = false) : tlX P n hs reg ops T q = tlX P n hs reg ops T i := by
 induction i with
 | zero => rw [show q = 0 by omega]
 | succ i ih =>
  by_cases hq : q = i + 1
  ·rw [hq]
  ·rw [ih (by omega) fun j a b => hn j a (by omega)]
   unfold tlX
   by_cases hi : i < ops.size
   ·rw [show ops.size - i = (ops.size - (i + 1)) + 1 by omega, zZB, List.filter_cons_of_neg (by rw [hn i (by omega) (by omega)]; simp)]
   ·rw [show ops.size - i = 0 by omega, show ops.size - (i + 1) = 0 by omega]
    simp
theorem zNz {i : Nat} (hi : i < ops.size) (hT : T.contains i = true) : tlX P n hs reg ops T i = prX P n hs reg ops T i :: tlX P n hs reg ops T (i + 1) := by
 unfold tlX
 rw [show ops.size - i = (ops.size - (i + 1)) + 1 by omega, zZB, List.filter_cons_of_pos hT, zYx]
theorem zOg {l : List (Option Nat)} (t : Nat) : zMf e l t = .any ∨ (some t ∉ l ∧ zMf e l t = e t) := by
 unfold zMf
 by_cases h : l.contains (some t) = true
 ·rw [if_pos h]; exact .inl rfl
 ·rw [if_neg h]; exact .inr ⟨by simpa using h, rfl⟩
theorem St.weaken {e e' : Env} (h : St B X w0 ρ0 n0 n e H a w) (he : ∀ t, e' t = .any ∨ e' t = e t) : St B X w0 ρ0 n0 n e' H a w := by
 obtain ⟨h1, ρ, h2, h3, h4⟩ := h
 refine ⟨h1, ρ, h2, fun t ht => ?_, h4⟩
 rcases he t with g | g
 ·rw [g]; exact .any _ _
 ·rw [g]; exact h3 t ht
theorem zLa {r : Option Nat} {m0 : Nat} {ds : List (Option Nat)} {K : Env → zC → Prop} {Z : Value → zC → Prop} {Q : Exit → Act → World → Prop} (hE : zBm ops = true) (hD : OkA P n hs reg ops T hd) (hlen : hd.length = ops.size) (hhd : hd = hdA P n hs reg ops T)
  (he1 : e1 = ED hd xs e (fun _ => true) ops.size)
  (hQ : ∀ e' H' a' w', K e' H' → St B X w0 ρ0 n0 n e' H' a' w' → Q .normal a' w')
  (hZ : ∀ v H' a' w', Z v H' → St B X w0 ρ0 n0 n (zMf e ds) H' a' w' → Q (.panic [{ v, recovered := false }]) a' w')
  (hds : ∀ j, j < ops.size → ∀ t, (hd.getD j default).d = some t → some t ∈ ds) (hdt : ∀ j, j < ops.size → T.contains j = true → ∀ t, (zEj P n hs reg ops j).d = some t → some t ∈ ds) :
  ∀ (fuel q : Nat) (ws : List (Option Nat × AV)) (H : zC) (a : Act) (w : World) (listed : Array Bool), q ≤ ops.size → fuel = left listed ops.size → listed.size = ops.size →
   (∀ j, j < ops.size → T.contains j = true → listed.getD j true = decide (j < q)) → Closed ops listed → (∀ t x, (some t, x) ∈ ws → some t ∈ ds) → zEE P hd e1 (tlX P n hs reg ops T q) (wr ws e1) H K Z →
   (∀ i, i < ops.size → T.contains i = false → listed.getD i false = false → zG6 P (hd.getD i default) (ED hd xs e (fun _ => true) i) H (xs i)) →
   (∀ i, i < ops.size → T.contains i = false → listed.getD i false = false → ∀ t x, (some t, x) ∈ ws → t ∉ (hd.getD i default).rd ∧ (hd.getD i default).d ≠ some t) →
   St B X w0 ρ0 n0 n (wr ws (ED hd xs e (fun j => listed.getD j false) ops.size)) H a w → wpAnyIn (WR r) m0 P .any ops Q fuel listed a w := by
 have hcf1 : ∀ a b : LO, ∀ t, a.d = some t → t ∈ b.rd → zBa a b = true := by
  intro a b t h1 h2
  cases hb : zBa a b with
  | true => rfl
  | false => exact absurd h2 ((zCJ hb).1 t h1)
 have hcf2 : ∀ a b : LO, ∀ t, b.d = some t → t ∈ a.rd → zBa a b = true := by
  intro a b t h1 h2
  cases hb : zBa a b with
  | true => rfl
  | false => exact absurd h2 ((zCJ hb).2.1 t h1)
 have hcf3 : ∀ a b : LO, ∀ t, a.d = some t → b.d = some t → zBa a b = true := by
  intro a b t h1 h2
  cases hb : zBa a b with
  | true => rfl
  | false => exact absurd h2 ((zCJ hb).2.2 t h1)
 have hnoop : ∀ j, j < ops.size → T.contains j = true → hd.getD j default = zJb := by
  intro j hj hT
  rw [hhd, zHn hj, if_pos hT]
 intro fuel
 induction fuel with
 | zero =>
  intro q ws H a w listed hq hf hsz ht hc hwd hK hx hw hst
  have hall : ∀ j, j < ops.size → listed.getD j true = true := by
   intro j hj
   cases hb : listed.getD j true with
   | true => rfl
   | false => have := zEr hb ops.size hj; omega
  have hE' : ED hd xs e (fun j => listed.getD j false) ops.size = e1 := by
   rw [he1]
   funext t
   exact zBn ops.size fun j hj _ => by rw [zAw (by omega), hall j (by omega)]
  rw [hE'] at hst
  have hnil : tlX P n hs reg ops T q = [] := by
   rw [zJF hq fun j a b => ?_]
   ·unfold tlX
    rw [zZl]; rfl
   ·cases hT : T.contains j with
    | false => rfl
    | true =>
     have := ht j b hT
     rw [hall j b] at this
     simp at this
     omega
  rw [hnil] at hK
  refine ⟨zYs.2 fun i hi => ?_, hQ _ _ _ _ hK hst⟩
  obtain ⟨h1, o, h2, _⟩ := mem_ready.1 hi
  rw [hall i (zXM.1 h2).1] at h1
  cases h1
 | succ fuel ih =>
  intro q ws H a w listed hq hf hsz ht hc hwd hK hx hw hst
  have hun : ∃ i, i < ops.size ∧ listed.getD i true = false := by
   refine zXY fun hno => ?_
   have := zCM (listed := listed) (h := ops.size) ops.size fun j hj => by
    cases hb : listed.getD j true with
    | true => simp [hj]
    | false => exact absurd ⟨j, hj, hb⟩ hno
   omega
  obtain ⟨i0, hi0, hi0u, hi0l⟩ := zEs hun
  have hr0 : i0 ∈ Region.ready .any ops listed := zDL hE (by omega) hi0u fun j hj => by rw [zAw (by omega)]; exact hi0l j hj
  refine ⟨fun h0 => by rw [h0] at hr0; simp at hr0, fun i hi => ?_⟩
  obtain ⟨hiu, oi, hoi, hiall⟩ := mem_ready.1 hi
  have his : i < ops.size := (zXM.1 hoi).1
  have hidf : listed.getD i false = false := by rw [zAw (by omega)]; exact hiu
  have hcount : fuel = left (listed.setIfInBounds i true) ops.size := by
   have := zEq hiu ops.size
   rw [if_pos his] at this
   omega
  obtain ⟨imm, hlow⟩ := hD.low i oi hoi
  by_cases hih : T.contains i = false
  ·
   have hgi : hd.getD i default = zEj P n hs reg ops i := by rw [hhd, zHn his, if_neg (by rw [hih]; simp)]
   rw [← hgi] at hlow
   have hbef : ∀ j, j < i → zBa (hd.getD j default) (hd.getD i default) = true → listed.getD j false = true := by
    intro j hj hcf
    cases hT : T.contains j with
    | true => rw [hnoop j (by omega) hT, zDY.1] at hcf; cases hcf
    | false =>
     rcases hD.hh j i his hj hT hih with g6 | g6
     ·exact zAr hc i oi j hoi g6 hiall
     ·rw [g6] at hcf; cases hcf
   have hbeh : ∀ j, i < j → j < ops.size → zBa (hd.getD i default) (hd.getD j default) = true → listed.getD j false = false := by
    intro j hj hjh hcf
    cases hT : T.contains j with
    | true => rw [hnoop j hjh hT, zDY.2] at hcf; cases hcf
    | false =>
     rcases hD.hh i j hjh hj hih hT with g6 | g6
     ·cases hb : listed.getD j false with
      | false => rfl
      | true =>
       obtain ⟨oj, hoj⟩ : ∃ oj, ops[j]? = some oj := ⟨ops[j]'(by omega), by simp [show j < ops.size by omega]⟩
       have := zAr hc j oj i hoj g6 (hc j oj hoj hb)
       rw [hidf] at this
       cases this
     ·rw [g6] at hcf; cases hcf
   have hwi := hw i his hih hidf
   have hA : ∀ t ∈ (hd.getD i default).rd, ED hd xs e (fun _ => true) i t = wr ws (ED hd xs e (fun j => listed.getD j false) ops.size) t := by
    intro t htr
    rw [zNq ws _ fun x hx => (hwi t x hx).1 htr, zB7 (i := i) ops.size (by omega) fun j h1 h2 h3 => by
     by_cases hji : j = i
     ·rw [hji]; exact hidf
     ·exact hbeh j (by omega) h2 (hcf2 _ _ t h3 htr)]
    exact zBn i fun j h1 h2 => (hbef j h1 (hcf1 _ _ t h2 htr)).symm
   have hB0 : ups (ED hd xs e (fun j => listed.getD j false) ops.size) (hd.getD i default).d (xs i) = ED hd xs e (fun j => (listed.setIfInBounds i true).getD j false) ops.size := by
    funext t
    by_cases hdt : (hd.getD i default).d = some t
    ·rw [zB7 (i := i + 1) ops.size (by omega) fun j h1 h2 h3 => by
      rw [zAP, if_neg (by omega)]
      exact hbeh j (by omega) h2 (hcf3 _ _ t hdt h3)]
     rw [hdt, zCn]
     have hset : (listed.setIfInBounds i true).getD i false = true := by rw [zAP, if_pos ⟨rfl, by omega⟩]
     simp only [ED]
     rw [if_pos hset, hdt, zCn]
    ·rw [zD6 hdt]
     exact zBn ops.size fun j h1 h2 => by
      rw [zAP, if_neg]
      rintro ⟨rfl, _⟩
      exact hdt h2
   have hB : ups (wr ws (ED hd xs e (fun j => listed.getD j false) ops.size)) (hd.getD i default).d (xs i) = wr ws (ED hd xs e (fun j => (listed.setIfInBounds i true).getD j false) ops.size) := by
    rw [zLf ws _ fun t ht x hx => (hwi t x hx).2 ht, hB0]
   have hstep := zCu hA (hx i his hih hidf)
   have hone : zA8 P [hd.getD i default] (wr ws (ED hd xs e (fun j => listed.getD j false) ops.size)) H fun e' H' => e' = wr ws (ED hd xs e (fun j => (listed.setIfInBounds i true).getD j false) ops.size) ∧ H' = H := by
    refine zEW ?_
    rcases hstep with ⟨g1, g2⟩ | ⟨g1, g2⟩
    ·refine .inl ⟨g1, ?_⟩
     have := zEi g2
     simp only [zA8]
     refine zD2 this ?_
     rintro y H' ⟨rfl, rfl⟩
     exact ⟨hB, rfl⟩
    ·refine .inr ⟨g1, ?_⟩
     rw [← g2]
     exact ⟨hB, rfl⟩
   have hnx := zCL (r := r) (m0 := m0) hlow hone hst (next := wpAnyIn (WR r) m0 P .any ops Q fuel (listed.setIfInBounds i true)) (Q := Q) fun e'' H'' a'' w'' hK'' hs'' => by
    obtain ⟨rfl, rfl⟩ := hK''
    have hsub : ∀ j, (listed.setIfInBounds i true).getD j false = false → listed.getD j false = false := fun j hl => by
     rw [zAP] at hl
     split at hl
     ·cases hl
     ·exact hl
    refine ih q ws _ a'' w'' _ hq hcount (by simpa using hsz) (fun j h1 h2 => ?_) (hc.set hi) hwd hK (fun j hj hT hl => hx j hj hT (hsub j hl)) (fun j hj hT hl => hw j hj hT (hsub j hl)) hs''
    rw [zAP, if_neg]
    ·exact ht j h1 h2
    ·rintro ⟨rfl, _⟩
     rw [hih] at h2; cases h2
   unfold wpOpIn
   rw [hoi]
   simp only
   exact hnx
  ·
   have hiT : T.contains i = true := by simpa using hih
   have hqi : q ≤ i := by
    have g1 := ht i his hiT
    rw [hiu] at g1
    simpa using g1.symm
   have hno : ∀ j, q ≤ j → j < i → T.contains j = false := by
    intro j h1 h2
    cases hT : T.contains j with
    | false => rfl
    | true =>
     have g1 := zAr hc i oi j hoi (hD.tt j i his h2 hT hiT) hiall
     rw [zAw (by omega), ht j (by omega) hT] at g1
     simp at g1
     omega
   rw [zJF hqi hno, zNz his hiT] at hK
   generalize hlo : zEj P n hs reg ops i = lo at hlow
   have hpr : prX P n hs reg ops T i = (lo, zJ6 hs reg i, zDu hd T ((Region.before ops).getD i 0)) := by unfold prX; rw [hlo, hhd]
   rw [hpr] at hK
   generalize zJ6 hs reg i = cu at hpr hK
   have hK : aTI P cu lo (wr ws e1) H (fun e' H' => zDh P hd e1 H' (zDu hd T ((Region.before ops).getD i 0)) ∧ zEE P hd e1 (tlX P n hs reg ops T (i + 1)) e' H' K Z) Z := hK
   have hfr : ∀ j, j < ops.size → T.contains j = false → listed.getD j false = false → ((Region.before ops).getD i 0).testBit j = false ∧ zBa (hd.getD j default) lo = false := by
    intro j hj hT hl
    have hnb : ((Region.before ops).getD i 0).testBit j = false := by
     cases hb : ((Region.before ops).getD i 0).testBit j with
     | false => rfl
     | true =>
      have := zAr hc i oi j hoi hb hiall
      rw [hl] at this
      cases this
    refine ⟨hnb, ?_⟩
    rcases hD.ht j i his hj hT hiT with g | g
    ·rw [hnb] at g; cases g
    ·rw [← hlo]; exact g
   have hR : ∀ t ∈ lo.rd, wr ws e1 t = wr ws (ED hd xs e (fun j => listed.getD j false) ops.size) t := by
    intro t htr
    have : ∀ (l : List (Option Nat × AV)) (e1 e2 : Env), e1 t = e2 t → wr l e1 t = wr l e2 t := by
     intro l
     induction l with
     | nil => intro e1 e2 h; exact h
     | cons p l ihl =>
      intro e1 e2 h
      obtain ⟨d, x⟩ := p
      refine ihl _ _ ?_
      by_cases hdt : d = some t
      ·rw [hdt, zCn, zCn]
      ·rw [zD6 hdt, zD6 hdt]; exact h
    refine this ws _ _ ?_
    rw [he1]
    refine zBn ops.size fun j hj hdj => ?_
    cases hb : listed.getD j false with
    | true => rfl
    | false =>
     cases hT : T.contains j with
     | true =>
      rw [hnoop j hj hT] at hdj
      cases hdj
     | false =>
      have := (zCJ (hfr j hj hT hb).2).1 t hdj
      exact absurd htr this
   have hone := zNf hR hK
   have hnx := zLs (r := r) (m0 := m0) hlow hone hst (next := wpAnyIn (WR r) m0 P .any ops Q fuel (listed.setIfInBounds i true)) (Q := Q) (fun e'' H'' a'' w'' hK'' hs'' => by
    obtain ⟨x, rfl, hkp, hK2⟩ := hK''
    have hsame : ∀ j, j ≠ i → (listed.setIfInBounds i true).getD j false = listed.getD j false := fun j hj => by rw [zAP, if_neg (by omega)]
    have hED : ED hd xs e (fun j => (listed.setIfInBounds i true).getD j false) ops.size = ED hd xs e (fun j => listed.getD j false) ops.size := by
     funext t
     refine zBn ops.size fun j hj hdj => hsame j ?_
     rintro rfl
     rw [hnoop j hj hiT] at hdj
     cases hdj
    have hne : ∀ j, T.contains j = false → j ≠ i := by
     rintro j hT rfl
     rw [hiT] at hT; cases hT
    refine ih (i + 1) (ws ++ [(lo.d, x)]) H'' a'' w'' _ (by omega) hcount (by simpa using hsz) (fun j hj1 hj2 => ?_) (hc.set hi) (fun t y hy => ?_) (by rw [zFu]; exact hK2) (fun j hj hT hl => ?_) (fun j hj hT hl t y hy => ?_) (by rw [zFu, hED]; exact hs'')
    ·rw [zAP]
     by_cases hji : j = i
     ·rw [if_pos ⟨hji, by omega⟩]; simp; omega
     ·rw [if_neg fun hh => hji hh.1, ht j hj1 hj2]
      by_cases hjq : j < q
      ·simp [hjq]; omega
      ·simp [hjq]
       have : ¬ j < i := fun hlt => by rw [hno j (by omega) hlt] at hj2; cases hj2
       omega
    ·rcases zXV.1 hy with hy | hy
     ·exact hwd t y hy
     ·simp only [zYL, zXO] at hy
      exact hdt i his hiT t (by rw [hlo]; exact hy.1.symm)
    ·rw [hsame j (hne j hT)] at hl
     have hold := hx j hj hT hl
     rcases hD.sa j hj hT with g | g
     ·exact zFg g hold
     ·by_cases hhl : zBW (hd.getD j default).op = true
      ·exact zFg hhl hold
      ·have hmem : j ∈ zDu hd T ((Region.before ops).getD i 0) := by
        unfold zDu
        simp only [zYR, zYk, zXE, zYA]
        exact ⟨by omega, ⟨hT, by simpa using hhl⟩, (hfr j hj hT hl).1⟩
       obtain ⟨y, hy1, hy2⟩ := zD1 (hkp j hmem)
       obtain ⟨s1, t, s2, s3⟩ := zO0 (xs := xs) (e := e) g (by omega)
       rw [hlen, ← he1] at s1 s3
       have hy2 : ups e1 (hd.getD j default).d y = e1 := hy2
       have hyx : y = xs j := by
        have := congrFun hy2 t
        rw [s2, zCn] at this
        rw [this, s3]
       rw [hyx] at hy1
       exact zCu s1 hy1
    ·rw [hsame j (hne j hT)] at hl
     rcases zXV.1 hy with hy | hy
     ·exact hw j hj hT hl t y hy
     ·simp only [zYL, zXO] at hy
      have hcf := zCJ (hfr j hj hT hl).2
      exact ⟨hcf.2.1 t hy.1.symm, fun hdj => hcf.2.2 t hdj hy.1.symm⟩)
    fun v H'' a'' w'' hz hs'' => hZ v H'' a'' w'' hz (hs''.weaken fun t => by
     rcases zOg (e := e) (l := ds) t with g | ⟨g1, g2⟩
     ·exact .inl g
     ·refine .inr ?_
      rw [g2, zNq ws _ fun x hx => g1 (hwd t x hx), zB7 (i := 0) ops.size (zXJ _) fun j _ hj hdj => absurd (hds j hj t hdj) g1]
      rfl)
   unfold wpOpIn
   rw [hoi]
   simp only
   exact hnx
theorem zF4 {r : Option Nat} {m0 : Nat} {K : Env → zC → Prop} {Z : Value → zC → Prop} {Q : Exit → Act → World → Prop} (hD : zDD P n hs reg ops T = true) (hE : zBm ops = true) (hg : zCW n (zAF hs reg ops.size) = true)
  (hK : zBc P (hdA P n hs reg ops T) e H fun e1 => zEE P (hdA P n hs reg ops T) e1 (tlX P n hs reg ops T 0) e1 H (fun e' H' => zA8 P (zAF hs reg ops.size) e' H' K) Z) (hst : St B X w0 ρ0 n0 n e H a w)
  (hQ : ∀ e' H' a' w', K e' H' → St B X w0 ρ0 n0 n e' H' a' w' → Q .normal a' w')
  (hZ : ∀ v H' a' w', Z v H' → St B X w0 ρ0 n0 n (zOf e (hdA P n hs reg ops T) (tlX P n hs reg ops T 0)) H' a' w' → Q (.panic [{ v, recovered := false }]) a' w') : wpAnyIn (WR r) m0 P .any ops Q ops.size (Array.replicate ops.size false) a { w with drawn := w.drawn + 1 } := by
 have hlen : (hdA P n hs reg ops T).length = ops.size := by simp [hdA]
 obtain ⟨xs, g3, g4⟩ := zDe _ hK
 rw [hlen] at g3 g4
 have h0 : ∀ j, (Array.replicate ops.size false).getD j false = false := fun j => getD_replicate_false _ _
 have h1 : ∀ j, j < ops.size → (Array.replicate ops.size false).getD j true = false := fun j hj => by rw [← zAw (by simpa using hj)]; exact h0 j
 refine zLa (B := B) (X := X) (w0 := w0) (ρ0 := ρ0) (n0 := n0) hE (zGK hD) hlen rfl rfl (K := fun e' H' => zA8 P (zAF hs reg ops.size) e' H' K) (fun e' H' a' w' hk hs' => ?_) hZ ?_ ?_ ops.size 0 [] H a _ _ (zXJ _) ?_ (by simp) (fun j hj _ => by rw [h1 j hj]; simp) (fun j oj hj hl => ?_) (fun t x hx => by simp at hx) g3 (fun i hi _ _ => g4 i hi) (fun i _ _ _ t x hx => by simp at hx) ?_
 ·obtain ⟨e2, H2, k1, k2⟩ := zAt (zAF hs reg ops.size) (los := []) hg (by simpa using hk) hs'
  exact hQ _ _ _ _ k1 k2
 ·intro j hj t hd
  refine zXV.2 (.inl (zYz.2 ⟨_, ?_, hd⟩))
  rw [zXC, zXP (by omega)]
  exact zZP _
 ·intro j hj hT t hd
  refine zXV.2 (.inr (zYz.2 ⟨prX P n hs reg ops T j, ?_, hd⟩))
  unfold tlX
  exact zYz.2 ⟨j, zYR.2 ⟨by simp [List.mem_range']; omega, hT⟩, rfl⟩
 ·have := zCM (listed := Array.replicate ops.size false) (h := 0) ops.size fun j hj => by rw [h1 j hj]; simp
  omega
 ·rw [h0 j] at hl
  cases hl
 ·have : ED (hdA P n hs reg ops T) xs e (fun j => (Array.replicate ops.size false).getD j false) ops.size = e := by
   funext t
   rw [zB7 (i := 0) ops.size (zXJ _) fun j _ _ _ => h0 j]
   rfl
  show St B X w0 ρ0 n0 n (ED _ xs e (fun j => (Array.replicate ops.size false).getD j false) ops.size) H a _
  rw [this]
  exact hst.still ⟨rfl, rfl, rfl, zXL _⟩ rfl
end
section
variable {B : DB} {P : Program} {w w0 : World} {X : Nat → Prop} {ρ ρ0 : Nat → Loc} {H H' ext : zC} {e e1 em : Env} {a : Act} {n n0 : Nat}
variable {ops : Array Oper} {hd : List LO} {xs : Nat → AV} {T : List Nat} {hs : List Hn} {reg h : Nat}
def zHx (Q : Exit → Act → World → Prop) (N : Act → World → Prop) : Exit → Act → World → Prop
 | .normal => N
 | .exit id => Q (.exit id)
 | .goto l => Q (.goto l)
 | .ret => Q .ret
 | .panic c => Q (.panic c)
 | .outgrown => Q .outgrown
theorem zIO {F : Fence} {m : Nat} {o : Oper} {next : Act → World → Prop} {Q : Exit → Act → World → Prop} {N : Act → World → Prop} (h : o.wpIn F m P a w next (zHx Q N)) : o.wpIn F m P a w next Q := by
 unfold Oper.wpIn at *
 refine ⟨h.1, ?_⟩
 have hh := h.2
 generalize (o.semAt F.round a.eval).run P w = r at *
 cases r with
 | ok x w' =>
  cases x <;> simp only [Oper.uponIn] at hh ⊢ <;>
   first
    | exact hh
    | exact ⟨hh.1, CallsIn.mono hh.2 (fun e w'' he => by cases e <;> exact he)⟩
    | exact ⟨hh.1, RoundIn.mono hh.2 (fun e w'' he => by cases e <;> exact he)⟩
 | halt x w' => cases x <;> simp only [Oper.uponIn] at hh ⊢ <;> exact hh
theorem zGr (hk : zFG ops h = true) : h ≤ ops.size ∧ (∀ i j, i < h → h ≤ j → j < ops.size → ((Region.before ops).getD j 0).testBit i = true) ∧ ∀ i o jb, i < h → ops[i]? = some o → o.guard = some jb → jb.1 < h := by
 unfold zFG at hk
 simp only [zXE, zXB, zXZ, zYk, zYS] at hk
 obtain ⟨⟨h1, h2⟩, h3⟩ := hk
 refine ⟨h1, fun i j hi hj hjs => ?_, fun i o jb hi ho hg => ?_⟩
 ·rcases h2 j hjs with h4 | h4
  ·omega
  ·exact h4 i hi
 ·have := h3 i hi
  rw [ho] at this
  simp only [zYj, zYn, hg, Option.all_some, zXB] at this
  exact this
theorem zJo (hle : h ≤ ops.size) {i : Nat} (hi : i < h) : (ops.extract 0 h)[i]? = ops[i]? := by
 rw [Array.getElem?_extract]
 simp only [zYD, zXF]
 rw [if_pos (by omega)]
theorem zOt (hle : h ≤ ops.size) : (ops.extract 0 h).size = h := by
 rw [Array.size_extract]
 omega
theorem zIL (hle : h ≤ ops.size) (tmps : Array Value) {j : Nat} (hj : j < h) : yielded (ops.extract 0 h) tmps j = yielded ops tmps j := by
 unfold yielded
 rw [zJo hle hj]
theorem zLA {F : Fence} {m : Nat} {Q : Exit → Act → World → Prop} (hE : zBm ops = true) (hk : zFG ops h = true) :
  ∀ (fuel : Nat) (l' l : Array Bool) (a : Act) (w : World), l'.size = h → l.size = ops.size → (∀ k, k < h → l'.getD k false = l.getD k false) → (∀ k, h ≤ k → l.getD k false = false) → Closed ops l → fuel = left l' h →
   wpAnyIn F m P .any (ops.extract 0 h) (zHx Q fun a w => ∀ l2 : Array Bool, l2.size = ops.size → (∀ k, k < h → l2.getD k false = true) → (∀ k, h ≤ k → l2.getD k false = false) → Closed ops l2 → wpAnyIn F m P .any ops Q (ops.size - h) l2 a w) fuel l' a w →
   wpAnyIn F m P .any ops Q (fuel + (ops.size - h)) l a w := by
 obtain ⟨hle, hbef, hgd⟩ := zGr hk
 intro fuel
 induction fuel with
 | zero =>
  intro l' l a w s1 s2 h1 h2 hc hf hh
  rw [zXF]
  refine hh.2 l s2 (fun k hk => ?_) h2 hc
  rw [← h1 k hk]
  cases hb : l'.getD k false with
  | true => rfl
  | false =>
   rw [zAw (by omega)] at hb
   have := zEr hb h hk
   omega
 | succ fuel ih =>
  intro l' l a w s1 s2 h1 h2 hc hf hh
  have hun : ∃ i, i < h ∧ l.getD i true = false := by
   refine zXY fun hno => ?_
   have := zCM (listed := l') (h := h) h fun j hj => by
    rw [← zAw (by omega), h1 j hj, zAw (by omega)]
    cases hb : l.getD j true with
    | true => simp [hj]
    | false => exact absurd ⟨j, hj, hb⟩ hno
   omega
  obtain ⟨i0, hi0, hi0u, hi0l⟩ := zEs hun
  have hr0 : i0 ∈ Region.ready .any ops l := zDL hE (by omega) hi0u fun j hj => by rw [zAw (by omega)]; exact hi0l j hj
  rw [show fuel + 1 + (ops.size - h) = (fuel + (ops.size - h)) + 1 by omega]
  refine ⟨fun h0 => by rw [h0] at hr0; simp at hr0, fun i hi => ?_⟩
  obtain ⟨hiu, oi, hoi, hiall⟩ := mem_ready.1 hi
  have his : i < ops.size := (zXM.1 hoi).1
  have hih : i < h := by
   refine zXY fun hge => ?_
   have g1 := zAr hc i oi i0 hoi (hbef i0 i hi0 (by omega) his) hiall
   rw [zAw (by omega), hi0u] at g1
   cases g1
  have hi' : i ∈ Region.ready .any (ops.extract 0 h) l' := by
   refine mem_ready.2 ⟨by rw [← zAw (by omega), h1 i hih, zAw (by omega)]; exact hiu, oi, by rw [zJo hle hih]; exact hoi, fun ed hed hb => ?_⟩
   have hel : ed.on < i := by
    unfold zBm at hE
    have g1 := zXZ.1 hE i (zYk.2 his)
    rw [hoi] at g1
    simp only [zYj, zYn] at g1
    have g2 := Array.all_eq_true'.1 g1 ed hed
    simpa [hb] using g2
   rw [h1 ed.on (by omega)]
   exact hiall ed hed hb
  have hx := hh.2 i hi'
  unfold wpOpIn at hx ⊢
  rw [zJo hle hih, hoi] at hx
  rw [hoi]
  simp only at hx ⊢
  have hw : Region.wanted oi (yielded (ops.extract 0 h) a.tmps) = Region.wanted oi (yielded ops a.tmps) := by
   unfold Region.wanted
   cases hg : oi.guard with
   | none => rfl
   | some jb =>
    obtain ⟨j, b⟩ := jb
    simp only
    rw [zIL hle _ (hgd i oi _ hih hoi hg)]
  rw [hw] at hx
  have hK : ∀ a w, wpAnyIn F m P .any (ops.extract 0 h) (zHx Q fun a w => ∀ l2 : Array Bool, l2.size = ops.size → (∀ k, k < h → l2.getD k false = true) → (∀ k, h ≤ k → l2.getD k false = false) → Closed ops l2 → wpAnyIn F m P .any ops Q (ops.size - h) l2 a w) fuel (l'.setIfInBounds i true) a w → wpAnyIn F m P .any ops Q (fuel + (ops.size - h)) (l.setIfInBounds i true) a w := by
   intro a w
   refine ih _ _ a w (by simpa using s1) (by simpa using s2) (fun k hk => ?_) (fun k hk => ?_) (hc.set hi) ?_
   ·rw [zAP, zAP, h1 k hk]
    by_cases hki : k = i
    ·rw [if_pos ⟨hki, by omega⟩, if_pos ⟨hki, by omega⟩]
    ·rw [if_neg fun hh => hki hh.1, if_neg fun hh => hki hh.1]
   ·rw [zAP, if_neg (by omega)]
    exact h2 k hk
   ·have g := zEq (listed := l') (i := i) (by rw [← zAw (by omega), h1 i hih, zAw (by omega)]; exact hiu) h
    rw [if_pos hih] at g
    omega
  split
  ·rename_i hw; rw [if_pos hw] at hx; exact Oper.wpIn_mono hK (zIO hx)
  ·rename_i hw; rw [if_neg hw] at hx; exact ⟨hx.1, hK _ _ hx.2⟩
theorem zJW {lo : LO} (hg : lo.g = none) (hk : zKQ lo.op = true) {l : List LO} {K : Env → zC → Prop} (hh : zA8 P (lo :: l) e H K) :
  ∃ x, zA8 P l (ups e lo.d x) H K ∧ ∀ (e' : Env) (l' : List LO) (K' : Env → zC → Prop), (∀ t ∈ lo.rd, e t = e' t) → zA8 P l' (ups e' lo.d x) H K' → zA8 P (lo :: l') e' H K' := by
 obtain ⟨d, g, op⟩ := lo
 simp only at hg hk
 subst hg
 cases op <;> simp only [zKQ] at hk <;> try (cases hk)
 case mv x =>
  have hh : zA8 P l (ups e d (ev e x)) H K := by simpa [zA8, aop, zB2] using hh
  refine ⟨ev e x, hh, fun e' l' K' hr hl => ?_⟩
  have e1 : ev e' x = ev e x := (zAo fun t ht => hr t (by simp [LO.rd, LOp.rd, ht])).symm
  simp only [zA8, aop, zB2, e1]
  exact ⟨trivial, hl⟩
 case ext x i =>
  have hh : (rExt (ev e x) i H).ok ∧ zA8 P l (ups e d (rExt (ev e x) i H).x) (rExt (ev e x) i H).H K := by simpa [zA8, aop, zB2] using hh
  have hH : (rExt (ev e x) i H).H = H := by unfold rExt; split <;> rfl
  rw [hH] at hh
  refine ⟨_, hh.2, fun e' l' K' hr hl => ?_⟩
  have e1 : ev e' x = ev e x := (zAo fun t ht => hr t (by simp [LO.rd, LOp.rd, ht])).symm
  simp only [zA8, aop, zB2, e1]
  rw [hH]
  exact ⟨hh.1, hl⟩
theorem zGC {lo : LO} (hg : lo.g = none) (hk : zKQ lo.op = true) {l2 : List LO} {K : Env → zC → Prop} : ∀ (l1 : List LO) (e : Env), (∀ c ∈ l1, c.g = none ∧ zKQ c.op = true ∧ zBa c lo = false) → zA8 P (l1 ++ lo :: l2) e H K → zA8 P (lo :: (l1 ++ l2)) e H K
 | [], e, _, hh => hh
 | c :: l1, e, hc, hh => by
  obtain ⟨c1, c2, c3⟩ := hc c (by simp)
  obtain ⟨f1, f2, f3⟩ := zCJ c3
  obtain ⟨x, hx, hre⟩ := zJW c1 c2 (l := l1 ++ lo :: l2) hh
  have h2 := zGC hg hk l1 _ (fun c hc' => hc c (by simp [hc'])) hx
  obtain ⟨y, hy, hre2⟩ := zJW hg hk h2
  refine hre2 e _ K (fun t ht => ?_) (hre _ _ K (fun t ht => ?_) ?_)
  ·cases hd : c.d with
   | none => rfl
   | some u =>
    simp only [ups]
    unfold up
    rw [if_neg]
    rintro rfl
    exact f1 _ hd ht
  ·cases hd : lo.d with
   | none => rfl
   | some u =>
    simp only [ups]
    unfold up
    rw [if_neg]
    rintro rfl
    exact f2 _ hd ht
  ·have : ups (ups e lo.d y) c.d x = ups (ups e c.d x) lo.d y := by
    cases hd : c.d with
    | none => rfl
    | some u =>
     cases hd2 : lo.d with
     | none => rfl
     | some v =>
      have : u ≠ v := fun huv => f3 u hd (by rw [hd2, huv])
      funext t
      simp only [ups, up]
      by_cases h1 : t = u
      ·subst h1
       rw [if_pos rfl, if_neg this, if_pos rfl]
      ·rw [if_neg h1, if_neg h1]
   rw [this]
   exact hy
theorem zMo (hk : zIc P n hs reg ops h = true) : (∀ j o, h ≤ j → ops[j]? = some o → ∃ imm, zBF P n imm ops o = some (zEj P n hs reg ops j)) ∧ (∀ j, h ≤ j → j < ops.size → (zEj P n hs reg ops j).g = none ∧ zKQ (zEj P n hs reg ops j).op = true) ∧
  ∀ i j, h ≤ i → i < j → j < ops.size → ((Region.before ops).getD j 0).testBit i = true ∨ zBa (zEj P n hs reg ops i) (zEj P n hs reg ops j) = false := by
 unfold zIc at hk
 simp only [zXE, zXZ, zYk, zYS, zXB, zYA] at hk
 obtain ⟨h1, h2⟩ := hk
 refine ⟨fun j o hj ho => ?_, fun j hj hjs => ?_, fun i j hi hij hjs => ?_⟩
 ·have hjs := (zXM.1 ho).1
  rcases h1 j hjs with g | ⟨⟨g1, g2⟩, g3⟩
  ·omega
  ·refine ⟨zCV hs reg j, ?_⟩
   rw [ho] at g1
   unfold zEj
   rw [ho]
   simp only [zYj, beq_iff_eq, zXt] at g1 ⊢
   cases hl : zBF P n (zCV hs reg j) ops o with
   | none => rw [hl] at g1; simp at g1
   | some lo => rfl
 ·rcases h1 j hjs with g | ⟨⟨g1, g2⟩, g3⟩
  ·omega
  ·exact ⟨by simpa using g2, g3⟩
 ·rcases h2 j hjs i hij with (g | g) | g
  ·omega
  ·exact .inl g
  ·exact .inr g
theorem zOi {r : Option Nat} {m0 : Nat} {K : Env → zC → Prop} {Q : Exit → Act → World → Prop} {pres : List LO} (hE : zBm ops = true) (hk : zIc P n hs reg ops h = true) (hg : zCW n pres = true)
  (hQ : ∀ e' H' a' w', K e' H' → St B X w0 ρ0 n0 n e' H' a' w' → Q .normal a' w') :
  ∀ (fuel : Nat) (R : List Nat) (l : Array Bool) (e : Env) (H : zC) (a : Act) (w : World), R.length = fuel → l.size = ops.size → R.Pairwise (· < ·) → (∀ j, j ∈ R ↔ h ≤ j ∧ j < ops.size ∧ l.getD j false = false) → (∀ j, j < h → j < ops.size → l.getD j false = true) → Closed ops l →
   zA8 P (R.map (zEj P n hs reg ops) ++ pres) e H K → St B X w0 ρ0 n0 n e H a w → wpAnyIn (WR r) m0 P .any ops Q fuel l a w := by
 obtain ⟨k1, k2, k3⟩ := zMo hk
 intro fuel
 induction fuel with
 | zero =>
  intro R l e H a w hR hs hp hm hlo hc hh hst
  obtain rfl := zXK.1 hR
  refine ⟨zYs.2 fun i hi => ?_, ?_⟩
  ·obtain ⟨h1, o, h2, _⟩ := mem_ready.1 hi
   have his := (zXM.1 h2).1
   rw [← zAw (by omega)] at h1
   by_cases hih : i < h
   ·rw [hlo i hih his] at h1; cases h1
   ·have := (hm i).2 ⟨by omega, his, h1⟩
    simp at this
  ·obtain ⟨e2, H2, g1, g2⟩ := zAt pres (los := []) hg (by simpa using hh) hst
   exact hQ _ _ _ _ g1 g2
 | succ fuel ih =>
  intro R l e H a w hR hs hp hm hlo hc hh hst
  have hun : ∃ i, i < ops.size ∧ l.getD i true = false := by
   cases R with
   | nil => simp at hR
   | cons i R =>
    obtain ⟨_, g2, g3⟩ := (hm i).1 (by simp)
    exact ⟨i, g2, by rw [← zAw (by omega)]; exact g3⟩
  obtain ⟨i0, hi0, hi0u, hi0l⟩ := zEs hun
  have hr0 : i0 ∈ Region.ready .any ops l := zDL hE (by omega) hi0u fun j hj => by rw [zAw (by omega)]; exact hi0l j hj
  refine ⟨fun h0 => by rw [h0] at hr0; simp at hr0, fun i hi => ?_⟩
  obtain ⟨hiu, oi, hoi, hiall⟩ := mem_ready.1 hi
  have his : i < ops.size := (zXM.1 hoi).1
  have hiuf : l.getD i false = false := by rw [zAw (by omega)]; exact hiu
  have hih : h ≤ i := by
   refine zXY fun hlt => ?_
   rw [hlo i (by omega) his] at hiuf
   cases hiuf
  have hiR : i ∈ R := (hm i).2 ⟨hih, his, hiuf⟩
  obtain ⟨R1, R2, rfl⟩ := List.append_of_mem hiR
  obtain ⟨g1, g2⟩ := k2 i hih his
  have hlt1 : ∀ j ∈ R1, j < i := fun j hj => (List.pairwise_append.1 hp).2.2 j hj i (by simp)
  rw [zYg, zYx, zYm, zYH] at hh
  have hh2 := zGC g1 g2 _ _ (fun c hcm => by
   obtain ⟨j, hj, rfl⟩ := zYz.1 hcm
   obtain ⟨q1, q2, q3⟩ := (hm j).1 (by simp [hj])
   obtain ⟨r1, r2⟩ := k2 j q1 q2
   refine ⟨r1, r2, ?_⟩
   rcases k3 j i q1 (hlt1 j hj) his with s | s
   ·have := zAr hc i oi j hoi s hiall
    rw [q3] at this
    cases this
   ·exact s) hh
  obtain ⟨imm, hlow⟩ := k1 i oi hih hoi
  have hnx := zCL (r := r) (m0 := m0) hlow hh2 hst (next := wpAnyIn (WR r) m0 P .any ops Q fuel (l.setIfInBounds i true)) (Q := Q) fun e'' H'' a'' w'' hK'' hs'' => by
   have hnd : i ∉ R1 ++ R2 := by
    intro hmem
    rcases zXV.1 hmem with hmem | hmem
    ·have := hlt1 i hmem; omega
    ·have := (List.pairwise_cons.1 (List.pairwise_append.1 hp).2.1).1 i hmem; omega
   refine ih (R1 ++ R2) _ e'' H'' a'' w'' (by simp at hR ⊢; omega) (by simpa using hs) (hp.sublist (by simp)) (fun j => ?_) (fun j hj hjs => ?_) (hc.set hi) (by rw [zYg, zYm]; exact hK'') hs''
   ·rw [zAP]
    constructor
    ·intro hj
     have hji : j ≠ i := fun hji => hnd (hji ▸ hj)
     obtain ⟨q1, q2, q3⟩ := (hm j).1 (by
      rcases zXV.1 hj with hj | hj
      ·exact List.mem_append_left _ hj
      ·exact List.mem_append_right _ (by simp [hj]))
     exact ⟨q1, q2, by rw [if_neg fun hh => hji hh.1]; exact q3⟩
    ·rintro ⟨q1, q2, q3⟩
     have hji : j ≠ i := by
      rintro rfl
      rw [if_pos ⟨rfl, by omega⟩] at q3
      cases q3
     rw [if_neg fun hh => hji hh.1] at q3
     have := (hm j).2 ⟨q1, q2, q3⟩
     rcases zXV.1 this with hj | hj
     ·exact List.mem_append_left _ hj
     ·rcases zX5.1 hj with hj | hj
      ·exact absurd hj hji
      ·exact List.mem_append_right _ hj
   ·rw [zAP]
    split
    ·rfl
    ·exact hlo j hj hjs
  unfold wpOpIn
  rw [hoi]
  simp only
  exact hnx
theorem zMV {r : Option Nat} {m0 : Nat} {K : Env → zC → Prop} {Z : Value → zC → Prop} {Q : Exit → Act → World → Prop} (hD : zDD P n hs reg (ops.extract 0 h) T = true) (hE1 : zBm (ops.extract 0 h) = true) (hE : zBm ops = true) (hk : zFG ops h = true) (hl : zIc P n hs reg ops h = true)
  (hp : (zAF hs reg h).isEmpty = true) (hg : zCW n (zAF hs reg ops.size) = true)
  (hK : zBc P (hdA P n hs reg (ops.extract 0 h) T) e H fun e1 => zEE P (hdA P n hs reg (ops.extract 0 h) T) e1 (tlX P n hs reg (ops.extract 0 h) T 0) e1 H (fun e' H' => zA8 P ((List.range' h (ops.size - h)).map (zEj P n hs reg ops) ++ zAF hs reg ops.size) e' H' K) Z) (hst : St B X w0 ρ0 n0 n e H a w)
  (hQ : ∀ e' H' a' w', K e' H' → St B X w0 ρ0 n0 n e' H' a' w' → Q .normal a' w')
  (hZ : ∀ v H' a' w', Z v H' → St B X w0 ρ0 n0 n (zOf e (hdA P n hs reg (ops.extract 0 h) T) (tlX P n hs reg (ops.extract 0 h) T 0)) H' a' w' → Q (.panic [{ v, recovered := false }]) a' w') : wpAnyIn (WR r) m0 P .any ops Q ops.size (Array.replicate ops.size false) a { w with drawn := w.drawn + 1 } := by
 have hle := (zGr hk).1
 have hsz := zOt (ops := ops) hle
 have hpn : zAF hs reg h = [] := zZQ.1 hp
 have hz : ∀ (m j : Nat), (Array.replicate m false).getD j false = false := fun m j => getD_replicate_false _ _
 have hclz : ∀ m, Closed ops (Array.replicate m false) := fun m j oj _ hlj => by rw [hz] at hlj; cases hlj
 have h1 := zF4 (r := r) (m0 := m0) (Q := zHx Q fun a w => ∀ l2 : Array Bool, l2.size = ops.size → (∀ k, k < h → l2.getD k false = true) → (∀ k, h ≤ k → l2.getD k false = false) → Closed ops l2 → wpAnyIn (WR r) m0 P .any ops Q (ops.size - h) l2 a w)
  (K := fun e' H' => zA8 P ((List.range' h (ops.size - h)).map (zEj P n hs reg ops) ++ zAF hs reg ops.size) e' H' K) (Z := Z) hD hE1 (by rw [hsz, hpn]; rfl) (by rw [hsz, hpn]; exact hK) hst
  (fun e' H' a' w' hk' hs' => ?_) (fun v H' a' w' hz hs' => hZ v H' a' w' hz hs')
 ·have h2 := zLA (P := P) hE hk h (Array.replicate h false) (Array.replicate ops.size false) a { w with drawn := w.drawn + 1 } (by simp) (by simp) (fun k _ => by rw [hz, hz]) (fun k _ => hz _ _) (hclz _) (by
   have := zCM (listed := Array.replicate h false) (h := 0) h fun j hj => by rw [← zAw (by simpa using hj), hz]; simp
   omega) (by rw [hsz] at h1; exact h1)
  rw [show h + (ops.size - h) = ops.size by omega] at h2
  exact h2
 ·intro l2 q1 q2 q3 q4
  refine zOi (B := B) (X := X) (w0 := w0) (ρ0 := ρ0) (n0 := n0) hE hl hg hQ (ops.size - h) (List.range' h (ops.size - h)) l2 e' H' a' w' (by simp) q1 List.pairwise_lt_range' (fun j => ?_) (fun j hj _ => q2 j hj) q4 hk' hs'
  rw [List.mem_range'_1]
  constructor
  ·rintro ⟨s1, s2⟩; exact ⟨s1, by omega, q3 j s1⟩
  ·rintro ⟨s1, s2, _⟩; omega
end
section
variable {B : DB} {P : Program} {w w0 : World} {X : Nat → Prop} {ρ ρ0 : Nat → Loc} {H : zC} {e : Env} {a : Act} {n n0 : Nat}
def outE : Out → Exit
 | .normal => .normal
 | .exit id => .exit id
 | .ret => .ret
 | .pan v => .panic [{ v, recovered := false }]
theorem zHh {x : LX} {b : Bool} (h : ev e x = bool b) : zH7 e x b = e := by
 cases x with
 | t k => exact zKw h
 | c _ => rfl
theorem zMn {p : Nat → Prop} (h : ∃ n, p n) : ∃ n, p n ∧ ∀ m, p m → n ≤ m := by
 obtain ⟨n, hn⟩ := h
 induction n using Nat.strongRecOn with
 | _ n ih =>
  by_cases hh : ∃ m, m < n ∧ p m
  ·obtain ⟨m, hm, hp⟩ := hh; exact ih m hm hp
  ·exact ⟨n, hn, fun m hm => zZr fun hlt => hh ⟨m, hlt, hm⟩⟩
open Classical in
theorem zFv {F : Fence} {m0 : Nat} {c : Code} {Q : Exit → Act → World → Prop} (I : Nat → Act → World → Prop) (k : Nat) (h0 : I k a w)
  (round : ∀ k a w, I k a w → c.wpIn F m0 P (Exit.then (fun a' w' => ∃ k', k' < k ∧ I k' a' w') Q) a w) : (Code.loop c).wpIn F m0 P Q a w := by
 refine wpIn_loop (fun a w => ∃ k, I k a w) (fun a w => if hx : ∃ k, I k a w then Classical.choose (zMn hx) else 0) ⟨k, h0⟩ ?_
 intro a w hs
 obtain ⟨hI, hl⟩ := zYO (zMn hs)
 refine wpIn_mono (round _ a w hI) fun e a' w' hh => ?_
 cases e with
 | normal =>
  obtain ⟨k', hk, hI'⟩ := hh
  refine ⟨⟨k', hI'⟩, ?_⟩
  rw [dif_pos ⟨k', hI'⟩, dif_pos hs]
  exact Nat.lt_of_le_of_lt ((zYO (zMn ⟨k', hI'⟩)).2 _ hI') hk
 | _ => exact hh
theorem zLq {M : Nat → Prop} {N k : Nat} : ∀ (ps : List Nat) (xs : List AV) (us : List Value) {e : Env} {tmps : Array Value}, xs.length = us.length → xs.length = ps.length → tmps.size = N → (∀ p ∈ ps, p < N) →
  (∀ t, t < N → Rep w M ρ k (e t) (tmps.getD t undef)) → (∀ (i : Nat) (x : AV) (u : Value), xs[i]? = some x → us[i]? = some u → Rep w M ρ k x u) →
  ((ps.zip us).foldl (fun tmps (t, a) => tmps.setIfInBounds t a) tmps).size = N ∧ ∀ t, t < N → Rep w M ρ k (upL e ps xs t) (((ps.zip us).foldl (fun tmps (t, a) => tmps.setIfInBounds t a) tmps).getD t undef)
 | [], xs, us, e, tmps, h1, h2, h3, _, h4, _ => by
  cases xs with
  | nil => exact ⟨h3, h4⟩
  | cons x xs => simp at h2
 | p :: ps, [], us, e, tmps, h1, h2, h3, _, h4, _ => by simp at h2
 | p :: ps, x :: xs, [], e, tmps, h1, h2, h3, _, h4, _ => by simp at h1
 | p :: ps, x :: xs, u :: us, e, tmps, h1, h2, h3, hp, h4, h5 => by
  simp only [List.zip_cons_cons, zZg, upL]
  refine zLq ps xs us (by simpa using h1) (by simpa using h2) (by simpa using h3) (fun q hq => hp q (by simp [hq])) (fun t ht => ?_) (fun i x u hx hu => h5 (i + 1) x u (by simpa using hx) (by simpa using hu))
  simp only [up]
  by_cases htp : t = p
  ·subst htp
   rw [if_pos rfl]
   have : (tmps.setIfInBounds t u).getD t undef = u := by simp [zXX, h3, ht]
   rw [this]
   exact h5 0 x u rfl rfl
  ·rw [if_neg htp]
   have : (tmps.setIfInBounds p u).getD t undef = tmps.getD t undef := by
    simp only [zXX]
    rw [zYq (fun e => htp e.symm)]
   rw [this]
   exact h4 t ht
theorem zJK (w : World) (b : Nat) (o : Obj) : Same w (w.putObj b o) := ⟨rfl, rfl, rfl, by simp⟩
theorem HRel.setLp (h : HRel w X ρ H) {r l : Nat} {lr : Go.Loop} {e0 : Env} {st : zR9} (st' : zR9) (hr : H[r]? = some (.lp l lr e0 st)) :
  ∃ ρ', HRel (w.putObj l (.loop (zEe lr st'))) X ρ' (H.set r (.lp l lr e0 st')) ∧ Fut w ρ H.length (w.putObj l (.loop (zEe lr st'))) ρ' (H.set r (.lp l lr e0 st')).length := by
 have hlt : r < H.length := (zXA.1 hr).1
 obtain ⟨h1, h2, h3, h4⟩ := h.objs r _ hr
 have hb := (h.lt r l 0 hlt h2).1
 obtain ⟨ρ', _, g2, g3⟩ := h.setAt (w' := w.putObj l (.loop (zEe lr st'))) hlt (ρ r) (.lp l lr e0 st') (zJK _ _ _) (.inl rfl) (fun b o hbl => .inl ⟨o, hbl⟩)
  (fun b _ hne => World.putObj_heap_other fun e => by subst e; exact hne 0 h2)
  (fun ρ' _ hf => ⟨h1, h2, World.putObj_heap_same hb, fun t u hu => (h4 t u hu).nextN hf⟩)
 exact ⟨ρ', g2, g3⟩
theorem HRel.setDead (h : HRel w X ρ H) {r l : Nat} {lr : Go.Loop} {e0 : Env} {st : zR9} (o : Obj) (hr : H[r]? = some (.lp l lr e0 st)) :
  ∃ ρ', HRel (w.putObj l o) X ρ' (H.set r .dead) ∧ Fut w ρ H.length (w.putObj l o) ρ' (H.set r .dead).length := by
 have hlt : r < H.length := (zXA.1 hr).1
 obtain ⟨h1, h2, h3, h4⟩ := h.objs r _ hr
 obtain ⟨ρ', _, g2, g3⟩ := h.setAt (w' := w.putObj l o) hlt (ρ r) .dead (zJK _ _ _) (.inl rfl) (fun b o hbl => .inl ⟨o, hbl⟩)
  (fun b _ hne => World.putObj_heap_other fun e => by subst e; exact hne 0 h2) (fun ρ' _ hf => trivial)
 exact ⟨ρ', g2, g3⟩
theorem zDZ {hs : List Hn} : ∀ (c : Code) {B : DB} {X : Nat → Prop} {w0 : World} {ρ0 : Nat → Loc} {n0 : Nat} {rd : Option Nat} {m0 : Nat} {lc : LCode} {e : Env} {H : zC} {a : Act} {w : World} {K : Out → Env → zC → Prop} {Q : Exit → Act → World → Prop}, zE9 P n hs c = some lc → (rd = none ∧ B.ok ∨ nr lc = true) → awp P lc e H K → St B X w0 ρ0 n0 n e H a w →
  (∀ o e' H' a' w', K o e' H' → St B X w0 ρ0 n0 n e' H' a' w' → Q (outE o) a' w') → c.wpIn (WR rd) m0 P Q a w := by
 intro c
 induction c with
 | skip =>
  intro B X w0 ρ0 n0 rd m0 lc e H a w K Q hl hrd h hst hQ
  simp only [zE9, zXt] at hl
  subst hl
  exact wpIn_skip (hQ .normal _ _ _ _ h hst)
 | region id ops b =>
  intro B X w0 ρ0 n0 rd m0 lc e H a w K Q hl hrd h hst hQ
  cases b with
  | false =>
   simp only [zE9] at hl
   split at hl
   ·exact wpIn_region_list (zDP (fun e' H' a' w' hk hs' => hQ .normal _ _ _ _ hk hs') (fun v e' H' a' w' hk hs' => hQ (.pan v) _ _ _ _ hk hs') _ _ _ _ _ _ _ hl h hst)
   obtain ⟨los, h1, rfl⟩ := zAu hl
   exact wpIn_region_list (zH0 (fun e' H' a' w' hk hs' => hQ .normal _ _ _ _ hk hs') _ _ _ _ _ _ _ h1 h hst)
  | true =>
   simp only [zE9] at hl
   split at hl
   ·rename_i T hT
    split at hl
    ·split at hl
     ·rename_i hc
      simp only [zXE] at hc
      obtain ⟨⟨⟨⟨⟨⟨⟨c1, c2⟩, c2'⟩, c5⟩, c6⟩, c7⟩, c3⟩, c4⟩ := hc
      simp only [zXt] at hl
      subst hl
      refine zC4 (hs := hs) c3 ?_
      exact zMV c1 c2 c2' c5 c6 c7 c4 h hst (fun e' H' a' w' hk hs' => hQ .normal _ _ _ _ hk hs') fun v H' a' w' hk hs' => hQ (.pan v) _ _ _ _ hk hs'
     ·cases hl
    split at hl
    ·split at hl
     ·rename_i hc
      simp only [zXE] at hc
      obtain ⟨⟨⟨c1, c2⟩, c3⟩, c4⟩ := hc
      simp only [zXt] at hl
      subst hl
      refine zC4 (hs := hs) c3 ?_
      exact zF4 c1 c2 c4 h hst (fun e' H' a' w' hk hs' => hQ .normal _ _ _ _ hk hs') fun v H' a' w' hk hs' => hQ (.pan v) _ _ _ _ hk hs'
     ·cases hl
    split at hl
    ·rename_i hc
     simp only [zXE] at hc
     obtain ⟨⟨⟨c1, c2⟩, c3⟩, c4⟩ := hc
     simp only [zXt] at hl
     subst hl
     refine zC4 (hs := hs) c3 ?_
     exact zJr c1 c2 c4 h hst fun e' H' a' w' hk hs' => hQ .normal _ _ _ _ hk hs'
    ·cases hl
   split at hl
   ·cases hl
   ·split at hl
    ·rename_i hd tl h1 h2
     split at hl
     ·rename_i hc
      simp only [zXE, zYS, zXB] at hc
      obtain ⟨⟨⟨c1, c2⟩, c3⟩, c4⟩ := hc
      simp only [zXt] at hl
      subst hl
      refine zC4 (hs := hs) c3 ?_
      exact zK6 h1 h2 c1 c2 c3 c4 h hst fun e' H' a' w' hk hs' => hQ .normal _ _ _ _ hk hs'
     ·cases hl
    ·cases hl
 | seq x y ihx ihy =>
  intro B X w0 ρ0 n0 rd m0 lc e H a w K Q hl hrd h hst hQ
  simp only [zE9] at hl
  split at hl
  ·rename_i lx ly h1 h2
   simp only [zXt] at hl
   subst hl
   simp only [nr, zXE] at hrd
   refine wpIn_seq (ihx h1 (hrd.imp id (·.1)) h hst fun o e' H' a' w' hk hs' => ?_)
   cases o with
   | normal => exact ihy h2 (hrd.imp id (·.2)) hk hs' hQ
   | exit id => exact hQ (.exit id) _ _ _ _ hk hs'
   | ret => exact hQ .ret _ _ _ _ hk hs'
   | pan v => exact hQ (.pan v) _ _ _ _ hk hs'
  ·cases hl
 | cond c x y ihx ihy =>
  intro B X w0 ρ0 n0 rd m0 lc e H a w K Q hl hrd h hst hQ
  simp only [zE9] at hl
  split at hl
  ·rename_i lcx lx ly h0 h1 h2
   simp only [zXt] at hl
   subst hl
   simp only [nr, zXE] at hrd
   simp only [awp] at h
   have hst' := hst
   obtain ⟨_, ρ, _, he, _⟩ := hst'
   have hr := zAm he h0
   split at h
   ·rename_i t ht
    rw [ht] at hr
    have hv := zA0 hr
    refine wpIn_cond hv ?_
    cases t with
    | true =>
     rw [if_pos rfl, zHh ht] at h
     exact ihx h1 (hrd.imp id (·.1)) h hst hQ
    | false =>
     rw [if_neg (by simp), zHh ht] at h
     exact ihy h2 (hrd.imp id (·.2)) h hst hQ
   ·exact h.elim
  ·cases hl
 | block id c ih =>
  intro B X w0 ρ0 n0 rd m0 lc e H a w K Q hl hrd h hst hQ
  simp only [zE9] at hl
  obtain ⟨lb, h1, rfl⟩ := zAu hl
  simp only [nr] at hrd
  refine wpIn_block (ih h1 hrd h hst fun o e' H' a' w' hk hs' => ?_)
  cases o with
  | normal => exact hQ .normal _ _ _ _ hk hs'
  | exit j =>
   simp only at hk
   simp only [outE, Exit.inBlock]
   split
   ·rename_i hj; rw [if_pos hj] at hk; exact hQ .normal _ _ _ _ hk hs'
   ·rename_i hj; rw [if_neg hj] at hk; exact hQ (.exit j) _ _ _ _ hk hs'
  | ret => exact hQ .ret _ _ _ _ hk hs'
  | pan v => exact hQ (.pan v) _ _ _ _ hk hs'
 | loop c ih =>
  intro B X w0 ρ0 n0 rd m0 lc e H a w K Q hl hrd h hst hQ
  simp only [zE9] at hl
  obtain ⟨lb, h1, rfl⟩ := zAu hl
  simp only [nr] at hrd
  obtain ⟨I, μ, h2, h3⟩ := h
  refine zFv (fun k a w => ∃ e H, I e H ∧ μ e H = k ∧ St B X w0 ρ0 n0 n e H a w) (μ e H) ⟨e, H, h2, rfl, hst⟩ ?_
  rintro k a w ⟨e, H, hI, rfl, hst⟩
  refine ih h1 hrd (h3 e H hI) hst fun o e' H' a' w' hk hs' => ?_
  cases o with
  | normal => exact ⟨_, hk.2, e', H', hk.1, rfl, hs'⟩
  | exit id => exact hQ (.exit id) _ _ _ _ hk hs'
  | ret => exact hQ .ret _ _ _ _ hk hs'
  | pan v => exact hQ (.pan v) _ _ _ _ hk hs'
 | exit id =>
  intro B X w0 ρ0 n0 rd m0 lc e H a w K Q hl hrd h hst hQ
  simp only [zE9, zXt] at hl
  subst hl
  exact wpIn_exit (hQ (.exit id) _ _ _ _ h hst)
 | ret =>
  intro B X w0 ρ0 n0 rd m0 lc e H a w K Q hl hrd h hst hQ
  simp only [zE9, zXt] at hl
  subst hl
  exact wpIn_ret (hQ .ret _ _ _ _ h hst)
 | rangeFunc g ps asg bdy iha ihb =>
  intro B X w0 ρ0 n0 rd m0 lc e H a w K Q hl hrd h hst hQ
  simp only [zE9] at hl
  split at hl
  ·rename_i g' la lb hg ha hb
   split at hl
   ·rename_i hc
    simp only [zXE, zXZ, zXB] at hc
    obtain ⟨⟨nra, nrb⟩, hps⟩ := hc
    simp only [zXt] at hl
    subst hl
    obtain ⟨rfl, hok⟩ : rd = none ∧ B.ok := hrd.resolve_right (by simp [nr])
    simp only [awp] at h
    obtain ⟨hn, ρ, hrel, he, hf, hm⟩ := hst
    have rf := zAm he hg
    split at h
    ·rename_i k first caps hev
     rw [hev] at rf
     generalize hfe : a.eval g = fv at rf
     cases rf with
     | fn _ _ _ _ fs us h1 h2 h3 h4 =>
      refine wpIn_rangeFunc fun fn _ => ?_
      obtain ⟨lr, hlr⟩ : ∃ lr : Go.Loop, lr = { state := .ready, pending := none, fn, tmps := a.tmps, params := ps, assign := asg, body := bdy, defers := w.heap.size } := ⟨_, rfl⟩
      have hlr0 : (lr.state = .ready ∧ lr.pending = none) ∧ (lr.tmps = a.tmps ∧ lr.params = ps) ∧ lr.assign = asg ∧ lr.body = bdy := by subst hlr; exact ⟨⟨rfl, rfl⟩, ⟨rfl, rfl⟩, rfl, rfl⟩
      obtain ⟨⟨l1, l2⟩, ⟨l3, l4⟩, l5, l6⟩ := hlr0
      have hlb : ∀ st o, zEe { zEe lr st with state := .done, pending := some (zPo o) } .ready = zEe lr (.done o) := by intro st o; cases st <;> rfl
      obtain ⟨w1, hw1⟩ : ∃ w1, (w.alloc (.deferred (some []))).alloc (.loop lr) = w1 := ⟨_, rfl⟩
      obtain ⟨a1, a2⟩ := hrel.more (Same.alloc w (.deferred (some []))) (zBk w _)
      obtain ⟨ρ1, p1, p2, p3⟩ := a1.push (w' := w1) { blk := some (w.heap.size + 1, 0) } (.lp (w.heap.size + 1) lr e .ready) (by rw [← hw1]; exact Same.alloc _ _) (fun b o hbl => by simp at hbl; obtain ⟨rfl, _⟩ := hbl; rw [← hw1]; simp) (by rw [← hw1]; exact zBk _ _)
       (fun ρ' hf' hl' => ⟨rfl, rfl, by rw [← hw1]; have := World.alloc_heap_new (w.alloc (.deferred (some []))) (.loop lr); rwa [World.size_alloc] at this, fun t u hu => by
        rw [l3] at hu
        have htl : t < n := by rw [← hn]; exact (zXM.1 hu).1
        have := he t htl
        rw [show a.tmps.getD t undef = u by simp [zXX, hu]] at this
        exact (this.nextN a2).nextN hf'⟩)
      have hfw := a2.trans p3
      have hD1 : w1.heap[w.heap.size]? = some (.deferred (some [])) := by rw [← hw1]; exact (Below.heap_alloc _ _ _ (by simp)).trans (World.alloc_heap_new w _)
      have hDs : w.heap.size < w1.heap.size := by rw [← hw1]; simp; omega
      have hDo : ¬ Own ρ1 (H ++ [HO.lp (w.heap.size + 1) lr e .ready]).length w.heap.size := by
       rintro ⟨r, o, hr, hbl⟩
       by_cases hrl : r = H.length
       ·subst hrl; rw [p1] at hbl; simp at hbl
       ·have hr' : r < H.length := by simp at hr; omega
        rcases p3.loc r hr' with h' | h'
        ·rw [h'] at hbl
         have := (hrel.lt r _ _ hr' hbl).1
         omega
        ·have h9 : ∃ b o, (ρ1 r).blk = some (b, o) := ⟨_, _, hbl⟩
         have := p2.lt r _ _ hr hbl
         rcases p3.own _ ⟨r, o, hr, hbl⟩ with ⟨r', o', hr2, hbl2⟩ | h'
         ·have := (hrel.lt r' _ _ hr2 hbl2).1; omega
         ·rw [World.size_alloc] at h'; omega
      have hmk : Mk B w0 w1 ρ1 (H ++ [HO.lp (w.heap.size + 1) lr e .ready]).length (zRb w.heap.size :: a.defers) := by
       obtain ⟨ds, d1, d0, d2, d3⟩ := hm.fut hfw
       obtain ⟨ds', d1', d0', d2', d3'⟩ := hm
       have hdd : ds = ds' := by
        rw [d1] at d1'
        replace d1' := List.append_cancel_right d1'
        clear d2 d3 d2' d3' d1 d0 d0'
        induction ds generalizing ds' with
        | nil => cases ds' with
         | nil => rfl
         | cons _ _ => simp at d1'
        | cons D ds ih => cases ds' with
         | nil => simp at d1'
         | cons D' ds' => simp [zRb] at d1'; rw [d1'.1, ih ds' (by simpa [zRb] using d1'.2)]
       subst hdd
       refine ⟨w.heap.size :: ds, by rw [zYx, zYH, d1], .inl hok, zZR.2 ⟨fun hin => ?_, d2⟩, fun D hD => ?_⟩
       ·have := (d3' _ hin).2.1; omega
       ·rcases zX5.1 hD with rfl | hD
        ·exact ⟨hf.size, hDs, hDo, hD1⟩
        ·exact d3 D hD
      have hY : ∀ (args : List AV) (H1 : zC) (r : Nat) (R : AV → zC → Prop), args.length = ps.toList.length → H1[r]? = some (.lp (w.heap.size + 1) lr e .ready) →
        (awp P la (upL e ps.toList args) H1 fun o e1 H2 => match o with
         | .normal => H2[r]? = some (.lp (w.heap.size + 1) lr e .ready) ∧ awp P lb e1 (H2.set r (.lp (w.heap.size + 1) lr e .busy)) (rndQ (w.heap.size + 1) lr e r R)
         | _ => False) → AYield P (w.heap.size + 1) args H1 R := by
       intro args H1 r R hal hr1 hrun X' ρ' w' vs hrel' hargs'
       obtain ⟨_, _, q3, q4⟩ := hrel'.objs r _ hr1
       have q3' : w'.heap[w.heap.size + 1]? = some (.loop lr) := q3
       refine ⟨lr.fn, _, lr.assign, lr.body, run_yield q3' (by rw [← hargs'.1, hal, l4]; simp), roundIn_of_wpIn trivial ?_⟩
       rw [l5, l6, l3, l4, ← zZx, Array.toList_zip]
       obtain ⟨u1, u2⟩ := zLq (w := w') (M := Mut X' ρ' H1.length) (ρ := ρ') (k := H1.length) (N := n) (e := e) (tmps := a.tmps) ps.toList args vs.toList (by simpa using hargs'.1) hal hn (fun p hp => hps p hp)
        (fun t ht => q4 t _ (by rw [l3]; simp [zXX, hn, ht])) (fun i x u hx hu => hargs'.2 i x u hx (by simpa using hu))
       refine iha (B := ⟨[], True⟩) (X := X') (w0 := w') (ρ0 := ρ') (n0 := H1.length) (rd := some (w.heap.size + 1)) ha (.inr nra) hrun ⟨u1, ρ', hrel', u2, Fut.refl _ _ _, Mk.nil⟩ ?_
       intro o e1 H2 a1 w1' hk hs1
       cases o with
       | normal =>
        obtain ⟨hr2, hk2⟩ := hk
        obtain ⟨s1, ρ2, s2, s3, s4, s5⟩ := hs1
        have q5 : w1'.heap[w.heap.size + 1]? = some (.loop lr) := (s2.objs r _ hr2).2.2.1
        obtain ⟨ρ3, t2, t3⟩ := s2.setLp .busy hr2
        refine ⟨_, run_beginRound q5 l1, ihb (B := ⟨[], True⟩) (X := X') (w0 := w') (ρ0 := ρ') (n0 := H1.length) (rd := some (w.heap.size + 1)) hb (.inr nrb) hk2 ⟨s1, ρ3, t2, fun t ht => (s3 t ht).nextN t3, s4.trans t3, s5.fut t3⟩ ?_⟩
        intro o e2 H3 a2 w2' hk3 hs3
        obtain ⟨hr3, hR⟩ := hk3
        obtain ⟨_, ρ4, v2, _, v4, _⟩ := hs3
        have q6 : w2'.heap[w.heap.size + 1]? = some (.loop (zEe lr .busy)) := (v2.objs r _ hr3).2.2.1
        cases o with
        | normal =>
         obtain ⟨ρ5, x2, x3⟩ := v2.setLp .ready hr3
         have hrec : ({ zEe lr .busy with state := if (none : Option Code).isNone then LoopState.ready else .done, pending := none } : Go.Loop) = zEe lr .ready := by
          cases lr; simp only at l1 l2; subst l1; subst l2; rfl
         refine ⟨_, _, run_endRound none q6, ?_⟩
         rw [hrec]
         exact ⟨_, bool true, _, ρ5, rfl, hR, x2, .v _ _, v4.trans x3⟩
        | exit id =>
         obtain ⟨ρ5, x2, x3⟩ := v2.setLp (.done (some id)) hr3
         exact ⟨_, _, run_endRound (some (.exit id)) q6, _, bool false, _, ρ5, rfl, hR, x2, .v _ _, v4.trans x3⟩
        | ret =>
         obtain ⟨ρ5, x2, x3⟩ := v2.setLp (.done none) hr3
         exact ⟨_, _, run_endRound (some .ret) q6, _, bool false, _, ρ5, rfl, hR, x2, .v _ _, v4.trans x3⟩
        | pan v => exact hR.elim
       | exit id => exact hk.elim
       | ret => exact hk.elim
       | pan v => exact hk.elim
      obtain ⟨⟨fn', hfn, hbody, hname⟩, hcall⟩ := h (w.heap.size + 1) lr hY
      refine ⟨w.heap.size + 1, [zRb w.heap.size], w1, { target := .fn (.func k) us, args := fs ++ #[.func (.yield (w.heap.size + 1)) #[] #[]] }, w1, k, fs ++ #[.func (.yield (w.heap.size + 1)) #[] #[]] ++ us, w1, ?_, ?_, ?_, ?_, zFd, ?_⟩
      ·rw [← hw1, hlr]; exact run_enterLoop_outer _ _ _ _ _
      ·simp only [resolve, hfe, Deferred.ofValue, Sem.run_bind, Sem.run_pure, Result.andThen_ok]
       simp [Act.eval]
      ·intro f' _; trivial
      ·simp only [Sem.run_bind, Sem.run_pure, Result.andThen_ok, invoke, callFunc, run_program, hfn, hname, zXH, if_false, hbody]
      ·refine zEV ((hcall X ρ1 w1 _ p2 ⟨by simp [h1, h2]; omega, ?_⟩).mono ?_)
       ·intro i x u hx hu
        rw [zYm, zX8] at hx
        rw [zZy, zYo] at hu
        by_cases hi : i < first.length
        ·rw [if_pos hi] at hx
         rw [if_pos (by omega)] at hu
         exact (h3 i x u hx hu).nextN hfw
        ·rw [if_neg hi, zX8] at hx
         rw [if_neg (by omega), zYo] at hu
         by_cases hj : i - first.length < 1
         ·rw [if_pos (by simpa using hj)] at hx
          rw [if_pos (by simp; omega)] at hu
          have e1 : i - first.length = 0 := by omega
          have e2 : i - fs.size = 0 := by omega
          rw [e1] at hx
          rw [e2] at hu
          simp at hx hu
          subst hx; subst hu
          exact .v _ _
         ·rw [if_neg (by simpa using hj)] at hx
          rw [if_neg (by simp; omega)] at hu
          simp only [zXI, zX6, List.size_toArray] at hx hu
          exact (h4 (i - first.length - 1) x u hx (by rw [← h1] at hu; exact hu)).nextN hfw
       ·rintro en w3 ⟨v, x, H', ρ', rfl, ⟨st, hst1, hout⟩, g1, g2, g3⟩
        have q7 : w3.heap[w.heap.size + 1]? = some (.loop (zEe lr st)) := (g1.objs _ _ hst1).2.2.1
        obtain ⟨ρ4, g4, g5⟩ := g1.setDead (.loop { zEe lr st with state := .exhausted }) hst1
        have hfut := hfw.trans (g3.trans g5)
        have hSt : St B X w0 ρ0 n0 n e (H'.set H.length .dead) { a with defers := [zRb w.heap.size] ++ a.defers } (w3.putObj (w.heap.size + 1) (.loop { zEe lr st with state := .exhausted })) :=
         ⟨hn, ρ4, g4, fun t ht => (he t ht).nextN hfut, hf.trans hfut, hmk.fut (g3.trans g5)⟩
        cases st with
        | ready => exact ⟨_, _, run_endLoop q7 (by show lr.state ≠ _; rw [l1]; simp), by show (match lr.pending with | none => _ | some c => _); rw [l2]; exact hQ .normal _ _ _ _ hout hSt⟩
        | busy => exact hout.elim
        | done o =>
         cases o with
         | none => exact ⟨_, _, run_endLoop q7 (by simp [zEe]), wpIn_ret (hQ .ret _ _ _ _ hout hSt)⟩
         | some id => exact ⟨_, _, run_endLoop q7 (by simp [zEe]), wpIn_exit (hQ (.exit id) _ _ _ _ hout hSt)⟩
    ·exact h.elim
   ·cases hl
  ·cases hl
 | _ => intro B X w0 ρ0 n0 rd m0 lc e H a w K Q hl; simp [zE9] at hl
theorem zEA : ∀ (l : List AV) (i t : Nat), zDi l i t = if i ≤ t then (l[t - i]?).getD .any else .any
 | [], i, t => by simp [zDi, e0]
 | x :: l, i, t => by
  simp only [zDi, up]
  by_cases h : t = i
  ·subst h; simp
  ·rw [if_neg h, zEA l (i + 1) t]
   by_cases h2 : i ≤ t
   ·rw [if_pos (by omega), if_pos h2, show t - i = t - (i + 1) + 1 by omega]
    simp
   ·rw [if_neg (by omega), if_neg h2]
def zOQ (P : Program) (s : Sem Value) (w : World) (X : Nat → Prop) (ρ : Nat → Loc) (H : zC) (r : Res) : Prop :=
 r.ok → r.H = H ∧ ∃ u, s.run P w = .ok u w ∧ Rep w (Mut X ρ H.length) ρ H.length r.x u
theorem zEJ {s : Sem Value} {p : Prop} {x : AV} (f : p → ∃ u, s.run P w = .ok u w ∧ Rep w (Mut X ρ H.length) ρ H.length x u) : zOQ P s w X ρ H ⟨p, x, H⟩ := fun hp => ⟨rfl, f hp⟩
theorem zGq {s : Sem Value} {p : Prop} {r : Res} (f : p → zOQ P s w X ρ H r) : zOQ P s w X ρ H (r.also p) := fun ⟨hp, hr⟩ => f hp hr
theorem zNV {t : TypeId} {ag : Bool} {n : Nat} (hag : zE0 P t = some ag) (hsz : zCF P t = some n) (h : HRel w X ρ H) {p : AV} {u : Value} (hp : Rep w (Mut X ρ H.length) ρ H.length p u) :
  zOQ P (do loadVar t (← asAddr u)) w X ρ H (rLoad ag n p H) := by
 have at_ : ∀ a : Addr, (do loadVar t (← asAddr (.pointer (some a)))) = loadVar t a := fun a => rfl
 cases p with
 | vp cs off =>
  simp only [rLoad]
  refine zEJ fun ⟨h1, h2⟩ => ?_
  cases hp with
  | vp _ _ _ b o c hm hb hcell hrep =>
   rw [at_]
   refine zCs hag hsz (cs := cs.drop off) (by simp; omega) h2 (fun j => c (off + j)) (fun j hj => ?_) (fun j y hj hy => ?_)
   ·have hlt : off + j < cs.length := by omega
    have := hcell (off + j) cs[off + j] (by simp [hlt])
    rw [zY2]
    exact this.1
   ·rw [zYa] at hy
    exact (hrep _ _ hy).mono (zXJ _)
 | ptr r ver off =>
  simp only [rLoad]
  refine zGq fun ⟨hb, hv⟩ => ?_
  obtain ⟨cs, ho⟩ := zDR hb
  rw [ho] at hv ⊢
  simp only [isVer] at hv
  simp only [rLoadO]
  refine zEJ fun ⟨h1, h2⟩ => ?_
  obtain ⟨hr, b, c, e, fr, hblk, rfl, hh, hl, hfr, _, hrep⟩ := zFM h hp ho hv
  rw [at_]
  refine zCs hag hsz (cs := cs.drop off) (by simp; omega) h2 (fun j => c.getD (off + j) undef) (fun j hj => ?_) (fun j y hj hy => ?_)
  ·rw [zBb hh]
   have hlt : off + j < c.size := by omega
   simp [hlt]
  ·rw [zYa] at hy
   have hlt : off + j < c.size := by omega
   exact (hrep _ _ _ hy (by simp [hlt])).1
 | pe r ver i off =>
  simp only [rLoad]
  refine zGq fun ⟨hb, hv⟩ => ?_
  obtain ⟨v, sz, xs, ho⟩ := zBN hb
  rw [ho] at hv ⊢
  simp only [isVer] at hv
  simp only [rLoadO]
  refine zEJ fun ⟨h0, h1, h2⟩ => ?_
  obtain ⟨hr, b, o, c, e, fr, hblk, rfl, hh, hext, hfr, hle, hrow, hsz0, _, _, hrep⟩ := zLU h hp ho hv h0
  rw [at_]
  have hx : xs[i]? = some (xs.getD i []) := by simp [h0]
  have hxl : (xs.getD i []).length = sz := hrow _ (zXW hx)
  have hlt : ∀ j, j < n → o + i * sz + (off + j) < c.size := fun j hj => by
   have := zBg (sz := sz) (j := off + j) h0 (by omega)
   omega
  refine zCs hag hsz (cs := (xs.getD i []).drop off) (by simp only [zY9]; omega) h2 (fun j => c.getD (o + i * sz + (off + j)) undef) (fun j hj => ?_) (fun j y hj hy => ?_)
  ·rw [zBb hh]
   have := hlt j hj
   rw [show o + (i * sz + off) + j = o + i * sz + (off + j) by omega]
   simp [this]
  ·rw [zYa] at hy
   exact (hrep i (off + j) _ _ _ hx hy (by simp [hlt j hj])).1.mono (zXJ _)
 | _ => exact fun h => h.elim
def zTh (tmps : Array Value) : ResultVar → Sem Value
 | .tmp t => pure (tmps.getD t undef)
 | .cell a t => do loadVar t (← asAddr (tmps.getD a undef))
theorem zHc (h : HRel w X ρ H) (he : ER w X ρ H n e a) : ∀ (l : List ResultVar) (rs : List RV), zE8 P n l = some rs → (∀ r ∈ rs, (zC3 e H r).ok) →
  ∃ us : List Value, (l.mapM (zTh a.tmps)).run P w = .ok us w ∧ us.length = rs.length ∧ (∀ r ∈ rs, (zC3 e H r).H = H) ∧ ∀ (i : Nat) (r : RV) (u : Value), rs[i]? = some r → us[i]? = some u → Rep w (Mut X ρ H.length) ρ H.length (zC3 e H r).x u
 | [], rs, hl, _ => by
  simp only [zE8, zXt] at hl
  subst hl
  exact ⟨[], by simp, rfl, by simp, by simp⟩
 | .tmp t :: l, rs, hl, hok => by
  simp only [zE8] at hl
  split at hl
  ·rename_i m hm
   split at hl
   ·rename_i ht
    simp only [zXt] at hl
    subst hl
    obtain ⟨us, h1, h2, h3, h4⟩ := zHc h he l m hm fun r hr => hok r (by simp [hr])
    refine ⟨a.tmps.getD t undef :: us, by simp [zTh, h1], by simp [h2], ?_, ?_⟩
    ·intro r hr
     simp only [zX5] at hr
     rcases hr with rfl | hr
     ·rfl
     ·exact h3 r hr
    ·intro i r u hr hu
     cases i with
     | zero => simp only [zYh, zXt] at hr hu; subst hr; subst hu; exact he t ht
     | succ i => exact h4 i r u (by simpa using hr) (by simpa using hu)
   ·cases hl
  ·cases hl
 | .cell t ty :: l, rs, hl, hok => by
  simp only [zE8] at hl
  split at hl
  ·rename_i m ag sz hm hag hsz
   split at hl
   ·rename_i ht
    simp only [zXt] at hl
    subst hl
    obtain ⟨us, h1, h2, h3, h4⟩ := zHc h he l m hm fun r hr => hok r (by simp [hr])
    obtain ⟨g0, u0, g1, g2⟩ := zNV hag hsz h (he t ht) (hok (.cell t ag sz) (by simp))
    refine ⟨u0 :: us, ?_, by simp [h2], ?_, ?_⟩
    ·have g1' : (zTh a.tmps (.cell t ty)).run P w = .ok u0 w := g1
     simp only [List.mapM_cons, Sem.run_bind]
     rw [g1']
     simp [h1]
    ·intro r hr
     simp only [zX5] at hr
     rcases hr with rfl | hr
     ·exact g0
     ·exact h3 r hr
    ·intro i r u hr hu
     cases i with
     | zero => simp only [zYh, zXt] at hr hu; subst hr; subst hu; exact g2
     | succ i => exact h4 i r u (by simpa using hr) (by simpa using hu)
   ·cases hl
  ·cases hl
theorem zEK {fn : Func} {rs : List RV} (hl : zE8 P n fn.results.toList = some rs) (h : HRel w X ρ H) (he : ER w X ρ H n e a) (hok : (zAO e H rs).ok) :
  (zAO e H rs).H = H ∧ ∃ v, (results fn a.tmps).run P w = .ok v w ∧ Rep w (Mut X ρ H.length) ρ H.length (zAO e H rs).x v := by
 have hall : ∀ r ∈ rs, (zC3 e H r).ok := by
  unfold zAO at hok
  split at hok
  ·intro r hr; simp at hr; subst hr; exact hok
  ·exact hok
 obtain ⟨us, h1, h2, h3, h4⟩ := zHc h he _ _ hl hall
 have hrun : (results fn a.tmps).run P w = .ok (if hh : us.toArray.size = 1 then us.toArray[0] else .tuple us.toArray) w := by
  unfold results
  rw [zZK]
  simp only [Sem.run_bind]
  have h5 : (List.toArray <$> fn.results.toList.mapM (zTh a.tmps)).run P w = .ok us.toArray w := by
   rw [map_eq_pure_bind]
   simp [h1]
  change ((Sem.run P (List.toArray <$> fn.results.toList.mapM (zTh a.tmps)) w).andThen _) = _
  rw [h5]
  simp
 rw [hrun]
 match rs, h2, h3, h4 with
 | [r], h2, h3, h4 =>
  match us, h2, h4 with
  | [u], _, h4 => exact ⟨h3 r (by simp), u, rfl, h4 0 r u rfl rfl⟩
 | [], h2, h3, h4 =>
  match us, h2 with
  | [], _ => exact ⟨rfl, _, by simp; rfl, .tup _ _ _ rfl (by simp)⟩
 | r :: r' :: rs, h2, h3, h4 =>
  refine ⟨rfl, _, rfl, ?_⟩
  rw [dif_neg (by simp [h2])]
  refine .tup _ _ _ (by simp [h2]) fun i x u hx hu => ?_
  rw [zYb] at hx
  cases hr : (r :: r' :: rs)[i]? with
  | none => rw [hr] at hx; cases hx
  | some r0 =>
   rw [hr] at hx
   simp at hx
   subst hx
   exact h4 i r0 u hr (by simpa using hu)
theorem zGa {D : Nat} {o : Option (List Deferred)} {o' : Obj} (hD : w.heap[D]? = some (.deferred o)) {x : Addr} {u : Value} (h : w.cell? x = some u) : (w.putObj D o').cell? x = some u := by
 by_cases hb : x.block = D
 ·exfalso
  obtain ⟨b, i, sp⟩ := x
  simp only at hb
  subst hb
  simp [World.cell?, hD] at h
 ·obtain ⟨b, i, sp⟩ := x
  rw [← h]
  unfold World.cell?
  rw [World.putObj_heap_other hb]
theorem Rep.poke {D : Nat} {o : Option (List Deferred)} {o' : Obj} (hD : w.heap[D]? = some (.deferred o)) {M : Nat → Prop} {k : Nat} {x : AV} {u : Value} (h : Rep w M ρ k x u) : Rep (w.putObj D o') M ρ k x u := by
 induction h with
 | any => exact .any _ _
 | v => exact .v _ _
 | agg n cs us hl _ ih => exact .agg _ _ _ hl ih
 | tup n cs us hl _ ih => exact .tup _ _ _ hl ih
 | nc => exact .nc _ _
 | bnil => exact .bnil _ _
 | slE => exact .slE _ _ _ _
 | slN n sz xs b o cap c hm hb hcap hsz hcell _ ih => exact .slN _ _ _ _ _ _ c hm (by simpa using hb) hcap hsz (fun i j x y hx hy => ⟨zGa hD (hcell i j x y hx hy).1, (hcell i j x y hx hy).2⟩) ih
 | vp n cs off b o c hm hb hcell _ ih => exact .vp _ _ _ _ _ c hm (by simpa using hb) (fun j y hy => ⟨zGa hD (hcell j y hy).1, (hcell j y hy).2⟩) ih
 | fn n f first caps fs us h1 h2 _ _ ih1 ih2 => exact .fn _ _ _ _ _ _ h1 h2 ih1 ih2
 | mp n ks vs b es clock hm hb hh hks hvs _ ih => exact .mp _ _ _ _ es clock hm (by simpa using hb) (by rw [World.putObj_heap_other (fun e => by subst e; rw [hD] at hh; cases hh)]; exact hh) hks hvs ih
 | os n r ver off len u hr hle h1 hp => exact .os _ _ _ _ _ _ hr hle h1 hp
 | ptr n r ver off u hr hle h1 hp => exact .ptr _ _ _ _ _ hr hle h1 hp
 | pe n r ver i off u hr hle h1 hp => exact .pe _ _ _ _ _ _ hr hle h1 hp
 | om n r ver u hr hle h1 hp => exact .om _ _ _ _ hr hle h1 hp
theorem ObjOk.poke {D : Nat} {o0 : Option (List Deferred)} {o' : Obj} (hD : w.heap[D]? = some (.deferred o0)) {M : Nat → Prop} {k : Nat} {l : Loc} {o : HO} (h : ObjOk w M ρ k l o) : ObjOk (w.putObj D o') M ρ k l o := by
 have hk : ∀ b ob, w.heap[b]? = some ob → (∀ d, ob ≠ Obj.deferred d) → (w.putObj D o').heap[b]? = some ob := fun b ob hb hne => by
  rw [World.putObj_heap_other (fun e => by subst e; rw [hD] at hb; cases hb; exact hne _ rfl)]; exact hb
 cases o with
 | dead => trivial
 | box cs =>
  obtain ⟨h1, b, c, e, fr, h2, h3, h4, h5, h6⟩ := h
  exact ⟨h1, b, c, e, fr, h2, hk _ _ h3 (by simp), h4, h5, fun j y u hy hu => ⟨(h6 j y u hy hu).1.poke hD, (h6 j y u hy hu).2⟩⟩
 | arr ver sz xs =>
  obtain ⟨h1, h2, h3, h4, h5, h6⟩ := h
  refine ⟨h1, h2, h3, h4, h5, ?_⟩
  split
  ·rename_i hl; rw [hl] at h6; exact h6
  ·rename_i b o hl
   rw [hl] at h6
   obtain ⟨c, e, fr, g1, g2, g3, g4⟩ := h6
   exact ⟨c, e, fr, hk _ _ g1 (by simp), g2, g3, fun i j x y u hx hy hu => ⟨(g4 i j x y u hx hy hu).1.poke hD, (g4 i j x y u hx hy hu).2⟩⟩
 | map ver ks vs =>
  obtain ⟨h1, b, es, clock, h2, h3, h4, h5, h6⟩ := h
  exact ⟨h1, b, es, clock, h2, hk _ _ h3 (by simp), h4, h5, fun i x e hx he => (h6 i x e hx he).poke hD⟩
 | iter s pos =>
  obtain ⟨h1, b, h2, h3⟩ := h
  exact ⟨h1, b, h2, hk _ _ h3 (by simp)⟩
 | lp b lr e st =>
  obtain ⟨h1, h2, h3, h4⟩ := h
  exact ⟨h1, h2, hk _ _ h3 (by simp), fun t u hu => (h4 t u hu).poke hD⟩
 | mit ks vs left cur =>
  obtain ⟨h1, b, m, es, clock, since, seen, c0, h2, h3, h4, h5, h6⟩ := h
  exact ⟨h1, b, m, es, clock, since, seen, c0, h2, hk _ _ h3 (by simp), hk _ _ h4 (by simp), h5.poke hD, h6⟩
 | barr t ver bl =>
  obtain ⟨h1, h2, h3, h4⟩ := h
  refine ⟨h1, h2, h3, ?_⟩
  split
  ·rename_i hl; rw [hl] at h4; exact h4
  ·rename_i b o hl
   rw [hl] at h4
   obtain ⟨c, fr, g1, g2, g3, g4⟩ := h4
   exact ⟨c, fr, hk _ _ g1 (by simp), g2, g3, g4⟩
theorem HRel.poke {D : Nat} {o0 : Option (List Deferred)} {o' : Obj} (hD : w.heap[D]? = some (.deferred o0)) (h : HRel w X ρ H) : HRel (w.putObj D o') X ρ H :=
 ⟨fun r o hr => (h.objs r o hr).poke hD, h.inj, fun r b o hr hb => by simpa using h.lt r b o hr hb, fun b hb => by simpa using h.xlt b hb, fun g hg => ⟨(h.gl g hg).1, by obtain ⟨m, hm⟩ := (h.gl g hg).2; exact ⟨m, zGa hD hm⟩⟩⟩
theorem Fut.poke {D : Nat} {o' : Obj} (h : Fut w0 ρ0 n0 w ρ n) (hD : w0.heap.size ≤ D) : Fut w0 ρ0 n0 (w.putObj D o') ρ n :=
 ⟨h.os, h.tape, h.output, by simpa using h.size, fun b hb ho => by rw [World.putObj_heap_other (by omega)]; exact h.keep b hb ho, h.own, h.len, h.loc⟩
def zLT : List Nat → World → World
 | [], w => w
 | D :: ds, w => zLT ds (w.putObj D (.deferred none))
theorem zCd {fn : Func} {tmps : Array Value} {R : Ending → World → Prop} {u : FrameMode} (hu : u ≠ .run) {B : List Deferred} : ∀ (ds : List Nat) (w : World), ds.Nodup → (∀ D ∈ ds, w.heap[D]? = some (.deferred (some []))) → LeavesInM Fence.wide 0 P fn tmps R B u (zLT ds w) →
  LeavesInM Fence.wide 0 P fn tmps R (ds.map zRb ++ B) u w
 | [], w, _, _, h => h
 | D :: ds, w, hn, hd, h => by
  obtain ⟨n1, n2⟩ := zZR.1 hn
  refine ⟨hu, .inl ⟨D, _, rfl, run_takeDeferred (hd D (by simp)), zCd hu ds _ n2 (fun D' hD' => ?_) h⟩⟩
  rw [World.putObj_heap_other (fun e => by subst e; exact n1 hD')]
  exact hd D' (by simp [hD'])
theorem zFh : ∀ (ds : List Nat) {w : World}, ds.Nodup → (∀ D ∈ ds, w0.heap.size ≤ D ∧ w.heap[D]? = some (.deferred (some []))) → HRel w X ρ H → ER w X ρ H n e a → Fut w0 ρ0 n0 w ρ H.length →
  HRel (zLT ds w) X ρ H ∧ ER (zLT ds w) X ρ H n e a ∧ Fut w0 ρ0 n0 (zLT ds w) ρ H.length
 | [], w, _, _, h1, h2, h3 => ⟨h1, h2, h3⟩
 | D :: ds, w, hn, hd, h1, h2, h3 => by
  obtain ⟨n1, n2⟩ := zZR.1 hn
  have hD := hd D (by simp)
  refine zFh ds n2 (fun D' hD' => ⟨(hd D' (by simp [hD'])).1, ?_⟩) (h1.poke hD.2) (fun t ht => (h2 t ht).poke hD.2) (h3.poke hD.1)
  rw [World.putObj_heap_other (fun e => by subst e; exact n1 hD')]
  exact (hd D' (by simp [hD'])).2
theorem zBr {k : FuncId} {fn : Func} {hs : List Hn} {L : LFn} {args : List AV} {R : AV → zC → Prop} {Z : Value → zC → Prop} (hf : P.funcs[k]? = some fn) (hl : zAa P fn hs = some L) (ha : args.length ≤ L.n)
  (h : zAj P [.code L.body] (zI1 L.res R Z) .normal (zDi args 0) H) : ACallX P k args H R Z := by
 unfold zAa at hl
 cases hb : fn.body with
 | none => simp [hb] at hl
 | some c =>
  cases hr : zE8 P fn.ntmps fn.results.toList with
  | none => simp [hb, hr] at hl
  | some rs =>
   simp only [hb, hr] at hl
   split at hl
   ·rename_i b hc
    split at hl
    ·rename_i hcond
     simp only [zXt] at hl
     subst hl
     refine ⟨⟨fn, hf, by simp [hb], hcond.2⟩, fun X ρ w vs hrel hargs => (callsIn_wide (n := 0)).1 (callsIn_of_wp_marks hf hb trivial ?_)⟩
     have hvs : vs.size ≤ fn.ntmps := by rw [← hargs.1]; exact ha
     refine zDZ (B := ⟨[], True⟩) (X := X) (w0 := w) (ρ0 := ρ) (n0 := H.length) (rd := none) (m0 := 0) (H := H) (e := zDi args 0) c hc (.inl ⟨rfl, trivial⟩) h ⟨by simp; omega, ρ, hrel, fun t ht => ?_, Fut.refl _ _ _, Mk.nil⟩ ?_
     ·rw [zEA, if_pos (zXJ _), zYD]
      by_cases htl : t < vs.size
      ·have hx : args[t]? = some (args[t]'(by rw [hargs.1]; exact htl)) := by simp
       rw [hx, zYn]
       refine hargs.2 t _ _ hx ?_
       simp [zXX, zYo, htl]
      ·rw [zYv (by rw [hargs.1]; omega)]
       exact .any _ _
     ·intro o e' H' a' w' hk hst
      obtain ⟨hn, ρ', g1, g2, g3, ds, d1, _, d2, d3⟩ := hst
      obtain ⟨f1, f2, f3⟩ := zFh ds d2 (fun D hD => ⟨(d3 D hD).1, (d3 D hD).2.2.2⟩) g1 g2 g3
      have fin : (zAO e' H' rs).ok ∧ R (zAO e' H' rs).x H' → LeavesInM Fence.wide 0 P fn a'.tmps (fun en w' => (∃ v x H' ρ', en = .returned v ∧ R x H' ∧ HRel w' X ρ' H' ∧ Rep w' (Mut X ρ' H'.length) ρ' H'.length x v ∧ Fut w ρ H.length w' ρ' H'.length) ∨
        ∃ z H' ρ', en = .panicked [{ v := z, recovered := false }] ∧ Z z H' ∧ HRel w' X ρ' H' ∧ Fut w ρ H.length w' ρ' H'.length) a'.defers .returning w' := by
       rintro ⟨k1, k2⟩
       obtain ⟨_, v, k3, k4⟩ := zEK hr f1 f2 k1
       rw [d1]
       exact zCd (by simp) ds w' d2 (fun D hD => (d3 D hD).2.2.2) ⟨v, k3, .inl ⟨v, _, H', ρ', rfl, k2, f1, k4, f3⟩⟩
      cases o with
      | normal => exact fin hk
      | exit id => exact hk.elim
      | ret => exact fin hk
      | pan z =>
       show LeavesInM Fence.wide 0 P fn a'.tmps _ a'.defers (.panicking [{ v := z, recovered := false }]) w'
       rw [d1]
       exact zCd (by simp) ds w' d2 (fun D hD => (d3 D hD).2.2.2) (.inr ⟨z, H', ρ', rfl, hk, f1, f3⟩)
    ·cases hl
   ·cases hl
theorem enter {k : FuncId} {fn : Func} {hs : List Hn} {L : LFn} {args : List AV} {R : AV → zC → Prop} (hf : P.funcs[k]? = some fn) (hl : zAa P fn hs = some L) (ha : args.length ≤ L.n)
  (h : zAj P [.code L.body] (zSj L.res R) .normal (zDi args 0) H) : ACall P k args H R :=
 (zBr hf hl ha (by
  have : zSj L.res R = zI1 L.res R fun _ _ => False := by
   funext o e H
   cases o <;> rfl
  rw [← this]
  exact h)).calm
end
section
variable {P : Program} {w w' : World} {X M M' M'' : Nat → Prop} {ρ ρ' : Nat → Loc} {H : zC} {n n' : Nat}
theorem Rep.narrow {x : AV} {u : Value} (h : Rep w M' ρ 0 x u) (hM : ∀ b, M'' b → M' b) : Rep w M'' ρ 0 x u :=
 h.fut (n0 := 0) (Fut.refl _ _ _) (fun b _ hb hb' => hb (hM b hb')) (fun b _ ⟨r, o, hr, _⟩ => by omega) (zXL _)
theorem Rep.scope {x : AV} {u0 : Value} (h0 : Rep w M ρ n x u0) (hM : ∀ b, M'' b → M' b) : ∀ {u : Value}, Rep w' M' ρ' n' x u → Rep w' M'' ρ' n x u := by
 induction h0 with
 | any => intro u _; exact .any _ _
 | v => intro u h; cases h; exact .v _ _
 | agg n cs us hl _ ih =>
  intro u h
  cases h with
  | agg _ _ us' hl' h' =>
   refine .agg _ _ _ hl' fun i x u hx hu => ?_
   have hlt : i < us.size := by rw [← hl]; exact (zXA.1 hx).1
   exact ih i x us[i] hx (by simp [hlt]) (h' i x u hx hu)
 | tup n cs us hl _ ih =>
  intro u h
  cases h with
  | tup _ _ us' hl' h' =>
   refine .tup _ _ _ hl' fun i x u hx hu => ?_
   have hlt : i < us.size := by rw [← hl]; exact (zXA.1 hx).1
   exact ih i x us[i] hx (by simp [hlt]) (h' i x u hx hu)
 | nc => intro u h; cases h; exact .nc _ _
 | bnil => intro u h; cases h; exact .bnil _ _
 | slE =>
  intro u h
  cases h with
  | slE => exact .slE _ _ _ _
  | slN _ _ _ b o cap c hm hb hcap hsz hcell hc => exact .slN _ _ _ _ _ _ c (fun h => hm (hM _ h)) hb hcap hsz hcell fun i j x y hx hy => (hc i j x y hx hy).narrow hM
 | slN =>
  intro u h
  cases h with
  | slE => exact .slE _ _ _ _
  | slN _ _ _ b o cap c hm hb hcap hsz hcell hc => exact .slN _ _ _ _ _ _ c (fun h => hm (hM _ h)) hb hcap hsz hcell fun i j x y hx hy => (hc i j x y hx hy).narrow hM
 | vp =>
  intro u h
  cases h with
  | vp _ _ _ b o c hm hb hcell hc => exact .vp _ _ _ _ _ c (fun h => hm (hM _ h)) hb hcell fun j y hy => (hc j y hy).narrow hM
 | fn n f first caps fs us h1 h2 _ _ ih1 ih2 =>
  intro u h
  cases h with
  | fn _ _ _ _ fs' us' g1 g2 g3 g4 =>
   refine .fn _ _ _ _ _ _ g1 g2 (fun i x u hx hu => ?_) (fun i x u hx hu => ?_)
   ·have hlt : i < fs.size := by rw [← h1]; exact (zXA.1 hx).1
    exact ih1 i x fs[i] hx (by simp [hlt]) (g3 i x u hx hu)
   ·have hlt : i < us.size := by rw [← h2]; exact (zXA.1 hx).1
    exact ih2 i x us[i] hx (by simp [hlt]) (g4 i x u hx hu)
 | mp =>
  intro u h
  cases h with
  | mp _ _ _ b es clock hm hb hh hks hvs hc => exact .mp _ _ _ _ es clock (fun h => hm (hM _ h)) hb hh hks hvs fun i x e hx he => (hc i x e hx he).narrow hM
 | os n r ver off len u hr _ _ _ =>
  intro u h
  cases h with
  | os _ _ _ _ _ _ _ hle h1 hp => exact .os _ _ _ _ _ _ hr hle h1 hp
 | ptr n r ver off u hr _ _ _ =>
  intro u h
  cases h with
  | ptr _ _ _ _ _ _ hle h1 hp => exact .ptr _ _ _ _ _ hr hle h1 hp
 | pe n r ver i off u hr _ _ _ =>
  intro u h
  cases h with
  | pe _ _ _ _ _ _ _ hle h1 hp => exact .pe _ _ _ _ _ _ hr hle h1 hp
 | om n r ver u hr _ _ _ =>
  intro u h
  cases h with
  | om _ _ _ _ _ hle h1 hp => exact .om _ _ _ _ hr hle h1 hp
theorem ObjOk.scope {l l' : Loc} {o : HO} (h0 : ObjOk w M ρ n l o) (hM : ∀ b, M'' b → M' b) (h : ObjOk w' M' ρ' n' l' o) : ObjOk w' M'' ρ' n l' o := by
 cases o with
 | dead => trivial
 | box cs =>
  obtain ⟨_, _, c0, _, _, _, _, hl0, _, h06⟩ := h0
  obtain ⟨h1, b, c, e, fr, h2, h3, h4, h5, h6⟩ := h
  refine ⟨h1, b, c, e, fr, h2, h3, h4, h5, fun j y u hy hu => ⟨?_, (h6 j y u hy hu).2⟩⟩
  have hlt : j < c0.size := by rw [← hl0]; exact (zXA.1 hy).1
  exact (h06 j y c0[j] hy (by simp [hlt])).1.scope hM (h6 j y u hy hu).1
 | arr ver sz xs =>
  obtain ⟨h1, h2, h3, h4, h5, h6⟩ := h
  refine ⟨h1, h2, h3, h4, h5, ?_⟩
  split
  ·rename_i hl; rw [hl] at h6; exact h6
  ·rename_i b o hl
   rw [hl] at h6
   obtain ⟨c, e, fr, g1, g2, g3, g4⟩ := h6
   exact ⟨c, e, fr, g1, g2, g3, fun i j x y u hx hy hu => ⟨(g4 i j x y u hx hy hu).1.narrow hM, (g4 i j x y u hx hy hu).2⟩⟩
 | map ver ks vs =>
  obtain ⟨h1, b, es, clock, h2, h3, h4, h5, h6⟩ := h
  exact ⟨h1, b, es, clock, h2, h3, h4, h5, fun i x e hx he => (h6 i x e hx he).narrow hM⟩
 | iter s pos => exact h
 | lp b lr e st =>
  obtain ⟨_, _, _, h04⟩ := h0
  obtain ⟨h1, h2, h3, h4⟩ := h
  exact ⟨h1, h2, h3, fun t u hu => (h04 t u hu).scope hM (h4 t u hu)⟩
 | mit ks vs left cur =>
  obtain ⟨h1, b, m, es, clock, since, seen, c0, h2, h3, h4, h5, h6⟩ := h
  exact ⟨h1, b, m, es, clock, since, seen, c0, h2, h3, h4, h5.narrow hM, h6⟩
 | barr t ver bl => exact h
theorem ACall.drop {k : FuncId} {args : List AV} {R : AV → Prop} (h : ACall P k args H fun x H' => R x ∧ x.cl = true ∧ ∃ rest, H' = H ++ rest) : ACall P k args H fun x H' => R x ∧ H' = H := by
 refine ⟨h.1, fun X ρ w vs hrel hargs => (h.2 X ρ w vs hrel hargs).mono ?_⟩
 rintro en w' ⟨v, x, H', ρ', rfl, ⟨hR, hcl, rest, rfl⟩, g1, g2, g3⟩
 have hle : H.length ≤ (H ++ rest).length := by simp
 have hM : ∀ b, Mut X ρ' H.length b → Mut X ρ' (H ++ rest).length b := fun b hb => hb.imp id fun ⟨r, o, hr, hbl⟩ => ⟨r, o, by omega, hbl⟩
 refine ⟨v, x, H, ρ', rfl, ⟨hR, rfl⟩, ⟨fun r o hr => ?_, fun r r' b o b' o' hr hr' => g1.inj r r' b o b' o' (by omega) (by omega), fun r b o hr => g1.lt r b o (by omega), g1.xlt, fun g hg => ⟨fun ⟨r, o, hr, hbl⟩ => (g1.gl g hg).1 ⟨r, o, by omega, hbl⟩, (g1.gl g hg).2⟩⟩, ?_, ?_⟩
 ·have hlt : r < H.length := (zXA.1 hr).1
  exact (hrel.objs r o hr).scope hM (g1.objs r o (by rw [zXu hlt]; exact hr))
 ·exact ((g2.of_cl hcl).narrow hM).closed rfl _ _
 ·exact ⟨g3.os, g3.tape, g3.output, g3.size, g3.keep, fun b ⟨r, o, hr, hbl⟩ => g3.own b ⟨r, o, by omega, hbl⟩, zXL _, g3.loc⟩
end
theorem zAX {a b : Bool} (h : a = true ↔ b = true) : bool a = bool b := by rw [zY0.2 h]
end Go.Ax
namespace Go.Ax
open Go Go.RowKit Go.WideShapes Go.ChangeShapes
set_option linter.unusedSimpArgs false
set_option linter.unusedVariables false
abbrev X0 : Nat → Prop := fun _ => False
theorem zOn (w : World) (ρ : Nat → Loc) (hg : ∀ g ∈ glbs, ∃ m, w.cell? ⟨g, 0, none⟩ = some (.int .i64 m)) : HRel w X0 ρ [] where
 objs := fun r o h => by simp at h
 inj := fun r _ _ _ _ _ h => by simp at h
 lt := fun r _ _ h => by simp at h
 xlt := fun b h => h.elim
 gl := fun g h => ⟨fun ⟨r, o, hr, _⟩ => by simp at hr, hg g h⟩
theorem Fut.below {w w' : World} {ρ ρ' : Nat → Loc} {n' : Nat} (h : Fut w ρ 0 w' ρ' n') : Below w.heap.size w w' :=
 ⟨h.os, h.tape, h.output, h.size, fun k hk => h.keep k hk fun ⟨r, o, hr, _⟩ => by omega⟩
theorem ACall.top {P : Program} {k : FuncId} {args : List AV} {R : AV → zC → Prop} (h : ACall P k args [] R) {w : World} {vs : Array Value} (hargs : RepL w X0 (fun _ => {}) 0 args vs) (hg : ∀ g ∈ glbs, ∃ m, w.cell? ⟨g, 0, none⟩ = some (.int .i64 m)) :
  Calls P k vs w fun e w' => ∃ v x H' ρ', e = .returned v ∧ R x H' ∧ Rep w' (Mut X0 ρ' H'.length) ρ' H'.length x v ∧ Below w.heap.size w w' := by
 have hm : Mut X0 (fun _ => ({} : Loc)) 0 = X0 := by
  funext b
  simp [Mut, Own, X0]
 refine (h.2 X0 (fun _ => {}) w vs (zOn _ _ hg) ?_).mono ?_
 ·simpa [hm] using hargs
 ·rintro e w' ⟨v, x, H', ρ', he, hR, _, hx, hf⟩
  exact ⟨v, x, H', ρ', he, hR, hx, hf.below⟩
section
variable {H : Type} {enc : TypeId × Value → H} {P : Program}
theorem zN2 {f : Func} {s : ChangeSpec} {apart zRu handsOn again : Bool} {W W' : World} {args : Array Value} {ds : List (DataW H)} {before : List MemPlace} {tb : TypeId}
  (hW : DataW.Whole enc P f.params.toList s.vars apart W args.toList ds [] before) (hv : s.vars = [])
  (hf : f.resultTypes = #[tb]) (htb : P.underlying tb = some .bool) (hs : s.fn H ds = ⟨[.lit (.bool true)], ds, []⟩)
  (hargs : ∀ sp : Nat → Bool, (∀ p ∈ before, sp p.block = true) → DataW.TrodAll enc P W' 0 sp true f.params.toList args.toList ds before)
  (hb : Below W.heap.size W W') : s.post enc P f apart zRu handsOn again W args (.bool true) W' := by
 have hlt : ∀ p ∈ before, p.block < W.heap.size := fun p hp => hW.lt p hp
 have hold : ∀ p ∈ before, (fun b => decide (b < W.heap.size)) p.block = true := fun p hp => by simpa using hlt p hp
 have hs' : s.fn H (ds ++ []) = ⟨[.lit (.bool true)], ds, []⟩ := by rw [zZf]; exact hs
 have hres : ∀ (b : Nat) (sp : Nat → Bool) (hd : Bool), DataW.TrodAll enc P W' b sp hd f.resultTypes.toList ((Value.bool true).resultList f.resultTypes.size) (s.fn H (ds ++ [])).results [] := by
  intro b sp hd
  rw [hs', hf]
  exact trodAll_mk1 (shut_bool htb true)
 have hvars : ∀ sp : Nat → Bool, DataW.TrodVars enc P W' sp s.vars (s.fn H (ds ++ [])).vars [] := by
  intro sp; rw [hs', hv]; rfl
 have hk : W.keptBut W' (· ∈ before) := hb.frame _
 refine ⟨ds, [], before, [], before, [], hW, hres _ _ _, ?_, hvars _, World.keptBut_mono (fun p hp => ⟨hp, .inr (.inl hp)⟩) hk, fun _ => ?_⟩
 ·rw [hs']; exact hargs _ hold
 ·obtain ⟨_, _, _, _, _, hz, hn⟩ := hW
  refine ⟨?_, _, _, ([] ++ before) ++ [], ⟨[] ++ before, [], trodAll_append (hargs _ fun _ _ => rfl) (hres 0 (fun _ => true) true), hvars _, rfl, ?_, ?_⟩, ?_⟩
  ·intro j t r h1 h2
   rw [hf] at h1 h2
   cases j with
   | zero => simp [Value.resultList] at h1 h2; subst h1; subst h2; exact okWide_bool_mk htb true
   | succ j => simp at h1
  ·intro b off hp
   have hin : MemPlace.cell b off ∈ before := by simpa using hp
   rw [hb.frozen (hlt _ hin)]
   exact hz b off (by simpa using hin)
  ·intro ha
   simpa using hn ha
  ·intro p hp _
   simpa using hp
end
inductive Val (P : Program) : TypeId → List AV → Prop
 | int {t : TypeId} {k : IntKind} {n : Int} : P.underlying t = some (.int k) → (Lit.int k n).wf = true → Val P t [.v (.int k n)]
 | bool {t : TypeId} {b : Bool} : P.underlying t = some .bool → Val P t [.v (.bool b)]
 | str {t : TypeId} {s : ByteArray} : P.underlying t = some .string → s.size ≤ maxLen → Val P t [.v (.string s)]
 | sl {t e : TypeId} {rows : List (List AV)} : P.underlying t = some (.slice e) → rows.length ≤ maxLen → (∀ x ∈ rows, Val P e x) → Val P t [.sl (P.cellsOf e) rows]
 | st {t : TypeId} {fs : Array Field} {xs : List AV} : P.underlying t = some (.struct fs) → xs.length = P.cellsOf t → (∀ (i : Nat) (f : Field), fs[i]? = some f → Val P f.type ((xs.drop f.offset).take (P.cellsOf f.type))) → Val P t xs
def zE4 (P : Program) : Nat → List Field → Option Nat
 | o, [] => some o
 | o, f :: fs => if f.offset = o then zE4 P (o + P.cellsOf f.type) fs else none
def zGt (P : Program) (S : List TypeId) : Bool := S.all fun t =>
 match P.underlying t with
 | some (.int _) => decide (P.cellsOf t = 1)
 | some .bool => decide (P.cellsOf t = 1)
 | some .string => decide (P.cellsOf t = 1)
 | some (.slice e) => decide (P.cellsOf t = 1) && S.contains e && decide (0 < P.cellsOf e)
 | some (.struct fs) => decide (zE4 P 0 fs.toList = some (P.cellsOf t)) && fs.toList.all fun f => S.contains f.type
 | _ => false
section
variable {H : Type} {enc : TypeId × Value → H} {P : Program} {w : World} {sp : Nat → Bool} {held : Bool}
def zR8 (w : World) (xs : List AV) (cs : List Value) : Prop := xs.length = cs.length ∧ ∀ (i : Nat) (x : AV) (u : Value), xs[i]? = some x → cs[i]? = some u → Rep w X0 (fun _ => {}) 0 x u ∧ one u = true
theorem zIt : ∀ (fl : List Field) {o n : Nat}, zE4 P o fl = some n → o ≤ n ∧ ∀ f ∈ fl, o ≤ f.offset ∧ f.offset + P.cellsOf f.type ≤ n
 | [], o, n, h => by simp [zE4] at h; subst h; simp
 | f :: fs, o, n, h => by
  simp only [zE4] at h
  split at h
  ·rename_i hf
   obtain ⟨h1, h2⟩ := zIt fs h
   refine ⟨by omega, fun g hg => ?_⟩
   rcases zX5.1 hg with rfl | hg
   ·omega
   ·have := h2 g hg; omega
  ·cases h
theorem zIF (a : Addr) : a.add 0 = a := rfl
theorem zNe (b o n : Nat) : (⟨b, o, none⟩ : Addr).add n = ⟨b, o + n, none⟩ := by
 unfold Addr.add
 split
 ·rename_i h; rw [h]; rfl
 ·rfl
theorem zOD {t : TypeId} {a : Addr} {u : Value} (h : w.cell? a = some u) : a.spot = none := by
 unfold World.cell? at h
 split at h
 ·split at h
  ·cases h
  ·rename_i hs; simpa using hs
 ·cases h
def zOV (P : Program) (t : TypeId) (xs : List AV) : AV := match P.underlying t with | some (.struct _) => .agg xs | _ => xs.headD .any
def zKp (P : Program) : List TypeId → List (List AV) → Prop
 | [], [] => True
 | t :: ts, xs :: l => Val P t xs ∧ zKp P ts l
 | _, _ => False
def zDn (P : Program) : List TypeId → List (List AV) → List AV
 | t :: ts, xs :: l => zOV P t xs :: zDn P ts l
 | _, _ => []
theorem zHS (hl : laidOutB P = true) {w' : World} {sp' : Nat → Bool} : ∀ {ts : List TypeId} {vs : List Value} {ds : List (DataW H)} {ps : List MemPlace}, (∀ t ∈ ts, P.readableRec t = true ∧ t < P.types.size) →
  DataW.TrodAll enc P w 0 (fun _ => true) true ts vs ds ps → (∀ p ∈ ps, w.sameAt w' p) → (∀ p ∈ ps, sp' p.block = true) → DataW.TrodAll enc P w' 0 sp' true ts vs ds ps
 | [], vs, ds, ps, _, h, _, _ => by
  obtain ⟨rfl, rfl, rfl⟩ := trodAll_nil h
  exact trodAll_mk0
 | t :: ts, vs, ds, ps, hts, h, hsame, hs => by
  obtain ⟨v, vs1, d, ds1, a, b, rfl, rfl, rfl, h1, h2⟩ := trodAll_cons h
  have ht := hts t (by simp)
  exact ⟨a, b, WideElems.Trod_stays hl ht.1 ht.2 h1 (fun p hp => hsame p (by simp [hp])) (fun p hp => hs p (by simp [hp])), zHS hl (fun t ht => hts t (by simp [ht])) h2 (fun p hp => hsame p (by simp [hp])) (fun p hp => hs p (by simp [hp])), rfl⟩
end
def zMu (P : Program) : Bool := glbs.all fun g => decide (g < P.globals.size) &&
 match ((begin P (fun _ _ => 0) default).world.heap[g]?).bind Obj.row? with
 | some (zero, t) => zero.size == 1 && P.buildable t && P.cellTypes P.depth t == some [t] && (match P.underlying t with | some (.int .i64) => true | _ => false)
 | none => false
theorem zJm {P : Program} {w : World} (h : zMu P = true) (hsh : w.ShapedOpen P) : ∀ g ∈ glbs, ∃ m, w.cell? ⟨g, 0, none⟩ = some (.int .i64 m) := by
 intro g hg
 have h1 := zXZ.1 h g hg
 rw [zXE, zXB] at h1
 obtain ⟨h1, h2⟩ := h1
 split at h2
 ·rename_i zero t h0
  simp only [zXE, beq_iff_eq] at h2
  obtain ⟨⟨⟨h3, h4⟩, h5⟩, h6⟩ := h2
  refine Go.Proofs.cell_of_shapedOpen_int hsh h1 h0 h3 h4 h5 ?_
  split at h6
  ·assumption
  ·cases h6
 ·cases h2
end Go.Ax
namespace Go.Ax
open Go Go.RowKit Go.WideShapes Go.ChangeShapes
open Go.Proofs.YtaipgalanpcgoaaGreat
set_option linter.unusedSimpArgs false
set_option linter.unusedVariables false
mutual
def AV.bulk : AV → Nat
 | .v (.string s) => s.size + 1
 | .sl _ rows => zBd rows + 1
 | _ => 1
def zBG : List AV → Nat
 | [] => 0
 | x :: l => x.bulk + zBG l
def zBd : List (List AV) → Nat
 | [] => 0
 | r :: l => zBG r + zBd l
end
theorem zE6 : ∀ a b : List AV, zBG (a ++ b) = zBG a + zBG b
 | [], b => by simp [zBG]
 | x :: a, b => by simp only [zYH, zBG, zE6 a b]; omega
theorem zIz {H : Type} : ∀ (rows : List (List AV)) (ds : List (DataW H)), rows.length = ds.length → (∀ (i : Nat) (r : List AV) (d : DataW H), rows[i]? = some r → ds[i]? = some d → zBG r ≤ Rows.uptoBulk d) → zBd rows ≤ Rows.uptoBulkAll ds
 | [], [], _, _ => by simp [zBd]
 | [], _ :: _, h, _ => by simp at h
 | _ :: _, [], h, _ => by simp at h
 | r :: rows, d :: ds, h, hh => by
  simp only [zBd, Rows.uptoBulkAll]
  have h1 := hh 0 r d rfl rfl
  have h2 := zIz rows ds (by simpa using h) fun i r d hr hd => hh (i + 1) r d (by simpa using hr) (by simpa using hd)
  omega
section
variable {H : Type} {enc : TypeId × Value → H} {P : Program} {w : World} {sp : Nat → Bool} {held : Bool}
theorem zE3 (cs : List Value) : ∀ (fl : List Field) (ds : List (DataW H)) {o n : Nat}, zE4 P o fl = some n → n ≤ cs.length → fl.length = ds.length → (∀ (i : Nat) (f : Field) (d : DataW H), fl[i]? = some f → ds[i]? = some d → ∃ ys, zR8 w ys ((cs.drop f.offset).take (P.cellsOf f.type)) ∧ Val P f.type ys ∧ zBG ys ≤ Rows.uptoBulk d) →
  ∃ xs, zR8 w xs ((cs.drop o).take (n - o)) ∧ (∀ f ∈ fl, Val P f.type ((xs.drop (f.offset - o)).take (P.cellsOf f.type))) ∧ zBG xs ≤ Rows.uptoBulkAll ds
 | [], ds, o, n, h, _, _, _ => by
  simp [zE4] at h; subst h
  exact ⟨[], ⟨by simp, fun i x u hx => by simp at hx⟩, by simp, by simp [zBG]⟩
 | f :: fs, [], o, n, h, hn, hl, hf => by simp at hl
 | f :: fs, d :: ds, o, n, h, hn, hl, hf => by
  simp only [zE4] at h
  split at h
  ·rename_i hfo
   obtain ⟨h1, h2⟩ := zIt fs h
   obtain ⟨ys, ⟨hyl, hyr⟩, hyv, hyb⟩ := hf 0 f d rfl rfl
   obtain ⟨zs, ⟨hzl, hzr⟩, hzv, hzb⟩ := zE3 cs fs ds h hn (by simpa using hl) fun i g d hg hd => hf (i + 1) g d (by simpa using hg) (by simpa using hd)
   rw [hfo] at hyl hyr
   have hyl' : ys.length = P.cellsOf f.type := by rw [hyl]; simp; omega
   have hzl' : zs.length = n - (o + P.cellsOf f.type) := by rw [hzl]; simp; omega
   refine ⟨ys ++ zs, ⟨by simp [hyl', hzl']; omega, fun i x u hx hu => ?_⟩, fun g hg => ?_, by rw [zE6]; simp only [Rows.uptoBulkAll]; omega⟩
   ·have hu' : cs[o + i]? = some u := by
     rw [zX4] at hu
     split at hu
     ·simpa using hu
     ·cases hu
    by_cases hi : i < ys.length
    ·rw [zXu hi] at hx
     refine hyr i x u hx ?_
     rw [zX4, if_pos (by omega)]
     simpa using hu'
    ·rw [zXz (by omega)] at hx
     refine hzr (i - ys.length) x u hx ?_
     have hlt := (zXA.1 hx).1
     rw [zX4, if_pos (by omega)]
     simp only [zYa]
     rw [← hu']
     congr 1
     omega
   ·rcases zX5.1 hg with rfl | hg
    ·rw [hfo, zZl, zXw, List.take_left' hyl']
     exact hyv
    ·have := h2 g hg
     have e : (ys ++ zs).drop (g.offset - o) = zs.drop (g.offset - (o + P.cellsOf f.type)) := by
      rw [show g.offset - o = ys.length + (g.offset - (o + P.cellsOf f.type)) by omega, ← List.drop_drop, List.drop_left]
     rw [e]
     exact hzv g hg
  ·cases h
theorem zI9 {S : List TypeId} (hS : zGt P S = true) : ∀ (fuel : Nat) {t : TypeId} {cs : List Value} {x : DataW H × List MemPlace}, t ∈ S → DataW.trod enc P w 0 sp held fuel t cs = some x → ∃ xs, zR8 w xs cs ∧ Val P t xs ∧ zBG xs ≤ Rows.uptoBulk x.1 := by
 intro fuel
 induction fuel with
 | zero => intro t cs x _ h; simp [DataW.trod] at h
 | succ fuel ih =>
  intro t cs x ht h
  have hS0 := hS
  unfold zGt at hS
  rw [zXZ] at hS
  have h1 := hS t ht
  have single : ∀ (u : Value), one u = true → zR8 w [.v u] [u] := fun u hu => ⟨rfl, fun i x y hx hy => by
   cases i with
   | zero => simp at hx hy; subst hx; subst hy; exact ⟨.v _ _, hu⟩
   | succ i => simp at hx⟩
  split at h1
  ·rename_i k hu
   obtain ⟨n, rfl, rfl, hw⟩ := DataW.trod_int hu h
   exact ⟨_, single _ rfl, .int hu hw, by simp [zBG, AV.bulk, Rows.uptoBulk]⟩
  ·rename_i hu
   obtain ⟨b, rfl, rfl⟩ := DataW.trod_bool hu h
   exact ⟨_, single _ rfl, .bool hu, by simp [zBG, AV.bulk, Rows.uptoBulk]⟩
  ·rename_i hu
   obtain ⟨s, rfl, rfl, hs⟩ := DataW.trod_string hu h
   exact ⟨_, single _ rfl, .str hu hs, by simp [zBG, AV.bulk, Rows.uptoBulk]⟩
  ·rename_i e hu
   simp only [zXE, zXB, List.contains_iff_mem] at h1
   obtain ⟨⟨_, he⟩, hpos⟩ := h1
   have wrap : ∀ (y : AV) (u : Value), one u = true → Rep w X0 (fun _ => {}) 0 y u → zR8 w [y] [u] := fun y u h1 hu => ⟨rfl, fun i x z hx hz => by
    cases i with
    | zero => simp at hx hz; subst hx; subst hz; exact ⟨hu, h1⟩
    | succ i => simp at hx⟩
   rcases DataW.trod_slice hu h with ⟨rfl, rfl⟩ | ⟨a, len, cap, elems, rest, n, hn, rfl, rfl, _, hlc, hcap, hel, helems, -, -⟩
   ·exact ⟨[.sl (P.cellsOf e) []], wrap _ _ rfl (.slE _ _ _ _), .sl hu (by simp) (by simp), by simp [zBG, AV.bulk, zBd, Rows.uptoBulk]⟩
   ·obtain rfl : n = fuel := by omega
    by_cases hlen : len = 0
    ·subst hlen
     exact ⟨[.sl (P.cellsOf e) []], wrap _ _ rfl (.slE _ _ _ _), .sl hu (by simp) (by simp), by simp [zBG, AV.bulk, zBd, Rows.uptoBulk]⟩
    ·have hrow : ∀ i, i < len → ∃ (cs : List Value) (xs : List AV), w.cells? 0 (a.add (i * P.cellsOf e)) (P.cellsOf e) = some cs ∧ zR8 w xs cs ∧ Val P e xs ∧ ∀ y, elems[i]? = some y → zBG xs ≤ Rows.uptoBulk y.1 := by
      intro i hi
      have hg := helems i hi
      rw [zXP (by omega)] at hg
      cases hc : w.cells? 0 (a.add (i * P.cellsOf e)) (P.cellsOf e) with
      | none => rw [hc] at hg; cases hg
      | some cs =>
       rw [hc] at hg
       obtain ⟨xs, h1, h2, h3⟩ := ih he hg
       exact ⟨cs, xs, rfl, h1, h2, fun y hy => by rw [zXP (by omega)] at hy; cases hy; exact h3⟩
     have hcell : ∀ i cs, w.cells? 0 (a.add (i * P.cellsOf e)) (P.cellsOf e) = some cs → cs.length = P.cellsOf e ∧ ∀ j, j < P.cellsOf e → w.cell? ((a.add (i * P.cellsOf e)).add j) = cs[j]? := by
      intro i cs hc
      obtain ⟨_, h2, h3⟩ := World.cells?_some hc
      exact ⟨h2, h3⟩
     obtain ⟨f, hf⟩ : ∃ f : Nat → List Value × List AV, ∀ i, i < len → w.cells? 0 (a.add (i * P.cellsOf e)) (P.cellsOf e) = some (f i).1 ∧ zR8 w (f i).2 (f i).1 ∧ Val P e (f i).2 ∧ ∀ y, elems[i]? = some y → zBG (f i).2 ≤ Rows.uptoBulk y.1 := by
      refine ⟨fun i => if hi : i < len then (Classical.choose (hrow i hi), Classical.choose (zYO (hrow i hi))) else ([], []), fun i hi => ?_⟩
      simp only [dif_pos hi]
      exact zYO (zYO (hrow i hi))
     have hfl : ∀ i, i < len → (f i).2.length = P.cellsOf e := fun i hi => (hf i hi).2.1.1.trans (hcell i _ (hf i hi).1).1
     have hspot : a.spot = none := by
      have h0 := (hcell 0 _ (hf 0 (by omega)).1).2 0 hpos
      rw [zXP (by rw [(hcell 0 _ (hf 0 (by omega)).1).1]; exact hpos)] at h0
      simp only [Nat.zero_mul, zIF] at h0
      exact zOD (t := t) h0
     have hblk : a.block < w.heap.size := by
      have := World.cells?_block (hf 0 (by omega)).1 hpos
      simpa only [Nat.zero_mul, zIF] using this
     obtain ⟨b, o, spot⟩ := a
     simp only at hspot hblk
     subst hspot
     have hget : ∀ i x, ((List.range len).map fun i => (f i).2)[i]? = some x → i < len ∧ x = (f i).2 := by
      intro i x hx
      simp only [zYb, List.getElem?_range] at hx
      by_cases hi : i < len
      ·simp [hi] at hx; exact ⟨hi, hx.symm⟩
      ·simp [hi] at hx
     have hc : ∀ (i j : Nat) (x : List AV) (y : AV), ((List.range len).map fun i => (f i).2)[i]? = some x → x[j]? = some y → w.cell? ⟨b, o + i * P.cellsOf e + j, none⟩ = some ((f i).1.getD j default) ∧ Rep w X0 (fun _ => {}) 0 y ((f i).1.getD j default) ∧ one ((f i).1.getD j default) = true := by
      intro i j x y hx hy
      obtain ⟨hi, rfl⟩ := hget i x hx
      have hj : j < (f i).2.length := (zXA.1 hy).1
      have hl := hcell i _ (hf i hi).1
      have hj' : j < (f i).1.length := by rw [hl.1, ← hfl i hi]; exact hj
      have hgd : (f i).1[j]? = some ((f i).1.getD j default) := by simp [zXC, hj']
      refine ⟨?_, (hf i hi).2.1.2 j y _ hy hgd⟩
      have := hl.2 j (by rw [← hfl i hi]; exact hj)
      rw [hgd, zNe, zNe] at this
      exact this
     refine ⟨[.sl (P.cellsOf e) ((List.range len).map fun i => (f i).2)], wrap _ _ rfl ?_, .sl hu (by simp; omega) (fun x hx => ?_), ?_⟩
     ·have := Rep.slN (w := w) (M := X0) (ρ := fun _ => {}) 0 (P.cellsOf e) ((List.range len).map fun i => (f i).2) b o cap (fun i j => (f i).1.getD j default) (fun h => h.elim) hblk (by simpa using hlc)
       (fun x hx => by obtain ⟨i, hi, rfl⟩ := zYz.1 hx; exact hfl i (by simpa using hi)) (fun i j x y hx hy => ⟨(hc i j x y hx hy).1, (hc i j x y hx hy).2.2⟩) (fun i j x y hx hy => (hc i j x y hx hy).2.1)
      simpa using this
     ·obtain ⟨i, hi, rfl⟩ := zYz.1 hx
      exact (hf i (by simpa using hi)).2.2.1
     ·have hb := zIz ((List.range len).map fun i => (f i).2) (elems.map (·.1)) (by simp [hel]) fun i r d hr hd => by
       obtain ⟨hi, rfl⟩ := hget i r hr
       simp only [zYb, zZz] at hd
       obtain ⟨y, hy, rfl⟩ := hd
       exact (hf i hi).2.2.2 y hy
      simp only [zBG, AV.bulk, Rows.uptoBulk]
      omega
  ·rename_i fs hu
   simp only [zXE, zXB, zXZ, List.contains_iff_mem] at h1
   obtain ⟨ys, n, hn, rfl, hcl, hyl, hy⟩ := DataW.trod_struct hu h
   obtain rfl : n = fuel := by omega
   obtain ⟨xs, hxr, hxv, hxb⟩ := zE3 (w := w) cs fs.toList (ys.map (·.1)) h1.1 (by omega) (by simp [hyl]) fun i f d hf hd => by
    have hi := (zXA.1 hf).1
    have hg := hy i f (by simpa using hf)
    rw [zXP (by simp at hi; omega)] at hg
    simp only [zYb, zZz] at hd
    obtain ⟨y, hy', rfl⟩ := hd
    rw [zXP (by simp at hi; omega)] at hy'
    cases hy'
    exact ih (h1.2 f (zXW hf)) hg
   rw [zYD, zXw, zXR (by omega)] at hxr
   refine ⟨xs, hxr, .st hu (by rw [hxr.1]; exact hcl) (fun i f hf => ?_), by simp only [Rows.uptoBulk]; omega⟩
   have := hxv f (by rw [← zYu] at hf; exact zXW hf)
   simpa using this
  ·cases h1
theorem zL0 {S : List TypeId} (hS : zGt P S = true) {t : TypeId} {v : Value} {d : DataW H} {ps : List MemPlace} {r : Reach} {base : Nat} (ht : t ∈ S) (hval : Value.okWide P w r base t v) (h : DataW.Trod enc P w 0 sp held t v d ps) :
  ∃ xs, Val P t xs ∧ zBG xs ≤ Rows.uptoBulk d ∧ Rep w X0 (fun _ => {}) 0 (zOV P t xs) v := by
 obtain ⟨fuel, hf⟩ := h
 obtain ⟨xs, hx, hv, hb⟩ := zI9 hS fuel ht hf
 refine ⟨xs, hv, hb, ?_⟩
 unfold zGt at hS
 rw [zXZ] at hS
 have h1 := hS t ht
 have single : v.cells = #[v] → (∀ fs, P.underlying t ≠ some (.struct fs)) → Rep w X0 (fun _ => {}) 0 (zOV P t xs) v := by
  intro hc hn
  have e : zOV P t xs = xs.headD .any := by
   unfold zOV
   split
   ·rename_i fs hu; exact absurd hu (hn fs)
   ·rfl
  rw [e]
  rw [hc] at hx
  obtain ⟨hl, hr⟩ := hx
  match xs, hl with
  | [x], _ => exact (hr 0 x v rfl rfl).1
 split at h1
 ·rename_i k hu
  obtain ⟨n, rfl⟩ := okWide_int hu hval
  exact single rfl fun fs => by rw [hu]; simp
 ·rename_i hu
  obtain ⟨n, rfl⟩ := okWide_bool hu hval
  exact single rfl fun fs => by rw [hu]; simp
 ·rename_i hu
  obtain ⟨n, rfl⟩ := okWide_string hu hval
  exact single rfl fun fs => by rw [hu]; simp
 ·rename_i e hu
  obtain ⟨a, len, cap, rfl⟩ := okWide_slice hu hval
  exact single rfl fun fs => by rw [hu]; simp
 ·rename_i fs hu
  obtain ⟨cs, rfl, hsz⟩ := okWide_struct hu hval
  have e : zOV P t xs = .agg xs := by unfold zOV; rw [hu]
  rw [e]
  exact .agg _ _ _ (by rw [hx.1]; simp [Value.cells]) fun i x u hxi hui => (hx.2 i x u hxi (by simpa [Value.cells] using hui)).1
 ·cases h1
theorem zH3 {S : List TypeId} (hS : zGt P S = true) : ∀ {ts : List TypeId} {vs : List Value} {ds : List (DataW H)} {ps : List MemPlace}, (∀ t ∈ ts, t ∈ S) → (∀ (j : Nat) t v, ts[j]? = some t → vs[j]? = some v → ∃ r base, Value.okWide P w r base t v) →
  DataW.TrodAll enc P w 0 sp held ts vs ds ps → ∃ l, zKp P ts l ∧ zBd l ≤ Rows.uptoBulkAll ds ∧ (zDn P ts l).length = vs.length ∧ ∀ (i : Nat) (x : AV) (u : Value), (zDn P ts l)[i]? = some x → vs[i]? = some u → Rep w X0 (fun _ => {}) 0 x u
 | [], vs, ds, ps, _, _, h => by
  obtain ⟨rfl, rfl, rfl⟩ := trodAll_nil h
  exact ⟨[], trivial, by simp [zBd], rfl, fun i x u hx => by simp [zDn] at hx⟩
 | t :: ts, vs, ds, ps, hts, hv, h => by
  obtain ⟨v, vs1, d, ds1, a, b, rfl, rfl, rfl, h1, h2⟩ := trodAll_cons h
  obtain ⟨r, base, hok⟩ := hv 0 t v rfl rfl
  obtain ⟨xs, hx, hxb, hr⟩ := zL0 hS (hts t (by simp)) hok h1
  obtain ⟨l, hl, hlb, hlen, hrep⟩ := zH3 hS (fun t ht => hts t (by simp [ht])) (fun j t v ht hv' => hv (j + 1) t v (by simpa using ht) (by simpa using hv')) h2
  refine ⟨xs :: l, ⟨hx, hl⟩, by simp only [zBd, Rows.uptoBulkAll]; omega, by simp [zDn, hlen], fun i x u hxi hui => ?_⟩
  cases i with
  | zero => simp [zDn] at hxi hui; subst hxi; subst hui; exact hr
  | succ i => exact hrep i x u (by simpa [zDn] using hxi) (by simpa using hui)
end
theorem zFW {C : Checked} {k : FuncId} {fn : Func} {s : ChangeSpec} {F : Stop.Interp} {conds : List PathCond} {tb : TypeId} {S : List TypeId} {os : Os} {H : Type} {enc : TypeId × Value → H} {ts : List TypeId}
  (own : ownKnob C.prog.godebug = none) (started : os.Started) (noInit : C.prog.inits.idxOf? k = none) (hfn : C.prog.funcs[k]? = some fn)
  (witness : ∃ (w : World) (tape : Tape) (i : Input), w.os = os ∧ (w.forCall tape i).Shaped C.prog ∧ i.vars = [] ∧ Input.okWide C.prog (w.forCall tape i) .any w.heap.size k i ∧
   (Rows.OpenSpec.upto s).pre6 enc C.prog fn conds false (w.forCall tape i).memory i.args ∧ (({} : Assume)).holds C.prog (lone (Frame.enter C.prog k i.args .normal) [] (w.forCall tape i)))
  (hv : s.vars = []) (hts : fn.params.toList = ts) (hf : fn.resultTypes = #[tb]) (htb : C.prog.underlying tb = some .bool) (hs : ∀ ds : List (DataW H), ds.length = ts.length → s.fn H ds = ⟨[.lit (.bool true)], ds, []⟩)
  (hgl : zMu C.prog = true) (hl : laidOutB C.prog = true) (hr : ts.all (fun t => C.prog.readableRec t && decide (t < C.prog.types.size) && S.contains t) = true) (hS : zGt C.prog S = true)
  (law : ∀ l, zKp C.prog ts l → zBd l ≤ 1048576 → ∃ R : zC → Prop, ACall C.prog k (zDn C.prog ts l) [] fun x H' => x = bool true ∧ R H') :
  ReturnsInHanded {} C os k .any ((Rows.OpenSpec.upto s).pre6 enc C.prog fn conds false) (((Rows.OpenSpec.upto s).at F).post enc C.prog fn false true false false) := by
 refine returnsInHanded_of_calls own started noInit witness ?_
 intro w0 tape inp _ hsh _ hok hpre hholds
 obtain ⟨_, _, _, fn', hfn', _, _, _, _, hval⟩ := hok
 have e : fn' = fn := Option.some.inj (hfn'.symm.trans hfn)
 subst e
 obtain ⟨ds, gs, before, hw, hcnd, hkk⟩ := (OpenSpec.pre_some (s := Rows.OpenSpec.upto s) rfl conds false _ _).1 hpre.1
 have hW := DataW.Whole.of_heap (w' := w0.forCall tape inp) (by rfl) hw
 have main : ∀ (W : World) (args : Array Value), W.ShapedOpen C.prog → (∀ (j : Nat) t v, fn'.params[j]? = some t → args[j]? = some v → Value.okWide C.prog W .any w0.heap.size t v) → DataW.Whole enc C.prog fn'.params.toList s.vars false W args.toList ds gs before →
   Calls C.prog k args W fun e W' => ∃ v, e = .returned v ∧ s.post enc C.prog fn' false true false false W args v W' := by
  intro W args hsh hval hW
  have hW' := hW
  obtain ⟨p, q, hA, hV, rfl, hfz, hnd⟩ := hW
  rw [hv] at hV
  obtain ⟨rfl, rfl⟩ := trodVars_none hV
  have hall : ∀ t ∈ ts, C.prog.readableRec t = true ∧ t < C.prog.types.size ∧ t ∈ S := fun t ht => by
   have := zXZ.1 hr t ht
   simpa [and_assoc] using this
  rw [hts] at hA
  obtain ⟨l, hl1, hlb, hl2, hl3⟩ := zH3 hS (fun t ht => (hall t ht).2.2) (fun j t v ht hvv => ⟨_, _, hval j t v (by rw [← zYu, hts]; exact ht) (by rw [← zYu]; exact hvv)⟩) hA
  have hbd : zBd l ≤ 1048576 := by
   have h : Rows.uptoBulkAll (ds ++ []) ≤ 1048576 := of_decide_eq_true hkk
   rw [zZf] at h
   exact zX3 hlb h
  obtain ⟨R, hlaw⟩ := law l hl1 hbd
  have hrep : RepL W X0 (fun _ => {}) 0 (zDn C.prog ts l) args := ⟨by simpa using hl2, fun i x u hx hu => hl3 i x u hx (by rw [zYu]; exact hu)⟩
  refine (hlaw.top hrep (zJm hgl hsh)).mono fun e W' ⟨v, x, H', ρ', he, hx, hrx, hb⟩ => ?_
  obtain ⟨rfl, _⟩ := hx
  have hvv := zA0 hrx
  subst hvv
  subst he
  have hlt : ∀ x ∈ p ++ [], x.block < W.heap.size := fun x hx => hW'.lt x hx
  have hdl : ds.length = ts.length := by
   have aux : ∀ {ts : List TypeId} {vs : List Value} {ds : List (DataW H)} {ps : List MemPlace}, DataW.TrodAll enc C.prog W 0 (fun _ => true) true ts vs ds ps → ds.length = ts.length := by
    intro ts
    induction ts with
    | nil => intro vs ds ps h; obtain ⟨_, rfl, _⟩ := trodAll_nil h; rfl
    | cons t ts ih => intro vs ds ps h; obtain ⟨v, vs1, d, ds1, a, b, rfl, rfl, rfl, h1, h2⟩ := trodAll_cons h; simp [ih h2]
   exact aux hA
  refine ⟨_, rfl, zN2 hW' hv hf htb (hs ds hdl) (fun sp hsp => ?_) hb⟩
  rw [hts, zZf]
  exact zHS hl (fun t ht => ⟨(hall t ht).1, (hall t ht).2.1⟩) hA (fun x hx => hb.same (hlt x (by simpa using hx))) (fun x hx => hsp x (by simpa using hx))
 refine (main (w0.forCall tape inp) inp.args hsh hval hW).mono fun e W' ⟨v, he, hp⟩ => ?_
 subst he
 exact ChangeSpec.post_blind hp
end Go.Ax
namespace Go.Ax
open Go
set_option linter.unusedSimpArgs false
abbrev oM (d a : Nat) : LO := ⟨some d, none, .mv (.t a)⟩
abbrev oX (d : Nat) (o : LOp) : LO := ⟨some d, none, o⟩
abbrev oT (d g : Nat) (o : LOp) : LO := ⟨some d, some (g, true), o⟩
abbrev oF (d g : Nat) (o : LOp) : LO := ⟨some d, some (g, false), o⟩
abbrev oN (o : LOp) : LO := ⟨none, none, o⟩
abbrev oL (d a : Nat) : LO := ⟨some d, none, .load false 1 (.t a)⟩
abbrev oA (d k a : Nat) : LO := ⟨some d, none, .load true k (.t a)⟩
abbrev oD (d k a : Nat) : LO := ⟨some d, none, .faddr k (.t a)⟩
abbrev oE (d a k : Nat) : LO := ⟨some d, none, .ext (.t a) k⟩
abbrev oI (d k a b : Nat) : LO := ⟨some d, none, .iaddr k (.t a) (.t b)⟩
abbrev oK (d a : Nat) : LO := ⟨some d, none, .nilchk (.t a)⟩
abbrev oP (d a : Nat) (x y : LX) : LO := ⟨some d, none, .pick (.t a) x y⟩
abbrev oS (k a b : Nat) : LO := ⟨none, none, .store k (.t a) (.t b)⟩
abbrev kI (n : Int) : LX := .c (.v (.int .i64 n))
abbrev kB (b : Bool) : LX := .c (.v (.bool b))
abbrev cF (f : FuncId) (l : List LX) : LOp := .call (.c (.fn (.func f) [] [])) l
abbrev bI (o : BinOp) (x y : LX) : LOp := .bin .int o x y
abbrev oC (d : Nat) (n : Int) : LO := ⟨some d, none, .mv (.c (.v (.int .i64 n)))⟩
abbrev oB (d : Nat) (o : BinOp) (a b : Nat) : LO := ⟨some d, none, .bin .int o (.t a) (.t b)⟩
abbrev oV (d : Nat) (o : BinOp) (a : Nat) (n : Int) : LO := ⟨some d, none, .bin .int o (.t a) (.c (.v (.int .i64 n)))⟩
abbrev oU (d g a : Nat) : LO := ⟨some d, some (g, true), .mv (.t a)⟩
abbrev oW (d g a : Nat) : LO := ⟨some d, some (g, false), .mv (.t a)⟩
abbrev cD (n : Nat) (a b : LCode) : LCode := .cond (.t n) a b
abbrev sO (l : List LO) (c : LCode) : LCode := .seq (.ops l) c
abbrev i0 : AV := .v (.int .i64 0)
abbrev s0 : AV := .v (.string (mkS []))
abbrev y0 (f : FuncId) : LOp := .call (.c (.fn (.func f) [] [])) []
abbrev y1 (f : FuncId) (a : Nat) : LOp := .call (.c (.fn (.func f) [] [])) [.t a]
abbrev y2 (f : FuncId) (a b : Nat) : LOp := .call (.c (.fn (.func f) [] [])) [.t a, .t b]
abbrev y3 (f : FuncId) (a b c : Nat) : LOp := .call (.c (.fn (.func f) [] [])) [.t a, .t b, .t c]
abbrev y4 (f : FuncId) (a b c d : Nat) : LOp := .call (.c (.fn (.func f) [] [])) [.t a, .t b, .t c, .t d]
end Go.Ax
