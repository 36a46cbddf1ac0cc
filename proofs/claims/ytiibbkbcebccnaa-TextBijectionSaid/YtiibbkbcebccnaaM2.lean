/- Parts, merged by a program (wip/tools/merge.py): Ax16 Ax17 Ax18 Ax19 Ax20 Ax20b Ax20c Ax20d Ax21 Ax22 Ax24 Ax25. -/
import Derived.Test.YtiibbkbcebccnaaM1
import Derived.Deep.LoopGhost
import Derived.TacticsIn
import Derived.OrdersIn
import Derived.StillTail
import Derived.RangeFuncIn
import Derived.RangeFuncLeaves
import Derived.RangeFuncRecord
import Derived.Below
import Derived.ChangeSame
import Derived.Carry
import Derived.ChangeArms
import Derived.ProofKit
import Derived.HandedShaped
import Derived.Shelf.Vars
/- Every operation of the model's code does what is said of its lowered form. -/
namespace Go.Ax
open Go Go.RowKit

section
variable {P : Program} {w : World} {X : Nat → Prop} {ρ : Nat → Loc} {H : AHeap} {e : Env} {a : Act} {n : Nat}

abbrev ER (w : World) (X : Nat → Prop) (ρ : Nat → Loc) (H : AHeap) (n : Nat) (e : Env) (a : Act) : Prop := ERep w (Mut X ρ H.length) ρ H.length n e a

/-- The operation comes to the result. -/
def OpOK (P : Program) (o : Oper) (a : Act) (w : World) (X : Nat → Prop) (ρ : Nat → Loc) (H : AHeap) (r : Res) : Prop :=
  r.ok → ∃ u w' ρ', ((execOp a.eval o).run P w = .ok (.value u) w' ∨ ((execOp a.eval o).run P w = .ok .skip w' ∧ u = undef)) ∧ HRel w' X ρ' r.H ∧ Rep w' (Mut X ρ' r.H.length) ρ' r.H.length r.x u ∧ Fut w ρ H.length w' ρ' r.H.length

theorem opOK_v {o : Oper} {s : Sem Value} {r : Res} (h : Gives P s w X ρ H r) (he : execOp a.eval o = (do pure (.value (← s)))) : OpOK P o a w X ρ H r := by
  intro hok
  obtain ⟨u, w', ρ', h1, h2, h3, h4⟩ := h hok
  exact ⟨u, w', ρ', .inl (by rw [he]; simp [h1]), h2, h3, h4⟩
theorem opOK_u {o : Oper} {s : Sem Unit} {r : Res} (h : GivesU P s w X ρ H r) (he : execOp a.eval o = (do s; pure .skip)) : OpOK P o a w X ρ H r := by
  intro hok
  obtain ⟨hx, w', ρ', h1, h2, h3⟩ := h hok
  exact ⟨undef, w', ρ', .inr ⟨by rw [he]; simp [h1], rfl⟩, h2, by rw [hx]; exact .any _ _, h3⟩
theorem opOK_no {o : Oper} : OpOK P o a w X ρ H (.no H) := fun h => h.elim

theorem lx_inv {o : Operand} {f : LX → Option LOp} {lo : LOp} (h : (match lx n o with | some x => f x | none => none) = some lo) : ∃ x, lx n o = some x ∧ f x = some lo := by
  cases hx : lx n o with
  | none => simp [hx] at h
  | some x => exact ⟨x, rfl, by simpa [hx] using h⟩

theorem lxs_rep {M : Nat → Prop} {k : Nat} (he : ERep w M ρ k n e a) : ∀ (l : List Operand) (m : List LX), lxs n l = some m → m.length = l.length ∧ ∀ (i : Nat) (x : AV) (u : Value), (m.map (ev e))[i]? = some x → (l.map a.eval)[i]? = some u → Rep w M ρ k x u
  | [], m, h => by simp [lxs] at h; subst h; exact ⟨rfl, fun i x u hx => by simp at hx⟩
  | o :: l, m, h => by
    unfold lxs at h
    cases ho : lx n o with
    | none => simp [ho] at h
    | some y =>
      cases hm : lxs n l with
      | none => simp [ho, hm] at h
      | some m' =>
        simp [ho, hm] at h
        subst h
        obtain ⟨h1, h2⟩ := lxs_rep he l m' hm
        refine ⟨by simp [h1], fun i x u hx hu => ?_⟩
        cases i with
        | zero => simp at hx hu; subst hx hu; exact ev_rep he ho
        | succ i => exact h2 i x u (by simpa using hx) (by simpa using hu)

theorem lowPs_rep (he : ER w X ρ H n e a) {place : Nat → Option (Nat × Nat)} : ∀ (l : List (Nat × Operand)) (m : List (Nat × Nat × LX)), lowPs n place l = some m → RpPs w X ρ H place (l.map fun (i, x) => (i, a.eval x)) (m.map fun (o, k, x) => (o, k, ev e x))
  | [], m, h => by simp [lowPs] at h; subst h; trivial
  | (i, o) :: l, m, h => by
    unfold lowPs at h
    cases hp : place i with
    | none => simp [hp] at h
    | some pl =>
      obtain ⟨off, sz⟩ := pl
      cases ho : lx n o with
      | none => simp [hp, ho] at h
      | some y =>
        cases hm : lowPs n place l with
        | none => simp [hp, ho, hm] at h
        | some m' =>
          simp [hp, ho, hm] at h
          subst h
          exact ⟨hp, ev_rep he ho, lowPs_rep he l m' hm⟩

theorem lowSs_rep (he : ER w X ρ H n e a) : ∀ (l : List (Nat × Operand)) (m : List (Nat × LX)), lowSs n l = some m → RpSs w X ρ H (l.map fun (i, x) => (i, a.eval x)) (m.map fun (i, x) => (i, ev e x))
  | [], m, h => by simp [lowSs] at h; subst h; trivial
  | (i, o) :: l, m, h => by
    unfold lowSs at h
    cases ho : lx n o with
    | none => simp [ho] at h
    | some y =>
      cases hm : lowSs n l with
      | none => simp [ho, hm] at h
      | some m' =>
        simp [ho, hm] at h
        subst h
        exact ⟨rfl, ev_rep he ho, lowSs_rep he l m' hm⟩

theorem snd_nilchk {x : AV} {u : Value} {o : Oper} {ox : Operand} (ho : o.op = .nilCheck ox) (hu : a.eval ox = u) (h : HRel w X ρ H) (hx : Rp w X ρ H x u) : OpOK P o a w X ρ H (rNil x H) := by
  have key : ∀ v : Value, (∃ p, v = .pointer (some p)) ∨ (∃ r, v = .map r) ∨ (∃ f fs us, v = .func (.func f) fs us) → u = v → (execOp a.eval o).run P w = .ok (.value v) w := by
    intro v hv huv
    unfold execOp
    rw [ho]
    simp only [hu, huv]
    rcases hv with ⟨p, rfl⟩ | ⟨r, rfl⟩ | ⟨f, fs, us, rfl⟩ <;> rfl
  cases x with
  | vp cs off =>
    intro _
    cases hx with
    | vp _ _ _ b o' c hm hb hcell hrep => exact ⟨_, w, ρ, .inl (key _ (.inl ⟨_, rfl⟩) rfl), h, .vp _ _ _ _ _ c hm hb hcell hrep, Fut.refl _ _ _⟩
  | mp ks vs =>
    intro _
    cases hx with
    | mp _ _ _ b es clock hm hb hh hks hvs hr => exact ⟨_, w, ρ, .inl (key _ (.inr (.inl ⟨_, rfl⟩)) rfl), h, .mp _ _ _ _ es clock hm hb hh hks hvs hr, Fut.refl _ _ _⟩
  | fn f fs us =>
    cases f <;> first | exact opOK_no | skip
    intro _
    have hx' := hx
    cases hx with
    | fn => exact ⟨_, w, ρ, .inl (key _ (.inr (.inr ⟨_, _, _, rfl⟩)) rfl), h, hx', Fut.refl _ _ _⟩
  | ptr r ver off =>
    intro hv
    have hx' := hx
    cases hx with
    | ptr _ _ _ _ _ hr hle hone hp =>
      have hver : ver = (ρ r).ver := by
        have hv : isVer ver H[r]? := hv
        cases ho' : H[r]? with
        | none => rw [ho'] at hv; exact hv.elim
        | some obj =>
          rw [ho'] at hv
          have hob := h.objs r _ ho'
          cases obj <;> simp only [isVer] at hv <;> first | exact hv.elim | skip
          · rw [hob.1]; exact hv
          · rw [hob.1]; exact hv
          · rw [hob.1]; exact hv
      obtain ⟨b, o', _, rfl⟩ := hp hver
      exact ⟨_, w, ρ, .inl (key _ (.inl ⟨_, rfl⟩) rfl), h, hx', Fut.refl _ _ _⟩
  | pe r ver i off =>
    intro hv
    have hx' := hx
    cases hx with
    | pe _ _ _ _ _ _ hr hle hone hp =>
      have hver : ver = (ρ r).ver := by
        have hv : isVer ver H[r]? := hv
        cases ho' : H[r]? with
        | none => rw [ho'] at hv; exact hv.elim
        | some obj =>
          rw [ho'] at hv
          have hob := h.objs r _ ho'
          cases obj <;> simp only [isVer] at hv <;> first | exact hv.elim | skip
          · rw [hob.1]; exact hv
          · rw [hob.1]; exact hv
          · rw [hob.1]; exact hv
      obtain ⟨b, o', _, rfl⟩ := hp hver
      exact ⟨_, w, ρ, .inl (key _ (.inl ⟨_, rfl⟩) rfl), h, hx', Fut.refl _ _ _⟩
  | _ => exact opOK_no

/-- The operations that are neither calls nor choices nor the prover's own. -/
def plain : LOp → Bool
  | .call _ _ => false
  | .pick _ _ _ => false
  | .isnil _ _ => false
  | .frz _ => false
  | .own _ _ => false
  | .frzf _ _ _ => false
  | _ => true

theorem opt_map {α β : Type} {x : Option α} {f : α → β} {y : β} (h : x.map f = some y) : ∃ a, x = some a ∧ f a = y := by
  cases x with
  | none => cases h
  | some a => exact ⟨a, rfl, by simpa using h⟩

theorem lowCallB_plain {c : Call} {lo : LOp} (hl : lowCallB P n c = some lo) : plain lo = true := by
  unfold lowCallB at hl
  split at hl
  · split at hl
    · split at hl
      · split at hl
        · split at hl
          · cases hl; rfl
          · cases hl
        · cases hl
      · cases hl
    · cases hl
  · cases hl
theorem lowCallB_ok {c : Call} {lo : LOp} {o : Oper} (ho : o.op = .call c) (hl : lowCallB P n c = some lo) (h : HRel w X ρ H) (he : ER w X ρ H n e a) : OpOK P o a w X ρ H (ares lo e H) := by
  obtain ⟨callee, args, tys⟩ := c
  unfold lowCallB at hl
  cases callee with
  | value f => simp at hl
  | invoke r m => simp at hl
  | builtin b =>
    obtain ⟨bcs, hex⟩ : ∃ cs, execOp a.eval o = builtin b tys o.type cs (args.map a.eval) := by
      unfold execOp
      rw [ho]
      exact ⟨_, rfl⟩
    cases b <;> simp only at hl <;> first | (cases hl; done) | skip
    cases hm : lxs n args.toList with
    | none => simp [hm] at hl
    | some m =>
      obtain ⟨hlen, hrep⟩ := lxs_rep he _ _ hm
      match m, hlen, hl with
      | [], _, hl => simp [hm] at hl
      | [_], _, hl => simp [hm] at hl
      | _ :: _ :: _ :: _, _, hl => simp [hm] at hl
      | [s, x], hlen, hl =>
        obtain ⟨so, xo, hao⟩ : ∃ so xo, args.toList = [so, xo] := by
          match h1 : args.toList, hlen with
          | [so, xo], _ => exact ⟨so, xo, rfl⟩
        have hae : args.map a.eval = #[a.eval so, a.eval xo] := by apply Array.ext'; simp [hao]
        have hs : Rp w X ρ H (ev e s) (a.eval so) := hrep 0 _ _ rfl (by simp [hao])
        have hx : Rp w X ρ H (ev e x) (a.eval xo) := hrep 1 _ _ rfl (by simp [hao])
        match ht : tys.toList, hl with
        | [], hl => simp [hm] at hl
        | [_], hl => simp [hm] at hl
        | _ :: _ :: _ :: _, hl => simp [hm] at hl
        | [t, u], hl =>
          have hty : tys = #[t, u] := by apply Array.ext'; simpa using ht
          simp only [hm] at hl
          cases hu : P.underlying t with
          | none => simp [hu] at hl
          | some d =>
            cases d with
            | slice el =>
              cases hv : P.underlying u with
              | none => simp [hu, hv] at hl
              | some d2 =>
                cases d2 with
                | string =>
                  simp only [hu, hv] at hl
                  cases hi : P.info? el with
                  | none => simp [hi] at hl
                  | some i =>
                    simp only [hi] at hl
                    split at hl
                    · rename_i hc
                      obtain ⟨h1, h2, h3⟩ := hc
                      obtain ⟨z, hz1, hz2⟩ := opt_map h3
                      cases hl
                      exact opOK_v (s := Builtin.append_ #[t, u] o.type #[a.eval so, a.eval xo]) (snd_appendb hu ⟨_, hv, fun k hk => by cases hk⟩ hi hz1 hz2 h1 h2 h hs hx) (by rw [hex, hae, hty]; rfl)
                    · cases hl
                | _ => simp [hu, hv] at hl
            | _ => simp [hu] at hl

theorem lowCall_ok {c : Call} {lo : LOp} {o : Oper} (ho : o.op = .call c) (hl : lowCall P n c = some lo) (hp : plain lo = true) (h : HRel w X ρ H) (he : ER w X ρ H n e a) : OpOK P o a w X ρ H (ares lo e H) := by
  obtain ⟨callee, args, tys⟩ := c
  have hex : ∀ b : Builtin, callee = .builtin b → ∃ cs, execOp a.eval o = builtin b tys o.type cs (args.map a.eval) := by
    intro b hb
    subst hb
    unfold execOp
    rw [ho]
    exact ⟨_, rfl⟩
  unfold lowCall at hl
  cases callee with
  | value f =>
    simp only at hl
    cases hf : lx n f with
    | none => simp [hf] at hl
    | some g =>
      cases hm : lxs n args.toList with
      | none => simp [hf, hm] at hl
      | some m => simp [hf, hm] at hl; subst hl; simp [plain] at hp
  | invoke r m => simp at hl
  | builtin b =>
    obtain ⟨bcs, hex⟩ := hex b rfl
    cases b <;> simp only at hl <;> first | (cases hl; done) | skip
    case len =>
      cases hm : lxs n args.toList with
      | none => simp [hm] at hl
      | some m =>
        obtain ⟨hlen, hrep⟩ := lxs_rep he _ _ hm
        match m, hlen, hl with
        | [], _, hl => simp [hm] at hl
        | _ :: _ :: _, _, hl => simp [hm] at hl
        | [x], hlen, hl =>
          obtain ⟨ao, hao⟩ : ∃ ao, args.toList = [ao] := by
            match h1 : args.toList, hlen with
            | [ao], _ => exact ⟨ao, rfl⟩
          have hae : args.map a.eval = #[a.eval ao] := by apply Array.ext'; simp [hao]
          have hx : Rp w X ρ H (ev e x) (a.eval ao) := hrep 0 _ _ rfl (by simp [hao])
          match ht : tys.toList, hl with
          | [], hl => simp [hm] at hl
          | _ :: _ :: _, hl => simp [hm] at hl
          | [t], hl =>
            have hty : tys = #[t] := by apply Array.ext'; simpa using ht
            simp only [hm] at hl
            refine opOK_v (s := Builtin.len_ #[t] o.type #[a.eval ao]) ?_ (by rw [hex, hae, hty]; rfl)
            cases hu : P.underlying t with
            | none => simp [hu] at hl
            | some d =>
              simp only [hu] at hl
              cases d <;> simp at hl <;> subst hl <;> refine snd_len ⟨?_, ?_, ?_⟩ h hx <;> intro hk <;> first | (cases hk; done) | exact hu | exact ⟨_, hu⟩ | exact ⟨_, _, hu⟩
    case append =>
      cases hm : lxs n args.toList with
      | none => simp [hm] at hl
      | some m =>
        obtain ⟨hlen, hrep⟩ := lxs_rep he _ _ hm
        match m, hlen, hl with
        | [], _, hl => simp [hm] at hl
        | [_], _, hl => simp [hm] at hl
        | _ :: _ :: _ :: _, _, hl => simp [hm] at hl
        | [s, x], hlen, hl =>
          obtain ⟨so, xo, hao⟩ : ∃ so xo, args.toList = [so, xo] := by
            match h1 : args.toList, hlen with
            | [so, xo], _ => exact ⟨so, xo, rfl⟩
          have hae : args.map a.eval = #[a.eval so, a.eval xo] := by apply Array.ext'; simp [hao]
          have hs : Rp w X ρ H (ev e s) (a.eval so) := hrep 0 _ _ rfl (by simp [hao])
          have hx : Rp w X ρ H (ev e x) (a.eval xo) := hrep 1 _ _ rfl (by simp [hao])
          match ht : tys.toList, hl with
          | [], hl => simp [hm] at hl
          | [_], hl => simp [hm] at hl
          | _ :: _ :: _ :: _, hl => simp [hm] at hl
          | [t, u], hl =>
            have hty : tys = #[t, u] := by apply Array.ext'; simpa using ht
            simp only [hm] at hl
            cases hu : P.underlying t with
            | none => simp [hu] at hl
            | some d =>
              simp only [hu] at hl
              cases d <;> simp only at hl <;> first | (cases hl; done) | skip
              rename_i el
              cases hi : P.info? el with
              | none => simp [hi] at hl
              | some i =>
                cases hv : P.underlying u with
                | none => simp [hi, hv] at hl
                | some d2 =>
                  simp only [hi, hv] at hl
                  have fin : (i.zero.map (·.cells.size)) = some i.size → lo = .append i.size i.bytes s x → (∀ k, d2 ≠ .int k) → OpOK P o a w X ρ H (ares lo e H) := by
                    intro hz hlo hd2
                    obtain ⟨z, hz1, hz2⟩ := opt_map hz
                    subst hlo
                    exact opOK_v (s := Builtin.append_ #[t, u] o.type #[a.eval so, a.eval xo]) (snd_append hu ⟨d2, hv, hd2⟩ hi hz1 hz2 h hs hx) (by rw [hex, hae, hty]; rfl)
                  cases d2 <;> simp only at hl <;> first | (cases hl; done) | skip
                  case slice =>
                    split at hl
                    · rename_i hc; exact fin hc.2 (by simpa using hl.symm) (fun k hk => by cases hk)
                    · cases hl
                  case string =>
                    split at hl
                    · rename_i hc; exact fin (by rw [hc.2, hc.1]) (by simpa using hl.symm) (fun k hk => by cases hk)
                    · cases hl
    case copy =>
      cases hm : lxs n args.toList with
      | none => simp [hm] at hl
      | some m =>
        obtain ⟨hlen, hrep⟩ := lxs_rep he _ _ hm
        match m, hlen, hl with
        | [], _, hl => simp [hm] at hl
        | [_], _, hl => simp [hm] at hl
        | _ :: _ :: _ :: _, _, hl => simp [hm] at hl
        | [s, x], hlen, hl =>
          obtain ⟨so, xo, hao⟩ : ∃ so xo, args.toList = [so, xo] := by
            match h1 : args.toList, hlen with
            | [so, xo], _ => exact ⟨so, xo, rfl⟩
          have hae : args.map a.eval = #[a.eval so, a.eval xo] := by apply Array.ext'; simp [hao]
          have hs : Rp w X ρ H (ev e s) (a.eval so) := hrep 0 _ _ rfl (by simp [hao])
          have hx : Rp w X ρ H (ev e x) (a.eval xo) := hrep 1 _ _ rfl (by simp [hao])
          match ht : tys.toList, hl with
          | [], hl => simp [hm] at hl
          | [_], hl => simp [hm] at hl
          | _ :: _ :: _ :: _, hl => simp [hm] at hl
          | [t, u], hl =>
            have hty : tys = #[t, u] := by apply Array.ext'; simpa using ht
            simp only [hm] at hl
            cases hu : P.underlying t with
            | none => simp [hu] at hl
            | some d =>
              simp only [hu] at hl
              cases d <;> simp only at hl <;> first | (cases hl; done) | skip
              rename_i el
              cases hn : tySz P el with
              | none => simp [hn] at hl
              | some sz =>
                simp only [hn, Option.bind_some] at hl
                split at hl
                · rename_i hc
                  simp only [Option.some.injEq] at hl
                  subst hl
                  exact opOK_v (s := Builtin.copy_ #[t, u] o.type #[a.eval so, a.eval xo]) (snd_copy hu hn hc h hs hx) (by rw [hex, hae, hty]; rfl)
                · cases hl
    case min =>
      cases hm : lxs n args.toList with
      | none => simp [hm] at hl
      | some m =>
        obtain ⟨hlen, hrep⟩ := lxs_rep he _ _ hm
        match m, hlen, hl with
        | [], _, hl => simp [hm] at hl
        | [_], _, hl => simp [hm] at hl
        | _ :: _ :: _ :: _, _, hl => simp [hm] at hl
        | [s, x], hlen, hl =>
          obtain ⟨so, xo, hao⟩ : ∃ so xo, args.toList = [so, xo] := by
            match h1 : args.toList, hlen with
            | [so, xo], _ => exact ⟨so, xo, rfl⟩
          have hae : args.map a.eval = #[a.eval so, a.eval xo] := by apply Array.ext'; simp [hao]
          have hs : Rp w X ρ H (ev e s) (a.eval so) := hrep 0 _ _ rfl (by simp [hao])
          have hx : Rp w X ρ H (ev e x) (a.eval xo) := hrep 1 _ _ rfl (by simp [hao])
          simp only [hm, Option.some.injEq] at hl
          subst hl
          exact opOK_v (s := Builtin.min_ tys o.type #[a.eval so, a.eval xo]) (snd_min h hs hx) (by rw [hex, hae]; rfl)
    case max =>
      cases hm : lxs n args.toList with
      | none => simp [hm] at hl
      | some m =>
        obtain ⟨hlen, hrep⟩ := lxs_rep he _ _ hm
        match m, hlen, hl with
        | [], _, hl => simp [hm] at hl
        | [_], _, hl => simp [hm] at hl
        | _ :: _ :: _ :: _, _, hl => simp [hm] at hl
        | [s, x], hlen, hl =>
          obtain ⟨so, xo, hao⟩ : ∃ so xo, args.toList = [so, xo] := by
            match h1 : args.toList, hlen with
            | [so, xo], _ => exact ⟨so, xo, rfl⟩
          have hae : args.map a.eval = #[a.eval so, a.eval xo] := by apply Array.ext'; simp [hao]
          have hs : Rp w X ρ H (ev e s) (a.eval so) := hrep 0 _ _ rfl (by simp [hao])
          have hx : Rp w X ρ H (ev e x) (a.eval xo) := hrep 1 _ _ rfl (by simp [hao])
          simp only [hm, Option.some.injEq] at hl
          subst hl
          exact opOK_v (s := Builtin.max_ tys o.type #[a.eval so, a.eval xo]) (snd_max h hs hx) (by rw [hex, hae]; rfl)
end
end Go.Ax

/- Every operation of the model's code does what is said of its lowered form: all of them; calls. -/
namespace Go.Ax
open Go Go.RowKit

section
variable {P : Program} {w : World} {X : Nat → Prop} {ρ : Nat → Loc} {H : AHeap} {e : Env} {a : Act} {n : Nat}

theorem lxo_rep (he : ER w X ρ H n e a) {o : Option Operand} {x : Option LX} (h : lxo n o = some x) : RpO w X ρ H (x.map (ev e)) (o.map a.eval) := by
  cases o with
  | none => simp [lxo] at h; subst h; trivial
  | some o =>
    obtain ⟨y, h1, h2⟩ := opt_map h
    subst h2
    exact ev_rep he h1

theorem lowConv_ok {src dst : TypeId} {x : Operand} {lo : LOp} {o : Oper} (ho : o.op = .convert src dst x) (hl : lowConv P n src dst x = some lo) (h : HRel w X ρ H) (he : ER w X ρ H n e a) : OpOK P o a w X ρ H (ares lo e H) := by
  have hex : execOp a.eval o = (do pure (.value (← convert src dst (a.eval x)))) := by unfold execOp; rw [ho]
  unfold lowConv at hl
  cases hs : P.underlying src with
  | none => simp [hs] at hl
  | some sd =>
    cases hd : P.underlying dst with
    | none => cases sd <;> simp [hs, hd] at hl
    | some dd =>
      cases hx : lx n x with
      | none => cases sd <;> cases dd <;> simp [hs, hd, hx] at hl
      | some y =>
        have hr := ev_rep he hx
        cases sd <;> cases dd <;> simp [hs, hd, hx] at hl
        case int.int => subst hl; exact opOK_v (snd_conv ⟨⟨_, hs⟩, hd⟩ h hr) hex
        case int.string => subst hl; exact opOK_v (snd_conv ⟨⟨_, hs⟩, hd⟩ h hr) hex
        case string.string => subst hl; exact opOK_v (snd_conv ⟨hs, hd⟩ h hr) hex
        case string.slice el =>
          cases hu : P.underlying el with
          | none => simp [hu] at hl
          | some ud =>
            cases ud <;> simp [hu] at hl
            rename_i k
            cases k <;> simp at hl
            subst hl
            exact opOK_v (snd_conv ⟨hs, el, hd, hu⟩ h hr) hex
        case slice.string el =>
          cases hu : P.underlying el with
          | none => simp [hu] at hl
          | some ud =>
            cases ud <;> simp [hu] at hl
            rename_i k
            cases k <;> first | (simp at hl; done) | skip
            cases hz : tySz P el with
            | none => simp [hz] at hl
            | some z =>
              match z, hl with
              | 1, hl =>
                simp [hz] at hl
                subst hl
                exact opOK_v (snd_conv ⟨⟨el, hs, hu⟩, hd⟩ h hr) hex
              | 0, hl => simp [hz] at hl
              | _ + 2, hl => simp [hz] at hl
        case slice.slice el el2 =>
          cases hu : P.underlying el with
          | none => simp [hu] at hl
          | some ud =>
            cases ud <;> simp [hu] at hl
            rename_i k
            cases k <;> simp at hl
            obtain ⟨h1, hl⟩ := hl
            subst hl
            exact opOK_v (snd_conv ⟨el, hs, hu, h1⟩ h hr) hex

theorem lowOp0_ok {imm : Bool} {o : Oper} {lo : LOp} (hl : lowOp0 P n imm o = some lo) (hp : plain lo = true) (h : HRel w X ρ H) (he : ER w X ρ H n e a) : OpOK P o a w X ρ H (ares lo e H) := by
  unfold lowOp0 at hl
  cases ho : o.op <;> rw [ho] at hl <;> simp only at hl <;> first | (cases hl; done) | skip
  case move x =>
    obtain ⟨y, h1, rfl⟩ := opt_map hl
    intro _
    exact ⟨_, w, ρ, .inl (by unfold execOp; rw [ho]; rfl), h, ev_rep he h1, Fut.refl _ _ _⟩
  case assign x =>
    obtain ⟨y, h1, rfl⟩ := opt_map hl
    intro _
    exact ⟨_, w, ρ, .inl (by unfold execOp; rw [ho]; rfl), h, ev_rep he h1, Fut.refl _ _ _⟩
  case pick c x y =>
    cases hc : lx n c <;> cases hx : lx n x <;> cases hy : lx n y <;> simp [hc, hx, hy] at hl
    subst hl
    simp [plain] at hp
  case alloc t =>
    cases hz : tyZero P t with
    | none => simp [hz] at hl
    | some z =>
      simp only [hz, Option.some.injEq] at hl
      subst hl
      split
      · exact opOK_v (snd_allocb hz h) (by unfold execOp; rw [ho])
      · exact opOK_v (snd_alloc hz h) (by unfold execOp; rw [ho])
  case box t x =>
    obtain ⟨y, h1, rfl⟩ := opt_map hl
    exact opOK_v (snd_box h (ev_rep he h1)) (by unfold execOp; rw [ho])
  case build t ps =>
    unfold lowBuild at hl
    cases hz : tyZero P t with
    | none => simp [hz] at hl
    | some z =>
      cases z <;> simp only [hz] at hl <;> first | (cases hl; done) | skip
      rename_i z
      cases hu : P.underlying t with
      | none => simp [hu] at hl
      | some d =>
        cases d <;> simp only [hu] at hl <;> first | (cases hl; done) | skip
        case struct fs =>
          cases hpl : placesOf P fs.toList with
          | none => simp [hpl] at hl
          | some pl =>
            simp only [hpl] at hl
            obtain ⟨m, h1, rfl⟩ := opt_map hl
            refine opOK_v (s := Instr.build t (ps.map fun (i, x) => (i, a.eval x))) (snd_build_struct hz hu hpl h ?_) (by unfold execOp; rw [ho])
            have := lowPs_rep he _ _ h1
            simpa using this
        case array k el =>
          cases hs : tySz P el with
          | none => simp [hs] at hl
          | some sz =>
            simp only [hs] at hl
            obtain ⟨m, h1, rfl⟩ := opt_map hl
            refine opOK_v (s := Instr.build t (ps.map fun (i, x) => (i, a.eval x))) (snd_build_array hz hu hs h ?_) (by unfold execOp; rw [ho])
            have := lowPs_rep he _ _ h1
            simpa using this
  case buildSlice t len ps =>
    unfold lowBsl at hl
    cases hu : P.underlying t with
    | none => simp [hu] at hl
    | some d =>
      cases d <;> simp only [hu] at hl <;> first | (cases hl; done) | skip
      rename_i el
      cases hs : tySz P el with
      | none => simp [hs] at hl
      | some sz =>
        cases hz : tyZero P el with
        | none => simp [hs, hz] at hl
        | some z =>
          cases hm : lowSs n ps.toList with
          | none => simp [hs, hz, hm] at hl
          | some m =>
            simp only [hs, hz, hm] at hl
            split at hl
            · rename_i hc
              simp only [Option.some.injEq] at hl
              subst hl
              refine opOK_v (s := Instr.buildSlice t len (ps.map fun (i, x) => (i, a.eval x))) (snd_bsl hu hs hz hc.1 hc.2.1 hc.2.2.1 hc.2.2.2 h ?_) (by unfold execOp; rw [ho])
              have := lowSs_rep he _ _ hm
              simpa using this
            · cases hl
  case makeMap t r =>
    cases r with
    | some r => cases hl
    | none =>
      simp only [Option.some.injEq] at hl
      subst hl
      exact opOK_v (snd_mkmap h) (by unfold execOp; rw [ho]; rfl)
  case insert t m k x =>
    cases hu : P.underlying t with
    | none => simp [hu] at hl
    | some d =>
      cases d <;> simp only [hu] at hl <;> first | (cases hl; done) | skip
      rename_i kt el
      cases hm : lx n m <;> cases hk : lx n k <;> cases hx : lx n x <;> simp only [hm, hk, hx] at hl <;> first | (cases hl; done) | skip
      obtain ⟨kd, h1, rfl⟩ := opt_map hl
      exact opOK_u (snd_ins hu h1 h (ev_rep he hm) (keyV_rep (ev_rep he hk)) (ev_rep he hx)) (by unfold execOp; rw [ho])
  case mapUpdate t m k x =>
    cases hu : P.underlying t with
    | none => simp [hu] at hl
    | some d =>
      cases d <;> simp only [hu] at hl <;> first | (cases hl; done) | skip
      rename_i kt el
      cases hm : lx n m <;> cases hk : lx n k <;> cases hx : lx n x <;> simp only [hm, hk, hx] at hl <;> first | (cases hl; done) | skip
      obtain ⟨kd, h1, rfl⟩ := opt_map hl
      exact opOK_u (snd_ins hu h1 h (ev_rep he hm) (keyV_rep (ev_rep he hk)) (ev_rep he hx)) (by unfold execOp; rw [ho])
  case load t p =>
    cases hag : tyAg P t <;> cases hs : tySz P t <;> cases hx : lx n p <;> simp only [hag, hs, hx] at hl <;> first | (cases hl; done) | skip
    simp only [Option.some.injEq] at hl
    subst hl
    cases imm with
    | false => exact opOK_v (snd_load hag hs h (ev_rep he hx)) (by unfold execOp; rw [ho])
    | true =>
      refine opOK_v (r := rLoadB _ _ _ H) (fun hok => ?_) (by unfold execOp; rw [ho])
      have hr := ev_rep he hx
      generalize ev e _ = x at hok hr ⊢
      cases x <;> first | exact hok.elim | exact snd_load hag hs h hr hok
  case store t p x =>
    cases hs : tySz P t <;> cases hq : lx n p <;> cases hx : lx n x <;> simp only [hs, hq, hx] at hl <;> first | (cases hl; done) | skip
    simp only [Option.some.injEq] at hl
    subst hl
    exact opOK_u (snd_store hs h (ev_rep he hq) (ev_rep he hx)) (by unfold execOp; rw [ho])
  case nilCheck x =>
    obtain ⟨y, h1, rfl⟩ := opt_map hl
    exact snd_nilchk ho rfl h (ev_rep he h1)
  case binOp op t x y yt =>
    unfold lowBin at hl
    have fin : ∀ kd, tyKD P t = some kd → ∀ x' y', lx n x = some x' → lx n y = some y' → OpOK P o a w X ρ H (ares (.bin kd op x' y') e H) := fun kd hk x' y' hx hy =>
      opOK_v (snd_bin hk h (ev_rep he hx) (ev_rep he hy)) (by unfold execOp; rw [ho])
    have fin2 : (match tyKD P t, lx n x, lx n y with | some kd, some x, some y => some (LOp.bin kd op x y) | _, _, _ => none) = some lo → OpOK P o a w X ρ H (ares lo e H) := by
      intro hl
      cases hk : tyKD P t <;> cases hx : lx n x <;> cases hy : lx n y <;> simp only [hk, hx, hy] at hl <;> first | (cases hl; done) | skip
      simp only [Option.some.injEq] at hl
      subst hl
      exact fin _ hk _ _ hx hy
    cases hu : P.underlying t with
    | none => rw [hu] at hl; exact fin2 hl
    | some d =>
      rw [hu] at hl
      cases d <;> first | exact fin2 hl | skip
      cases hq : isEq op <;> cases hx : lx n x <;> simp only [hq, hx] at hl <;> first | (cases hl; done) | skip
      split at hl
      · simp only [Option.some.injEq] at hl; subst hl; simp [plain] at hp
      · cases hl
  case unOp op t x =>
    cases op <;> simp only at hl <;> first | (cases hl; done) | skip
    case not =>
      obtain ⟨y, h1, rfl⟩ := opt_map hl
      exact opOK_v (snd_not h (ev_rep he h1)) (by unfold execOp; rw [ho])
    case neg =>
      obtain ⟨y, h1, rfl⟩ := opt_map hl
      exact opOK_v (snd_neg h (ev_rep he h1)) (by unfold execOp; rw [ho])
  case convert src dst x => exact lowConv_ok ho hl h he
  case makeFunc f first caps =>
    cases hf : lxs n first.toList <;> cases hc : lxs n caps.toList <;> simp only [hf, hc] at hl <;> first | (cases hl; done) | skip
    simp only [Option.some.injEq] at hl
    subst hl
    obtain ⟨h1, h2⟩ := lxs_rep he _ _ hf
    obtain ⟨h3, h4⟩ := lxs_rep he _ _ hc
    intro _
    refine ⟨.func f (first.map a.eval) (caps.map a.eval), w, ρ, .inl (by unfold execOp; rw [ho]; rfl), h, ?_, Fut.refl _ _ _⟩
    refine .fn _ _ _ _ _ _ (by simpa using h1) (by simpa using h3) (fun i x u hx hu => h2 i x u hx (by simpa using hu)) (fun i x u hx hu => h4 i x u hx (by simpa using hu))
  case makeSlice t l c =>
    cases hu : P.underlying t with
    | none => simp [hu] at hl
    | some d =>
      cases d <;> simp only [hu] at hl <;> first | (cases hl; done) | skip
      rename_i el
      cases hx : lx n l <;> cases hy : lx n c <;> simp only [hx, hy] at hl <;> first | (cases hl; done) | skip
      cases hi : P.info? el with
      | none => simp [hi] at hl
      | some i =>
        simp only [hi] at hl
        cases hz : i.zero with
        | none => simp [hz] at hl
        | some z =>
          simp only [hz] at hl
          split at hl
          · rename_i hc
            simp only [Option.some.injEq] at hl
            subst hl
            exact opOK_v (snd_msl hu hi hz hc.1 hc.2.1 hc.2.2 h (ev_rep he hx) (ev_rep he hy)) (by unfold execOp; rw [ho])
          · cases hl
  case slice t x l hi mx =>
    cases mx with
    | some m => cases hl
    | none =>
      cases hu : P.underlying t with
      | none => simp [hu] at hl
      | some d =>
        cases d <;> simp only [hu] at hl <;> first | (cases hl; done) | skip
        case string =>
          cases hx : lx n x <;> cases h1 : lxo n l <;> cases h2 : lxo n hi <;> simp only [hx, h1, h2] at hl <;> first | (cases hl; done) | skip
          simp only [Option.some.injEq] at hl
          subst hl
          exact opOK_v (s := Instr.sliceAt t (a.eval x) (l.map a.eval) (hi.map a.eval) none) (snd_slice (.inl ⟨rfl, hu⟩) h (ev_rep he hx) (lxo_rep he h1) (lxo_rep he h2)) (by unfold execOp; rw [ho]; rfl)
        case slice el =>
          cases hx : lx n x <;> cases h1 : lxo n l <;> cases h2 : lxo n hi <;> simp only [hx, h1, h2] at hl <;> first | (cases hl; done) | skip
          obtain ⟨sz, hs, rfl⟩ := opt_map hl
          exact opOK_v (s := Instr.sliceAt t (a.eval x) (l.map a.eval) (hi.map a.eval) none) (snd_slice (.inr ⟨rfl, el, hu, hs⟩) h (ev_rep he hx) (lxo_rep he h1) (lxo_rep he h2)) (by unfold execOp; rw [ho]; rfl)
  case fieldAddr s p f =>
    cases hu : P.underlying s with
    | none => simp [hu] at hl
    | some d =>
      cases d <;> simp only [hu] at hl <;> first | (cases hl; done) | skip
      rename_i fs
      cases hx : lx n p with
      | none => simp [hx] at hl
      | some y =>
        simp only [hx] at hl
        cases hf : fs[f]? with
        | none => simp [hf] at hl
        | some fd =>
          simp only [hf] at hl
          cases hn : tySz P fd.type with
          | none => simp [hn] at hl
          | some k =>
            cases k with
            | zero => simp [hn] at hl
            | succ k =>
              simp only [hn, Option.some.injEq] at hl
              subst hl
              cases imm with
              | false => exact opOK_v (snd_faddr hu hf hn (by omega) h (ev_rep he hx)) (by unfold execOp; rw [ho])
              | true =>
                refine opOK_v (r := rFaddrB _ _ H) (fun hok => ?_) (by unfold execOp; rw [ho])
                have hr := ev_rep he hx
                generalize ev e _ = x at hok hr ⊢
                cases x <;> first | exact hok.elim | exact snd_faddr hu hf hn (by omega) h hr hok
  case field s x f =>
    cases hu : P.underlying s with
    | none => simp [hu] at hl
    | some d =>
      cases d <;> simp only [hu] at hl <;> first | (cases hl; done) | skip
      rename_i fs
      cases hx : lx n x with
      | none => simp [hx] at hl
      | some y =>
        simp only [hx] at hl
        cases hf : fs[f]? with
        | none => simp [hf] at hl
        | some fd =>
          simp only [hf] at hl
          cases hag : tyAg P fd.type <;> cases hn : tySz P fd.type <;> simp only [hag, hn] at hl <;> first | (cases hl; done) | skip
          simp only [Option.some.injEq] at hl
          subst hl
          exact opOK_v (snd_fld hu hf hag hn h (ev_rep he hx)) (by unfold execOp; rw [ho])
  case indexAddr t x i =>
    cases hu : P.underlying t with
    | none => simp [hu] at hl
    | some d =>
      cases d <;> simp only [hu] at hl <;> first | (cases hl; done) | skip
      cases hx : lx n x <;> cases hi : lx n i <;> simp only [hx, hi] at hl <;> first | (cases hl; done) | skip
      obtain ⟨sz, hs, rfl⟩ := opt_map hl
      cases imm with
      | false => exact opOK_v (snd_iaddr hu hs h (ev_rep he hx) (ev_rep he hi)) (by unfold execOp; rw [ho])
      | true =>
        refine opOK_v (r := rIaddrV _ _ _ H) (fun hok => ?_) (by unfold execOp; rw [ho])
        have hr := ev_rep he hx
        have hr2 := ev_rep he hi
        generalize ev e _ = x at hok hr ⊢
        cases x <;> first | exact hok.elim | exact snd_iaddr hu hs h hr hr2 hok
  case index t x i =>
    cases hu : P.underlying t with
    | none => simp [hu] at hl
    | some d =>
      cases d <;> simp only [hu] at hl <;> first | (cases hl; done) | skip
      cases hx : lx n x <;> cases hi : lx n i <;> simp only [hx, hi] at hl <;> first | (cases hl; done) | skip
      simp only [Option.some.injEq] at hl
      subst hl
      exact opOK_v (snd_idx hu h (ev_rep he hx) (ev_rep he hi)) (by unfold execOp; rw [ho])
  case lookup t m k ok =>
    cases hu : P.underlying t with
    | none => simp [hu] at hl
    | some d =>
      cases d <;> simp only [hu] at hl <;> first | (cases hl; done) | skip
      cases hx : lx n m <;> cases hi : lx n k <;> simp only [hx, hi] at hl <;> first | (cases hl; done) | skip
      rename_i kt el _ _
      cases hk : keyKD P kt <;> cases hz : tyZero P el <;> simp only [hk, hz] at hl <;> first | (cases hl; done) | skip
      simp only [Option.some.injEq] at hl
      subst hl
      exact opOK_v (snd_look hu hk hz h (ev_rep he hx) (keyV_rep (ev_rep he hi))) (by unfold execOp; rw [ho])
  case extract x i =>
    obtain ⟨y, h1, rfl⟩ := opt_map hl
    exact opOK_v (snd_ext h (ev_rep he h1)) (by unfold execOp; rw [ho])
  case call c =>
    split at hl
    · exact lowCallB_ok ho hl h he
    · exact lowCall_ok ho hl hp h he
end
end Go.Ax

/- Whole functions: what the steps say of a function's lowered form holds of every call of it. -/
namespace Go.Ax
open Go Go.RowKit
set_option linter.unusedSimpArgs false
set_option linter.unusedVariables false

section
variable {P : Program} {w : World} {X : Nat → Prop} {ρ : Nat → Loc} {H : AHeap} {e : Env} {a : Act} {n : Nat}

/-- What is asked of what follows an operation. -/
abbrev Cont (X : Nat → Prop) (w : World) (ρ : Nat → Loc) (H : AHeap) (a : Act) (d : Option Nat) (K : AV → AHeap → Prop) (next : Act → World → Prop) : Prop :=
  ∀ u x H' ρ' w', K x H' → HRel w' X ρ' H' → Rep w' (Mut X ρ' H'.length) ρ' H'.length x u → Fut w ρ H.length w' ρ' H'.length → next (a.put d u) w'

theorem aop_plain {lo : LOp} (hp : plain lo = true) {K : AV → AHeap → Prop} (h : aop P lo e H K) : (ares lo e H).ok ∧ K (ares lo e H).x (ares lo e H).H := by
  cases lo <;> first | exact h | (simp [plain] at hp)

theorem sl_nilcase {x : AV} {u : Value} (h : HRel w X ρ H) (hx : Rp w X ρ H x u) (hs : slcK H x) : ∃ b l c, u = .slice b l c ∧ nilOk x b.isNone := by
  cases x with
  | v x =>
    have := rep_v hx; subst this
    cases u with
    | slice b l c => cases b <;> cases l <;> cases c <;> simp [slcK] at hs; exact ⟨_, _, _, rfl, rfl⟩
    | _ => simp [slcK] at hs
  | sl sz xs =>
    cases hx with
    | slE _ _ b c => exact ⟨b, 0, c, rfl, fun _ => rfl⟩
    | slN => exact ⟨_, _, _, rfl, fun hh => by simp at hh⟩
  | os r ver off len =>
    obtain ⟨hb, hv⟩ := hs
    obtain ⟨v, sz, xs, ho⟩ := isArr_some hb
    rw [ho] at hv
    obtain ⟨_, _, _, _, _, _, ⟨b, c, rfl, hlc, hcap⟩, _⟩ := os_arr h hx ho hv
    refine ⟨_, _, _, rfl, fun hh => ?_⟩
    rcases hcap with h0 | ⟨_, _, _, rfl, _⟩
    · omega
    · simp at hh
  | nc => cases hx; exact ⟨_, _, _, rfl, trivial⟩
  | _ => simp [slcK] at hs

theorem eqIn_nilS0 {d : Nat} {t el : TypeId} {b : Option Addr} {l c : Nat} (ht : P.underlying t = some (.slice el)) : (Op.equalIn (d + 1) t (.slice b l c) (.slice none 0 0)).run P w = .ok b.isNone w := by
  cases b <;> simp [Op.equalIn, run_underlying ht]
theorem eqIn_nilS {t el : TypeId} {b : Option Addr} {l c : Nat} (ht : P.underlying t = some (.slice el)) : (Op.equal t (.slice b l c) (.slice none 0 0)).run P w = .ok b.isNone w :=
  eqIn_nilS0 (d := 9999) ht

/-- A fence that bars nothing, in a round or not. -/
abbrev WR (r : Option Nat) : Fence := { Fence.wide with round := r }
theorem wr_room (r : Option Nat) (k : Nat) : (WR r).room k := fun d h => by cases h
theorem wr_depth {r : Option Nat} {k : Nat} : (WR r).depth.isSome = true → 1 ≤ k := fun h => by cases h
theorem callsIn_wr {r : Option Nat} {m : Nat} {f : FuncId} {args : Array Value} {R : Ending → World → Prop} (h : Calls P f args w R) : CallsIn (WR r) m P f args w R := (callsIn_wide (n := m)).2 h
theorem roundIn_wr {r : Option Nat} {m m' : Nat} {l : Nat} {f : FuncId} {tmps : Array Value} {asg bdy : Code} {R : Ending → World → Prop} (h : RoundIn Fence.wide m P l f tmps asg bdy w R) : RoundIn (WR r) m' P l f tmps asg bdy w R :=
  ⟨trivial, fun c cs _ => h.2 c cs (room_wide _)⟩
theorem wpIn_exec {r : Option Nat} {m : Nat} {o : Oper} {next : Act → World → Prop} {Q : Exit → Act → World → Prop} (hd : ∀ c, o.op ≠ .defer c) (h : o.uponIn (WR r) m P a next Q ((execOp a.eval o).run P w)) : o.wpIn (WR r) m P a w next Q :=
  ⟨fun _ _ => trivial, by rw [Oper.semAt_eq _ _ _ hd]; exact h⟩
theorem low_nodefer {imm : Bool} {o : Oper} {lo : LOp} (hl : lowOp0 P n imm o = some lo) (c : Call) : o.op ≠ .defer c := fun hc => by
  unfold lowOp0 at hl; rw [hc] at hl; cases hl
theorem acall_v {x : Value} {args : List AV} {K : AV → AHeap → Prop} (h : acall P (.v x) args H K) : ∃ l, x = .func (.yield l) #[] #[] ∧ AYield P l args H K := by
  unfold acall at h
  split at h
  · rename_i he; cases he
  · rename_i l he; cases he; exact ⟨l, rfl, h⟩
  · exact h.elim

def plainO : Option LOp → Bool
  | some lo => plain lo
  | none => true

theorem aop_sound {r : Option Nat} {m0 : Nat} {imm : Bool} {o : Oper} {K : AV → AHeap → Prop} (hop : aop P (lowOp P n imm o) e H K) (h : HRel w X ρ H) (he : ER w X ρ H n e a) {next : Act → World → Prop} {Q : Exit → Act → World → Prop}
    (hn : Cont X w ρ H a o.dst K next) : o.wpIn (WR r) m0 P a w next Q := by
  unfold lowOp at hop
  cases hl : lowOp0 P n imm o with
  | none => rw [hl] at hop; exact hop.1.elim
  | some lo =>
    rw [hl] at hop
    simp only [Option.getD_some] at hop
    have hnd := low_nodefer hl
    by_cases hp : plain lo = true
    · obtain ⟨h1, h2⟩ := aop_plain hp hop
      obtain ⟨u, w', ρ', hr, g1, g2, g3⟩ := lowOp0_ok hl hp h he h1
      refine wpIn_exec hnd ?_
      rcases hr with hr | ⟨hr, rfl⟩
      · rw [hr]; exact hn _ _ _ _ _ h2 g1 g2 g3
      · rw [hr]; exact hn _ _ _ _ _ h2 g1 g2 g3
    · unfold lowOp0 at hl
      cases ho : o.op <;> rw [ho] at hl <;> simp only at hl <;> first | (cases hl; done) | skip
      case pick c x y =>
        cases hc : lx n c <;> cases hx : lx n x <;> cases hy : lx n y <;> simp [hc, hx, hy] at hl
        subst hl
        have rc := ev_rep he hc
        have rx := ev_rep he hx
        have ry := ev_rep he hy
        simp only [aop] at hop
        refine wpIn_exec hnd ?_
        unfold execOp
        rw [ho]
        split at hop
        · rename_i t htb
          rw [htb] at rc
          have hcv := rep_v rc
          split at hop
          · rename_i hb
            subst hb
            simp only [hcv, asBool, Sem.run_bind, Sem.run_pure, Result.andThen_ok, if_true]
            exact hn _ _ _ _ _ hop h rx (Fut.refl _ _ _)
          · rename_i hb
            have hb' : t = false := by simpa using hb
            subst hb'
            simp only [hcv, asBool, Sem.run_bind, Sem.run_pure, Result.andThen_ok, Bool.false_eq_true, if_false]
            exact hn _ _ _ _ _ hop h ry (Fut.refl _ _ _)
        · exact hop.elim
      case binOp op t x y yt =>
        unfold lowBin at hl
        have bad : (match tyKD P t, lx n x, lx n y with | some kd, some x, some y => some (LOp.bin kd op x y) | _, _, _ => none) = some lo → False := by
          intro hl
          cases hk : tyKD P t <;> cases hx : lx n x <;> cases hy : lx n y <;> simp only [hk, hx, hy] at hl <;> first | (cases hl; done) | skip
          simp only [Option.some.injEq] at hl
          subst hl
          simp [plain] at hp
        cases hu : P.underlying t with
        | none => rw [hu] at hl; exact (bad hl).elim
        | some d =>
          rw [hu] at hl
          cases d <;> first | exact (bad hl).elim | skip
          rename_i el
          cases hq : isEq op <;> cases hx : lx n x <;> simp only [hq, hx] at hl <;> first | (cases hl; done) | skip
          rename_i neg lxx
          split at hl
          · rename_i hnc
            simp only [Option.some.injEq] at hl
            subst hl
            obtain ⟨hs, hK⟩ := hop
            obtain ⟨b, l, c, hae, hnil⟩ := sl_nilcase h (ev_rep he hx) hs
            have hy : a.eval y = .slice none 0 0 := by
              cases y with
              | const v => cases v with
                | slice b l c => cases b <;> cases l <;> cases c <;> simp [isNilC] at hnc; rfl
                | _ => simp [isNilC] at hnc
              | _ => simp [isNilC] at hnc
            have hex : (execOp a.eval o).run P w = .ok (.value (.bool (b.isNone ^^ neg))) w := by
              unfold execOp
              rw [ho]
              cases op <;> simp [isEq] at hq <;> subst hq
              · simp [hae, hy, eqGuard_at_slice, binOp, eqIn_nilS hu]
              · simp [hae, hy, eqGuard_at_slice, binOp, eqIn_nilS hu]
            refine wpIn_exec hnd ?_
            rw [hex]
            exact hn _ _ _ _ _ (hK _ hnil) h (.v _ _) (Fut.refl _ _ _)
          · cases hl
      case call c =>
        have hl : lowCall P n c = some lo := by
          split at hl
          · exact absurd (lowCallB_plain hl) hp
          · exact hl
        obtain ⟨callee, args, tys⟩ := c
        unfold lowCall at hl
        cases callee with
        | value f =>
          simp only at hl
          cases hf : lx n f with
          | none => simp [hf] at hl
          | some g =>
            cases hm : lxs n args.toList with
            | none => simp [hf, hm] at hl
            | some m =>
              simp [hf, hm] at hl
              subst hl
              have rf := ev_rep he hf
              obtain ⟨hlen, hrep⟩ := lxs_rep he _ _ hm
              simp only [aop] at hop
              cases hfv : ev e g with
              | fn fk first caps =>
                rw [hfv] at hop rf
                cases fk <;> simp only [acall] at hop <;> first | exact hop.elim | skip
                rename_i k
                obtain ⟨⟨fn, hfn, hbody, hname⟩, hcall⟩ := hop
                generalize hfe : a.eval f = fv at rf
                cases rf with
                | fn _ _ _ _ fs us h1 h2 h3 h4 =>
                  have hex : (execOp a.eval o).run P w = .ok (.enter k (fs ++ args.map a.eval ++ us)) w := by
                    unfold execOp
                    rw [ho]
                    simp only [resolve, hfe, Deferred.ofValue, Sem.run_bind, Sem.run_pure, Result.andThen_ok, invoke, callFunc, run_program, hfn, hname, Bool.false_eq_true, if_false, hbody]
                  refine wpIn_exec hnd ?_
                  rw [hex]
                  refine ⟨wr_depth, callsIn_wr ((hcall X ρ w _ h ⟨?_, ?_⟩).mono ?_)⟩
                  · simp [h1, h2, hlen]
                  · intro i x u hx hu
                    rw [List.append_assoc, List.getElem?_append] at hx
                    rw [Array.append_assoc, Array.getElem?_append] at hu
                    by_cases hi : i < first.length
                    · rw [if_pos hi] at hx
                      rw [if_pos (by omega)] at hu
                      exact h3 i x u hx hu
                    · rw [if_neg hi, List.getElem?_append] at hx
                      rw [if_neg (by omega), Array.getElem?_append] at hu
                      simp only [List.length_map, Array.size_map] at hx hu
                      have hl2 : m.length = args.size := by simpa using hlen
                      by_cases hj : i - first.length < m.length
                      · rw [if_pos hj] at hx
                        rw [if_pos (by omega)] at hu
                        exact hrep (i - first.length) x u hx (by rw [← h1] at hu; simpa using hu)
                      · rw [if_neg hj] at hx
                        rw [if_neg (by omega)] at hu
                        exact h4 (i - first.length - m.length) x u hx (by rw [← h1, ← hl2] at hu; exact hu)
                  · rintro en w' ⟨v, x, H', ρ', rfl, hK, g1, g2, g3⟩
                    exact hn _ _ _ _ _ hK g1 g2 g3
              | v x =>
                rw [hfv] at hop rf
                have hfe := rep_v rf
                obtain ⟨l, rfl, hy⟩ := acall_v hop
                obtain ⟨fn', tmps, asg, bdy, hyr, hround⟩ := hy X ρ w (args.map a.eval) h ⟨by simp [hlen], fun i x u hx hu => hrep i x u hx (by simpa using hu)⟩
                have hex : (execOp a.eval o).run P w = .ok (.round l fn' tmps asg bdy) w := by
                  unfold execOp
                  rw [ho]
                  simp only [resolve, hfe, Deferred.ofValue, Sem.run_bind, Sem.run_pure, Result.andThen_ok, invoke, callFunc, run_program]
                  simpa using hyr
                refine wpIn_exec hnd ?_
                rw [hex]
                refine ⟨wr_depth, roundIn_wr (hround.mono ?_)⟩
                rintro en w' ⟨v, x, H', ρ', rfl, hK, g1, g2, g3⟩
                exact hn _ _ _ _ _ hK g1 g2 g3
              | _ => rw [hfv] at hop; exact hop.elim
        | invoke r m => simp at hl
        | builtin b =>
          refine absurd (show plainO (some lo) = true from ?_) hp
          rw [← hl]
          cases b <;> simp only <;> (repeat' split) <;> first | rfl | (cases tySz P _ <;> simp only [Option.bind_none, Option.bind_some] <;> (try split) <;> rfl)
      case unOp op t x => cases op <;> simp only at hl <;> first | (cases hl; done) | (obtain ⟨_, _, rfl⟩ := opt_map hl; exact absurd rfl hp)
      case makeMap t r => cases r <;> simp only at hl <;> first | (cases hl; done) | (cases hl; exact absurd rfl hp)
      case slice t x lo hi mx => cases mx <;> simp only at hl <;> first | (cases hl; done) | (refine absurd (show plainO (some _) = true from ?_) hp; rw [← hl]; (repeat' split) <;> first | rfl | (cases tySz P _ <;> rfl))
      all_goals
        refine absurd (show plainO (some lo) = true from ?_) hp
        rw [← hl]
        (try unfold lowBuild); (try unfold lowBsl); (try unfold lowConv)
        (repeat' split) <;> first | rfl | (cases lx n _ <;> rfl) | (cases lowPs n _ _ <;> rfl) | (cases tyKD P _ <;> rfl) | (cases keyKD P _ <;> rfl) | (cases tySz P _ <;> rfl)
end
end Go.Ax

/- Operations one behind the other. -/
namespace Go.Ax
open Go Go.RowKit
set_option linter.unusedSimpArgs false
set_option linter.unusedVariables false

section
variable {P : Program} {w w0 : World} {X : Nat → Prop} {ρ ρ0 : Nat → Loc} {H : AHeap} {e : Env} {a : Act} {n n0 : Nat}

/-- The marks of ranges over functions among the deferred calls: each block lies as it was laid, and no run owns it. -/
def mark (D : Nat) : Deferred := { target := .collected D, args := #[] }
def Mk (w0 w : World) (ρ : Nat → Loc) (n : Nat) (df : List Deferred) : Prop :=
  ∃ ds : List Nat, df = ds.map mark ∧ ds.Nodup ∧ ∀ D ∈ ds, w0.heap.size ≤ D ∧ D < w.heap.size ∧ ¬ Own ρ n D ∧ w.heap[D]? = some (.deferred (some []))
theorem Mk.fut {w' : World} {ρ' : Nat → Loc} {n' : Nat} {df : List Deferred} (h : Mk w0 w ρ n df) (hf : Fut w ρ n w' ρ' n') : Mk w0 w' ρ' n' df := by
  obtain ⟨ds, h1, h2, h3⟩ := h
  refine ⟨ds, h1, h2, fun D hD => ?_⟩
  obtain ⟨g1, g2, g3, g4⟩ := h3 D hD
  exact ⟨g1, Nat.lt_of_lt_of_le g2 hf.size, fun ho => (hf.own D ho).elim g3 fun h => by omega, by rw [hf.keep D g2 g3]; exact g4⟩
theorem Mk.nil {w0 w : World} {ρ : Nat → Loc} {n : Nat} : Mk w0 w ρ n [] := ⟨[], rfl, .nil, by simp⟩

/-- The state of a function: its slots, its objects, and what has become of the world since w0. -/
def St (X : Nat → Prop) (w0 : World) (ρ0 : Nat → Loc) (n0 n : Nat) (e : Env) (H : AHeap) (a : Act) (w : World) : Prop :=
  a.tmps.size = n ∧ ∃ ρ, HRel w X ρ H ∧ ER w X ρ H n e a ∧ Fut w0 ρ0 n0 w ρ H.length ∧ Mk w0 w ρ H.length a.defers

theorem put_get (a : Act) (d t : Nat) (u : Value) : (a.put (some d) u).tmps.getD t undef = if t = d ∧ d < a.tmps.size then u else a.tmps.getD t undef := by
  simp only [Act.put, Array.getD_eq_getD_getElem?]
  by_cases h : t = d
  · subst h
    by_cases h2 : t < a.tmps.size
    · simp [h2]
    · simp [h2]
  · rw [Array.getElem?_setIfInBounds_ne (fun e => h e.symm), if_neg (fun hh => h hh.1)]

/-- A slot is set. -/
theorem er_put {w' : World} {ρ' : Nat → Loc} {H' : AHeap} {d : Option Nat} {u : Value} {x : AV} (he : ER w X ρ H n e a) (hf : Fut w ρ H.length w' ρ' H'.length) (hx : Rep w' (Mut X ρ' H'.length) ρ' H'.length x u) (hn : a.tmps.size = n) :
    ER w' X ρ' H' n (ups e d x) (a.put d u) := by
  intro t ht
  cases d with
  | none => exact (he t ht).nextN hf
  | some d =>
    rw [put_get]
    simp only [ups, up]
    by_cases h : t = d
    · subst h
      rw [if_pos rfl, if_pos ⟨rfl, by omega⟩]
      exact hx
    · rw [if_neg h, if_neg (fun hh => h hh.1)]
      exact (he t ht).nextN hf

theorem put_size (a : Act) (d : Option Nat) (u : Value) : (a.put d u).tmps.size = a.tmps.size := by
  cases d <;> simp [Act.put]
theorem put_def (a : Act) (d : Option Nat) (u : Value) : (a.put d u).defers = a.defers := by
  cases d <;> rfl

theorem St.put {w' : World} {H' : AHeap} {ρ' : Nat → Loc} {d : Option Nat} {u : Value} {x : AV} (hm : Mk w0 w ρ H.length a.defers) (hs : a.tmps.size = n) (he : ER w X ρ H n e a) (h0 : Fut w0 ρ0 n0 w ρ H.length) (g1 : HRel w' X ρ' H')
    (g2 : Rep w' (Mut X ρ' H'.length) ρ' H'.length x u) (g3 : Fut w ρ H.length w' ρ' H'.length) : St X w0 ρ0 n0 n (ups e d x) H' (a.put d u) w' :=
  ⟨by rw [put_size]; exact hs, ρ', g1, er_put he g3 g2 hs, h0.trans g3, by rw [put_def]; exact hm.fut g3⟩

theorem up_eq {t : Nat} {x : AV} (h : e t = x) : up e t x = e := by
  funext u
  simp only [up]
  split
  · rename_i hu; rw [hu, h]
  · rfl

theorem ghost_inv {d : Option Nat} {op : LOp} (h : ghost d op = true) : ∃ t, d = some t ∧ (op = .frz (.t t) ∨ (∃ sz off, op = .frzf sz off (.t t)) ∨ ∃ sz, op = .own sz (.t t)) := by
  cases op <;> simp [ghost] at h
  case frz x => cases x <;> simp at h; exact ⟨_, h, .inl rfl⟩
  case own sz x => cases x <;> simp at h; exact ⟨_, h, .inr (.inr ⟨sz, rfl⟩)⟩
  case frzf sz off x => cases x <;> simp at h; exact ⟨_, h, .inr (.inl ⟨sz, off, rfl⟩)⟩

theorem ghosts_sound : ∀ (gs : List LO) {los : List LO} {e : Env} {H : AHeap} {K : Env → AHeap → Prop}, ghosts n gs = true → aops P (gs ++ los) e H K → St X w0 ρ0 n0 n e H a w → ∃ e' H', aops P los e' H' K ∧ St X w0 ρ0 n0 n e' H' a w
  | [], _, e, H, _, _, h, hst => ⟨e, H, h, hst⟩
  | g :: gs, los, e, H, K, hg, h, ⟨hn, ρ, hrel, he, hf, hm⟩ => by
    simp only [ghosts, List.all_cons, Bool.and_eq_true] at hg
    obtain ⟨⟨⟨g1, g2⟩, g3⟩, g4⟩ := hg
    obtain ⟨d, gg, op⟩ := g
    cases gg with
    | some _ => simp at g1
    | none =>
      obtain ⟨t, rfl, hop⟩ := ghost_inv g2
      have ht : t < n := by simpa using g3
      have hput : ∀ (w' : World) (ρ' : Nat → Loc) (H' : AHeap) (x : AV), Fut w ρ H.length w ρ' H'.length → HRel w X ρ' H' → Rep w (Mut X ρ' H'.length) ρ' H'.length x (a.tmps.getD t undef) → St X w0 ρ0 n0 n (up e t x) H' a w := by
        intro w' ρ' H' x f1 f2 f3
        refine ⟨hn, ρ', f2, fun u hu => ?_, hf.trans f1, hm.fut f1⟩
        simp only [up]
        split
        · rename_i hut; rw [hut]; exact f3
        · exact (he u hu).nextN f1
      rcases hop with rfl | ⟨sz, off, rfl⟩ | ⟨sz, rfl⟩
      · obtain ⟨h1, h2⟩ := h
        obtain ⟨ρ', f1, f2, f3⟩ := snd_frz hrel (he t ht) h1
        exact ghosts_sound gs g4 h2 (hput w ρ' _ _ f3 f1 f2)
      · obtain ⟨h1, h2⟩ := h
        obtain ⟨ρ', f1, f2, f3⟩ := snd_frzf hrel (he t ht) h1
        exact ghosts_sound gs g4 h2 (hput w ρ' _ _ f3 f1 f2)
      · obtain ⟨h1, h2⟩ := h
        obtain ⟨ρ', f1, f2, f3⟩ := snd_own hrel (he t ht) h1
        exact ghosts_sound gs g4 h2 (hput w ρ' _ _ f3 f1 f2)

/-- Is the operation wanted, as far as the environment says? -/
def wantA (g : Option (Nat × Bool)) (e : Env) : Option Bool :=
  match g with
  | none => some true
  | some (t, want) => match e t with
    | .v (.bool b) => some (b == want)
    | .v (.tuple _) => some false
    | _ => none

theorem want_ok {ops : Array Oper} {o : Oper} {g : Option (Nat × Bool)} {b : Bool} (hg : lowG ops n o.guard = some g) (he : ER w X ρ H n e a) (hn : a.tmps.size = n) (hw : wantA g e = some b) : Region.wanted o (yielded ops a.tmps) = b := by
  unfold lowG at hg
  cases hog : o.guard with
  | none =>
    rw [hog] at hg
    simp at hg
    subst hg
    simp [wantA] at hw
    subst hw
    simp [Region.wanted, hog]
  | some jw =>
    obtain ⟨j, want⟩ := jw
    rw [hog] at hg
    simp only at hg
    cases hd : (ops[j]?).bind (·.dst) with
    | none => simp [hd] at hg
    | some t =>
      simp only [hd] at hg
      by_cases ht : t < n
      · rw [if_pos ht] at hg
        simp only [Option.some.injEq] at hg
        subst hg
        simp only [wantA] at hw
        have hr := he t ht
        have hget : a.tmps[t]? = some (a.tmps.getD t undef) := by
          have : t < a.tmps.size := by rw [hn]; exact ht
          simp [this]
        simp only [Region.wanted, hog, yielded, hd, Option.bind_some, hget]
        cases het : e t with
        | v x =>
          rw [het] at hr hw
          have := rep_v hr
          rw [this]
          cases x <;> simp at hw
          case bool c => subst hw; cases c <;> cases want <;> rfl
          case tuple us => subst hw; rfl
        | _ => rw [het] at hw; simp at hw
      · rw [if_neg ht] at hg; cases hg

theorem aops_cons {o : LO} {l : List LO} {K : Env → AHeap → Prop} (h : aops P (o :: l) e H K) :
    (wantA o.g e = some true ∧ aop P o.op e H fun x H' => aops P l (ups e o.d x) H' K) ∨ (wantA o.g e = some false ∧ aops P l (ups e o.d undefA) H K) := by
  simp only [aops] at h
  cases hg : o.g with
  | none => rw [hg] at h; exact .inl ⟨rfl, h⟩
  | some tw =>
    obtain ⟨t, want⟩ := tw
    rw [hg] at h
    simp only at h
    cases het : e t with
    | v x =>
      rw [het] at h
      cases x <;> simp only at h <;> first | exact h.elim | skip
      case bool b =>
        have hu : up e t (bool b) = e := up_eq het
        cases b <;> cases want <;> simp only [hu, if_true, Bool.false_eq_true, if_false, wantA, het] at h ⊢ <;> first | exact .inl ⟨rfl, h⟩ | exact .inr ⟨rfl, h⟩
      case tuple us => exact .inr ⟨by simp [wantA, het], h⟩
    | _ => rw [het] at h; exact h.elim

theorem lowOne_inv {imm : Bool} {ops : Array Oper} {o : Oper} {lo : LO} (h : lowOne P n imm ops o = some lo) : lo.d = o.dst ∧ lowG ops n o.guard = some lo.g ∧ lo.op = lowOp P n imm o := by
  unfold lowOne at h
  cases hg : lowG ops n o.guard with
  | none => simp [hg] at h
  | some g =>
    simp only [hg] at h
    split at h
    · simp only [Option.some.injEq] at h
      subst h
      exact ⟨rfl, rfl, rfl⟩
    · cases h

/-- One operation, and what follows. -/
theorem op_step {r : Option Nat} {m0 : Nat} {imm : Bool} {ops : Array Oper} {o : Oper} {lo : LO} {l : List LO} {K : Env → AHeap → Prop} (hl : lowOne P n imm ops o = some lo) (h : aops P (lo :: l) e H K) (hst : St X w0 ρ0 n0 n e H a w) {next : Act → World → Prop} {Q : Exit → Act → World → Prop}
    (hn : ∀ e' H' a' w', aops P l e' H' K → St X w0 ρ0 n0 n e' H' a' w' → next a' w') :
    if Region.wanted o (yielded ops a.tmps) then o.wpIn (WR r) m0 P a w next Q else (∀ f, o.about P w a.eval = some f → (WR r).fn f) ∧ next (a.put o.dst undef) w := by
  obtain ⟨hd, hg, hop⟩ := lowOne_inv hl
  obtain ⟨h2, ρ, hrel, he, hf, hm⟩ := hst
  rcases aops_cons h with ⟨hw, h⟩ | ⟨hw, h⟩
  · rw [want_ok hg he h2 hw, if_pos rfl]
    rw [hop] at h
    refine aop_sound h hrel he fun u x H' ρ' w' hK g1 g2 g3 => hn _ _ _ _ hK ?_
    rw [hd]
    exact St.put hm h2 he hf g1 g2 g3
  · rw [want_ok hg he h2 hw, if_neg (by simp)]
    refine ⟨fun _ _ => trivial, hn _ _ _ _ h ?_⟩
    rw [hd]
    exact St.put hm h2 he hf hrel (.v _ _) (Fut.refl _ _ _)

theorem ops_sound {r : Option Nat} {m0 : Nat} {hs : List Hn} {reg : Nat} {ops : Array Oper} {K : Env → AHeap → Prop} {Q : Exit → Act → World → Prop} (hQ : ∀ e' H' a' w', K e' H' → St X w0 ρ0 n0 n e' H' a' w' → Q .normal a' w') :
    ∀ (l : List Oper) (i : Nat) (los : List LO) (e : Env) (H : AHeap) (a : Act) (w : World), lowOps P n hs reg ops i l = some los → aops P los e H K → St X w0 ρ0 n0 n e H a w → wpListIn (WR r) m0 P ops Q l a w
  | [], i, los, e, H, a, w, hl, h, hst => by
    unfold lowOps at hl
    split at hl
    · rename_i hg
      simp only [Option.some.injEq] at hl
      subst hl
      obtain ⟨e', H', h', hst'⟩ := ghosts_sound (presAt hs reg i) (los := []) hg (by simpa using h) hst
      exact hQ _ _ _ _ h' hst'
    · cases hl
  | o :: l, i, los, e, H, a, w, hl, h, hst => by
    unfold lowOps at hl
    cases h1 : lowOne P n (hasImm hs reg i) ops o with
    | none => simp [h1] at hl
    | some lo =>
      cases h2 : lowOps P n hs reg ops (i + 1) l with
      | none => simp [h1, h2] at hl
      | some m =>
        simp only [h1, h2] at hl
        split at hl
        · rename_i hg
          simp only [Option.some.injEq] at hl
          subst hl
          obtain ⟨e', H', h', hst'⟩ := ghosts_sound (presAt hs reg i) hg h hst
          have := op_step (r := r) (m0 := m0) h1 h' hst' (next := wpListIn (WR r) m0 P ops Q l) (Q := Q) fun e'' H'' a'' w'' hK hs'' => ops_sound hQ l (i + 1) m e'' H'' a'' w'' h2 hK hs''
          unfold wpListIn
          exact this
        · cases hl
end
end Go.Ax

/- Operations whose order is drawn: whatever order, the same values. -/
namespace Go.Ax
open Go Go.RowKit
set_option linter.unusedSimpArgs false
set_option linter.unusedVariables false

section edges
variable {ops : Array Oper}

def stp (acc : Array Nat) (o : Oper) : Nat := o.after.foldl (fun s e => if Region.binds .any e then s ||| 2 ^ e.on ||| acc.getD e.on 0 else s) 0

theorem stp_bits (acc : Array Nat) (i : Nat) : ∀ (l : List Edge) (s : Nat), (l.foldl (fun s e => if Region.binds .any e then s ||| 2 ^ e.on ||| acc.getD e.on 0 else s) s).testBit i = true →
    s.testBit i = true ∨ ∃ e ∈ l, Region.binds .any e = true ∧ (e.on = i ∨ (acc.getD e.on 0).testBit i = true)
  | [], s, h => .inl h
  | e :: l, s, h => by
    simp only [List.foldl_cons] at h
    rcases stp_bits acc i l _ h with h1 | ⟨e', h1, h2⟩
    · split at h1
      · rename_i hb
        rw [Nat.testBit_or, Nat.testBit_or, Nat.testBit_two_pow] at h1
        simp only [Bool.or_eq_true, decide_eq_true_eq] at h1
        rcases h1 with (h1 | h1) | h1
        · exact .inl h1
        · exact .inr ⟨e, by simp, hb, .inl h1⟩
        · exact .inr ⟨e, by simp, hb, .inr h1⟩
      · exact .inl h1
    · exact .inr ⟨e', by simp [h1], h2⟩

theorem fold_spec : ∀ (l : List Oper) (acc : Array Nat),
    (l.foldl (fun acc o => acc.push (stp acc o)) acc).size = acc.size + l.length ∧ (∀ k, k < acc.size → (l.foldl (fun acc o => acc.push (stp acc o)) acc).getD k 0 = acc.getD k 0) ∧
    ∀ k o, l[k]? = some o → ∃ acc' : Array Nat, acc'.size = acc.size + k ∧ (∀ m, m < acc.size + k → acc'.getD m 0 = (l.foldl (fun acc o => acc.push (stp acc o)) acc).getD m 0) ∧ (l.foldl (fun acc o => acc.push (stp acc o)) acc).getD (acc.size + k) 0 = stp acc' o
  | [], acc => ⟨rfl, fun _ _ => rfl, fun k o h => by simp at h⟩
  | x :: l, acc => by
    obtain ⟨h1, h2, h3⟩ := fold_spec l (acc.push (stp acc x))
    simp only [List.foldl_cons, Array.size_push] at h1 h2 h3 ⊢
    have hp : ∀ k, k < acc.size → (acc.push (stp acc x)).getD k 0 = acc.getD k 0 := by
      intro k hk
      simp only [Array.getD_eq_getD_getElem?, Array.getElem?_push]
      rw [if_neg (by omega)]
    refine ⟨by rw [h1]; simp; omega, fun k hk => by rw [h2 k (by omega), hp k hk], fun k o ho => ?_⟩
    cases k with
    | zero =>
      simp at ho
      subst ho
      refine ⟨acc, rfl, fun m hm => by rw [h2 m (by omega), hp m (by omega)], ?_⟩
      rw [Nat.add_zero, h2 _ (by omega)]
      simp [Array.getD_eq_getD_getElem?]
    | succ k =>
      obtain ⟨acc', g1, g2, g3⟩ := h3 k o (by simpa using ho)
      exact ⟨acc', by omega, fun m hm => g2 m (by omega), by rw [show acc.size + (k + 1) = acc.size + 1 + k by omega]; exact g3⟩

theorem before_spec {j : Nat} {oj : Oper} (hj : ops[j]? = some oj) {i : Nat} (h : ((Region.before ops).getD j 0).testBit i = true) :
    ∃ e ∈ oj.after, Region.binds .any e = true ∧ (e.on = i ∨ (e.on < j ∧ ((Region.before ops).getD e.on 0).testBit i = true)) := by
  have hb : Region.before ops = ops.toList.foldl (fun acc o => acc.push (stp acc o)) #[] := by
    unfold Region.before
    rw [← Array.foldl_toList]
    rfl
  obtain ⟨_, _, h3⟩ := fold_spec ops.toList #[]
  obtain ⟨acc', g1, g2, g3⟩ := h3 j oj (by simpa using hj)
  simp only [List.size_toArray, List.length_nil, Nat.zero_add] at g1 g2 g3
  rw [hb] at h ⊢
  rw [g3] at h
  unfold stp at h
  rw [← Array.foldl_toList] at h
  rcases stp_bits acc' i _ _ h with h1 | ⟨e, he, hbd, h1⟩
  · simp at h1
  · refine ⟨e, by simpa using he, hbd, ?_⟩
    rcases h1 with h1 | h1
    · exact .inl h1
    · have hlt : e.on < j := by
        rcases Nat.lt_or_ge e.on acc'.size with h2 | h2
        · omega
        · simp [Array.getD_eq_getD_getElem?, Array.getElem?_eq_none h2] at h1
      rw [g2 _ hlt] at h1
      exact .inr ⟨hlt, h1⟩

/-- What is listed has what it waits for listed. -/
def Closed (ops : Array Oper) (listed : Array Bool) : Prop := ∀ j oj, ops[j]? = some oj → listed.getD j false = true → ∀ e ∈ oj.after, Region.binds .any e = true → listed.getD e.on false = true

theorem closed_before {listed : Array Bool} (hc : Closed ops listed) : ∀ (j : Nat) (oj : Oper) (i : Nat), ops[j]? = some oj → ((Region.before ops).getD j 0).testBit i = true → (∀ e ∈ oj.after, Region.binds .any e = true → listed.getD e.on false = true) → listed.getD i false = true := by
  intro j
  induction j using Nat.strongRecOn with
  | _ j ih =>
    intro oj i hj hb hall
    obtain ⟨e, he, hbd, h1⟩ := before_spec hj hb
    rcases h1 with h1 | ⟨hlt, h1⟩
    · rw [← h1]; exact hall e he hbd
    · have hjlt := (Array.getElem?_eq_some_iff.1 hj).1
      have ho : ops[e.on]? = some ops[e.on] := by simp [show e.on < ops.size by omega]
      exact ih e.on hlt _ i ho h1 (hc _ _ ho (hall e he hbd))

theorem set_get (listed : Array Bool) (i k : Nat) (b : Bool) : (listed.setIfInBounds i true).getD k b = if k = i ∧ i < listed.size then true else listed.getD k b := by
  simp only [Array.getD_eq_getD_getElem?]
  by_cases h : k = i
  · subst h
    by_cases h2 : k < listed.size
    · simp [h2]
    · simp [h2]
  · rw [Array.getElem?_setIfInBounds_ne (fun e => h e.symm), if_neg (fun hh => h hh.1)]

theorem Closed.set {listed : Array Bool} (hc : Closed ops listed) {i : Nat} (hi : i ∈ Region.ready .any ops listed) : Closed ops (listed.setIfInBounds i true) := by
  obtain ⟨_, oi, hoi, hall⟩ := mem_ready.1 hi
  intro j oj hj hl e he hb
  rw [set_get] at hl ⊢
  split
  · rfl
  · split at hl
    · rename_i h1
      obtain ⟨rfl, _⟩ := h1
      have : oj = oi := Option.some.inj (hj.symm.trans hoi)
      subst this
      exact hall e he hb
    · exact hc j oj hj hl e he hb

/-- How many of the first k are not listed. -/
def left (listed : Array Bool) : Nat → Nat
  | 0 => 0
  | k + 1 => left listed k + if listed.getD k true = true then 0 else 1
theorem left_set {listed : Array Bool} {i : Nat} (hi : listed.getD i true = false) : ∀ k, left (listed.setIfInBounds i true) k + (if i < k then 1 else 0) = left listed k
  | 0 => by simp [left]
  | k + 1 => by
    have ih := left_set hi k
    have hil : i < listed.size := by
      rcases Nat.lt_or_ge i listed.size with h | h
      · exact h
      · simp [Array.getElem?_eq_none h] at hi
    simp only [left]
    rw [set_get]
    by_cases hk : k = i
    · subst hk
      rw [if_neg (by omega)] at ih
      have h2 : k < k + 1 := by omega
      have h3 : (if k = k ∧ k < listed.size then true else listed.getD k true) = true := if_pos ⟨rfl, hil⟩
      rw [if_pos h2, if_pos h3, hi, if_neg (by simp)]
      omega
    · have h3 : (if k = i ∧ i < listed.size then true else listed.getD k true) = listed.getD k true := if_neg fun hh => hk hh.1
      rw [h3]
      generalize (if listed.getD k true = true then 0 else 1) = z
      by_cases h2 : i < k
      · rw [if_pos h2] at ih; rw [if_pos (show i < k + 1 by omega)]; omega
      · rw [if_neg h2] at ih; rw [if_neg (show ¬ i < k + 1 by omega)]; omega
theorem left_pos {listed : Array Bool} {i : Nat} (hi : listed.getD i true = false) : ∀ k, i < k → 0 < left listed k
  | 0, h => by omega
  | k + 1, h => by
    simp only [left]
    by_cases hk : i = k
    · subst hk; rw [hi]; simp
    · have := left_pos hi k (by omega); omega

/-- If something is not listed, something is ready. -/
theorem ready_of {listed : Array Bool} (he : edgesOk ops = true) {i : Nat} (hi : i < ops.size) (hun : listed.getD i true = false) (hall : ∀ j, j < i → listed.getD j false = true) : i ∈ Region.ready .any ops listed := by
  refine mem_ready.2 ⟨hun, ops[i], by simp [hi], fun e hee hb => ?_⟩
  unfold edgesOk at he
  have h1 := List.all_eq_true.1 he i (List.mem_range.2 hi)
  simp only [Array.getElem?_eq_getElem hi, Option.map_some, Option.getD_some] at h1
  have h2 := Array.all_eq_true'.1 h1 e hee
  simp only [hb, Bool.not_true, Bool.false_or, decide_eq_true_eq] at h2
  exact hall _ h2
theorem least_un {listed : Array Bool} {n : Nat} (h : ∃ i, i < n ∧ listed.getD i true = false) : ∃ i, i < n ∧ listed.getD i true = false ∧ ∀ j, j < i → listed.getD j true = true := by
  obtain ⟨i, hi, hun⟩ := h
  induction i using Nat.strongRecOn with
  | _ i ih =>
    by_cases hx : ∃ j, j < i ∧ listed.getD j true = false
    · obtain ⟨j, hj, hj2⟩ := hx
      exact ih j hj (by omega) hj2
    · refine ⟨i, hi, hun, fun j hj => ?_⟩
      cases hb : listed.getD j true with
      | true => rfl
      | false => exact absurd ⟨j, hj, hb⟩ hx
end edges

theorem getD_ft {l : Array Bool} {i : Nat} (hi : i < l.size) : l.getD i false = l.getD i true := by
  simp [hi]
theorem left_eq {listed : Array Bool} {h : Nat} : ∀ k, (∀ j, j < k → listed.getD j true = decide (j < h)) → left listed k = k - h
  | 0, _ => by simp [left]
  | k + 1, hh => by
    simp only [left]
    rw [left_eq k fun j hj => hh j (by omega), hh k (by omega)]
    by_cases hk : k < h
    · simp [hk]; omega
    · simp [hk]; omega

section
variable {P : Program} {w w0 : World} {X : Nat → Prop} {ρ ρ0 : Nat → Loc} {H : AHeap} {e : Env} {a : Act} {n n0 : Nat}

/-- A world whose memory and streams are the same. -/
theorem St.still {w' : World} (hst : St X w0 ρ0 n0 n e H a w) (hs : Same w w') (hh : w'.heap = w.heap) : St X w0 ρ0 n0 n e H a w' := by
  obtain ⟨h2, ρ, h3, h4, h5, h6⟩ := hst
  obtain ⟨g1, g2⟩ := h3.more hs fun b _ => by rw [hh]
  exact ⟨h2, ρ, g1, fun t ht => (h4 t ht).nextN g2, h5.trans g2, h6.fut g2⟩

/-- The frame: what computes out of values alone does so beside any objects. -/
theorem APure.frame {k : FuncId} {args : List AV} {x : AV} (h : APure P k args x) (hc : clL args = true) (H : AHeap) : ACall P k args H fun y H' => y = x ∧ H' = H := by
  refine ⟨h.1, fun X ρ w vs hrel hargs => ?_⟩
  have hno : ∀ (ρ : Nat → Loc) b, ¬ Own ρ 0 b := fun ρ b ⟨r, o, hr, _⟩ => by omega
  have hm : ∀ (ρ' : Nat → Loc) b, Mut (Mut X ρ H.length) ρ' 0 b ↔ Mut X ρ H.length b := fun ρ' b => ⟨fun hb => hb.elim id fun ho => absurd ho (hno _ _), .inl⟩
  refine (h.2 (Mut X ρ H.length) (fun _ => {}) w vs ⟨?_, ?_, ?_, ?_, fun g hg => ⟨fun ⟨r, o, hr, _⟩ => by simp at hr, (hrel.gl g hg).2⟩⟩ ⟨hargs.1, ?_⟩).mono ?_
  · intro r o hr; simp at hr
  · intro r r' b o b' o' hr; simp at hr
  · intro r b o hr; simp at hr
  · intro b hb
    rcases hb with hb | hb
    · exact hrel.xlt b hb
    · exact hb.lt hrel
  · intro i x u hx hu
    have h1 := ((hargs.2 i x u hx hu).of_cl (clL_all hc hx)).closed rfl (fun _ => {}) 0
    exact h1.fut (n0 := 0) (Fut.refl _ _ _) (fun b _ hb hb' => hb ((hm _ b).1 hb')) (fun b _ => hno _ b) (Nat.le_refl _)
  · rintro en w' ⟨v, y, H', ρ', rfl, ⟨rfl, rfl⟩, g1, g2, g3⟩
    have hkeep : ∀ b, b < w.heap.size → w'.heap[b]? = w.heap[b]? := fun b hb => g3.keep b hb (hno _ b)
    obtain ⟨f1, f2⟩ := hrel.more ⟨g3.os, g3.tape, g3.output, g3.size⟩ hkeep
    refine ⟨v, y, H, ρ, rfl, ⟨rfl, rfl⟩, f1, ?_, f2⟩
    have h1 : Rep w' (Mut X ρ H.length) ρ' 0 y v := g2.fut (n0 := 0) (Fut.refl _ _ _) (fun b _ hb hb' => hb ((hm _ b).2 hb')) (fun b _ => hno _ b) (Nat.le_refl _)
    exact h1.closed rfl ρ H.length

theorem aop_mono {op : LOp} {K K' : AV → AHeap → Prop} (h : aop P op e H K) (hK : ∀ x H', K x H' → K' x H') : aop P op e H K' := by
  cases op <;> simp only [aop] at h ⊢ <;> first | exact ⟨h.1, hK _ _ h.2⟩ | exact ⟨h.1, fun b hb => hK _ _ (h.2 b hb)⟩ | skip
  case call f args =>
    unfold acall at h ⊢
    split at h
    · exact ACall.mono h hK
    · exact AYield.mono h hK
    · exact h.elim
  case pick c a b =>
    split at h
    · split at h
      · rename_i hb; rw [if_pos hb]; exact hK _ _ h
      · rename_i hb; rw [if_neg hb]; exact hK _ _ h
    · exact h.elim

theorem aop_of_aopq {op : LOp} {x : AV} (h : aopq P op e H fun y => y = x) : aop P op e H fun y H' => y = x ∧ H' = H := by
  cases op <;> simp only [aopq, aop] at h ⊢ <;> first | exact ⟨h.1, h.2.2, h.2.1⟩ | exact h.elim | skip
  case call f args =>
    split at h
    · rename_i k first caps hf
      obtain ⟨y, h1, h2, rfl⟩ := h
      rw [hf]
      exact h1.frame h2 H
    · exact h.elim
  case pick c a b =>
    split at h
    · split at h
      · rename_i hb; rw [if_pos hb]; exact ⟨h, trivial⟩
      · rename_i hb; rw [if_neg hb]; exact ⟨h, trivial⟩
    · exact h.elim

theorem aopq_ex {op : LOp} {K : AV → Prop} (h : aopq P op e H K) : ∃ x, K x ∧ aopq P op e H fun y => y = x := by
  cases op <;> simp only [aopq] at h ⊢ <;> first | exact ⟨_, h.2.2, h.1, h.2.1, rfl⟩ | exact h.elim | skip
  case call f args =>
    split at h
    · obtain ⟨y, h1, h2, h3⟩ := h
      exact ⟨y, h3, y, h1, h2, rfl⟩
    · exact h.elim
  case pick c a b =>
    split at h
    · split at h
      · rename_i hb; exact ⟨_, h, by rw [if_pos hb]⟩
      · rename_i hb; exact ⟨_, h, by rw [if_neg hb]⟩
    · exact h.elim

theorem ev_congr {e e' : Env} {x : LX} (h : ∀ t ∈ x.rd, e t = e' t) : ev e x = ev e' x := by
  cases x with
  | t n => exact h n (by simp [LX.rd])
  | c _ => rfl
theorem evL_congr {e e' : Env} {l : List LX} (h : ∀ t ∈ rdL l, e t = e' t) : l.map (ev e) = l.map (ev e') :=
  List.map_congr_left fun x hx => ev_congr fun t ht => h t (List.mem_flatMap.2 ⟨x, hx, ht⟩)
theorem evO_congr {e e' : Env} {l : Option LX} (h : ∀ t ∈ rdO l, e t = e' t) : l.map (ev e) = l.map (ev e') := by
  cases l with
  | none => rfl
  | some x => exact congrArg some (ev_congr h)

theorem ares_congr {op : LOp} {e e' : Env} (h : ∀ t ∈ op.rd, e t = e' t) : ares op e H = ares op e' H := by
  cases op <;> simp only [LOp.rd, List.mem_append] at h <;> simp only [ares] <;> first | rfl | (rw [ev_congr h]; done) | (rw [ev_congr fun t ht => h t (.inl ht), ev_congr fun t ht => h t (.inr ht)]; done) | skip
  case build zs ps =>
    congr 1
    exact List.map_congr_left fun p hp => by rw [ev_congr fun t ht => h t (List.mem_flatMap.2 ⟨p, hp, ht⟩)]
  case bsl imm sz len zs ps =>
    congr 1
    exact List.map_congr_left fun p hp => by rw [ev_congr fun t ht => h t (List.mem_flatMap.2 ⟨p, hp, ht⟩)]
  case ins kd m k x => rw [ev_congr fun t ht => h t (.inl (.inl ht)), ev_congr fun t ht => h t (.inl (.inr ht)), ev_congr fun t ht => h t (.inr ht)]
  case mkfn f a b => rw [evL_congr fun t ht => h t (.inl ht), evL_congr fun t ht => h t (.inr ht)]
  case slice lk k x lo hi => rw [ev_congr fun t ht => h t (.inl (.inl ht)), evO_congr fun t ht => h t (.inl (.inr ht)), evO_congr fun t ht => h t (.inr ht)]

theorem aopq_congr {op : LOp} {e e' : Env} {K : AV → Prop} (h : ∀ t ∈ op.rd, e t = e' t) (hk : aopq P op e H K) : aopq P op e' H K := by
  have ha := ares_congr (H := H) h
  cases op <;> simp only [aopq] at hk ⊢ <;> first | (rw [← ha]; exact hk) | exact hk | skip
  case call f args =>
    simp only [LOp.rd, List.mem_append] at h
    rw [← ev_congr fun t ht => h t (.inl ht), ← evL_congr fun t ht => h t (.inr ht)]
    exact hk
  case pick c a b =>
    simp only [LOp.rd, List.mem_append] at h
    rw [← ev_congr fun t ht => h t (.inl (.inl ht)), ← ev_congr fun t ht => h t (.inl (.inr ht)), ← ev_congr fun t ht => h t (.inr ht)]
    exact hk

/-- One operation of a drawn region comes to x. -/
def stepQ (P : Program) (o : LO) (e : Env) (H : AHeap) (x : AV) : Prop :=
  (wantA o.g e = some true ∧ aopq P o.op e H fun y => y = x) ∨ (wantA o.g e = some false ∧ x = undefA)

theorem wantA_congr {g : Option (Nat × Bool)} {e e' : Env} (h : ∀ t want, g = some (t, want) → e t = e' t) : wantA g e = wantA g e' := by
  cases g with
  | none => rfl
  | some p =>
    obtain ⟨t, want⟩ := p
    simp only [wantA]
    rw [h t want rfl]

theorem stepQ_congr {o : LO} {e e' : Env} {x : AV} (h : ∀ t ∈ o.rd, e t = e' t) (hk : stepQ P o e H x) : stepQ P o e' H x := by
  have hg : wantA o.g e = wantA o.g e' := wantA_congr fun t want hg => h t (by simp [LO.rd, hg])
  rcases hk with ⟨h1, h2⟩ | ⟨h1, h2⟩
  · exact .inl ⟨by rw [← hg]; exact h1, aopq_congr (fun t ht => h t (by simp [LO.rd, ht])) h2⟩
  · exact .inr ⟨by rw [← hg]; exact h1, h2⟩

theorem aops_of {o : LO} {l : List LO} {K : Env → AHeap → Prop} (h : (wantA o.g e = some true ∧ aop P o.op e H fun x H' => aops P l (ups e o.d x) H' K) ∨ (wantA o.g e = some false ∧ aops P l (ups e o.d undefA) H K)) : aops P (o :: l) e H K := by
  simp only [aops]
  cases hg : o.g with
  | none =>
    rw [hg] at h
    rcases h with h | h
    · exact h.2
    · simp [wantA] at h
  | some tw =>
    obtain ⟨t, want⟩ := tw
    rw [hg] at h
    simp only [wantA] at h
    cases het : e t with
    | v x =>
      rw [het] at h
      cases x <;> simp only [Option.some.injEq, reduceCtorEq, false_and, or_self, Bool.false_eq_true, false_or, true_and] at h ⊢ <;> first | exact h | skip
      case bool b =>
        have hu : up e t (bool b) = e := up_eq het
        cases b <;> cases want <;> simp [hu, het] at h ⊢ <;> exact h
      case tuple us => rw [het]; exact h
    | _ => rw [het] at h; simp at h

theorem aopsq_cons {o : LO} {l : List LO} {K : Env → Prop} (h : aopsq P (o :: l) e H K) : ∃ x, stepQ P o e H x ∧ aopsq P l (ups e o.d x) H K := by
  have fin : (wantA o.g e = some true ∧ aopq P o.op e H fun x => aopsq P l (ups e o.d x) H K) ∨ (wantA o.g e = some false ∧ aopsq P l (ups e o.d undefA) H K) := by
    simp only [aopsq] at h
    cases hg : o.g with
    | none => rw [hg] at h; exact .inl ⟨rfl, h⟩
    | some tw =>
      obtain ⟨t, want⟩ := tw
      rw [hg] at h
      simp only at h
      cases het : e t with
      | v x =>
        rw [het] at h
        cases x <;> simp only at h <;> first | exact h.elim | skip
        case bool b =>
          have hu : up e t (bool b) = e := up_eq het
          cases b <;> cases want <;> simp only [hu, if_true, Bool.false_eq_true, if_false, wantA, het] at h ⊢ <;> first | exact .inl ⟨rfl, h⟩ | exact .inr ⟨rfl, h⟩
        case tuple us => exact .inr ⟨by simp [wantA, het], h⟩
      | _ => rw [het] at h; exact h.elim
  rcases fin with ⟨h1, h2⟩ | ⟨h1, h2⟩
  · obtain ⟨x, h3, h4⟩ := aopq_ex h2
    exact ⟨x, .inl ⟨h1, h4⟩, h3⟩
  · exact ⟨_, .inr ⟨h1, rfl⟩, h2⟩

/-- The slots after those of the first k operations that D says. -/
def ED (hd : List LO) (xs : Nat → AV) (e : Env) (D : Nat → Bool) : Nat → Env
  | 0 => e
  | k + 1 => if D k = true then ups (ED hd xs e D k) (hd.getD k default).d (xs k) else ED hd xs e D k

theorem ups_ne {d : Option Nat} {x : AV} {t : Nat} (h : d ≠ some t) : ups e d x t = e t := by
  cases d with
  | none => rfl
  | some d => simp only [ups, up]; rw [if_neg fun hh => h (by rw [hh])]
theorem ups_eq {x : AV} {t : Nat} : ups e (some t) x t = x := by simp [ups, up]

variable {hd : List LO} {xs : Nat → AV}

theorem ED_congr {D D' : Nat → Bool} {t : Nat} : ∀ k, (∀ j, j < k → (hd.getD j default).d = some t → D j = D' j) → ED hd xs e D k t = ED hd xs e D' k t
  | 0, _ => rfl
  | k + 1, h => by
    have ih := ED_congr k fun j hj => h j (by omega)
    simp only [ED]
    by_cases hd' : (hd.getD k default).d = some t
    · rw [h k (by omega) hd', hd']
      split
      · rw [ups_eq, ups_eq]
      · exact ih
    · split <;> split <;> simp only [ups_ne hd', ih]
theorem ED_skip {D : Nat → Bool} {t i : Nat} : ∀ k, i ≤ k → (∀ j, i ≤ j → j < k → (hd.getD j default).d = some t → D j = false) → ED hd xs e D k t = ED hd xs e D i t
  | 0, hk, _ => by rw [show i = 0 by omega]
  | k + 1, hk, h => by
    by_cases hik : i = k + 1
    · rw [hik]
    · rw [← ED_skip k (by omega) fun j h1 h2 => h j h1 (by omega)]
      simp only [ED]
      by_cases hd' : (hd.getD k default).d = some t
      · rw [h k (by omega) (by omega) hd']; simp
      · split
        · exact ups_ne hd'
        · rfl

theorem ED_shift {o : LO} {l : List LO} {x : AV} {xs : Nat → AV} : ∀ i, ED (o :: l) (fun i => match i with | 0 => x | i + 1 => xs i) e (fun _ => true) (i + 1) = ED l xs (ups e o.d x) (fun _ => true) i
  | 0 => by simp [ED]
  | i + 1 => by
    have ih := ED_shift (o := o) (l := l) (x := x) (xs := xs) i
    rw [ED, ih]
    simp [ED]

theorem aopsq_chain : ∀ (hd : List LO) {e : Env} {K : Env → Prop}, aopsq P hd e H K → ∃ xs : Nat → AV, K (ED hd xs e (fun _ => true) hd.length) ∧ ∀ i, i < hd.length → stepQ P (hd.getD i default) (ED hd xs e (fun _ => true) i) H (xs i)
  | [], e, K, h => ⟨fun _ => .any, h, fun i hi => by simp at hi⟩
  | o :: l, e, K, h => by
    obtain ⟨x, h1, h2⟩ := aopsq_cons h
    obtain ⟨xs, h3, h4⟩ := aopsq_chain l h2
    refine ⟨fun i => match i with | 0 => x | i + 1 => xs i, ?_, fun i hi => ?_⟩
    · rw [List.length_cons, ED_shift]; exact h3
    · cases i with
      | zero => exact h1
      | succ i =>
        rw [ED_shift]
        exact h4 i (by simpa using hi)

theorem memO_some {t : Nat} {l : List Nat} (h : memO (some t) l = false) : t ∉ l := by simpa [memO] using h

theorem lowHd_get {hs : List Hn} {reg : Nat} {ops : Array Oper} : ∀ (l : List Oper) (i : Nat) (hd : List LO), lowHd P n hs reg ops i l = some hd → hd.length = l.length ∧ ∀ k o, l[k]? = some o → ∃ imm, lowOne P n imm ops o = some (hd.getD k default)
  | [], i, hd, h => by
    simp only [lowHd, Option.some.injEq] at h
    subst h
    exact ⟨rfl, fun k o h => by simp at h⟩
  | o :: l, i, hd, h => by
    unfold lowHd at h
    cases h1 : lowOne P n (hasImm hs reg i) ops o with
    | none => simp [h1] at h
    | some lo =>
      cases h2 : lowHd P n hs reg ops (i + 1) l with
      | none => simp [h1, h2] at h
      | some m =>
        simp only [h1, h2, Option.some.injEq] at h
        subst h
        obtain ⟨g1, g2⟩ := lowHd_get l (i + 1) m h2
        refine ⟨by simp [g1], fun k o' hk => ?_⟩
        cases k with
        | zero => simp at hk; subst hk; exact ⟨_, h1⟩
        | succ k => simpa using g2 k o' (by simpa using hk)

variable {ops : Array Oper}

theorem drawOk_get {hdl : List LO} {h : Nat} (hd : drawOk ops hdl h = true) {i j : Nat} (hj : j < ops.size) (hi : i < j) :
    ((Region.before ops).getD j 0).testBit i = true ∨ (j < h ∧ confl (hdl.getD i default) (hdl.getD j default) = false) := by
  unfold drawOk at hd
  have h1 := List.all_eq_true.1 hd j (List.mem_range.2 hj)
  have h2 := List.all_eq_true.1 h1 i (List.mem_range.2 hi)
  simp only [Bool.or_eq_true, Bool.and_eq_true, decide_eq_true_eq, Bool.not_eq_true'] at h2
  exact h2

theorem tail_sound {r : Option Nat} {m0 : Nat} {hs : List Hn} {reg h : Nat} {K : Env → AHeap → Prop} {Q : Exit → Act → World → Prop} (hE : edgesOk ops = true) (hT : ∀ i j, h ≤ i → i < j → j < ops.size → ((Region.before ops).getD j 0).testBit i = true)
    (hQ : ∀ e' H' a' w', K e' H' → St X w0 ρ0 n0 n e' H' a' w' → Q .normal a' w') :
    ∀ (fuel k : Nat) (los : List LO) (e : Env) (H : AHeap) (a : Act) (w : World) (listed : Array Bool), h ≤ k → fuel + k = ops.size → listed.size = ops.size → (∀ j, j < ops.size → listed.getD j true = decide (j < k)) → Closed ops listed →
      lowOps P n hs reg ops k (ops.toList.drop k) = some los → aops P los e H K → St X w0 ρ0 n0 n e H a w → wpAnyIn (WR r) m0 P .any ops Q fuel listed a w
  | 0, k, los, e, H, a, w, listed, hk, hf, hsz, hl, hc, hlo, h, hst => by
    rw [List.drop_eq_nil_of_le (by simp; omega)] at hlo
    unfold lowOps at hlo
    split at hlo
    · rename_i hg
      simp only [Option.some.injEq] at hlo
      subst hlo
      obtain ⟨e', H', h', hst'⟩ := ghosts_sound (presAt hs reg k) (los := []) hg (by simpa using h) hst
      refine ⟨List.eq_nil_iff_forall_not_mem.2 fun i hi => ?_, hQ _ _ _ _ h' hst'⟩
      obtain ⟨h1, o, h2, _⟩ := mem_ready.1 hi
      have h3 := (Array.getElem?_eq_some_iff.1 h2).1
      rw [hl i h3] at h1
      simp at h1
      omega
    · cases hlo
  | fuel + 1, k, los, e, H, a, w, listed, hk, hf, hsz, hl, hc, hlo, h, hst => by
    have hks : k < ops.size := by omega
    rw [List.drop_eq_getElem_cons (by simpa using hks)] at hlo
    have hop : ops[k]? = some (ops.toList[k]'(by simpa using hks)) := by simp [hks]
    generalize ops.toList[k]'(by simpa using hks) = o at hlo hop
    unfold lowOps at hlo
    cases h1 : lowOne P n (hasImm hs reg k) ops o with
    | none => simp [h1] at hlo
    | some lo =>
      cases h2 : lowOps P n hs reg ops (k + 1) (ops.toList.drop (k + 1)) with
      | none => simp [h1, h2] at hlo
      | some m =>
        simp only [h1, h2] at hlo
        split at hlo
        · rename_i hg
          simp only [Option.some.injEq] at hlo
          subst hlo
          obtain ⟨e', H', h', hst'⟩ := ghosts_sound (presAt hs reg k) hg h hst
          have hkr : k ∈ Region.ready .any ops listed := ready_of hE hks (by rw [hl k hks]; simp) fun j hj => by rw [getD_ft (by omega), hl j (by omega)]; simpa using hj
          refine ⟨fun h0 => by rw [h0] at hkr; simp at hkr, fun i hi => ?_⟩
          have hik : i = k := by
            obtain ⟨g1, oi, g2, g3⟩ := mem_ready.1 hi
            have g4 := (Array.getElem?_eq_some_iff.1 g2).1
            rw [hl i g4] at g1
            simp only [decide_eq_false_iff_not, Nat.not_lt] at g1
            rcases Nat.lt_or_ge k i with g5 | g5
            · have := closed_before hc i oi k g2 (hT k i hk g5 g4) g3
              rw [getD_ft (by omega), hl k hks] at this
              simp at this
            · omega
          subst hik
          have hnx := op_step (r := r) (m0 := m0) h1 h' hst' (next := wpAnyIn (WR r) m0 P .any ops Q fuel (listed.setIfInBounds i true)) (Q := Q) fun e'' H'' a'' w'' hK hs'' =>
            tail_sound hE hT hQ fuel (i + 1) m e'' H'' a'' w'' (listed.setIfInBounds i true) (by omega) (by omega) (by simpa using hsz) (fun j hj => by
              rw [set_get]
              by_cases hji : j = i
              · rw [if_pos ⟨hji, by omega⟩]; simp; omega
              · rw [if_neg fun hh => hji hh.1, hl j hj]
                have : (j < i) = (j < i + 1) := by simp; omega
                simp only [this]) (hc.set hi) h2 hK hs''
          unfold wpOpIn
          rw [hop]
          simp only
          exact hnx
        · cases hlo

theorem conflF {a b : LO} (h : confl a b = false) : (∀ t, a.d = some t → t ∉ b.rd) ∧ (∀ t, b.d = some t → t ∉ a.rd) ∧ ∀ t, a.d = some t → b.d ≠ some t := by
  simp only [confl, Bool.or_eq_false_iff] at h
  refine ⟨fun t ht => memO_some (by rw [← ht]; exact h.1.1), fun t ht => memO_some (by rw [← ht]; exact h.1.2), fun t ht ht' => ?_⟩
  have := h.2
  rw [ht, ht'] at this
  simp at this

theorem drawOk_tail {hdl : List LO} {h : Nat} (hd : drawOk ops hdl h = true) : ∀ i j, h ≤ i → i < j → j < ops.size → ((Region.before ops).getD j 0).testBit i = true := fun i j h1 h2 h3 => by
  rcases drawOk_get hd h3 h2 with g | g
  · exact g
  · omega

theorem head_sound {r : Option Nat} {m0 : Nat} {hs : List Hn} {reg h : Nat} {tl : List LO} {K : Env → AHeap → Prop} {Q : Exit → Act → World → Prop} (hE : edgesOk ops = true) (hD : drawOk ops hd h = true) (hh : h ≤ ops.size)
    (hlen : hd.length = h) (hget : ∀ k o, k < h → ops[k]? = some o → ∃ imm, lowOne P n imm ops o = some (hd.getD k default)) (hx : ∀ i, i < h → stepQ P (hd.getD i default) (ED hd xs e (fun _ => true) i) H (xs i))
    (htl : lowOps P n hs reg ops h (ops.toList.drop h) = some tl) (hK : aops P tl (ED hd xs e (fun _ => true) h) H K)
    (hQ : ∀ e' H' a' w', K e' H' → St X w0 ρ0 n0 n e' H' a' w' → Q .normal a' w') :
    ∀ (fuel : Nat) (a : Act) (w : World) (listed : Array Bool), fuel = left listed ops.size → listed.size = ops.size → (∀ j, h ≤ j → j < ops.size → listed.getD j true = false) → Closed ops listed →
      St X w0 ρ0 n0 n (ED hd xs e (fun j => listed.getD j false) h) H a w → wpAnyIn (WR r) m0 P .any ops Q fuel listed a w := by
  intro fuel
  induction fuel with
  | zero =>
    intro a w listed hf hsz ht hc hst
    have hall : ∀ j, j < ops.size → listed.getD j true = decide (j < h) := by
      intro j hj
      by_cases hjh : j < h
      · cases hb : listed.getD j true with
        | true => simp [hjh]
        | false => have := left_pos hb ops.size hj; omega
      · rw [ht j (by omega) hj]; simp [hjh]
    have hE' : ED hd xs e (fun j => listed.getD j false) h = ED hd xs e (fun _ => true) h := by
      funext t
      exact ED_congr h fun j hj _ => by rw [getD_ft (by omega), hall j (by omega)]; simpa using hj
    rw [hE'] at hst
    have h0 := left_eq ops.size hall
    exact tail_sound hE (drawOk_tail hD) hQ 0 h tl _ H a w listed (Nat.le_refl _) (by omega) hsz hall hc htl hK hst
  | succ fuel ih =>
    intro a w listed hf hsz ht hc hst
    by_cases hfull : ∀ j, j < h → listed.getD j true = true
    · have hall : ∀ j, j < ops.size → listed.getD j true = decide (j < h) := by
        intro j hj
        by_cases hjh : j < h
        · rw [hfull j hjh]; simp [hjh]
        · rw [ht j (by omega) hj]; simp [hjh]
      have hE' : ED hd xs e (fun j => listed.getD j false) h = ED hd xs e (fun _ => true) h := by
        funext t
        exact ED_congr h fun j hj _ => by rw [getD_ft (by omega), hall j (by omega)]; simpa using hj
      rw [hE'] at hst
      have h0 := left_eq ops.size hall
      exact tail_sound hE (drawOk_tail hD) hQ (fuel + 1) h tl _ H a w listed (Nat.le_refl _) (by omega) hsz hall hc htl hK hst
    · have hun : ∃ i, i < h ∧ listed.getD i true = false := by
        refine Classical.byContradiction fun hno => hfull fun j hj => ?_
        cases hb : listed.getD j true with
        | true => rfl
        | false => exact absurd ⟨j, hj, hb⟩ hno
      obtain ⟨i0, hi0, hi0u, hi0l⟩ := least_un hun
      have hr0 : i0 ∈ Region.ready .any ops listed := ready_of hE (by omega) hi0u fun j hj => by rw [getD_ft (by omega)]; exact hi0l j hj
      refine ⟨fun h0 => by rw [h0] at hr0; simp at hr0, fun i hi => ?_⟩
      obtain ⟨hiu, oi, hoi, hiall⟩ := mem_ready.1 hi
      have his : i < ops.size := (Array.getElem?_eq_some_iff.1 hoi).1
      have hih : i < h := by
        refine Classical.byContradiction fun hge => ?_
        rcases drawOk_get hD (i := i0) his (by omega) with g6 | g6
        · have := closed_before hc i oi i0 hoi g6 hiall
          rw [getD_ft (by omega), hi0u] at this
          cases this
        · omega
      have hidf : listed.getD i false = false := by rw [getD_ft (by omega)]; exact hiu
      -- what comes before it in the text and meets it, is listed; what comes behind it, is not
      have hbef : ∀ j, j < i → confl (hd.getD j default) (hd.getD i default) = true → listed.getD j false = true := by
        intro j hj hcf
        rcases drawOk_get hD his hj with g6 | g6
        · exact closed_before hc i oi j hoi g6 hiall
        · rw [g6.2] at hcf; cases hcf
      have hbeh : ∀ j, i < j → j < h → confl (hd.getD i default) (hd.getD j default) = true → listed.getD j false = false := by
        intro j hj hjh hcf
        rcases drawOk_get hD (show j < ops.size by omega) hj with g6 | g6
        · cases hb : listed.getD j false with
          | false => rfl
          | true =>
            obtain ⟨oj, hoj⟩ : ∃ oj, ops[j]? = some oj := ⟨ops[j]'(by omega), by simp [show j < ops.size by omega]⟩
            have := closed_before hc j oj i hoj g6 (hc j oj hoj hb)
            rw [hidf] at this
            cases this
        · rw [g6.2] at hcf; cases hcf
      have hcf1 : ∀ a b : LO, ∀ t, a.d = some t → t ∈ b.rd → confl a b = true := by
        intro a b t h1 h2
        cases hb : confl a b with
        | true => rfl
        | false => exact absurd h2 ((conflF hb).1 t h1)
      have hcf2 : ∀ a b : LO, ∀ t, b.d = some t → t ∈ a.rd → confl a b = true := by
        intro a b t h1 h2
        cases hb : confl a b with
        | true => rfl
        | false => exact absurd h2 ((conflF hb).2.1 t h1)
      have hcf3 : ∀ a b : LO, ∀ t, a.d = some t → b.d = some t → confl a b = true := by
        intro a b t h1 h2
        cases hb : confl a b with
        | true => rfl
        | false => exact absurd h2 ((conflF hb).2.2 t h1)
      have hA : ∀ t ∈ (hd.getD i default).rd, ED hd xs e (fun _ => true) i t = ED hd xs e (fun j => listed.getD j false) h t := by
        intro t htr
        rw [ED_skip (i := i) h (by omega) fun j h1 h2 h3 => by
          by_cases hji : j = i
          · rw [hji]; exact hidf
          · exact hbeh j (by omega) h2 (hcf2 _ _ t h3 htr)]
        exact ED_congr i fun j h1 h2 => (hbef j h1 (hcf1 _ _ t h2 htr)).symm
      have hB : ups (ED hd xs e (fun j => listed.getD j false) h) (hd.getD i default).d (xs i) = ED hd xs e (fun j => (listed.setIfInBounds i true).getD j false) h := by
        funext t
        by_cases hdt : (hd.getD i default).d = some t
        · rw [ED_skip (i := i + 1) h (by omega) fun j h1 h2 h3 => by
            rw [set_get, if_neg (by omega)]
            exact hbeh j (by omega) h2 (hcf3 _ _ t hdt h3)]
          rw [hdt, ups_eq]
          have hset : (listed.setIfInBounds i true).getD i false = true := by rw [set_get, if_pos ⟨rfl, by omega⟩]
          simp only [ED]
          rw [if_pos hset, hdt, ups_eq]
        · rw [ups_ne hdt]
          exact ED_congr h fun j h1 h2 => by
            rw [set_get, if_neg]
            rintro ⟨rfl, _⟩
            exact hdt h2
      have hstep := stepQ_congr hA (hx i hih)
      obtain ⟨imm, hlow⟩ := hget i oi hih hoi
      have hone : aops P [hd.getD i default] (ED hd xs e (fun j => listed.getD j false) h) H fun e' H' => e' = ED hd xs e (fun j => (listed.setIfInBounds i true).getD j false) h ∧ H' = H := by
        refine aops_of ?_
        rcases hstep with ⟨g1, g2⟩ | ⟨g1, g2⟩
        · refine .inl ⟨g1, ?_⟩
          have := aop_of_aopq g2
          simp only [aops]
          refine aop_mono this ?_
          rintro y H' ⟨rfl, rfl⟩
          exact ⟨hB, rfl⟩
        · refine .inr ⟨g1, ?_⟩
          rw [← g2]
          exact ⟨hB, rfl⟩
      have hnx := op_step (r := r) (m0 := m0) hlow hone hst (next := wpAnyIn (WR r) m0 P .any ops Q fuel (listed.setIfInBounds i true)) (Q := Q) fun e'' H'' a'' w'' hK'' hs'' => by
        obtain ⟨rfl, rfl⟩ := hK''
        refine ih a'' w'' _ ?_ (by simpa using hsz) (fun j h1 h2 => by rw [set_get, if_neg (by omega)]; exact ht j h1 h2) (hc.set hi) hs''
        have := left_set hiu ops.size
        rw [if_pos his] at this
        omega
      unfold wpOpIn
      rw [hoi]
      simp only
      exact hnx

theorem draw_sound {r : Option Nat} {m0 : Nat} {hs : List Hn} {id h : Nat} {tl : List LO} {K : Env → AHeap → Prop} {Q : Exit → Act → World → Prop} (hhd : lowHd P n hs id ops 0 (ops.toList.take h) = some hd) (htl : lowOps P n hs id ops h (ops.toList.drop h) = some tl)
    (hD : drawOk ops hd h = true) (hE : edgesOk ops = true) (hm : P.follows .mixedOrders = true) (hh : h ≤ ops.size) (hK : aopsq P hd e H fun e' => aops P tl e' H K) (hst : St X w0 ρ0 n0 n e H a w)
    (hQ : ∀ e' H' a' w', K e' H' → St X w0 ρ0 n0 n e' H' a' w' → Q .normal a' w') : wpAnyIn (WR r) m0 P .any ops Q ops.size (Array.replicate ops.size false) a { w with drawn := w.drawn + 1 } := by
  obtain ⟨g1, g2⟩ := lowHd_get _ _ _ hhd
  have hlen : hd.length = h := by rw [g1]; simp; omega
  obtain ⟨xs, g3, g4⟩ := aopsq_chain hd hK
  rw [hlen] at g3 g4
  have h0 : ∀ j, (Array.replicate ops.size false).getD j false = false := fun j => getD_replicate_false _ _
  have h1 : ∀ j, j < ops.size → (Array.replicate ops.size false).getD j true = false := fun j hj => by rw [← getD_ft (by simpa using hj)]; exact h0 j
  refine head_sound hE hD hh hlen (fun k o hk ho => g2 k o ?_) g4 htl g3 hQ ops.size a _ _ ?_ (by simp) (fun j _ hj => h1 j hj) ?_ ?_
  · rw [List.getElem?_take, if_pos hk]; simpa using ho
  · have := left_eq (listed := Array.replicate ops.size false) (h := 0) ops.size fun j hj => by rw [h1 j hj]; simp
    omega
  · intro j oj hj hl
    rw [h0 j] at hl
    cases hl
  · have : ED hd xs e (fun j => (Array.replicate ops.size false).getD j false) h = e := by
      funext t
      rw [ED_skip (i := 0) h (Nat.zero_le _) fun j _ _ _ => h0 j]
      rfl
    rw [this]
    exact hst.still ⟨rfl, rfl, rfl, Nat.le_refl _⟩ rfl
end
end Go.Ax

/- A drawn order in which an operation that makes memory may come early. -/
namespace Go.Ax
open Go Go.RowKit
set_option linter.unusedSimpArgs false
set_option linter.unusedVariables false

section
variable {P : Program} {w w0 : World} {X : Nat → Prop} {ρ ρ0 : Nat → Loc} {H H' ext : AHeap} {e : Env} {a : Act} {n n0 : Nat}

/-- The same but for the objects. -/
def Res.at (r : Res) (H : AHeap) : Res := ⟨r.ok, r.x, H⟩

theorem iBin_at (op : BinOp) (k k' : IntKind) (a b : Int) : iBin op k k' a b H' = (iBin op k k' a b H).at H' := by cases op <;> rfl
theorem sBin_at (op : BinOp) (a b : List UInt8) : sBin op a b H' = (sBin op a b H).at H' := by cases op <;> rfl
theorem eqRes_at (op : BinOp) (p : Prop) (b : Bool) : eqRes op p b H' = (eqRes op p b H).at H' := by cases op <;> rfl
theorem rBin_at (kd : KD) (op : BinOp) (x y : AV) : rBin kd op x y H' = (rBin kd op x y H).at H' := by
  unfold rBin
  split
  · exact iBin_at _ _ _ _ _
  · exact sBin_at _ _ _
  · exact eqRes_at _ _ _
  · cases kd <;> first | rfl | exact eqRes_at _ _ _
  · exact eqRes_at _ _ _
  · exact eqRes_at _ _ _
  · rfl
theorem rNot_at (x : AV) : rNot x H' = (rNot x H).at H' := by unfold rNot; split <;> rfl
theorem rNeg_at (x : AV) : rNeg x H' = (rNeg x H).at H' := by unfold rNeg; split <;> rfl
theorem rFld_at (ag : Bool) (o k : Nat) (x : AV) : rFld ag o k x H' = (rFld ag o k x H).at H' := by unfold rFld; split <;> rfl
theorem rIdx_at (x i : AV) : rIdx x i H' = (rIdx x i H).at H' := by unfold rIdx; split <;> rfl
theorem rExt_at (x : AV) (i : Nat) : rExt x i H' = (rExt x i H).at H' := by unfold rExt; split <;> rfl
theorem rMin_at (x y : AV) : rMin x y H' = (rMin x y H).at H' := by unfold rMin; split <;> rfl
theorem rMax_at (x y : AV) : rMax x y H' = (rMax x y H).at H' := by unfold rMax; split <;> rfl
theorem rIaddrV_at (sz : Nat) (x i : AV) : rIaddrV sz x i H' = (rIaddrV sz x i H).at H' := by
  unfold rIaddrV rIaddr
  split
  · split
    · rfl
    · rename_i h; cases h
    · rfl
  · rfl
theorem rBuild_at (zs : List AV) (ps : List (Nat × Nat × AV)) : rBuild zs ps H' = (rBuild zs ps H).at H' := rfl
theorem rBox_at (x : AV) : rBox true x H' = (rBox true x H).at H' := rfl
theorem rBsl_at (sz len : Nat) (zs : List AV) (ps : List (Nat × AV)) : rBsl true sz len zs ps H' = (rBsl true sz len zs ps H).at H' := rfl

theorem get_app {r : Nat} {o : HO} (h : H[r]? = some o) : (H ++ ext)[r]? = some o := by
  rw [List.getElem?_append_left (List.getElem?_eq_some_iff.1 h).1]; exact h
theorem isVer_app {ver r : Nat} (h : isVer ver H[r]?) : (H ++ ext)[r]? = H[r]? := by
  cases hh : H[r]? with
  | none => rw [hh] at h; exact h.elim
  | some o => exact get_app hh
theorem isArr_app {r : Nat} (h : isArr H[r]?) : (H ++ ext)[r]? = H[r]? := by
  cases hh : H[r]? with
  | none => rw [hh] at h; exact h.elim
  | some o => exact get_app hh
theorem isBox_app {r : Nat} (h : isBox H[r]?) : (H ++ ext)[r]? = H[r]? := by
  cases hh : H[r]? with
  | none => rw [hh] at h; exact h.elim
  | some o => exact get_app hh

/-- As it was, in more memory. -/
def More (r r' : Res) (H H' : AHeap) : Prop := r'.ok ∧ r'.x = r.x ∧ (r.H = H → r'.H = H')
theorem More.of_at {r r' : Res} (h : r' = r.at H') (hok : r.ok) : More r r' H H' := by subst h; exact ⟨hok, rfl, fun _ => rfl⟩

theorem rLoadO_at (ag : Bool) (k i off : Nat) (o : Option HO) : rLoadO ag k i off H' o = (rLoadO ag k i off H o).at H' := by unfold rLoadO; split <;> rfl
theorem rLoad_more {ag : Bool} {k : Nat} {p : AV} (h : (rLoad ag k p H).ok) : More (rLoad ag k p H) (rLoad ag k p (H ++ ext)) H (H ++ ext) := by
  cases p <;> simp only [rLoad] at h ⊢ <;> first | exact h.elim | skip
  case vp => exact ⟨h, rfl, fun _ => rfl⟩
  case ptr r ver off => rw [isVer_app h.1.2]; exact .of_at (by rw [rLoadO_at (H := H)]; rfl) h
  case pe r ver i off => rw [isVer_app h.1.2]; exact .of_at (by rw [rLoadO_at (H := H)]; rfl) h
theorem rLoadB_more {ag : Bool} {k : Nat} {p : AV} (h : (rLoadB ag k p H).ok) : More (rLoadB ag k p H) (rLoadB ag k p (H ++ ext)) H (H ++ ext) := by
  cases p <;> first | exact h.elim | exact rLoad_more h
theorem rNil_more {x : AV} (h : (rNil x H).ok) : More (rNil x H) (rNil x (H ++ ext)) H (H ++ ext) := by
  cases x <;> simp only [rNil] at h ⊢ <;> first | exact h.elim | exact ⟨h, rfl, fun _ => rfl⟩ | skip
  case fn f a b => cases f <;> simp only [rNil] at h ⊢ <;> first | exact h.elim | exact ⟨h, rfl, fun _ => rfl⟩
  case ptr r ver off => rw [isVer_app h]; exact ⟨h, rfl, fun _ => rfl⟩
  case pe r ver i off => rw [isVer_app h]; exact ⟨h, rfl, fun _ => rfl⟩
theorem szOk_app {sz : Nat} {x : AV} (h : szOk H sz x) : szOk (H ++ ext) sz x ∧ rowsOf (H ++ ext) x = rowsOf H x := by
  cases x
  case os r ver off len =>
    simp only [szOk] at h ⊢
    split at h
    · rename_i v s xs hh
      rw [get_app hh]
      exact ⟨h, by simp only [rowsOf, osRows, hh, get_app (ext := ext) hh]⟩
    · exact h.elim
  case v u =>
    cases u <;> first | exact ⟨h, rfl⟩ | skip
    case slice a l c => cases a <;> cases l <;> cases c <;> first | exact ⟨h, rfl⟩ | exact h.elim
  all_goals exact ⟨h, rfl⟩
theorem rConv_more {c : Cv} {x : AV} (h : (rConv c x H).ok) : More (rConv c x H) (rConv c x (H ++ ext)) H (H ++ ext) := by
  have hno : ∀ {r : Res}, r = .no H → r.ok → False := fun h1 h2 => by rw [h1] at h2; exact h2
  have hb : ∀ y : AV, szOk H 1 y ∧ ((rowsOf H y).bind rowBytes).isSome = true → szOk (H ++ ext) 1 y ∧ ((rowsOf (H ++ ext) y).bind rowBytes).isSome = true := fun y hy => by
    have := szOk_app (ext := ext) hy.1
    exact ⟨this.1, by rw [this.2]; exact hy.2⟩
  have hs : ∀ y : AV, szOk H 1 y → (rowsOf (H ++ ext) y) = rowsOf H y := fun y hy => (szOk_app hy).2
  cases c <;> cases x <;> simp only [rConv] at h ⊢ <;> first
    | exact h.elim
    | exact ⟨h, rfl, fun _ => rfl⟩
    | exact ⟨hb _ h, by rw [hs _ h.1], fun _ => rfl⟩
    | skip
  case sameB.os => rw [isArr_app h.2.1]; exact ⟨h, rfl, fun _ => rfl⟩
  all_goals
    rename_i u
    cases u <;> simp only [rConv] at h ⊢ <;> first
      | exact h.elim
      | exact ⟨h, rfl, fun _ => rfl⟩
      | exact ⟨hb _ h, by rw [hs _ h.1], fun _ => rfl⟩
theorem rSlice_more {lk : LK} {k : Nat} {x : AV} {lo hi : Option AV} (h : (rSlice lk k x lo hi H).ok) : More (rSlice lk k x lo hi H) (rSlice lk k x lo hi (H ++ ext)) H (H ++ ext) := by
  obtain ⟨⟨h1, h2⟩, h3⟩ := h
  have h2' := (szOk_app (ext := ext) h2).1
  have h4 : More (rSliceN x (bnd 0 lo) (bnd ((lenOf x).getD 0) hi) H) (rSliceN x (bnd 0 lo) (bnd ((lenOf x).getD 0) hi) (H ++ ext)) H (H ++ ext) := by
    unfold rSliceN at h3 ⊢
    split at h3
    · exact ⟨h3, rfl, fun _ => rfl⟩
    · exact ⟨h3, rfl, fun _ => rfl⟩
    · rw [isArr_app h3.2.2.2.1]; exact ⟨h3, rfl, fun _ => rfl⟩
    · exact ⟨h3, rfl, fun _ => rfl⟩
    · exact h3.elim
  exact ⟨⟨⟨h1, h2'⟩, h4.1⟩, h4.2.1, h4.2.2⟩
theorem rFaddr_more {k : Nat} {p : AV} (h : (rFaddr k p H).ok) : More (rFaddr k p H) (rFaddr k p (H ++ ext)) H (H ++ ext) := by
  cases p <;> simp only [rFaddr] at h ⊢ <;> first | exact h.elim | exact ⟨h, rfl, fun _ => rfl⟩ | skip
  case ptr r ver off => rw [isVer_app h.2]; exact ⟨h, rfl, fun _ => rfl⟩
  case pe r ver i off => rw [isVer_app h.2]; exact ⟨h, rfl, fun _ => rfl⟩
theorem rFaddrB_more {k : Nat} {p : AV} (h : (rFaddrB k p H).ok) : More (rFaddrB k p H) (rFaddrB k p (H ++ ext)) H (H ++ ext) := by
  cases p <;> first | exact h.elim | exact rFaddr_more h
theorem rIaddr_more {sz : Nat} {x i : AV} (h : (rIaddr sz x i H).ok) : More (rIaddr sz x i H) (rIaddr sz x i (H ++ ext)) H (H ++ ext) := by
  unfold rIaddr at h ⊢
  split at h
  · exact ⟨h, rfl, fun _ => rfl⟩
  · rw [isVer_app h.2.2.2]
    exact ⟨⟨h.1, h.2.1, (szOk_app h.2.2.1).1, h.2.2.2⟩, rfl, fun _ => rfl⟩
  · exact h.elim
theorem rLookN_at (kd : KD) (z : AV) (ok : Bool) (k : Value) (ks : List Value) (vs : List AV) : rLookN kd z ok k ks vs H' = (rLookN kd z ok k ks vs H).at H' := rfl
theorem rLook_more {kd : KD} {z : AV} {ok : Bool} {m k : AV} (h : (rLook kd z ok m k H).ok) : More (rLook kd z ok m k H) (rLook kd z ok m k (H ++ ext)) H (H ++ ext) := by
  unfold rLook at h ⊢
  split at h
  · exact ⟨h, rfl, fun _ => rfl⟩
  · split at h
    · rename_i hh
      rw [get_app hh]
      exact ⟨h, rfl, fun _ => rfl⟩
    · exact h.elim
  · exact h.elim
theorem rLen_more {lk : LK} {x : AV} (h : (rLen lk x H).ok) : More (rLen lk x H) (rLen lk x (H ++ ext)) H (H ++ ext) := by
  obtain ⟨h1, h2⟩ := h
  refine ⟨⟨h1, ?_⟩, rfl, fun _ => rfl⟩
  cases x <;> first | exact h2 | skip
  case os r ver off len => simp only [verOk] at h2 ⊢; rw [isArr_app h2.1]; exact h2

theorem quiet_more {op : LOp} (hq : quietK op = true) (h : (ares op e H).ok) : More (ares op e H) (ares op e (H ++ ext)) H (H ++ ext) := by
  cases op <;> simp only [quietK] at hq <;> simp only [ares] at h ⊢ <;> first
    | exact (Bool.false_ne_true hq).elim
    | exact h.elim
    | exact ⟨h, rfl, fun _ => rfl⟩
    | exact .of_at (rBin_at ..) h
    | exact .of_at (rNot_at ..) h
    | exact .of_at (rNeg_at ..) h
    | exact .of_at (rFld_at ..) h
    | exact .of_at (rIdx_at ..) h
    | exact .of_at (rExt_at ..) h
    | exact .of_at (rMin_at ..) h
    | exact .of_at (rMax_at ..) h
    | exact rLoad_more h
    | exact rLoadB_more h
    | exact rNil_more h
    | exact rConv_more h
    | exact rSlice_more h
    | exact rFaddr_more h
    | exact rFaddrB_more h
    | exact rIaddr_more h
    | exact .of_at (rIaddrV_at ..) h
    | exact rLook_more h
    | exact rLen_more h
    | skip
  case box imm x => rw [hq] at h ⊢; exact .of_at (rBox_at ..) h
  case bsl imm sz len zs ps => rw [hq] at h ⊢; exact .of_at (rBsl_at ..) h

theorem heapless_at {op : LOp} (hq : heapless op = true) (hc : ∀ f args, op ≠ .call f args) (hp : ∀ c x y, op ≠ .pick c x y) : ares op e H' = (ares op e H).at H' := by
  cases op <;> simp only [heapless] at hq <;> simp only [ares] <;> first
    | exact (Bool.false_ne_true hq).elim
    | rfl
    | exact rBin_at ..
    | exact rNot_at ..
    | exact rNeg_at ..
    | exact rFld_at ..
    | exact rIdx_at ..
    | exact rExt_at ..
    | exact rMin_at ..
    | exact rMax_at ..
    | exact absurd rfl (hc _ _)
    | exact absurd rfl (hp _ _ _)
    | exact rIaddrV_at ..
    | (subst hq; exact rBox_at ..)
    | (subst hq; exact rBsl_at ..)

theorem fresh_ext {op : LOp} (hq : fresh op = true) : ∃ ext, (ares op e H).H = H ++ ext := by
  cases op <;> simp only [fresh, Bool.not_eq_true'] at hq <;> simp only [ares] <;> first
    | exact (Bool.false_ne_true hq).elim
    | exact ⟨_, rfl⟩
    | skip
  case box imm x => rw [hq]; exact ⟨_, rfl⟩
  case bsl imm sz len zs ps => rw [hq]; exact ⟨_, rfl⟩
  case msl sz bytes zs len cap =>
    unfold rMsl
    split
    · exact ⟨_, rfl⟩
    · exact ⟨[], by simp [Res.no]⟩

theorem aopq_more {op : LOp} {x : AV} (hq : quietK op = true) (h : aopq P op e H fun y => y = x) : aopq P op e (H ++ ext) fun y => y = x := by
  have hh : ∀ (op : LOp), quietK op = true → ((ares op e H).ok ∧ (ares op e H).H = H ∧ (ares op e H).x = x) → ((ares op e (H ++ ext)).ok ∧ (ares op e (H ++ ext)).H = H ++ ext ∧ (ares op e (H ++ ext)).x = x) := fun op hq ⟨h1, h2, h3⟩ => by
    obtain ⟨g1, g2, g3⟩ := quiet_more (ext := ext) hq h1
    exact ⟨g1, g3 h2, g2.trans h3⟩
  cases op <;> simp only [aopq] at h ⊢ <;> first | exact h | exact hh _ hq h
theorem aopq_at {op : LOp} {x : AV} (hq : heapless op = true) (h : aopq P op e H fun y => y = x) : aopq P op e H' fun y => y = x := by
  have hh : ∀ (op : LOp), heapless op = true → (∀ f args, op ≠ .call f args) → (∀ c x y, op ≠ .pick c x y) → ((ares op e H).ok ∧ (ares op e H).H = H ∧ (ares op e H).x = x) → ((ares op e H').ok ∧ (ares op e H').H = H' ∧ (ares op e H').x = x) := fun op hq hc hp ⟨h1, h2, h3⟩ => by
    rw [heapless_at (H := H) hq hc hp]
    exact ⟨h1, rfl, h3⟩
  cases op <;> simp only [aopq] at h ⊢ <;> first | exact h | exact hh _ hq (by simp) (by simp) h

theorem stepQ_more {o : LO} {x : AV} (hq : quietK o.op = true) (h : stepQ P o e H x) : stepQ P o e (H ++ ext) x := by
  rcases h with ⟨h1, h2⟩ | h
  · exact .inl ⟨h1, aopq_more hq h2⟩
  · exact .inr h
theorem stepQ_at {o : LO} {x : AV} (hq : heapless o.op = true) (h : stepQ P o e H x) : stepQ P o e H' x := by
  rcases h with ⟨h1, h2⟩ | h
  · exact .inl ⟨h1, aopq_at hq h2⟩
  · exact .inr h

/-- Writes behind one another. -/
def wr : List (Option Nat × AV) → Env → Env
  | [], e => e
  | (d, x) :: l, e => wr l (ups e d x)
theorem wr_snoc : ∀ (l : List (Option Nat × AV)) (e : Env) (d : Option Nat) (x : AV), wr (l ++ [(d, x)]) e = ups (wr l e) d x
  | [], _, _, _ => rfl
  | (d', x') :: l, e, d, x => wr_snoc l (ups e d' x') d x
theorem wr_ne {t : Nat} : ∀ (l : List (Option Nat × AV)) (e : Env), (∀ x, (some t, x) ∉ l) → wr l e t = e t
  | [], _, _ => rfl
  | (d, x) :: l, e, h => by
    rw [wr, wr_ne l _ fun y hy => h y (List.mem_cons_of_mem _ hy), ups_ne]
    intro hd; exact h x (by rw [hd]; exact List.mem_cons_self)
theorem ups_comm {d d' : Option Nat} {x x' : AV} (h : ∀ t, d = some t → d' ≠ some t) : ups (ups e d x) d' x' = ups (ups e d' x') d x := by
  funext t
  cases d with
  | none => rfl
  | some a =>
    cases d' with
    | none => rfl
    | some b =>
      have hab : a ≠ b := fun hh => h a rfl (by rw [hh])
      simp only [ups, up]
      by_cases h1 : t = b
      · rw [if_pos h1, if_neg (by omega), if_pos h1]
      · rw [if_neg h1, if_neg h1]
theorem wr_ups {d : Option Nat} {y : AV} : ∀ (l : List (Option Nat × AV)) (e : Env), (∀ t, d = some t → ∀ x, (some t, x) ∉ l) → ups (wr l e) d y = wr l (ups e d y)
  | [], _, _ => rfl
  | (d', x) :: l, e, h => by
    rw [wr, wr, wr_ups l _ fun t ht z hz => h t ht z (List.mem_cons_of_mem _ hz), ups_comm]
    intro t ht hd
    exact h t hd x (by rw [ht]; exact List.mem_cons_self)

theorem aop_congr {op : LOp} {e e' : Env} {K : AV → AHeap → Prop} (h : ∀ t ∈ op.rd, e t = e' t) (hk : aop P op e H K) : aop P op e' H K := by
  have ha := ares_congr (H := H) h
  cases op <;> simp only [aop] at hk ⊢ <;> first | (rw [← ha]; exact hk) | exact hk | skip
  case call f args =>
    simp only [LOp.rd, List.mem_append] at h
    rw [← ev_congr fun t ht => h t (.inl ht), ← evL_congr fun t ht => h t (.inr ht)]
    exact hk
  case pick c a b =>
    simp only [LOp.rd, List.mem_append] at h
    rw [← ev_congr fun t ht => h t (.inl (.inl ht)), ← ev_congr fun t ht => h t (.inl (.inr ht)), ← ev_congr fun t ht => h t (.inr ht)]
    exact hk
  case isnil neg x =>
    rw [← ev_congr h]
    exact hk

variable {ops : Array Oper} {hd : List LO} {xs : Nat → AV}

/-- What may be unordered. -/
def Pr (P : Program) (n : Nat) (hs : List Hn) (reg : Nat) (ops : Array Oper) (hd : List LO) (h p1 p2 : Nat) : Prop := ∀ i j, j < ops.size → i < j →
  ((Region.before ops).getD j 0).testBit i = true ∨ (j < h ∧ confl (hd.getD i default) (hd.getD j default) = false) ∨
    (i < h ∧ h ≤ j ∧ presAt hs reg j = [] ∧ quietK (hd.getD i default).op = true ∧ confl (hd.getD i default) (tlAt P n hs reg ops j) = false ∧ comm (hd.getD i default).op (tlAt P n hs reg ops j).op = true) ∨ (p1 ≤ i ∧ j < p2)
theorem drawOk2_pr {hs : List Hn} {reg : Nat} {hdl : List LO} {h : Nat} (hd : drawOk2 P n hs reg ops hdl h = true) : Pr P n hs reg ops hdl h h h := by
  intro i j hj hi
  have h1 := List.all_eq_true.1 (List.all_eq_true.1 hd j (by simpa using hj)) i (by simpa using hi)
  simp only [Bool.or_eq_true, Bool.and_eq_true, decide_eq_true_eq, Bool.not_eq_true', List.isEmpty_iff] at h1
  rcases h1 with (h1 | h1) | h1
  · exact .inl h1
  · exact .inr (.inl h1)
  · exact .inr (.inr (.inl ⟨h1.1.1.1.1.1, h1.1.1.1.1.2, h1.1.1.1.2, h1.1.1.2, h1.1.2, h1.2⟩))
theorem drawOk3_pr {hs : List Hn} {reg : Nat} {hdl : List LO} {h p1 p2 : Nat} (hd : drawOk3 P n hs reg ops hdl h p1 p2 = true) : Pr P n hs reg ops hdl h p1 p2 ∧
    ∀ j, h ≤ j → j < p2 → (tlAt P n hs reg ops j).g = none ∧ (∀ o, ops[j]? = some o → lowOne P n (hasImm hs reg j) ops o = some (tlAt P n hs reg ops j)) ∧ (j < p1 → fresh (tlAt P n hs reg ops j).op = true) ∧ (p1 ≤ j → isIns (tlAt P n hs reg ops j).op = true ∧ (tlAt P n hs reg ops j).d = none) := by
  unfold drawOk3 at hd
  simp only [Bool.and_eq_true] at hd
  obtain ⟨hd1, hd2⟩ := hd
  refine ⟨fun i j hj hi => ?_, fun j h1 h2 => ?_⟩
  · have h1 := List.all_eq_true.1 (List.all_eq_true.1 hd1 j (by simpa using hj)) i (by simpa using hi)
    simp only [Bool.or_eq_true, Bool.and_eq_true, decide_eq_true_eq, Bool.not_eq_true', List.isEmpty_iff] at h1
    rcases h1 with ((h1 | h1) | h1) | h1
    · exact .inl h1
    · exact .inr (.inl h1)
    · exact .inr (.inr (.inl ⟨h1.1.1.1.1.1, h1.1.1.1.1.2, h1.1.1.1.2, h1.1.1.2, h1.1.2, h1.2⟩))
    · exact .inr (.inr (.inr h1))
  · have h3 := List.all_eq_true.1 hd2 j (by simpa using h2)
    rw [Bool.or_eq_true] at h3
    rcases h3 with h3 | h3
    · simp at h3; omega
    · simp only [Bool.and_eq_true, Option.isNone_iff_eq_none] at h3
      obtain ⟨⟨⟨g1, g2⟩, g3⟩, g4⟩ := h3
      refine ⟨g1, fun o ho => ?_, fun hp => by rw [if_pos hp] at g4; exact g4, fun hp => by rw [if_neg (by omega)] at g4; simpa using g4⟩
      rw [ho] at g3
      unfold tlAt
      rw [ho]
      cases hl : lowOne P n (hasImm hs reg j) ops o with
      | none => simp [hl] at g3
      | some lo => simp [hl]

/-! ### What an insertion or an append does not touch -/
theorem rLoadB_set {ag : Bool} {k r : Nat} {p : AV} {ho : HO} (hr : ¬ isBox H[r]?) (h : (rLoadB ag k p H).ok) : (rLoadB ag k p (H.set r ho)).ok ∧ (rLoadB ag k p (H.set r ho)).x = (rLoadB ag k p H).x ∧ (rLoadB ag k p (H.set r ho)).H = H.set r ho := by
  cases p <;> first | exact h.elim | skip
  case ptr r' ver off =>
    simp only [rLoadB, rLoad] at h ⊢
    have hb : isBox H[r']? := h.1.1
    have hne : r ≠ r' := fun e => by subst e; exact hr hb
    have hg : (H.set r ho)[r']? = H[r']? := by rw [List.getElem?_set_ne hne]
    rw [hg]
    obtain ⟨cs, hc⟩ : ∃ cs, H[r']? = some (.box cs) := by
      revert hb
      cases H[r']? with
      | none => intro hb; exact hb.elim
      | some o => cases o <;> intro hb <;> first | exact hb.elim | exact ⟨_, rfl⟩
    rw [hc] at h ⊢
    exact ⟨h, rfl, rfl⟩
  case vp cs off => exact ⟨h, rfl, rfl⟩
theorem rFaddrB_set {k r : Nat} {p : AV} {ho : HO} (hr : ¬ isBox H[r]?) (h : (rFaddrB k p H).ok) : (rFaddrB k p (H.set r ho)).ok ∧ (rFaddrB k p (H.set r ho)).x = (rFaddrB k p H).x ∧ (rFaddrB k p (H.set r ho)).H = H.set r ho := by
  cases p <;> first | exact h.elim | skip
  case ptr r' ver off =>
    have hne : r ≠ r' := fun e => by subst e; exact hr h.1
    refine ⟨?_, rfl, rfl⟩
    show isBox (H.set r ho)[r']? ∧ isVer ver (H.set r ho)[r']?
    rw [List.getElem?_set_ne hne]
    exact h
  case vp cs off => exact ⟨h, rfl, rfl⟩
/-- The change that an insertion or an append makes. -/
def Kind (H H2 : AHeap) : Prop := (∃ ext, H2 = H ++ ext) ∨ ∃ r ho, ¬ isBox H[r]? ∧ H2 = H.set r ho
theorem ins_kind {kd : KD} {m k x : AV} (h : (rIns kd m k x H).ok) : Kind H (rIns kd m k x H).H := by
  unfold rIns at h ⊢
  split at h
  · split at h
    · rename_i hm
      exact .inr ⟨_, _, by rw [hm]; exact fun h => h, rfl⟩
    · exact h.elim
  · exact h.elim
theorem app_kind {sz bytes : Nat} {s x : AV} (h : (rAppend sz bytes s x H).ok) : Kind H (rAppend sz bytes s x H).H := by
  unfold rAppend at h ⊢
  split at h
  · obtain ⟨_, h⟩ := h
    unfold rAppendO at h
    simp only [Res.also]
    unfold rAppendO
    split at h
    · rename_i hm
      split at h
      · exact .inr ⟨_, _, by rw [hm]; exact fun h => h, rfl⟩
      · exact h.elim
    · exact h.elim
  · obtain ⟨_, h⟩ := h
    unfold rAppendN at h
    simp only [Res.also]
    unfold rAppendN
    split at h
    · exact .inl ⟨_, rfl⟩
    · exact h.elim
  · obtain ⟨_, h⟩ := h
    unfold rAppendN at h
    simp only [Res.also]
    unfold rAppendN
    split at h
    · exact .inl ⟨_, rfl⟩
    · exact h.elim
  · exact h.elim
theorem kind_of {op : LOp} (hq : (isIns op || isApp op) = true) (h : (ares op e H).ok) : Kind H (ares op e H).H := by
  cases op <;> simp [isIns, isApp] at hq
  · exact ins_kind h
  · exact app_kind h
theorem stepQ_kind {o : LO} {x : AV} {H2 : AHeap} (hq : isLoadB o.op = true) (hk : Kind H H2) (h : stepQ P o e H x) : stepQ P o e H2 x := by
  refine h.imp (fun ⟨h1, h2⟩ => ⟨h1, ?_⟩) id
  cases hop : o.op <;> rw [hop] at hq h2 <;> first | (cases hq; done) | skip
  · rename_i ag k p
    rcases hk with ⟨ext, rfl⟩ | ⟨r, ho, hr, rfl⟩
    · exact aopq_more (by rfl) h2
    · obtain ⟨g1, g2, g3⟩ := h2
      obtain ⟨f1, f2, f3⟩ := rLoadB_set (ho := ho) hr g1
      exact ⟨f1, f3, f2.trans g3⟩
  · rename_i k p
    rcases hk with ⟨ext, rfl⟩ | ⟨r, ho, hr, rfl⟩
    · exact aopq_more (by rfl) h2
    · obtain ⟨g1, g2, g3⟩ := h2
      obtain ⟨f1, f2, f3⟩ := rFaddrB_set (ho := ho) hr g1
      exact ⟨f1, f3, f2.trans g3⟩
/-- One whose result is one. -/
def det (op : LOp) : Bool := fresh op || isIns op || isApp op || isMv op
theorem det_aop {op : LOp} (hq : det op = true) {K : AV → AHeap → Prop} : aop P op e H K = ((ares op e H).ok ∧ K (ares op e H).x (ares op e H).H) := by
  cases op <;> first | rfl | (simp [det, fresh, isIns, isApp, isMv] at hq)
/-- What an operation behind leaves of those ahead. -/
theorem comm_keeps {a b : LO} {H2 : AHeap} (hq : quietK a.op = true) (hc : comm a.op b.op = true) (hb : (ares b.op e H).ok → H2 = (ares b.op e H).H) (hok : (ares b.op e H).ok) {e' : Env} {x : AV} (h : stepQ P a e' H x) : stepQ P a e' H2 x := by
  unfold comm at hc
  simp only [Bool.or_eq_true, Bool.and_eq_true] at hc
  obtain rfl := hb hok
  rcases hc with ((hc | hc) | hc) | hc
  · exact stepQ_at hc h
  · obtain ⟨ext, hx⟩ := fresh_ext (e := e) (H := H) hc
    rw [hx]; exact stepQ_more hq h
  · exact stepQ_kind hc.1 (kind_of (by simpa using hc.2) hok) h
  · cases hop : b.op <;> rw [hop] at hc <;> first | (cases hc; done) | skip
    exact h

theorem mixed_sound {r : Option Nat} {m0 : Nat} {hs : List Hn} {reg h p1 p : Nat} {K : Env → AHeap → Prop} {Q : Exit → Act → World → Prop} (hE : edgesOk ops = true) (hD : Pr P n hs reg ops hd h p1 p) (hp : h ≤ p) (hp1 : h ≤ p1) (hh : h ≤ ops.size)
    (hlen : hd.length = h) (hget : ∀ k o, k < h → ops[k]? = some o → ∃ imm, lowOne P n imm ops o = some (hd.getD k default))
    (hQ : ∀ e' H' a' w', K e' H' → St X w0 ρ0 n0 n e' H' a' w' → Q .normal a' w') :
    ∀ (fuel k : Nat) (los : List LO) (ws : List (Option Nat × AV)) (H : AHeap) (a : Act) (w : World) (listed : Array Bool), p ≤ k → k ≤ ops.size → fuel = left listed ops.size → listed.size = ops.size →
      (∀ j, h ≤ j → j < ops.size → listed.getD j true = decide (j < k)) → Closed ops listed → lowOps P n hs reg ops k (ops.toList.drop k) = some los → aops P los (wr ws (ED hd xs e (fun _ => true) h)) H K →
      (∀ i, i < h → listed.getD i false = false → stepQ P (hd.getD i default) (ED hd xs e (fun _ => true) i) H (xs i)) →
      (∀ i, i < h → listed.getD i false = false → ∀ t x, (some t, x) ∈ ws → t ∉ (hd.getD i default).rd ∧ (hd.getD i default).d ≠ some t) →
      St X w0 ρ0 n0 n (wr ws (ED hd xs e (fun j => listed.getD j false) h)) H a w → wpAnyIn (WR r) m0 P .any ops Q fuel listed a w := by
  have hT : ∀ i j, p ≤ i → i < j → j < ops.size → ((Region.before ops).getD j 0).testBit i = true := fun i j h1 h2 h3 => by
    rcases hD i j h3 h2 with g | g | g | g
    · exact g
    · omega
    · omega
    · omega
  intro fuel
  induction fuel with
  | zero =>
    intro k los ws H a w listed hk hks hf hsz ht hc hlo hK hx hw hst
    have hall : ∀ j, j < ops.size → listed.getD j true = true := by
      intro j hj
      cases hb : listed.getD j true with
      | true => rfl
      | false => have := left_pos hb ops.size hj; omega
    have hk2 : k = ops.size := by
      refine Classical.byContradiction fun hne => ?_
      have h1 := ht k (by omega) (by omega)
      rw [hall k (by omega)] at h1
      simp at h1
    have hE' : ED hd xs e (fun j => listed.getD j false) h = ED hd xs e (fun _ => true) h := by
      funext t
      exact ED_congr h fun j hj _ => by rw [getD_ft (by omega), hall j (by omega)]
    rw [hE'] at hst
    exact tail_sound hE hT hQ 0 k los _ H a w listed hk (by omega) hsz (fun j hj => by rw [hall j hj]; simp; omega) hc hlo hK hst
  | succ fuel ih =>
    intro k los ws H a w listed hk hks hf hsz ht hc hlo hK hx hw hst
    by_cases hfull : ∀ j, j < h → listed.getD j true = true
    · have hall : ∀ j, j < ops.size → listed.getD j true = decide (j < k) := by
        intro j hj
        by_cases hjh : j < h
        · rw [hfull j hjh]; simp; omega
        · exact ht j (by omega) hj
      have hE' : ED hd xs e (fun j => listed.getD j false) h = ED hd xs e (fun _ => true) h := by
        funext t
        exact ED_congr h fun j hj _ => by rw [getD_ft (by omega), hall j (by omega)]; simp; omega
      rw [hE'] at hst
      have h0 := left_eq ops.size hall
      exact tail_sound hE hT hQ (fuel + 1) k los _ H a w listed hk (by omega) hsz hall hc hlo hK hst
    · have hun : ∃ i, i < h ∧ listed.getD i true = false := by
        refine Classical.byContradiction fun hno => hfull fun j hj => ?_
        cases hb : listed.getD j true with
        | true => rfl
        | false => exact absurd ⟨j, hj, hb⟩ hno
      obtain ⟨i0, hi0, hi0u, hi0l⟩ := least_un hun
      have hr0 : i0 ∈ Region.ready .any ops listed := ready_of hE (by omega) hi0u fun j hj => by rw [getD_ft (by omega)]; exact hi0l j hj
      refine ⟨fun h0 => by rw [h0] at hr0; simp at hr0, fun i hi => ?_⟩
      obtain ⟨hiu, oi, hoi, hiall⟩ := mem_ready.1 hi
      have his : i < ops.size := (Array.getElem?_eq_some_iff.1 hoi).1
      have hidf : listed.getD i false = false := by rw [getD_ft (by omega)]; exact hiu
      have hcf1 : ∀ a b : LO, ∀ t, a.d = some t → t ∈ b.rd → confl a b = true := by
        intro a b t h1 h2
        cases hb : confl a b with
        | true => rfl
        | false => exact absurd h2 ((conflF hb).1 t h1)
      have hcf2 : ∀ a b : LO, ∀ t, b.d = some t → t ∈ a.rd → confl a b = true := by
        intro a b t h1 h2
        cases hb : confl a b with
        | true => rfl
        | false => exact absurd h2 ((conflF hb).2.1 t h1)
      have hcf3 : ∀ a b : LO, ∀ t, a.d = some t → b.d = some t → confl a b = true := by
        intro a b t h1 h2
        cases hb : confl a b with
        | true => rfl
        | false => exact absurd h2 ((conflF hb).2.2 t h1)
      have hcount : fuel = left (listed.setIfInBounds i true) ops.size := by
        have := left_set hiu ops.size
        rw [if_pos his] at this
        omega
      by_cases hih : i < h
      · -- one of the first h
        have hbef : ∀ j, j < i → confl (hd.getD j default) (hd.getD i default) = true → listed.getD j false = true := by
          intro j hj hcf
          rcases hD j i his hj with g6 | g6 | g6 | g6
          · exact closed_before hc i oi j hoi g6 hiall
          · rw [g6.2] at hcf; cases hcf
          · omega
          · omega
        have hbeh : ∀ j, i < j → j < h → confl (hd.getD i default) (hd.getD j default) = true → listed.getD j false = false := by
          intro j hj hjh hcf
          rcases hD i j (show j < ops.size by omega) hj with g6 | g6 | g6 | g6
          · cases hb : listed.getD j false with
            | false => rfl
            | true =>
              obtain ⟨oj, hoj⟩ : ∃ oj, ops[j]? = some oj := ⟨ops[j]'(by omega), by simp [show j < ops.size by omega]⟩
              have := closed_before hc j oj i hoj g6 (hc j oj hoj hb)
              rw [hidf] at this
              cases this
          · rw [g6.2] at hcf; cases hcf
          · omega
          · omega
        have hwi := hw i hih hidf
        have hA : ∀ t ∈ (hd.getD i default).rd, ED hd xs e (fun _ => true) i t = wr ws (ED hd xs e (fun j => listed.getD j false) h) t := by
          intro t htr
          rw [wr_ne ws _ fun x hx => (hwi t x hx).1 htr, ED_skip (i := i) h (by omega) fun j h1 h2 h3 => by
            by_cases hji : j = i
            · rw [hji]; exact hidf
            · exact hbeh j (by omega) h2 (hcf2 _ _ t h3 htr)]
          exact ED_congr i fun j h1 h2 => (hbef j h1 (hcf1 _ _ t h2 htr)).symm
        have hB0 : ups (ED hd xs e (fun j => listed.getD j false) h) (hd.getD i default).d (xs i) = ED hd xs e (fun j => (listed.setIfInBounds i true).getD j false) h := by
          funext t
          by_cases hdt : (hd.getD i default).d = some t
          · rw [ED_skip (i := i + 1) h (by omega) fun j h1 h2 h3 => by
              rw [set_get, if_neg (by omega)]
              exact hbeh j (by omega) h2 (hcf3 _ _ t hdt h3)]
            rw [hdt, ups_eq]
            have hset : (listed.setIfInBounds i true).getD i false = true := by rw [set_get, if_pos ⟨rfl, by omega⟩]
            simp only [ED]
            rw [if_pos hset, hdt, ups_eq]
          · rw [ups_ne hdt]
            exact ED_congr h fun j h1 h2 => by
              rw [set_get, if_neg]
              rintro ⟨rfl, _⟩
              exact hdt h2
        have hB : ups (wr ws (ED hd xs e (fun j => listed.getD j false) h)) (hd.getD i default).d (xs i) = wr ws (ED hd xs e (fun j => (listed.setIfInBounds i true).getD j false) h) := by
          rw [wr_ups ws _ fun t ht x hx => (hwi t x hx).2 ht, hB0]
        have hstep := stepQ_congr hA (hx i hih hidf)
        obtain ⟨imm, hlow⟩ := hget i oi hih hoi
        have hone : aops P [hd.getD i default] (wr ws (ED hd xs e (fun j => listed.getD j false) h)) H fun e' H' => e' = wr ws (ED hd xs e (fun j => (listed.setIfInBounds i true).getD j false) h) ∧ H' = H := by
          refine aops_of ?_
          rcases hstep with ⟨g1, g2⟩ | ⟨g1, g2⟩
          · refine .inl ⟨g1, ?_⟩
            have := aop_of_aopq g2
            simp only [aops]
            refine aop_mono this ?_
            rintro y H' ⟨rfl, rfl⟩
            exact ⟨hB, rfl⟩
          · refine .inr ⟨g1, ?_⟩
            rw [← g2]
            exact ⟨hB, rfl⟩
        have hnx := op_step (r := r) (m0 := m0) hlow hone hst (next := wpAnyIn (WR r) m0 P .any ops Q fuel (listed.setIfInBounds i true)) (Q := Q) fun e'' H'' a'' w'' hK'' hs'' => by
          obtain ⟨rfl, rfl⟩ := hK''
          have hsub : ∀ j, j < h → (listed.setIfInBounds i true).getD j false = false → listed.getD j false = false := fun j hj hl => by
            rw [set_get] at hl
            split at hl
            · cases hl
            · exact hl
          exact ih k los ws _ a'' w'' _ hk hks hcount (by simpa using hsz) (fun j h1 h2 => by rw [set_get, if_neg (by omega)]; exact ht j h1 h2) (hc.set hi) hlo hK (fun j hj hl => hx j hj (hsub j hj hl)) (fun j hj hl => hw j hj (hsub j hj hl)) hs''
        unfold wpOpIn
        rw [hoi]
        simp only
        exact hnx
      · -- the next of those behind
        have hik : i = k := by
          have g1 := ht i (by omega) his
          rw [hiu] at g1
          have g2 : ¬ i < k := by simpa using g1.symm
          rcases Nat.lt_or_ge k i with g5 | g5
          · have := closed_before hc i oi k hoi (hT k i hk g5 his) hiall
            rw [getD_ft (by omega), ht k (by omega) (by omega)] at this
            simp at this
          · omega
        subst hik
        have hfr : ∀ j, j < h → listed.getD j false = false → presAt hs reg i = [] ∧ quietK (hd.getD j default).op = true ∧ confl (hd.getD j default) (tlAt P n hs reg ops i) = false ∧ comm (hd.getD j default).op (tlAt P n hs reg ops i).op = true := by
          intro j hj hl
          rcases hD j i his (show j < i by omega) with g | g | g | g
          · have := closed_before hc i oi j hoi g hiall
            rw [hl] at this
            cases this
          · omega
          · exact g.2.2
          · omega
        have hi0f : listed.getD i0 false = false := by rw [getD_ft (by omega)]; exact hi0u
        rw [List.drop_eq_getElem_cons (by simpa using his)] at hlo
        have hop : ops[i]? = some (ops.toList[i]'(by simpa using his)) := by simp [his]
        generalize ops.toList[i]'(by simpa using his) = o at hlo hop
        obtain rfl : oi = o := Option.some.inj (hoi.symm.trans hop)
        unfold lowOps at hlo
        cases h1 : lowOne P n (hasImm hs reg i) ops oi with
        | none => simp [h1] at hlo
        | some lo =>
          cases h2 : lowOps P n hs reg ops (i + 1) (ops.toList.drop (i + 1)) with
          | none => simp [h1, h2] at hlo
          | some m =>
            simp only [h1, h2, (hfr i0 hi0 hi0f).1, List.nil_append] at hlo
            split at hlo
            · simp only [Option.some.injEq] at hlo
              subst hlo
              have htl : tlAt P n hs reg ops i = lo := by simp [tlAt, hoi, h1]
              rw [htl] at hfr
              -- what it reads is the same
              have hR : ∀ t ∈ lo.rd, wr ws (ED hd xs e (fun _ => true) h) t = wr ws (ED hd xs e (fun j => listed.getD j false) h) t := by
                intro t htr
                have : ∀ (l : List (Option Nat × AV)) (e1 e2 : Env), e1 t = e2 t → wr l e1 t = wr l e2 t := by
                  intro l
                  induction l with
                  | nil => intro e1 e2 h; exact h
                  | cons p l ihl =>
                    intro e1 e2 h
                    obtain ⟨d, x⟩ := p
                    refine ihl _ _ ?_
                    by_cases hdt : d = some t
                    · rw [hdt, ups_eq, ups_eq]
                    · rw [ups_ne hdt, ups_ne hdt]; exact h
                refine this ws _ _ (ED_congr h fun j hj hdj => ?_)
                cases hb : listed.getD j false with
                | true => rfl
                | false =>
                  have := (conflF (hfr j hj hb).2.2.1).1 t hdj
                  exact absurd htr this
              have hwant : wantA lo.g (wr ws (ED hd xs e (fun _ => true) h)) = wantA lo.g (wr ws (ED hd xs e (fun j => listed.getD j false) h)) := wantA_congr fun t want hg => hR t (by simp [LO.rd, hg])
              have hnext : ∀ (x : AV) (H2 : AHeap), aops P m (ups (wr ws (ED hd xs e (fun _ => true) h)) lo.d x) H2 K → (∀ j, j < h → listed.getD j false = false → stepQ P (hd.getD j default) (ED hd xs e (fun _ => true) j) H2 (xs j)) →
                  ∀ a'' w'', St X w0 ρ0 n0 n (ups (wr ws (ED hd xs e (fun j => listed.getD j false) h)) lo.d x) H2 a'' w'' → wpAnyIn (WR r) m0 P .any ops Q fuel (listed.setIfInBounds i true) a'' w'' := by
                intro x H2 hK2 hH a'' w'' hs''
                have hsame : ∀ j, j < h → (listed.setIfInBounds i true).getD j false = listed.getD j false := fun j hj => by rw [set_get, if_neg (by omega)]
                have hED : ED hd xs e (fun j => (listed.setIfInBounds i true).getD j false) h = ED hd xs e (fun j => listed.getD j false) h := by
                  funext t
                  exact ED_congr h fun j hj _ => hsame j hj
                refine ih (i + 1) m (ws ++ [(lo.d, x)]) H2 a'' w'' _ (by omega) (by omega) hcount (by simpa using hsz) (fun j hj1 hj2 => ?_) (hc.set hi) h2 (by rw [wr_snoc]; exact hK2) (fun j hj hl => ?_) (fun j hj hl t y hy => ?_) (by rw [wr_snoc, hED]; exact hs'')
                · rw [set_get]
                  by_cases hji : j = i
                  · rw [if_pos ⟨hji, by omega⟩]; simp; omega
                  · rw [if_neg fun hh => hji hh.1, ht j hj1 hj2]
                    have : (j < i) = (j < i + 1) := by simp; omega
                    simp only [this]
                · rw [hsame j hj] at hl
                  exact hH j hj hl
                · rw [hsame j hj] at hl
                  rcases List.mem_append.1 hy with hy | hy
                  · exact hw j hj hl t y hy
                  · simp only [List.mem_singleton, Prod.mk.injEq] at hy
                    have hcf := conflF (hfr j hj hl).2.2.1
                    exact ⟨hcf.2.1 t hy.1.symm, fun hdj => hcf.2.2 t hdj hy.1.symm⟩
              have hone : aops P [lo] (wr ws (ED hd xs e (fun j => listed.getD j false) h)) H fun e' H2 => ∃ x, e' = ups (wr ws (ED hd xs e (fun j => listed.getD j false) h)) lo.d x ∧ aops P m (ups (wr ws (ED hd xs e (fun _ => true) h)) lo.d x) H2 K ∧ (∀ j, j < h → listed.getD j false = false → stepQ P (hd.getD j default) (ED hd xs e (fun _ => true) j) H2 (xs j)) := by
                refine aops_of ?_
                rcases aops_cons hK with ⟨g1, g2⟩ | ⟨g1, g2⟩
                · refine .inl ⟨by rw [← hwant]; exact g1, ?_⟩
                  have g3 := aop_congr (fun t ht => hR t (by simp [LO.rd, ht])) g2
                  by_cases hdet : det lo.op = true
                  · rw [det_aop hdet] at g3 ⊢
                    refine ⟨g3.1, ?_⟩
                    simp only [aops]
                    exact ⟨_, rfl, g3.2, fun j hj hl => comm_keeps (hfr j hj hl).2.1 (hfr j hj hl).2.2.2 (fun _ => rfl) g3.1 (hx j hj hl)⟩
                  · have hnf : ((fresh lo.op = false ∧ isIns lo.op = false) ∧ isApp lo.op = false) ∧ isMv lo.op = false := by
                      have : det lo.op = false := by simpa using hdet
                      simpa only [det, Bool.or_eq_false_iff] using this
                    refine aop_mono g3 fun x H2 hx2 => ?_
                    simp only [aops]
                    refine ⟨x, rfl, hx2, fun j hj hl => stepQ_at ?_ (hx j hj hl)⟩
                    have hc := (hfr j hj hl).2.2.2
                    unfold comm at hc
                    rw [hnf.1.1.1, hnf.1.1.2, hnf.1.2, hnf.2] at hc
                    simpa using hc
                · refine .inr ⟨by rw [← hwant]; exact g1, ?_⟩
                  exact ⟨undefA, rfl, g2, hx⟩
              have hnx := op_step (r := r) (m0 := m0) h1 hone hst (next := wpAnyIn (WR r) m0 P .any ops Q fuel (listed.setIfInBounds i true)) (Q := Q) fun e'' H'' a'' w'' hK'' hs'' => by
                obtain ⟨x, rfl, hK2, hH⟩ := hK''
                exact hnext x H'' hK2 hH a'' w'' hs''
              unfold wpOpIn
              rw [hoi]
              simp only
              exact hnx
            · cases hlo

theorem draw_sound2 {r : Option Nat} {m0 : Nat} {hs : List Hn} {id h : Nat} {tl : List LO} {K : Env → AHeap → Prop} {Q : Exit → Act → World → Prop} (hhd : lowHd P n hs id ops 0 (ops.toList.take h) = some hd) (htl : lowOps P n hs id ops h (ops.toList.drop h) = some tl)
    (hD : drawOk2 P n hs id ops hd h = true) (hE : edgesOk ops = true) (hm : P.follows .mixedOrders = true) (hh : h ≤ ops.size) (hK : aopsq P hd e H fun e' => aops P tl e' H K) (hst : St X w0 ρ0 n0 n e H a w)
    (hQ : ∀ e' H' a' w', K e' H' → St X w0 ρ0 n0 n e' H' a' w' → Q .normal a' w') : wpAnyIn (WR r) m0 P .any ops Q ops.size (Array.replicate ops.size false) a { w with drawn := w.drawn + 1 } := by
  obtain ⟨g1, g2⟩ := lowHd_get _ _ _ hhd
  have hlen : hd.length = h := by rw [g1]; simp; omega
  obtain ⟨xs, g3, g4⟩ := aopsq_chain hd hK
  rw [hlen] at g3 g4
  have h0 : ∀ j, (Array.replicate ops.size false).getD j false = false := fun j => getD_replicate_false _ _
  have h1 : ∀ j, j < ops.size → (Array.replicate ops.size false).getD j true = false := fun j hj => by rw [← getD_ft (by simpa using hj)]; exact h0 j
  refine mixed_sound hE (drawOk2_pr hD) (Nat.le_refl _) (Nat.le_refl _) hh hlen (fun k o hk ho => g2 k o ?_) hQ ops.size h tl [] H a _ _ (Nat.le_refl _) hh ?_ (by simp) (fun j h2 hj => ?_) ?_ htl g3 (fun i hi _ => g4 i hi) (fun i _ _ t x hx => by simp at hx) ?_
  · rw [List.getElem?_take, if_pos hk]; simpa using ho
  · have := left_eq (listed := Array.replicate ops.size false) (h := 0) ops.size fun j hj => by rw [h1 j hj]; simp
    omega
  · rw [h1 j hj]; simp; omega
  · intro j oj hj hl
    rw [h0 j] at hl
    cases hl
  · have : ED hd xs e (fun j => (Array.replicate ops.size false).getD j false) h = e := by
      funext t
      rw [ED_skip (i := 0) h (Nat.zero_le _) fun j _ _ _ => h0 j]
      rfl
    show St X w0 ρ0 n0 n (ED hd xs e (fun j => (Array.replicate ops.size false).getD j false) h) H a _
    rw [this]
    exact hst.still ⟨rfl, rfl, rfl, Nat.le_refl _⟩ rfl
end
end Go.Ax

/- A drawn region may be read in another order of the prover's. -/
namespace Go.Ax
open Go Go.RowKit
set_option linter.unusedSimpArgs false
set_option linter.unusedVariables false

section
variable {P : Program} {π : List Nat} {ops : Array Oper} {n : Nat}

theorem permOk_at (h : permOk π n = true) : π.length = n ∧ ∀ k, k < n → π.getD k 0 < n ∧ π.idxOf (π.getD k 0) = k ∧ π.idxOf k < n ∧ π.getD (π.idxOf k) 0 = k := by
  simp only [permOk, Bool.and_eq_true, decide_eq_true_eq, List.all_eq_true, List.mem_range] at h
  exact ⟨h.1, fun k hk => ⟨(h.2 k hk).1.1.1, (h.2 k hk).1.1.2, (h.2 k hk).1.2, (h.2 k hk).2⟩⟩
theorem idxOf_ge (h : permOk π n = true) {j : Nat} (hj : n ≤ j) : n ≤ π.idxOf j := by
  obtain ⟨hl, hp⟩ := permOk_at h
  refine Classical.byContradiction fun hlt => ?_
  have hlt : π.idxOf j < n := by omega
  have hmem : j ∈ π := List.idxOf_lt_length_iff.1 (by omega)
  obtain ⟨k, hk, rfl⟩ := List.mem_iff_getElem.1 hmem
  have := (hp k (by omega)).1
  simp [List.getD_eq_getElem?_getD, hk] at this
  omega
theorem permOps_size (h : permOk π ops.size = true) : (permOps π ops).size = ops.size := by simp [permOps, (permOk_at h).1]
theorem permOps_get (h : permOk π ops.size = true) {k : Nat} (hk : k < ops.size) : (permOps π ops)[k]? = (ops[π.getD k 0]?).map (renOp π) := by
  obtain ⟨hl, hp⟩ := permOk_at h
  have h1 := (hp k hk).1
  have hkl : k < π.length := by omega
  have h2 : π[k]?.getD 0 < ops.size := by simpa [List.getD_eq_getElem?_getD] using h1
  simp [permOps, hkl] at h2 ⊢
  simp [Array.getD_eq_getD_getElem?, h2]
theorem permOps_at (h : permOk π ops.size = true) (j : Nat) : (permOps π ops)[π.idxOf j]? = (ops[j]?).map (renOp π) := by
  obtain ⟨hl, hp⟩ := permOk_at h
  by_cases hj : j < ops.size
  · rw [permOps_get h (hp j hj).2.2.1, (hp j hj).2.2.2]
  · have h1 := idxOf_ge h (j := j) (by omega)
    rw [Array.getElem?_eq_none (by rw [permOps_size h]; exact h1), Array.getElem?_eq_none (by omega)]
    rfl
theorem yielded_perm (h : permOk π ops.size = true) (tmps : Array Value) (j : Nat) : yielded (permOps π ops) tmps (π.idxOf j) = yielded ops tmps j := by
  unfold yielded
  rw [permOps_at h j]
  cases ops[j]? <;> rfl
theorem wanted_perm (h : permOk π ops.size = true) (o : Oper) (tmps : Array Value) : Region.wanted (renOp π o) (yielded (permOps π ops) tmps) = Region.wanted o (yielded ops tmps) := by
  unfold Region.wanted renOp
  cases hg : o.guard with
  | none => rfl
  | some jb =>
    obtain ⟨j, b⟩ := jb
    simp only [Option.map_some]
    rw [yielded_perm h]

/-- What is listed in the one order is listed in the other. -/
def Alike (π : List Nat) (n : Nat) (l l' : Array Bool) : Prop := l.size = n ∧ l'.size = n ∧ ∀ k, k < n → l'.getD k false = l.getD (π.getD k 0) false
theorem Alike.at_idx {l l' : Array Bool} (h : permOk π n = true) (ha : Alike π n l l') (j : Nat) : l'.getD (π.idxOf j) false = l.getD j false := by
  obtain ⟨hl, hp⟩ := permOk_at h
  by_cases hj : j < n
  · rw [ha.2.2 _ (hp j hj).2.2.1, (hp j hj).2.2.2]
  · have h1 := idxOf_ge h (j := j) (by omega)
    have e1 : l'.getD (π.idxOf j) false = false := by simp [Array.getD_eq_getD_getElem?, Array.getElem?_eq_none (show l'.size ≤ π.idxOf j by rw [ha.2.1]; exact h1)]
    have e2 : l.getD j false = false := by simp [Array.getD_eq_getD_getElem?, Array.getElem?_eq_none (show l.size ≤ j by rw [ha.1]; omega)]
    rw [e1, e2]
theorem Alike.set {l l' : Array Bool} (h : permOk π n = true) (ha : Alike π n l l') {i : Nat} (hi : i < n) : Alike π n (l.setIfInBounds i true) (l'.setIfInBounds (π.idxOf i) true) := by
  obtain ⟨hl, hp⟩ := permOk_at h
  refine ⟨by simpa using ha.1, by simpa using ha.2.1, fun k hk => ?_⟩
  rw [set_get, set_get, ha.2.2 k hk]
  by_cases hki : k = π.idxOf i
  · subst hki
    rw [if_pos ⟨rfl, by rw [ha.2.1]; exact hk⟩, if_pos ⟨(hp i hi).2.2.2, by rw [ha.1]; exact hi⟩]
  · rw [if_neg (fun hh => hki hh.1), if_neg]
    rintro ⟨e, _⟩
    have := (hp k hk).2.1
    rw [e] at this
    exact hki this.symm

theorem ready_perm {md : Region.Mode} {l l' : Array Bool} (h : permOk π ops.size = true) (ha : Alike π ops.size l l') {i : Nat} (hi : i < ops.size) : π.idxOf i ∈ Region.ready md (permOps π ops) l' ↔ i ∈ Region.ready md ops l := by
  obtain ⟨hl, hp⟩ := permOk_at h
  rw [mem_ready, mem_ready, permOps_at h i]
  have e1 : l'.getD (π.idxOf i) true = l.getD i true := by
    rw [← getD_ft (by rw [ha.2.1]; exact (hp i hi).2.2.1), ← getD_ft (by rw [ha.1]; exact hi)]
    exact ha.at_idx h i
  rw [e1]
  refine and_congr Iff.rfl ⟨?_, ?_⟩
  · rintro ⟨o', ho, hall⟩
    obtain ⟨o, hoo, rfl⟩ := Option.map_eq_some_iff.1 ho
    refine ⟨o, hoo, fun e he hb => ?_⟩
    have := hall { e with on := π.idxOf e.on } (by simp only [renOp]; exact Array.mem_map.2 ⟨e, he, rfl⟩) hb
    rw [← ha.at_idx h e.on]
    exact this
  · rintro ⟨o, ho, hall⟩
    refine ⟨renOp π o, by rw [ho]; rfl, fun e' he' hb => ?_⟩
    simp only [renOp] at he'
    obtain ⟨e, he, rfl⟩ := Array.mem_map.1 he'
    show l'.getD (π.idxOf e.on) false = true
    rw [ha.at_idx h e.on]
    exact hall e he hb

theorem perm_any {F : Fence} {m : Nat} {md : Region.Mode} {Q : Exit → Act → World → Prop} (h : permOk π ops.size = true) : ∀ (fuel : Nat) (l l' : Array Bool) (a : Act) (w : World), Alike π ops.size l l' →
    wpAnyIn F m P md (permOps π ops) Q fuel l' a w → wpAnyIn F m P md ops Q fuel l a w := by
  obtain ⟨hl, hp⟩ := permOk_at h
  have emp : ∀ l l', Alike π ops.size l l' → (Region.ready md (permOps π ops) l' = [] ↔ Region.ready md ops l = []) := by
    intro l l' ha
    rw [List.eq_nil_iff_forall_not_mem, List.eq_nil_iff_forall_not_mem]
    refine ⟨fun hh i hi => ?_, fun hh k hk => ?_⟩
    · have his : i < ops.size := by obtain ⟨_, o, ho, _⟩ := mem_ready.1 hi; exact (Array.getElem?_eq_some_iff.1 ho).1
      exact hh _ ((ready_perm h ha his).2 hi)
    · have hks : k < ops.size := by obtain ⟨_, o, ho, _⟩ := mem_ready.1 hk; have := (Array.getElem?_eq_some_iff.1 ho).1; rwa [permOps_size h] at this
      have := (ready_perm (md := md) h ha (hp k hks).1)
      rw [(hp k hks).2.1] at this
      exact hh _ (this.1 hk)
  intro fuel
  induction fuel with
  | zero => exact fun l l' a w ha hh => ⟨(emp l l' ha).1 hh.1, hh.2⟩
  | succ fuel ih =>
    intro l l' a w ha hh
    refine ⟨fun h0 => hh.1 ((emp l l' ha).2 h0), fun i hi => ?_⟩
    have his : i < ops.size := by obtain ⟨_, o, ho, _⟩ := mem_ready.1 hi; exact (Array.getElem?_eq_some_iff.1 ho).1
    have h1 := hh.2 _ ((ready_perm h ha his).2 hi)
    have hi2 : ops[i]? = some ops[i] := by simp [his]
    have hi1 : (permOps π ops)[π.idxOf i]? = some (renOp π ops[i]) := by rw [permOps_at h i, hi2]; rfl
    unfold wpOpIn at h1 ⊢
    rw [hi1] at h1
    rw [hi2]
    simp only [wanted_perm h] at h1 ⊢
    have hK : ∀ a w, wpAnyIn F m P md (permOps π ops) Q fuel (l'.setIfInBounds (π.idxOf i) true) a w → wpAnyIn F m P md ops Q fuel (l.setIfInBounds i true) a w := fun a w => ih _ _ a w (ha.set h his)
    split
    · rename_i hw; rw [if_pos hw] at h1; exact Oper.wpIn_mono hK h1
    · rename_i hw; rw [if_neg hw] at h1; exact ⟨h1.1, hK _ _ h1.2⟩

theorem perm_region {F : Fence} {m : Nat} {Q : Exit → Act → World → Prop} {hs : List Hn} {id : Nat} {a : Act} {w : World} (hm : P.follows .mixedOrders = true)
    (h : wpAnyIn F m P .any (permAt hs id ops) Q (permAt hs id ops).size (Array.replicate (permAt hs id ops).size false) a { w with drawn := w.drawn + 1 }) : (Code.region id ops true).wpIn F m P Q a w := by
  refine wpIn_region_any hm ?_
  unfold permAt at h
  split at h
  · rename_i π _
    split at h
    · rename_i hk
      rw [permOps_size hk] at h
      exact perm_any hk _ _ _ _ _ ⟨by simp, by simp, fun k _ => by rw [getD_replicate_false, getD_replicate_false]⟩ h
    · exact h
  · exact h
end
end Go.Ax

/- Drawn regions in which insertions into a map come in any order. -/
namespace Go.Ax
open Go Go.RowKit
set_option linter.unusedSimpArgs false
set_option linter.unusedVariables false

section
variable {P : Program} {w w0 : World} {X : Nat → Prop} {ρ ρ0 : Nat → Loc} {H H' ext : AHeap} {e : Env} {a : Act} {n n0 : Nat}
variable {ops : Array Oper} {hd : List LO} {xs : Nat → AV}

theorem perm_filter_ne {i : Nat} : ∀ {l : List Nat}, i ∈ l → l.Nodup → (i :: l.filter (· != i)).Perm l
  | x :: l, hi, hn => by
    obtain ⟨n1, n2⟩ := List.nodup_cons.1 hn
    by_cases hx : x = i
    · subst hx
      have : (x :: l).filter (· != x) = l := by
        rw [List.filter_cons_of_neg (by simp)]
        exact List.filter_eq_self.2 fun a ha => by simp; intro e; subst e; exact n1 ha
      rw [this]
    · have hi' : i ∈ l := by rcases List.mem_cons.1 hi with h | h; exact absurd h.symm hx; exact h
      rw [List.filter_cons_of_pos (by simpa using hx)]
      exact (List.Perm.swap x i _).trans (List.Perm.cons x (perm_filter_ne hi' n2))

theorem many_sound {r : Option Nat} {m0 : Nat} {hs : List Hn} {reg h p1 p2 : Nat} {post : List LO} {K : Env → AHeap → Prop} {Q : Exit → Act → World → Prop} (hE : edgesOk ops = true) (hD : Pr P n hs reg ops hd h p1 p2)
    (hT : ∀ j, h ≤ j → j < p2 → (tlAt P n hs reg ops j).g = none ∧ (∀ o, ops[j]? = some o → lowOne P n (hasImm hs reg j) ops o = some (tlAt P n hs reg ops j)) ∧ (j < p1 → fresh (tlAt P n hs reg ops j).op = true) ∧ (p1 ≤ j → isIns (tlAt P n hs reg ops j).op = true ∧ (tlAt P n hs reg ops j).d = none))
    (h1 : h ≤ p1) (h2 : p1 ≤ p2) (h3 : p2 ≤ ops.size) (hlen : hd.length = h) (hget : ∀ k o, k < h → ops[k]? = some o → ∃ imm, lowOne P n imm ops o = some (hd.getD k default)) (hpost : lowOps P n hs reg ops p2 (ops.toList.drop p2) = some post)
    (hQ : ∀ e' H' a' w', K e' H' → St X w0 ρ0 n0 n e' H' a' w' → Q .normal a' w') :
    ∀ (fuel k : Nat) (rm : List Nat) (ws : List (Option Nat × AV)) (H : AHeap) (a : Act) (w : World) (listed : Array Bool), h ≤ k → k ≤ p1 → fuel = left listed ops.size → listed.size = ops.size →
      (∀ j, h ≤ j → j < p1 → listed.getD j true = decide (j < k)) → (∀ j, p1 ≤ j → j < p2 → (listed.getD j true = false ↔ j ∈ rm)) → (∀ j, p2 ≤ j → j < ops.size → listed.getD j true = false) → (∀ j ∈ rm, p1 ≤ j ∧ j < p2) → rm.Nodup → Closed ops listed →
      (∀ σ : List Nat, σ.Perm rm → aops P ((List.range' k (p1 - k)).map (tlAt P n hs reg ops) ++ σ.map (tlAt P n hs reg ops) ++ post) (wr ws (ED hd xs e (fun _ => true) h)) H K) →
      (∀ i, i < h → listed.getD i false = false → stepQ P (hd.getD i default) (ED hd xs e (fun _ => true) i) H (xs i)) →
      (∀ i, i < h → listed.getD i false = false → ∀ t x, (some t, x) ∈ ws → t ∉ (hd.getD i default).rd ∧ (hd.getD i default).d ≠ some t) →
      St X w0 ρ0 n0 n (wr ws (ED hd xs e (fun j => listed.getD j false) h)) H a w → wpAnyIn (WR r) m0 P .any ops Q fuel listed a w := by
  have hend : ∀ (fuel : Nat) (ws : List (Option Nat × AV)) (H : AHeap) (a : Act) (w : World) (listed : Array Bool), fuel = left listed ops.size → listed.size = ops.size →
      (∀ j, h ≤ j → j < p1 → listed.getD j true = decide (j < p1)) → (∀ j, p1 ≤ j → j < p2 → (listed.getD j true = false ↔ j ∈ ([] : List Nat))) → (∀ j, p2 ≤ j → j < ops.size → listed.getD j true = false) → Closed ops listed →
      (∀ σ : List Nat, σ.Perm [] → aops P ((List.range' p1 (p1 - p1)).map (tlAt P n hs reg ops) ++ σ.map (tlAt P n hs reg ops) ++ post) (wr ws (ED hd xs e (fun _ => true) h)) H K) →
      (∀ i, i < h → listed.getD i false = false → stepQ P (hd.getD i default) (ED hd xs e (fun _ => true) i) H (xs i)) →
      (∀ i, i < h → listed.getD i false = false → ∀ t x, (some t, x) ∈ ws → t ∉ (hd.getD i default).rd ∧ (hd.getD i default).d ≠ some t) →
      St X w0 ρ0 n0 n (wr ws (ED hd xs e (fun j => listed.getD j false) h)) H a w → wpAnyIn (WR r) m0 P .any ops Q fuel listed a w := by
    intro fuel ws H a w listed hf hsz ht1 ht2 ht3 hc hK hx hw hst
    refine mixed_sound (p1 := p1) (p := p2) hE hD (by omega) h1 (by omega) hlen hget hQ fuel p2 post ws H a w listed (Nat.le_refl _) h3 hf hsz (fun j hj1 hj2 => ?_) hc hpost (by simpa using hK [] (List.Perm.refl _)) hx hw hst
    by_cases hj : j < p1
    · rw [ht1 j hj1 hj]; simp; omega
    · by_cases hj3 : j < p2
      · cases hb : listed.getD j true with
        | true => simp [hj3]
        | false => have := (ht2 j (by omega) hj3).1 hb; simp at this
      · rw [ht3 j (by omega) hj2]; simp; omega
  have hopen : ∀ (k : Nat) (rm : List Nat) (listed : Array Bool), h ≤ k → k ≤ p1 → (∀ j, h ≤ j → j < p1 → listed.getD j true = decide (j < k)) → (∀ j, p1 ≤ j → j < p2 → (listed.getD j true = false ↔ j ∈ rm)) → (∀ j ∈ rm, p1 ≤ j ∧ j < p2) → ¬ (k = p1 ∧ rm = []) →
      ∃ q, h ≤ q ∧ q < p2 ∧ listed.getD q true = false ∧ (q < p1 → q = k) := by
    intro k rm listed hk hk1 ht1 ht2 hrm hn
    by_cases hkp : k < p1
    · exact ⟨k, hk, by omega, by rw [ht1 k hk hkp]; simp, fun _ => rfl⟩
    · have : rm ≠ [] := fun h0 => hn ⟨by omega, h0⟩
      obtain ⟨q, l, rfl⟩ := List.exists_cons_of_ne_nil this
      have hq := hrm q (by simp)
      exact ⟨q, by omega, hq.2, (ht2 q hq.1 hq.2).2 (by simp), fun hh => by omega⟩
  intro fuel
  induction fuel with
  | zero =>
    intro k rm ws H a w listed hk hk1 hf hsz ht1 ht2 ht3 hrm hnd hc hK hx hw hst
    by_cases hdone : k = p1 ∧ rm = []
    · obtain ⟨rfl, rfl⟩ := hdone
      exact hend 0 ws H a w listed hf hsz ht1 ht2 ht3 hc hK hx hw hst
    · obtain ⟨q, g1, g2, g3, _⟩ := hopen k rm listed hk hk1 ht1 ht2 hrm hdone
      have := left_pos g3 ops.size (by omega)
      omega
  | succ fuel ih =>
    intro k rm ws H a w listed hk hk1 hf hsz ht1 ht2 ht3 hrm hnd hc hK hx hw hst
    by_cases hdone : k = p1 ∧ rm = []
    · obtain ⟨rfl, rfl⟩ := hdone
      exact hend (fuel + 1) ws H a w listed hf hsz ht1 ht2 ht3 hc hK hx hw hst
    · obtain ⟨q, q1, q2, q3, q4⟩ := hopen k rm listed hk hk1 ht1 ht2 hrm hdone
      obtain ⟨i0, hi0, hi0u, hi0l⟩ := least_un ⟨q, (show q < ops.size by omega), q3⟩
      have hr0 : i0 ∈ Region.ready .any ops listed := ready_of hE (by omega) hi0u fun j hj => by rw [getD_ft (by omega)]; exact hi0l j hj
      refine ⟨fun h0 => by rw [h0] at hr0; simp at hr0, fun i hi => ?_⟩
      obtain ⟨hiu, oi, hoi, hiall⟩ := mem_ready.1 hi
      have his : i < ops.size := (Array.getElem?_eq_some_iff.1 hoi).1
      have hidf : listed.getD i false = false := by rw [getD_ft (by omega)]; exact hiu
      have hcf1 : ∀ a b : LO, ∀ t, a.d = some t → t ∈ b.rd → confl a b = true := by
        intro a b t h1 h2
        cases hb : confl a b with
        | true => rfl
        | false => exact absurd h2 ((conflF hb).1 t h1)
      have hcf2 : ∀ a b : LO, ∀ t, b.d = some t → t ∈ a.rd → confl a b = true := by
        intro a b t h1 h2
        cases hb : confl a b with
        | true => rfl
        | false => exact absurd h2 ((conflF hb).2.1 t h1)
      have hcf3 : ∀ a b : LO, ∀ t, a.d = some t → b.d = some t → confl a b = true := by
        intro a b t h1 h2
        cases hb : confl a b with
        | true => rfl
        | false => exact absurd h2 ((conflF hb).2.2 t h1)
      have hcount : fuel = left (listed.setIfInBounds i true) ops.size := by
        have := left_set hiu ops.size
        rw [if_pos his] at this
        omega
      by_cases hih : i < h
      · -- one of the first h
        have hbef : ∀ j, j < i → confl (hd.getD j default) (hd.getD i default) = true → listed.getD j false = true := by
          intro j hj hcf
          rcases hD j i his hj with g6 | g6 | g6 | g6
          · exact closed_before hc i oi j hoi g6 hiall
          · rw [g6.2] at hcf; cases hcf
          · omega
          · omega
        have hbeh : ∀ j, i < j → j < h → confl (hd.getD i default) (hd.getD j default) = true → listed.getD j false = false := by
          intro j hj hjh hcf
          rcases hD i j (show j < ops.size by omega) hj with g6 | g6 | g6 | g6
          · cases hb : listed.getD j false with
            | false => rfl
            | true =>
              obtain ⟨oj, hoj⟩ : ∃ oj, ops[j]? = some oj := ⟨ops[j]'(by omega), by simp [show j < ops.size by omega]⟩
              have := closed_before hc j oj i hoj g6 (hc j oj hoj hb)
              rw [hidf] at this
              cases this
          · rw [g6.2] at hcf; cases hcf
          · omega
          · omega
        have hwi := hw i hih hidf
        have hA : ∀ t ∈ (hd.getD i default).rd, ED hd xs e (fun _ => true) i t = wr ws (ED hd xs e (fun j => listed.getD j false) h) t := by
          intro t htr
          rw [wr_ne ws _ fun x hx => (hwi t x hx).1 htr, ED_skip (i := i) h (by omega) fun j h1 h2 h3 => by
            by_cases hji : j = i
            · rw [hji]; exact hidf
            · exact hbeh j (by omega) h2 (hcf2 _ _ t h3 htr)]
          exact ED_congr i fun j h1 h2 => (hbef j h1 (hcf1 _ _ t h2 htr)).symm
        have hB0 : ups (ED hd xs e (fun j => listed.getD j false) h) (hd.getD i default).d (xs i) = ED hd xs e (fun j => (listed.setIfInBounds i true).getD j false) h := by
          funext t
          by_cases hdt : (hd.getD i default).d = some t
          · rw [ED_skip (i := i + 1) h (by omega) fun j h1 h2 h3 => by
              rw [set_get, if_neg (by omega)]
              exact hbeh j (by omega) h2 (hcf3 _ _ t hdt h3)]
            rw [hdt, ups_eq]
            have hset : (listed.setIfInBounds i true).getD i false = true := by rw [set_get, if_pos ⟨rfl, by omega⟩]
            simp only [ED]
            rw [if_pos hset, hdt, ups_eq]
          · rw [ups_ne hdt]
            exact ED_congr h fun j h1 h2 => by
              rw [set_get, if_neg]
              rintro ⟨rfl, _⟩
              exact hdt h2
        have hB : ups (wr ws (ED hd xs e (fun j => listed.getD j false) h)) (hd.getD i default).d (xs i) = wr ws (ED hd xs e (fun j => (listed.setIfInBounds i true).getD j false) h) := by
          rw [wr_ups ws _ fun t ht x hx => (hwi t x hx).2 ht, hB0]
        have hstep := stepQ_congr hA (hx i hih hidf)
        obtain ⟨imm, hlow⟩ := hget i oi hih hoi
        have hone : aops P [hd.getD i default] (wr ws (ED hd xs e (fun j => listed.getD j false) h)) H fun e' H' => e' = wr ws (ED hd xs e (fun j => (listed.setIfInBounds i true).getD j false) h) ∧ H' = H := by
          refine aops_of ?_
          rcases hstep with ⟨g1, g2⟩ | ⟨g1, g2⟩
          · refine .inl ⟨g1, ?_⟩
            have := aop_of_aopq g2
            simp only [aops]
            refine aop_mono this ?_
            rintro y H' ⟨rfl, rfl⟩
            exact ⟨hB, rfl⟩
          · refine .inr ⟨g1, ?_⟩
            rw [← g2]
            exact ⟨hB, rfl⟩
        have hnx := op_step (r := r) (m0 := m0) hlow hone hst (next := wpAnyIn (WR r) m0 P .any ops Q fuel (listed.setIfInBounds i true)) (Q := Q) fun e'' H'' a'' w'' hK'' hs'' => by
          obtain ⟨rfl, rfl⟩ := hK''
          have hsub : ∀ j, j < h → (listed.setIfInBounds i true).getD j false = false → listed.getD j false = false := fun j hj hl => by
            rw [set_get] at hl
            split at hl
            · cases hl
            · exact hl
          exact ih k rm ws _ a'' w'' _ hk hk1 hcount (by simpa using hsz) (fun j g1 g2 => by rw [set_get, if_neg (by omega)]; exact ht1 j g1 g2) (fun j g1 g2 => by rw [set_get, if_neg (by omega)]; exact ht2 j g1 g2) (fun j g1 g2 => by rw [set_get, if_neg (by omega)]; exact ht3 j g1 g2) hrm hnd (hc.set hi) hK (fun j hj hl => hx j hj (hsub j hj hl)) (fun j hj hl => hw j hj (hsub j hj hl)) hs''
        unfold wpOpIn
        rw [hoi]
        simp only
        exact hnx
      · -- one of those behind
        have hqf : listed.getD q false = false := by rw [getD_ft (by omega)]; exact q3
        have hip : i < p2 := by
          refine Classical.byContradiction fun hge => ?_
          rcases hD q i his (by omega) with g | g | g | g
          · have := closed_before hc i oi q hoi g hiall
            rw [hqf] at this; cases this
          · omega
          · omega
          · omega
        have hkq : k < p1 → i = k := by
          intro hkp
          have hkf : listed.getD k false = false := by rw [getD_ft (by omega), ht1 k hk hkp]; simp
          have hik : k ≤ i := by
            by_cases hi1 : i < p1
            · have := ht1 i (by omega) hi1
              rw [hiu] at this
              have := this.symm
              simp at this
              exact this
            · omega
          refine Classical.byContradiction fun hne => ?_
          rcases hD k i his (by omega) with g | g | g | g
          · have := closed_before hc i oi k hoi g hiall
            rw [hkf] at this; cases this
          · omega
          · omega
          · omega
        obtain ⟨tg, tlow, tf, ti⟩ := hT i (by omega) hip
        have hlow := tlow oi hoi
        generalize hlo : tlAt P n hs reg ops i = lo at tg tf ti hlow
        have hfr : ∀ j, j < h → listed.getD j false = false → presAt hs reg i = [] ∧ quietK (hd.getD j default).op = true ∧ confl (hd.getD j default) lo = false ∧ comm (hd.getD j default).op lo.op = true := by
          intro j hj hl
          rw [← hlo]
          rcases hD j i his (by omega) with g | g | g | g
          · have := closed_before hc i oi j hoi g hiall
            rw [hl] at this
            cases this
          · omega
          · exact g.2.2
          · omega
        have hdet : det lo.op = true := by
          by_cases hi1 : i < p1
          · simp [det, tf hi1]
          · simp [det, (ti (by omega)).1]
        have hR : ∀ t ∈ lo.rd, wr ws (ED hd xs e (fun _ => true) h) t = wr ws (ED hd xs e (fun j => listed.getD j false) h) t := by
          intro t htr
          have : ∀ (l : List (Option Nat × AV)) (e1 e2 : Env), e1 t = e2 t → wr l e1 t = wr l e2 t := by
            intro l
            induction l with
            | nil => intro e1 e2 h; exact h
            | cons p l ihl =>
              intro e1 e2 h
              obtain ⟨d, x⟩ := p
              refine ihl _ _ ?_
              by_cases hdt : d = some t
              · rw [hdt, ups_eq, ups_eq]
              · rw [ups_ne hdt, ups_ne hdt]; exact h
          refine this ws _ _ (ED_congr h fun j hj hdj => ?_)
          cases hb : listed.getD j false with
          | true => rfl
          | false =>
            have := (conflF (hfr j hj hb).2.2.1).1 t hdj
            exact absurd htr this
        have hares : ares lo.op (wr ws (ED hd xs e (fun _ => true) h)) H = ares lo.op (wr ws (ED hd xs e (fun j => listed.getD j false) h)) H := ares_congr fun t ht => hR t (by simp [LO.rd, ht])
        -- the next state
        have go : ∀ (k' : Nat) (rm' : List Nat), rm'.Nodup → h ≤ k' → k' ≤ p1 → (∀ j, h ≤ j → j < p1 → (listed.setIfInBounds i true).getD j true = decide (j < k')) → (∀ j, p1 ≤ j → j < p2 → ((listed.setIfInBounds i true).getD j true = false ↔ j ∈ rm')) → (∀ j ∈ rm', p1 ≤ j ∧ j < p2) →
            (∀ σ : List Nat, σ.Perm rm' → aops P (lo :: ((List.range' k' (p1 - k')).map (tlAt P n hs reg ops) ++ σ.map (tlAt P n hs reg ops) ++ post)) (wr ws (ED hd xs e (fun _ => true) h)) H K) →
            wpOpIn (WR r) m0 P ops Q i (wpAnyIn (WR r) m0 P .any ops Q fuel (listed.setIfInBounds i true)) a w := by
          intro k' rm' hnd' hk' hk1' ht1' ht2' hrm' hK'
          have hK2 : ∀ σ : List Nat, σ.Perm rm' → (ares lo.op (wr ws (ED hd xs e (fun _ => true) h)) H).ok ∧ aops P ((List.range' k' (p1 - k')).map (tlAt P n hs reg ops) ++ σ.map (tlAt P n hs reg ops) ++ post) (ups (wr ws (ED hd xs e (fun _ => true) h)) lo.d (ares lo.op (wr ws (ED hd xs e (fun _ => true) h)) H).x) (ares lo.op (wr ws (ED hd xs e (fun _ => true) h)) H).H K := by
            intro σ hσ
            have := hK' σ hσ
            simp only [aops, tg] at this
            rwa [det_aop hdet] at this
          have hok := (hK2 rm' (List.Perm.refl _)).1
          have hone : aops P [lo] (wr ws (ED hd xs e (fun j => listed.getD j false) h)) H fun e' H' => e' = ups (wr ws (ED hd xs e (fun j => listed.getD j false) h)) lo.d (ares lo.op (wr ws (ED hd xs e (fun _ => true) h)) H).x ∧ H' = (ares lo.op (wr ws (ED hd xs e (fun _ => true) h)) H).H := by
            simp only [aops, tg]
            rw [det_aop hdet, ← hares]
            exact ⟨hok, rfl, rfl⟩
          have hnx := op_step (r := r) (m0 := m0) hlow hone hst (next := wpAnyIn (WR r) m0 P .any ops Q fuel (listed.setIfInBounds i true)) (Q := Q) fun e'' H'' a'' w'' hK'' hs'' => by
            obtain ⟨rfl, rfl⟩ := hK''
            have hsame : ∀ j, j < h → (listed.setIfInBounds i true).getD j false = listed.getD j false := fun j hj => by rw [set_get, if_neg (by omega)]
            have hED : ED hd xs e (fun j => (listed.setIfInBounds i true).getD j false) h = ED hd xs e (fun j => listed.getD j false) h := by
              funext t
              exact ED_congr h fun j hj _ => hsame j hj
            refine ih k' rm' (ws ++ [(lo.d, (ares lo.op (wr ws (ED hd xs e (fun _ => true) h)) H).x)]) _ a'' w'' _ hk' hk1' hcount (by simpa using hsz) ht1' ht2' (fun j g1 g2 => by rw [set_get, if_neg (by omega)]; exact ht3 j g1 g2) hrm' hnd' (hc.set hi) (fun σ hσ => by rw [wr_snoc]; exact (hK2 σ hσ).2) (fun j hj hl => ?_) (fun j hj hl t y hy => ?_) (by rw [wr_snoc, hED]; exact hs'')
            · rw [hsame j hj] at hl
              exact comm_keeps (hfr j hj hl).2.1 (hfr j hj hl).2.2.2 (fun _ => rfl) hok (hx j hj hl)
            · rw [hsame j hj] at hl
              rcases List.mem_append.1 hy with hy | hy
              · exact hw j hj hl t y hy
              · simp only [List.mem_singleton, Prod.mk.injEq] at hy
                have hcf := conflF (hfr j hj hl).2.2.1
                exact ⟨hcf.2.1 t hy.1.symm, fun hdj => hcf.2.2 t hdj hy.1.symm⟩
          unfold wpOpIn
          rw [hoi]
          simp only
          exact hnx
        by_cases hi1 : i < p1
        · have hkp : k < p1 := by
            refine Classical.byContradiction fun hge => ?_
            have := ht1 i (by omega) hi1
            rw [hiu] at this
            have := this.symm
            simp at this
            omega
          obtain rfl := hkq hkp
          refine go (i + 1) rm hnd (by omega) (by omega) (fun j g1 g2 => ?_) (fun j g1 g2 => by rw [set_get, if_neg (by omega)]; exact ht2 j g1 g2) hrm fun σ hσ => ?_
          · rw [set_get]
            by_cases hji : j = i
            · rw [if_pos ⟨hji, by omega⟩]; simp; omega
            · rw [if_neg fun hh => hji hh.1, ht1 j g1 g2]
              have : (j < i) = (j < i + 1) := by simp; omega
              simp only [this]
          · have := hK σ hσ
            rw [show p1 - i = (p1 - (i + 1)) + 1 by omega, List.range'_succ, List.map_cons, hlo] at this
            simpa using this
        · have hkp : k = p1 := by
            refine Classical.byContradiction fun hne => ?_
            have := hkq (by omega)
            omega
          subst hkp
          have him : i ∈ rm := (ht2 i (by omega) hip).1 hiu
          refine go k (rm.filter (· != i)) (hnd.filter _) hk (Nat.le_refl _) (fun j g1 g2 => by rw [set_get, if_neg (by omega)]; exact ht1 j g1 g2) (fun j g1 g2 => ?_) (fun j hj => hrm j (List.mem_filter.1 hj).1) fun σ hσ => ?_
          · rw [set_get, List.mem_filter]
            by_cases hji : j = i
            · rw [if_pos ⟨hji, by omega⟩]; simp [hji]
            · rw [if_neg fun hh => hji hh.1, ht2 j g1 g2]; simp [hji]
          · have hp : (i :: σ).Perm rm := by
              refine ((List.Perm.cons i hσ).trans ?_)
              exact perm_filter_ne him (hnd)
            have := hK (i :: σ) hp
            rw [List.map_cons, hlo] at this
            simpa using this

theorem draw_sound3 {r : Option Nat} {m0 : Nat} {hs : List Hn} {id h p1 p2 : Nat} {post : List LO} {K : Env → AHeap → Prop} {Q : Exit → Act → World → Prop} (hhd : lowHd P n hs id ops 0 (ops.toList.take h) = some hd) (hpost : lowOps P n hs id ops p2 (ops.toList.drop p2) = some post)
    (hD : drawOk3 P n hs id ops hd h p1 p2 = true) (hE : edgesOk ops = true) (q1 : h ≤ p1) (q2 : p1 ≤ p2) (q3 : p2 ≤ ops.size)
    (hK : aopsq P hd e H fun e' => ∀ σ : List LO, σ.Perm ((List.range' p1 (p2 - p1)).map (tlAt P n hs id ops)) → aops P ((List.range' h (p1 - h)).map (tlAt P n hs id ops) ++ σ ++ post) e' H K) (hst : St X w0 ρ0 n0 n e H a w)
    (hQ : ∀ e' H' a' w', K e' H' → St X w0 ρ0 n0 n e' H' a' w' → Q .normal a' w') : wpAnyIn (WR r) m0 P .any ops Q ops.size (Array.replicate ops.size false) a { w with drawn := w.drawn + 1 } := by
  obtain ⟨g1, g2⟩ := lowHd_get _ _ _ hhd
  have hlen : hd.length = h := by rw [g1]; simp; omega
  obtain ⟨xs, g3, g4⟩ := aopsq_chain hd hK
  rw [hlen] at g3 g4
  obtain ⟨d1, d2⟩ := drawOk3_pr hD
  have h0 : ∀ j, (Array.replicate ops.size false).getD j false = false := fun j => getD_replicate_false _ _
  have h1 : ∀ j, j < ops.size → (Array.replicate ops.size false).getD j true = false := fun j hj => by rw [← getD_ft (by simpa using hj)]; exact h0 j
  refine many_sound hE d1 d2 q1 q2 q3 hlen (fun k o hk ho => g2 k o ?_) hpost hQ ops.size h (List.range' p1 (p2 - p1)) [] H a _ _ (Nat.le_refl _) q1 ?_ (by simp) (fun j h2 hj => ?_) (fun j h2 hj => ?_) (fun j h2 hj => h1 j hj) (fun j hj => ?_) List.nodup_range' ?_ (fun σ hσ => g3 _ (hσ.map _)) (fun i hi _ => g4 i hi) (fun i _ _ t x hx => by simp at hx) ?_
  · rw [List.getElem?_take, if_pos hk]; simpa using ho
  · have := left_eq (listed := Array.replicate ops.size false) (h := 0) ops.size fun j hj => by rw [h1 j hj]; simp
    omega
  · rw [h1 j (by omega)]; simp; omega
  · rw [h1 j (by omega)]; simp [List.mem_range']; exact ⟨j - p1, by omega, by omega⟩
  · obtain ⟨i, hi, rfl⟩ := List.mem_range'.1 hj; omega
  · intro j oj hj hl
    rw [h0 j] at hl
    cases hl
  · have : ED hd xs e (fun j => (Array.replicate ops.size false).getD j false) h = e := by
      funext t
      rw [ED_skip (i := 0) h (Nat.zero_le _) fun j _ _ _ => h0 j]
      rfl
    show St X w0 ρ0 n0 n (ED hd xs e (fun j => (Array.replicate ops.size false).getD j false) h) H a _
    rw [this]
    exact hst.still ⟨rfl, rfl, rfl, Nat.le_refl _⟩ rfl
end
end Go.Ax

/- Whole functions: what the steps say of a function's lowered form holds of every call of it. -/
namespace Go.Ax
open Go Go.RowKit
set_option linter.unusedSimpArgs false
set_option linter.unusedVariables false

section
variable {P : Program} {w w0 : World} {X : Nat → Prop} {ρ ρ0 : Nat → Loc} {H : AHeap} {e : Env} {a : Act} {n n0 : Nat}

/-- The ways out of a piece of code. -/
def outE : Out → Exit
  | .normal => .normal
  | .exit id => .exit id
  | .ret => .ret

theorem mark_ev {x : LX} {b : Bool} (h : ev e x = bool b) : markX e x b = e := by
  cases x with
  | t k => exact up_eq h
  | c _ => rfl

theorem least' {p : Nat → Prop} (h : ∃ n, p n) : ∃ n, p n ∧ ∀ m, p m → n ≤ m := by
  obtain ⟨n, hn⟩ := h
  induction n using Nat.strongRecOn with
  | _ n ih =>
    by_cases hh : ∃ m, m < n ∧ p m
    · obtain ⟨m, hm, hp⟩ := hh; exact ih m hm hp
    · exact ⟨n, hn, fun m hm => Nat.le_of_not_lt fun hlt => hh ⟨m, hlt, hm⟩⟩

open Classical in
theorem wpIn_loop_ghost {F : Fence} {m0 : Nat} {c : Code} {Q : Exit → Act → World → Prop} (I : Nat → Act → World → Prop) (k : Nat) (h0 : I k a w)
    (round : ∀ k a w, I k a w → c.wpIn F m0 P (Exit.then (fun a' w' => ∃ k', k' < k ∧ I k' a' w') Q) a w) : (Code.loop c).wpIn F m0 P Q a w := by
  refine wpIn_loop (fun a w => ∃ k, I k a w) (fun a w => if hx : ∃ k, I k a w then Classical.choose (least' hx) else 0) ⟨k, h0⟩ ?_
  intro a w hs
  obtain ⟨hI, hl⟩ := Classical.choose_spec (least' hs)
  refine wpIn_mono (round _ a w hI) fun e a' w' hh => ?_
  cases e with
  | normal =>
    obtain ⟨k', hk, hI'⟩ := hh
    refine ⟨⟨k', hI'⟩, ?_⟩
    rw [dif_pos ⟨k', hI'⟩, dif_pos hs]
    exact Nat.lt_of_le_of_lt ((Classical.choose_spec (least' ⟨k', hI'⟩)).2 _ hI') hk
  | _ => exact hh

/-- The slots of a round: those of the record, the loop's variables set. -/
theorem upL_rep {M : Nat → Prop} {N k : Nat} : ∀ (ps : List Nat) (xs : List AV) (us : List Value) {e : Env} {tmps : Array Value}, xs.length = us.length → xs.length = ps.length → tmps.size = N → (∀ p ∈ ps, p < N) →
    (∀ t, t < N → Rep w M ρ k (e t) (tmps.getD t undef)) → (∀ (i : Nat) (x : AV) (u : Value), xs[i]? = some x → us[i]? = some u → Rep w M ρ k x u) →
    ((ps.zip us).foldl (fun tmps (t, a) => tmps.setIfInBounds t a) tmps).size = N ∧ ∀ t, t < N → Rep w M ρ k (upL e ps xs t) (((ps.zip us).foldl (fun tmps (t, a) => tmps.setIfInBounds t a) tmps).getD t undef)
  | [], xs, us, e, tmps, h1, h2, h3, _, h4, _ => by
    cases xs with
    | nil => exact ⟨h3, h4⟩
    | cons x xs => simp at h2
  | p :: ps, [], us, e, tmps, h1, h2, h3, _, h4, _ => by simp at h2
  | p :: ps, x :: xs, [], e, tmps, h1, h2, h3, _, h4, _ => by simp at h1
  | p :: ps, x :: xs, u :: us, e, tmps, h1, h2, h3, hp, h4, h5 => by
    simp only [List.zip_cons_cons, List.foldl_cons, upL]
    refine upL_rep ps xs us (by simpa using h1) (by simpa using h2) (by simpa using h3) (fun q hq => hp q (by simp [hq])) (fun t ht => ?_) (fun i x u hx hu => h5 (i + 1) x u (by simpa using hx) (by simpa using hu))
    simp only [up]
    by_cases htp : t = p
    · subst htp
      rw [if_pos rfl]
      have : (tmps.setIfInBounds t u).getD t undef = u := by simp [Array.getD_eq_getD_getElem?, h3, ht]
      rw [this]
      exact h5 0 x u rfl rfl
    · rw [if_neg htp]
      have : (tmps.setIfInBounds p u).getD t undef = tmps.getD t undef := by
        simp only [Array.getD_eq_getD_getElem?]
        rw [Array.getElem?_setIfInBounds_ne (fun e => htp e.symm)]
      rw [this]
      exact h4 t ht

theorem same_put (w : World) (b : Nat) (o : Obj) : Same w (w.putObj b o) := ⟨rfl, rfl, rfl, by simp⟩

/-- The record of a range over a function is set. -/
theorem HRel.setLp (h : HRel w X ρ H) {r l : Nat} {lr : Go.Loop} {e0 : Env} {st : LpSt} (st' : LpSt) (hr : H[r]? = some (.lp l lr e0 st)) :
    ∃ ρ', HRel (w.putObj l (.loop (lpRec lr st'))) X ρ' (H.set r (.lp l lr e0 st')) ∧ Fut w ρ H.length (w.putObj l (.loop (lpRec lr st'))) ρ' (H.set r (.lp l lr e0 st')).length := by
  have hlt : r < H.length := (List.getElem?_eq_some_iff.1 hr).1
  obtain ⟨h1, h2, h3, h4⟩ := h.objs r _ hr
  have hb := (h.lt r l 0 hlt h2).1
  obtain ⟨ρ', _, g2, g3⟩ := h.setAt (w' := w.putObj l (.loop (lpRec lr st'))) hlt (ρ r) (.lp l lr e0 st') (same_put _ _ _) (.inl rfl) (fun b o hbl => .inl ⟨o, hbl⟩)
    (fun b _ hne => World.putObj_heap_other fun e => by subst e; exact hne 0 h2)
    (fun ρ' _ hf => ⟨h1, h2, World.putObj_heap_same hb, fun t u hu => (h4 t u hu).nextN hf⟩)
  exact ⟨ρ', g2, g3⟩
theorem HRel.setDead (h : HRel w X ρ H) {r l : Nat} {lr : Go.Loop} {e0 : Env} {st : LpSt} (o : Obj) (hr : H[r]? = some (.lp l lr e0 st)) :
    ∃ ρ', HRel (w.putObj l o) X ρ' (H.set r .dead) ∧ Fut w ρ H.length (w.putObj l o) ρ' (H.set r .dead).length := by
  have hlt : r < H.length := (List.getElem?_eq_some_iff.1 hr).1
  obtain ⟨h1, h2, h3, h4⟩ := h.objs r _ hr
  obtain ⟨ρ', _, g2, g3⟩ := h.setAt (w' := w.putObj l o) hlt (ρ r) .dead (same_put _ _ _) (.inl rfl) (fun b o hbl => .inl ⟨o, hbl⟩)
    (fun b _ hne => World.putObj_heap_other fun e => by subst e; exact hne 0 h2) (fun ρ' _ hf => trivial)
  exact ⟨ρ', g2, g3⟩

theorem code_sound {hs : List Hn} : ∀ (c : Code) {X : Nat → Prop} {w0 : World} {ρ0 : Nat → Loc} {n0 : Nat} {rd : Option Nat} {m0 : Nat} {lc : LCode} {e : Env} {H : AHeap} {a : Act} {w : World} {K : Out → Env → AHeap → Prop} {Q : Exit → Act → World → Prop}, lowC P n hs c = some lc → (rd = none ∨ nr lc = true) → awp P lc e H K → St X w0 ρ0 n0 n e H a w →
    (∀ o e' H' a' w', K o e' H' → St X w0 ρ0 n0 n e' H' a' w' → Q (outE o) a' w') → c.wpIn (WR rd) m0 P Q a w := by
  intro c
  induction c with
  | skip =>
    intro X w0 ρ0 n0 rd m0 lc e H a w K Q hl hrd h hst hQ
    simp only [lowC, Option.some.injEq] at hl
    subst hl
    exact wpIn_skip (hQ .normal _ _ _ _ h hst)
  | region id ops b =>
    intro X w0 ρ0 n0 rd m0 lc e H a w K Q hl hrd h hst hQ
    cases b with
    | false =>
      simp only [lowC] at hl
      obtain ⟨los, h1, rfl⟩ := opt_map hl
      exact wpIn_region_list (ops_sound (fun e' H' a' w' hk hs' => hQ .normal _ _ _ _ hk hs') _ _ _ _ _ _ _ h1 h hst)
    | true =>
      simp only [lowC] at hl
      split at hl
      · rename_i p1 p2 _
        split at hl
        · rename_i hd post h1 h2
          split at hl
          · rename_i hc
            simp only [Bool.and_eq_true, decide_eq_true_eq] at hc
            obtain ⟨⟨⟨⟨⟨c1, c2⟩, c3⟩, c4⟩, c5⟩, c6⟩ := hc
            simp only [Option.some.injEq] at hl
            subst hl
            refine perm_region (hs := hs) c3 ?_
            exact draw_sound3 h1 h2 c1 c2 c4 c5 c6 h hst fun e' H' a' w' hk hs' => hQ .normal _ _ _ _ hk hs'
          · cases hl
        · cases hl
      · split at hl
        · rename_i hd tl h1 h2
          split at hl
          · rename_i hc
            simp only [Bool.and_eq_true, Bool.or_eq_true, decide_eq_true_eq] at hc
            obtain ⟨⟨⟨c1, c2⟩, c3⟩, c4⟩ := hc
            simp only [Option.some.injEq] at hl
            subst hl
            refine perm_region (hs := hs) c3 ?_
            rcases c1 with c1 | c1
            · exact draw_sound h1 h2 c1 c2 c3 c4 h hst fun e' H' a' w' hk hs' => hQ .normal _ _ _ _ hk hs'
            · exact draw_sound2 h1 h2 c1 c2 c3 c4 h hst fun e' H' a' w' hk hs' => hQ .normal _ _ _ _ hk hs'
          · cases hl
        · cases hl
  | seq x y ihx ihy =>
    intro X w0 ρ0 n0 rd m0 lc e H a w K Q hl hrd h hst hQ
    simp only [lowC] at hl
    split at hl
    · rename_i lx ly h1 h2
      simp only [Option.some.injEq] at hl
      subst hl
      simp only [nr, Bool.and_eq_true] at hrd
      refine wpIn_seq (ihx h1 (hrd.imp id (·.1)) h hst fun o e' H' a' w' hk hs' => ?_)
      cases o with
      | normal => exact ihy h2 (hrd.imp id (·.2)) hk hs' hQ
      | exit id => exact hQ (.exit id) _ _ _ _ hk hs'
      | ret => exact hQ .ret _ _ _ _ hk hs'
    · cases hl
  | cond c x y ihx ihy =>
    intro X w0 ρ0 n0 rd m0 lc e H a w K Q hl hrd h hst hQ
    simp only [lowC] at hl
    split at hl
    · rename_i lcx lx ly h0 h1 h2
      simp only [Option.some.injEq] at hl
      subst hl
      simp only [nr, Bool.and_eq_true] at hrd
      simp only [awp] at h
      have hst' := hst
      obtain ⟨_, ρ, _, he, _⟩ := hst'
      have hr := ev_rep he h0
      split at h
      · rename_i t ht
        rw [ht] at hr
        have hv := rep_v hr
        refine wpIn_cond hv ?_
        cases t with
        | true =>
          rw [if_pos rfl, mark_ev ht] at h
          exact ihx h1 (hrd.imp id (·.1)) h hst hQ
        | false =>
          rw [if_neg (by simp), mark_ev ht] at h
          exact ihy h2 (hrd.imp id (·.2)) h hst hQ
      · exact h.elim
    · cases hl
  | block id c ih =>
    intro X w0 ρ0 n0 rd m0 lc e H a w K Q hl hrd h hst hQ
    simp only [lowC] at hl
    obtain ⟨lb, h1, rfl⟩ := opt_map hl
    simp only [nr] at hrd
    refine wpIn_block (ih h1 hrd h hst fun o e' H' a' w' hk hs' => ?_)
    cases o with
    | normal => exact hQ .normal _ _ _ _ hk hs'
    | exit j =>
      simp only at hk
      simp only [outE, Exit.inBlock]
      split
      · rename_i hj; rw [if_pos hj] at hk; exact hQ .normal _ _ _ _ hk hs'
      · rename_i hj; rw [if_neg hj] at hk; exact hQ (.exit j) _ _ _ _ hk hs'
    | ret => exact hQ .ret _ _ _ _ hk hs'
  | loop c ih =>
    intro X w0 ρ0 n0 rd m0 lc e H a w K Q hl hrd h hst hQ
    simp only [lowC] at hl
    obtain ⟨lb, h1, rfl⟩ := opt_map hl
    simp only [nr] at hrd
    obtain ⟨I, μ, h2, h3⟩ := h
    refine wpIn_loop_ghost (fun k a w => ∃ e H, I e H ∧ μ e H = k ∧ St X w0 ρ0 n0 n e H a w) (μ e H) ⟨e, H, h2, rfl, hst⟩ ?_
    rintro k a w ⟨e, H, hI, rfl, hst⟩
    refine ih h1 hrd (h3 e H hI) hst fun o e' H' a' w' hk hs' => ?_
    cases o with
    | normal => exact ⟨_, hk.2, e', H', hk.1, rfl, hs'⟩
    | exit id => exact hQ (.exit id) _ _ _ _ hk hs'
    | ret => exact hQ .ret _ _ _ _ hk hs'
  | exit id =>
    intro X w0 ρ0 n0 rd m0 lc e H a w K Q hl hrd h hst hQ
    simp only [lowC, Option.some.injEq] at hl
    subst hl
    exact wpIn_exit (hQ (.exit id) _ _ _ _ h hst)
  | ret =>
    intro X w0 ρ0 n0 rd m0 lc e H a w K Q hl hrd h hst hQ
    simp only [lowC, Option.some.injEq] at hl
    subst hl
    exact wpIn_ret (hQ .ret _ _ _ _ h hst)
  | rangeFunc g ps asg bdy iha ihb =>
    intro X w0 ρ0 n0 rd m0 lc e H a w K Q hl hrd h hst hQ
    simp only [lowC] at hl
    split at hl
    · rename_i g' la lb hg ha hb
      split at hl
      · rename_i hc
        simp only [Bool.and_eq_true, List.all_eq_true, decide_eq_true_eq] at hc
        obtain ⟨⟨nra, nrb⟩, hps⟩ := hc
        simp only [Option.some.injEq] at hl
        subst hl
        obtain rfl : rd = none := hrd.resolve_right (by simp [nr])
        simp only [awp] at h
        obtain ⟨hn, ρ, hrel, he, hf, hm⟩ := hst
        have rf := ev_rep he hg
        split at h
        · rename_i k first caps hev
          rw [hev] at rf
          generalize hfe : a.eval g = fv at rf
          cases rf with
          | fn _ _ _ _ fs us h1 h2 h3 h4 =>
            refine wpIn_rangeFunc fun fn _ => ?_
            obtain ⟨lr, hlr⟩ : ∃ lr : Go.Loop, lr = { state := .ready, pending := none, fn, tmps := a.tmps, params := ps, assign := asg, body := bdy, defers := w.heap.size } := ⟨_, rfl⟩
            have hlr0 : (lr.state = .ready ∧ lr.pending = none) ∧ (lr.tmps = a.tmps ∧ lr.params = ps) ∧ lr.assign = asg ∧ lr.body = bdy := by subst hlr; exact ⟨⟨rfl, rfl⟩, ⟨rfl, rfl⟩, rfl, rfl⟩
            obtain ⟨⟨l1, l2⟩, ⟨l3, l4⟩, l5, l6⟩ := hlr0
            have hlb : ∀ st o, lpRec { lpRec lr st with state := .done, pending := some (lpJump o) } .ready = lpRec lr (.done o) := by intro st o; cases st <;> rfl
            obtain ⟨w1, hw1⟩ : ∃ w1, (w.alloc (.deferred (some []))).alloc (.loop lr) = w1 := ⟨_, rfl⟩
            -- the two blocks are laid
            obtain ⟨a1, a2⟩ := hrel.more (Same.alloc w (.deferred (some []))) (heap_old w _)
            obtain ⟨ρ1, p1, p2, p3⟩ := a1.push (w' := w1) { blk := some (w.heap.size + 1, 0) } (.lp (w.heap.size + 1) lr e .ready) (by rw [← hw1]; exact Same.alloc _ _) (fun b o hbl => by simp at hbl; obtain ⟨rfl, _⟩ := hbl; rw [← hw1]; simp) (by rw [← hw1]; exact heap_old _ _)
              (fun ρ' hf' hl' => ⟨rfl, rfl, by rw [← hw1]; have := World.alloc_heap_new (w.alloc (.deferred (some []))) (.loop lr); rwa [World.size_alloc] at this, fun t u hu => by
                rw [l3] at hu
                have htl : t < n := by rw [← hn]; exact (Array.getElem?_eq_some_iff.1 hu).1
                have := he t htl
                rw [show a.tmps.getD t undef = u by simp [Array.getD_eq_getD_getElem?, hu]] at this
                exact (this.nextN a2).nextN hf'⟩)
            have hfw := a2.trans p3
            have hD1 : w1.heap[w.heap.size]? = some (.deferred (some [])) := by rw [← hw1]; exact (Below.heap_alloc _ _ _ (by simp)).trans (World.alloc_heap_new w _)
            have hDs : w.heap.size < w1.heap.size := by rw [← hw1]; simp; omega
            have hDo : ¬ Own ρ1 (H ++ [HO.lp (w.heap.size + 1) lr e .ready]).length w.heap.size := by
              rintro ⟨r, o, hr, hbl⟩
              by_cases hrl : r = H.length
              · subst hrl; rw [p1] at hbl; simp at hbl
              · have hr' : r < H.length := by simp at hr; omega
                rcases p3.loc r hr' with h' | h'
                · rw [h'] at hbl
                  have := (hrel.lt r _ _ hr' hbl).1
                  omega
                · have h9 : ∃ b o, (ρ1 r).blk = some (b, o) := ⟨_, _, hbl⟩
                  have := p2.lt r _ _ hr hbl
                  rcases p3.own _ ⟨r, o, hr, hbl⟩ with ⟨r', o', hr2, hbl2⟩ | h'
                  · have := (hrel.lt r' _ _ hr2 hbl2).1; omega
                  · rw [World.size_alloc] at h'; omega
            have hmk : Mk w0 w1 ρ1 (H ++ [HO.lp (w.heap.size + 1) lr e .ready]).length (mark w.heap.size :: a.defers) := by
              obtain ⟨ds, d1, d2, d3⟩ := hm.fut hfw
              obtain ⟨ds', d1', d2', d3'⟩ := hm
              have hdd : ds = ds' := by
                rw [d1] at d1'
                clear d2 d3 d2' d3' d1
                induction ds generalizing ds' with
                | nil => cases ds' with
                  | nil => rfl
                  | cons _ _ => simp at d1'
                | cons D ds ih => cases ds' with
                  | nil => simp at d1'
                  | cons D' ds' => simp [mark] at d1'; rw [d1'.1, ih ds' (by simpa [mark] using d1'.2)]
              subst hdd
              refine ⟨w.heap.size :: ds, by rw [List.map_cons, d1], List.nodup_cons.2 ⟨fun hin => ?_, d2⟩, fun D hD => ?_⟩
              · have := (d3' _ hin).2.1; omega
              · rcases List.mem_cons.1 hD with rfl | hD
                · exact ⟨hf.size, hDs, hDo, hD1⟩
                · exact d3 D hD
            -- the rounds
            have hY : ∀ (args : List AV) (H1 : AHeap) (r : Nat) (R : AV → AHeap → Prop), args.length = ps.toList.length → H1[r]? = some (.lp (w.heap.size + 1) lr e .ready) →
                (awp P la (upL e ps.toList args) H1 fun o e1 H2 => match o with
                  | .normal => H2[r]? = some (.lp (w.heap.size + 1) lr e .ready) ∧ awp P lb e1 (H2.set r (.lp (w.heap.size + 1) lr e .busy)) (rndQ (w.heap.size + 1) lr e r R)
                  | _ => False) → AYield P (w.heap.size + 1) args H1 R := by
              intro args H1 r R hal hr1 hrun X' ρ' w' vs hrel' hargs'
              obtain ⟨_, _, q3, q4⟩ := hrel'.objs r _ hr1
              have q3' : w'.heap[w.heap.size + 1]? = some (.loop lr) := q3
              refine ⟨lr.fn, _, lr.assign, lr.body, run_yield q3' (by rw [← hargs'.1, hal, l4]; simp), roundIn_of_wpIn trivial ?_⟩
              rw [l5, l6, l3, l4, ← Array.foldl_toList, Array.toList_zip]
              obtain ⟨u1, u2⟩ := upL_rep (w := w') (M := Mut X' ρ' H1.length) (ρ := ρ') (k := H1.length) (N := n) (e := e) (tmps := a.tmps) ps.toList args vs.toList (by simpa using hargs'.1) hal hn (fun p hp => hps p hp)
                (fun t ht => q4 t _ (by rw [l3]; simp [Array.getD_eq_getD_getElem?, hn, ht])) (fun i x u hx hu => hargs'.2 i x u hx (by simpa using hu))
              refine iha (X := X') (w0 := w') (ρ0 := ρ') (n0 := H1.length) (rd := some (w.heap.size + 1)) ha (.inr nra) hrun ⟨u1, ρ', hrel', u2, Fut.refl _ _ _, Mk.nil⟩ ?_
              intro o e1 H2 a1 w1' hk hs1
              cases o with
              | normal =>
                obtain ⟨hr2, hk2⟩ := hk
                obtain ⟨s1, ρ2, s2, s3, s4, s5⟩ := hs1
                have q5 : w1'.heap[w.heap.size + 1]? = some (.loop lr) := (s2.objs r _ hr2).2.2.1
                obtain ⟨ρ3, t2, t3⟩ := s2.setLp .busy hr2
                refine ⟨_, run_beginRound q5 l1, ihb (X := X') (w0 := w') (ρ0 := ρ') (n0 := H1.length) (rd := some (w.heap.size + 1)) hb (.inr nrb) hk2 ⟨s1, ρ3, t2, fun t ht => (s3 t ht).nextN t3, s4.trans t3, s5.fut t3⟩ ?_⟩
                intro o e2 H3 a2 w2' hk3 hs3
                obtain ⟨hr3, hR⟩ := hk3
                obtain ⟨_, ρ4, v2, _, v4, _⟩ := hs3
                have q6 : w2'.heap[w.heap.size + 1]? = some (.loop (lpRec lr .busy)) := (v2.objs r _ hr3).2.2.1
                cases o with
                | normal =>
                  obtain ⟨ρ5, x2, x3⟩ := v2.setLp .ready hr3
                  have hrec : ({ lpRec lr .busy with state := if (none : Option Code).isNone then LoopState.ready else .done, pending := none } : Go.Loop) = lpRec lr .ready := by
                    cases lr; simp only at l1 l2; subst l1; subst l2; rfl
                  refine ⟨_, _, run_endRound none q6, ?_⟩
                  rw [hrec]
                  exact ⟨_, bool true, _, ρ5, rfl, hR, x2, .v _ _, v4.trans x3⟩
                | exit id =>
                  obtain ⟨ρ5, x2, x3⟩ := v2.setLp (.done (some id)) hr3
                  exact ⟨_, _, run_endRound (some (.exit id)) q6, _, bool false, _, ρ5, rfl, hR, x2, .v _ _, v4.trans x3⟩
                | ret =>
                  obtain ⟨ρ5, x2, x3⟩ := v2.setLp (.done none) hr3
                  exact ⟨_, _, run_endRound (some .ret) q6, _, bool false, _, ρ5, rfl, hR, x2, .v _ _, v4.trans x3⟩
              | exit id => exact hk.elim
              | ret => exact hk.elim
            obtain ⟨⟨fn', hfn, hbody, hname⟩, hcall⟩ := h (w.heap.size + 1) lr hY
            refine ⟨w.heap.size + 1, [mark w.heap.size], w1, { target := .fn (.func k) us, args := fs ++ #[.func (.yield (w.heap.size + 1)) #[] #[]] }, w1, k, fs ++ #[.func (.yield (w.heap.size + 1)) #[] #[]] ++ us, w1, ?_, ?_, ?_, ?_, wr_depth, ?_⟩
            · rw [← hw1, hlr]; exact run_enterLoop_outer _ _ _ _ _
            · simp only [resolve, hfe, Deferred.ofValue, Sem.run_bind, Sem.run_pure, Result.andThen_ok]
              simp [Act.eval]
            · intro f' _; trivial
            · simp only [Sem.run_bind, Sem.run_pure, Result.andThen_ok, invoke, callFunc, run_program, hfn, hname, Bool.false_eq_true, if_false, hbody]
            · refine callsIn_wr ((hcall X ρ1 w1 _ p2 ⟨by simp [h1, h2]; omega, ?_⟩).mono ?_)
              · intro i x u hx hu
                rw [List.append_assoc, List.getElem?_append] at hx
                rw [Array.append_assoc, Array.getElem?_append] at hu
                by_cases hi : i < first.length
                · rw [if_pos hi] at hx
                  rw [if_pos (by omega)] at hu
                  exact (h3 i x u hx hu).nextN hfw
                · rw [if_neg hi, List.getElem?_append] at hx
                  rw [if_neg (by omega), Array.getElem?_append] at hu
                  by_cases hj : i - first.length < 1
                  · rw [if_pos (by simpa using hj)] at hx
                    rw [if_pos (by simp; omega)] at hu
                    have e1 : i - first.length = 0 := by omega
                    have e2 : i - fs.size = 0 := by omega
                    rw [e1] at hx
                    rw [e2] at hu
                    simp at hx hu
                    subst hx; subst hu
                    exact .v _ _
                  · rw [if_neg (by simpa using hj)] at hx
                    rw [if_neg (by simp; omega)] at hu
                    simp only [List.length_cons, List.length_nil, List.size_toArray] at hx hu
                    exact (h4 (i - first.length - 1) x u hx (by rw [← h1] at hu; exact hu)).nextN hfw
              · rintro en w3 ⟨v, x, H', ρ', rfl, ⟨st, hst1, hout⟩, g1, g2, g3⟩
                have q7 : w3.heap[w.heap.size + 1]? = some (.loop (lpRec lr st)) := (g1.objs _ _ hst1).2.2.1
                obtain ⟨ρ4, g4, g5⟩ := g1.setDead (.loop { lpRec lr st with state := .exhausted }) hst1
                have hfut := hfw.trans (g3.trans g5)
                have hSt : St X w0 ρ0 n0 n e (H'.set H.length .dead) { a with defers := [mark w.heap.size] ++ a.defers } (w3.putObj (w.heap.size + 1) (.loop { lpRec lr st with state := .exhausted })) :=
                  ⟨hn, ρ4, g4, fun t ht => (he t ht).nextN hfut, hf.trans hfut, hmk.fut (g3.trans g5)⟩
                cases st with
                | ready => exact ⟨_, _, run_endLoop q7 (by show lr.state ≠ _; rw [l1]; simp), by show (match lr.pending with | none => _ | some c => _); rw [l2]; exact hQ .normal _ _ _ _ hout hSt⟩
                | busy => exact hout.elim
                | done o =>
                  cases o with
                  | none => exact ⟨_, _, run_endLoop q7 (by simp [lpRec]), wpIn_ret (hQ .ret _ _ _ _ hout hSt)⟩
                  | some id => exact ⟨_, _, run_endLoop q7 (by simp [lpRec]), wpIn_exit (hQ (.exit id) _ _ _ _ hout hSt)⟩
        · exact h.elim
      · cases hl
    · cases hl
  | _ => intro X w0 ρ0 n0 rd m0 lc e H a w K Q hl; simp [lowC] at hl

theorem envOf_get : ∀ (l : List AV) (i t : Nat), envOf l i t = if i ≤ t then (l[t - i]?).getD .any else .any
  | [], i, t => by simp [envOf, e0]
  | x :: l, i, t => by
    simp only [envOf, up]
    by_cases h : t = i
    · subst h; simp
    · rw [if_neg h, envOf_get l (i + 1) t]
      by_cases h2 : i ≤ t
      · rw [if_pos (by omega), if_pos h2, show t - i = t - (i + 1) + 1 by omega]
        simp
      · rw [if_neg (by omega), if_neg h2]

/-- The run comes to what the result says, and the world stands still. -/
def Still (P : Program) (s : Sem Value) (w : World) (X : Nat → Prop) (ρ : Nat → Loc) (H : AHeap) (r : Res) : Prop :=
  r.ok → r.H = H ∧ ∃ u, s.run P w = .ok u w ∧ Rep w (Mut X ρ H.length) ρ H.length r.x u
theorem still_pure {s : Sem Value} {p : Prop} {x : AV} (f : p → ∃ u, s.run P w = .ok u w ∧ Rep w (Mut X ρ H.length) ρ H.length x u) : Still P s w X ρ H ⟨p, x, H⟩ := fun hp => ⟨rfl, f hp⟩
theorem still_also {s : Sem Value} {p : Prop} {r : Res} (f : p → Still P s w X ρ H r) : Still P s w X ρ H (r.also p) := fun ⟨hp, hr⟩ => f hp hr

theorem res_load {t : TypeId} {ag : Bool} {n : Nat} (hag : tyAg P t = some ag) (hsz : tySz P t = some n) (h : HRel w X ρ H) {p : AV} {u : Value} (hp : Rep w (Mut X ρ H.length) ρ H.length p u) :
    Still P (do loadVar t (← asAddr u)) w X ρ H (rLoad ag n p H) := by
  have at_ : ∀ a : Addr, (do loadVar t (← asAddr (.pointer (some a)))) = loadVar t a := fun a => rfl
  cases p with
  | vp cs off =>
    simp only [rLoad]
    refine still_pure fun ⟨h1, h2⟩ => ?_
    cases hp with
    | vp _ _ _ b o c hm hb hcell hrep =>
      rw [at_]
      refine loadVar_ok hag hsz (cs := cs.drop off) (by simp; omega) h2 (fun j => c (off + j)) (fun j hj => ?_) (fun j y hj hy => ?_)
      · have hlt : off + j < cs.length := by omega
        have := hcell (off + j) cs[off + j] (by simp [hlt])
        rw [Nat.add_assoc]
        exact this.1
      · rw [List.getElem?_drop] at hy
        exact (hrep _ _ hy).mono (Nat.zero_le _)
  | ptr r ver off =>
    simp only [rLoad]
    refine still_also fun ⟨hb, hv⟩ => ?_
    obtain ⟨cs, ho⟩ := isBox_some hb
    rw [ho] at hv ⊢
    simp only [isVer] at hv
    simp only [rLoadO]
    refine still_pure fun ⟨h1, h2⟩ => ?_
    obtain ⟨hr, b, c, e, fr, hblk, rfl, hh, hl, hfr, _, hrep⟩ := ptr_box h hp ho hv
    rw [at_]
    refine loadVar_ok hag hsz (cs := cs.drop off) (by simp; omega) h2 (fun j => c.getD (off + j) undef) (fun j hj => ?_) (fun j y hj hy => ?_)
    · rw [cell_of_blk hh]
      have hlt : off + j < c.size := by omega
      simp [hlt]
    · rw [List.getElem?_drop] at hy
      have hlt : off + j < c.size := by omega
      exact (hrep _ _ _ hy (by simp [hlt])).1
  | pe r ver i off =>
    simp only [rLoad]
    refine still_also fun ⟨hb, hv⟩ => ?_
    obtain ⟨v, sz, xs, ho⟩ := isArr_some hb
    rw [ho] at hv ⊢
    simp only [isVer] at hv
    simp only [rLoadO]
    refine still_pure fun ⟨h0, h1, h2⟩ => ?_
    obtain ⟨hr, b, o, c, e, fr, hblk, rfl, hh, hext, hfr, hle, hrow, hsz0, _, _, hrep⟩ := pe_arr h hp ho hv h0
    rw [at_]
    have hx : xs[i]? = some (xs.getD i []) := by simp [h0]
    have hxl : (xs.getD i []).length = sz := hrow _ (List.mem_of_getElem? hx)
    have hlt : ∀ j, j < n → o + i * sz + (off + j) < c.size := fun j hj => by
      have := mul_lt_of (sz := sz) (j := off + j) h0 (by omega)
      omega
    refine loadVar_ok hag hsz (cs := (xs.getD i []).drop off) (by simp only [List.length_drop]; omega) h2 (fun j => c.getD (o + i * sz + (off + j)) undef) (fun j hj => ?_) (fun j y hj hy => ?_)
    · rw [cell_of_blk hh]
      have := hlt j hj
      rw [show o + (i * sz + off) + j = o + i * sz + (off + j) by omega]
      simp [this]
    · rw [List.getElem?_drop] at hy
      exact (hrep i (off + j) _ _ _ hx hy (by simp [hlt j hj])).1.mono (Nat.zero_le _)
  | _ => exact fun h => h.elim

def resS (tmps : Array Value) : ResultVar → Sem Value
  | .tmp t => pure (tmps.getD t undef)
  | .cell a t => do loadVar t (← asAddr (tmps.getD a undef))

theorem res_each (h : HRel w X ρ H) (he : ER w X ρ H n e a) : ∀ (l : List ResultVar) (rs : List RV), lowRs P n l = some rs → (∀ r ∈ rs, (resV e H r).ok) →
    ∃ us : List Value, (l.mapM (resS a.tmps)).run P w = .ok us w ∧ us.length = rs.length ∧ (∀ r ∈ rs, (resV e H r).H = H) ∧ ∀ (i : Nat) (r : RV) (u : Value), rs[i]? = some r → us[i]? = some u → Rep w (Mut X ρ H.length) ρ H.length (resV e H r).x u
  | [], rs, hl, _ => by
    simp only [lowRs, Option.some.injEq] at hl
    subst hl
    exact ⟨[], by simp, rfl, by simp, by simp⟩
  | .tmp t :: l, rs, hl, hok => by
    simp only [lowRs] at hl
    split at hl
    · rename_i m hm
      split at hl
      · rename_i ht
        simp only [Option.some.injEq] at hl
        subst hl
        obtain ⟨us, h1, h2, h3, h4⟩ := res_each h he l m hm fun r hr => hok r (by simp [hr])
        refine ⟨a.tmps.getD t undef :: us, by simp [resS, h1], by simp [h2], ?_, ?_⟩
        · intro r hr
          simp only [List.mem_cons] at hr
          rcases hr with rfl | hr
          · rfl
          · exact h3 r hr
        · intro i r u hr hu
          cases i with
          | zero => simp only [List.getElem?_cons_zero, Option.some.injEq] at hr hu; subst hr; subst hu; exact he t ht
          | succ i => exact h4 i r u (by simpa using hr) (by simpa using hu)
      · cases hl
    · cases hl
  | .cell t ty :: l, rs, hl, hok => by
    simp only [lowRs] at hl
    split at hl
    · rename_i m ag sz hm hag hsz
      split at hl
      · rename_i ht
        simp only [Option.some.injEq] at hl
        subst hl
        obtain ⟨us, h1, h2, h3, h4⟩ := res_each h he l m hm fun r hr => hok r (by simp [hr])
        obtain ⟨g0, u0, g1, g2⟩ := res_load hag hsz h (he t ht) (hok (.cell t ag sz) (by simp))
        refine ⟨u0 :: us, ?_, by simp [h2], ?_, ?_⟩
        · have g1' : (resS a.tmps (.cell t ty)).run P w = .ok u0 w := g1
          simp only [List.mapM_cons, Sem.run_bind]
          rw [g1']
          simp [h1]
        · intro r hr
          simp only [List.mem_cons] at hr
          rcases hr with rfl | hr
          · exact g0
          · exact h3 r hr
        · intro i r u hr hu
          cases i with
          | zero => simp only [List.getElem?_cons_zero, Option.some.injEq] at hr hu; subst hr; subst hu; exact g2
          | succ i => exact h4 i r u (by simpa using hr) (by simpa using hu)
      · cases hl
    · cases hl

theorem results_ok {fn : Func} {rs : List RV} (hl : lowRs P n fn.results.toList = some rs) (h : HRel w X ρ H) (he : ER w X ρ H n e a) (hok : (resVs e H rs).ok) :
    (resVs e H rs).H = H ∧ ∃ v, (results fn a.tmps).run P w = .ok v w ∧ Rep w (Mut X ρ H.length) ρ H.length (resVs e H rs).x v := by
  have hall : ∀ r ∈ rs, (resV e H r).ok := by
    unfold resVs at hok
    split at hok
    · intro r hr; simp at hr; subst hr; exact hok
    · exact hok
  obtain ⟨us, h1, h2, h3, h4⟩ := res_each h he _ _ hl hall
  have hrun : (results fn a.tmps).run P w = .ok (if hh : us.toArray.size = 1 then us.toArray[0] else .tuple us.toArray) w := by
    unfold results
    rw [Array.mapM_eq_mapM_toList]
    simp only [Sem.run_bind]
    have h5 : (List.toArray <$> fn.results.toList.mapM (resS a.tmps)).run P w = .ok us.toArray w := by
      rw [map_eq_pure_bind]
      simp [h1]
    change ((Sem.run P (List.toArray <$> fn.results.toList.mapM (resS a.tmps)) w).andThen _) = _
    rw [h5]
    simp
  rw [hrun]
  match rs, h2, h3, h4 with
  | [r], h2, h3, h4 =>
    match us, h2, h4 with
    | [u], _, h4 => exact ⟨h3 r (by simp), u, rfl, h4 0 r u rfl rfl⟩
  | [], h2, h3, h4 =>
    match us, h2 with
    | [], _ => exact ⟨rfl, _, by simp; rfl, .tup _ _ _ rfl (by simp)⟩
  | r :: r' :: rs, h2, h3, h4 =>
    refine ⟨rfl, _, rfl, ?_⟩
    rw [dif_neg (by simp [h2])]
    refine .tup _ _ _ (by simp [h2]) fun i x u hx hu => ?_
    rw [List.getElem?_map] at hx
    cases hr : (r :: r' :: rs)[i]? with
    | none => rw [hr] at hx; cases hx
    | some r0 =>
      rw [hr] at hx
      simp at hx
      subst hx
      exact h4 i r0 u hr (by simpa using hu)

/-- A block of deferred calls is shut: what stands for values goes on standing. -/
theorem cell_poke {D : Nat} {o : Option (List Deferred)} {o' : Obj} (hD : w.heap[D]? = some (.deferred o)) {x : Addr} {u : Value} (h : w.cell? x = some u) : (w.putObj D o').cell? x = some u := by
  by_cases hb : x.block = D
  · exfalso
    obtain ⟨b, i, sp⟩ := x
    simp only at hb
    subst hb
    simp [World.cell?, hD] at h
  · obtain ⟨b, i, sp⟩ := x
    rw [← h]
    unfold World.cell?
    rw [World.putObj_heap_other hb]
theorem Rep.poke {D : Nat} {o : Option (List Deferred)} {o' : Obj} (hD : w.heap[D]? = some (.deferred o)) {M : Nat → Prop} {k : Nat} {x : AV} {u : Value} (h : Rep w M ρ k x u) : Rep (w.putObj D o') M ρ k x u := by
  induction h with
  | any => exact .any _ _
  | v => exact .v _ _
  | agg n cs us hl _ ih => exact .agg _ _ _ hl ih
  | tup n cs us hl _ ih => exact .tup _ _ _ hl ih
  | nc => exact .nc _ _
  | bnil => exact .bnil _ _
  | slE => exact .slE _ _ _ _
  | slN n sz xs b o cap c hm hb hcap hsz hcell _ ih => exact .slN _ _ _ _ _ _ c hm (by simpa using hb) hcap hsz (fun i j x y hx hy => ⟨cell_poke hD (hcell i j x y hx hy).1, (hcell i j x y hx hy).2⟩) ih
  | vp n cs off b o c hm hb hcell _ ih => exact .vp _ _ _ _ _ c hm (by simpa using hb) (fun j y hy => ⟨cell_poke hD (hcell j y hy).1, (hcell j y hy).2⟩) ih
  | fn n f first caps fs us h1 h2 _ _ ih1 ih2 => exact .fn _ _ _ _ _ _ h1 h2 ih1 ih2
  | mp n ks vs b es clock hm hb hh hks hvs _ ih => exact .mp _ _ _ _ es clock hm (by simpa using hb) (by rw [World.putObj_heap_other (fun e => by subst e; rw [hD] at hh; cases hh)]; exact hh) hks hvs ih
  | os n r ver off len u hr hle h1 hp => exact .os _ _ _ _ _ _ hr hle h1 hp
  | ptr n r ver off u hr hle h1 hp => exact .ptr _ _ _ _ _ hr hle h1 hp
  | pe n r ver i off u hr hle h1 hp => exact .pe _ _ _ _ _ _ hr hle h1 hp
  | om n r ver u hr hle h1 hp => exact .om _ _ _ _ hr hle h1 hp
theorem ObjOk.poke {D : Nat} {o0 : Option (List Deferred)} {o' : Obj} (hD : w.heap[D]? = some (.deferred o0)) {M : Nat → Prop} {k : Nat} {l : Loc} {o : HO} (h : ObjOk w M ρ k l o) : ObjOk (w.putObj D o') M ρ k l o := by
  have hk : ∀ b ob, w.heap[b]? = some ob → (∀ d, ob ≠ Obj.deferred d) → (w.putObj D o').heap[b]? = some ob := fun b ob hb hne => by
    rw [World.putObj_heap_other (fun e => by subst e; rw [hD] at hb; cases hb; exact hne _ rfl)]; exact hb
  cases o with
  | dead => trivial
  | box cs =>
    obtain ⟨h1, b, c, e, fr, h2, h3, h4, h5, h6⟩ := h
    exact ⟨h1, b, c, e, fr, h2, hk _ _ h3 (by simp), h4, h5, fun j y u hy hu => ⟨(h6 j y u hy hu).1.poke hD, (h6 j y u hy hu).2⟩⟩
  | arr ver sz xs =>
    obtain ⟨h1, h2, h3, h4, h5, h6⟩ := h
    refine ⟨h1, h2, h3, h4, h5, ?_⟩
    split
    · rename_i hl; rw [hl] at h6; exact h6
    · rename_i b o hl
      rw [hl] at h6
      obtain ⟨c, e, fr, g1, g2, g3, g4⟩ := h6
      exact ⟨c, e, fr, hk _ _ g1 (by simp), g2, g3, fun i j x y u hx hy hu => ⟨(g4 i j x y u hx hy hu).1.poke hD, (g4 i j x y u hx hy hu).2⟩⟩
  | map ver ks vs =>
    obtain ⟨h1, b, es, clock, h2, h3, h4, h5, h6⟩ := h
    exact ⟨h1, b, es, clock, h2, hk _ _ h3 (by simp), h4, h5, fun i x e hx he => (h6 i x e hx he).poke hD⟩
  | iter s pos =>
    obtain ⟨h1, b, h2, h3⟩ := h
    exact ⟨h1, b, h2, hk _ _ h3 (by simp)⟩
  | lp b lr e st =>
    obtain ⟨h1, h2, h3, h4⟩ := h
    exact ⟨h1, h2, hk _ _ h3 (by simp), fun t u hu => (h4 t u hu).poke hD⟩
  | barr t ver bl =>
    obtain ⟨h1, h2, h3, h4⟩ := h
    refine ⟨h1, h2, h3, ?_⟩
    split
    · rename_i hl; rw [hl] at h4; exact h4
    · rename_i b o hl
      rw [hl] at h4
      obtain ⟨c, fr, g1, g2, g3, g4⟩ := h4
      exact ⟨c, fr, hk _ _ g1 (by simp), g2, g3, g4⟩
theorem HRel.poke {D : Nat} {o0 : Option (List Deferred)} {o' : Obj} (hD : w.heap[D]? = some (.deferred o0)) (h : HRel w X ρ H) : HRel (w.putObj D o') X ρ H :=
  ⟨fun r o hr => (h.objs r o hr).poke hD, h.inj, fun r b o hr hb => by simpa using h.lt r b o hr hb, fun b hb => by simpa using h.xlt b hb, fun g hg => ⟨(h.gl g hg).1, by obtain ⟨m, hm⟩ := (h.gl g hg).2; exact ⟨m, cell_poke hD hm⟩⟩⟩
theorem Fut.poke {D : Nat} {o' : Obj} (h : Fut w0 ρ0 n0 w ρ n) (hD : w0.heap.size ≤ D) : Fut w0 ρ0 n0 (w.putObj D o') ρ n :=
  ⟨h.os, h.tape, h.output, by simpa using h.size, fun b hb ho => by rw [World.putObj_heap_other (by omega)]; exact h.keep b hb ho, h.own, h.len, h.loc⟩

def pokes : List Nat → World → World
  | [], w => w
  | D :: ds, w => pokes ds (w.putObj D (.deferred none))
theorem leaves_marks {fn : Func} {tmps : Array Value} {R : Ending → World → Prop} : ∀ (ds : List Nat) (w : World), ds.Nodup → (∀ D ∈ ds, w.heap[D]? = some (.deferred (some []))) → LeavesIn Fence.wide 0 P fn tmps R [] .returning (pokes ds w) →
    LeavesInM Fence.wide 0 P fn tmps R (ds.map mark) .returning w
  | [], w, _, _, h => h
  | D :: ds, w, hn, hd, h => by
    obtain ⟨n1, n2⟩ := List.nodup_cons.1 hn
    refine ⟨by simp, .inl ⟨D, _, rfl, run_takeDeferred (hd D (by simp)), leaves_marks ds _ n2 (fun D' hD' => ?_) h⟩⟩
    rw [World.putObj_heap_other (fun e => by subst e; exact n1 hD')]
    exact hd D' (by simp [hD'])
theorem pokes_ok : ∀ (ds : List Nat) {w : World}, ds.Nodup → (∀ D ∈ ds, w0.heap.size ≤ D ∧ w.heap[D]? = some (.deferred (some []))) → HRel w X ρ H → ER w X ρ H n e a → Fut w0 ρ0 n0 w ρ H.length →
    HRel (pokes ds w) X ρ H ∧ ER (pokes ds w) X ρ H n e a ∧ Fut w0 ρ0 n0 (pokes ds w) ρ H.length
  | [], w, _, _, h1, h2, h3 => ⟨h1, h2, h3⟩
  | D :: ds, w, hn, hd, h1, h2, h3 => by
    obtain ⟨n1, n2⟩ := List.nodup_cons.1 hn
    have hD := hd D (by simp)
    refine pokes_ok ds n2 (fun D' hD' => ⟨(hd D' (by simp [hD'])).1, ?_⟩) (h1.poke hD.2) (fun t ht => (h2 t ht).poke hD.2) (h3.poke hD.1)
    rw [World.putObj_heap_other (fun e => by subst e; exact n1 hD')]
    exact (hd D' (by simp [hD'])).2

/-- What a run of the lowered form says holds of every call. -/
theorem enter {k : FuncId} {fn : Func} {hs : List Hn} {L : LFn} {args : List AV} {R : AV → AHeap → Prop} (hf : P.funcs[k]? = some fn) (hl : lowFn P fn hs = some L) (ha : args.length ≤ L.n)
    (h : runK P [.code L.body] (retQ L.res R) .normal (envOf args 0) H) : ACall P k args H R := by
  unfold lowFn at hl
  cases hb : fn.body with
  | none => simp [hb] at hl
  | some c =>
    cases hr : lowRs P fn.ntmps fn.results.toList with
    | none => simp [hb, hr] at hl
    | some rs =>
      simp only [hb, hr] at hl
      split at hl
      · rename_i b hc
        split at hl
        · rename_i hcond
          simp only [Option.some.injEq] at hl
          subst hl
          refine ⟨⟨fn, hf, by simp [hb], hcond.2⟩, fun X ρ w vs hrel hargs => (callsIn_wide (n := 0)).1 (callsIn_of_wp_marks hf hb trivial ?_)⟩
          have hvs : vs.size ≤ fn.ntmps := by rw [← hargs.1]; exact ha
          refine code_sound (X := X) (w0 := w) (ρ0 := ρ) (n0 := H.length) (rd := none) (m0 := 0) (H := H) (e := envOf args 0) c hc (.inl rfl) h ⟨by simp; omega, ρ, hrel, fun t ht => ?_, Fut.refl _ _ _, Mk.nil⟩ ?_
          · rw [envOf_get, if_pos (Nat.zero_le _), Nat.sub_zero]
            by_cases htl : t < vs.size
            · have hx : args[t]? = some (args[t]'(by rw [hargs.1]; exact htl)) := by simp
              rw [hx, Option.getD_some]
              refine hargs.2 t _ _ hx ?_
              simp [Array.getD_eq_getD_getElem?, Array.getElem?_append, htl]
            · rw [List.getElem?_eq_none (by rw [hargs.1]; omega)]
              exact .any _ _
          · intro o e' H' a' w' hk hst
            obtain ⟨hn, ρ', g1, g2, g3, ds, d1, d2, d3⟩ := hst
            obtain ⟨f1, f2, f3⟩ := pokes_ok ds d2 (fun D hD => ⟨(d3 D hD).1, (d3 D hD).2.2.2⟩) g1 g2 g3
            have fin : (resVs e' H' rs).ok ∧ R (resVs e' H' rs).x H' → LeavesInM Fence.wide 0 P fn a'.tmps (fun en w' => ∃ v x H' ρ', en = .returned v ∧ R x H' ∧ HRel w' X ρ' H' ∧ Rep w' (Mut X ρ' H'.length) ρ' H'.length x v ∧ Fut w ρ H.length w' ρ' H'.length) a'.defers .returning w' := by
              rintro ⟨k1, k2⟩
              obtain ⟨_, v, k3, k4⟩ := results_ok hr f1 f2 k1
              rw [d1]
              exact leaves_marks ds w' d2 (fun D hD => (d3 D hD).2.2.2) ⟨v, k3, v, _, H', ρ', rfl, k2, f1, k4, f3⟩
            cases o with
            | normal => exact fin hk
            | exit id => exact hk.elim
            | ret => exact fin hk
        · cases hl
      · cases hl
end
end Go.Ax

/- What a call has made and does not hand back may be forgotten. -/
namespace Go.Ax
open Go Go.RowKit

section
variable {P : Program} {w w' : World} {X M M' M'' : Nat → Prop} {ρ ρ' : Nat → Loc} {H : AHeap} {n n' : Nat}

theorem Rep.narrow {x : AV} {u : Value} (h : Rep w M' ρ 0 x u) (hM : ∀ b, M'' b → M' b) : Rep w M'' ρ 0 x u :=
  h.fut (n0 := 0) (Fut.refl _ _ _) (fun b _ hb hb' => hb (hM b hb')) (fun b _ ⟨r, o, hr, _⟩ => by omega) (Nat.le_refl _)

/-- It names objects of the first n alone, if it did so once. -/
theorem Rep.scope {x : AV} {u0 : Value} (h0 : Rep w M ρ n x u0) (hM : ∀ b, M'' b → M' b) : ∀ {u : Value}, Rep w' M' ρ' n' x u → Rep w' M'' ρ' n x u := by
  induction h0 with
  | any => intro u _; exact .any _ _
  | v => intro u h; cases h; exact .v _ _
  | agg n cs us hl _ ih =>
    intro u h
    cases h with
    | agg _ _ us' hl' h' =>
      refine .agg _ _ _ hl' fun i x u hx hu => ?_
      have hlt : i < us.size := by rw [← hl]; exact (List.getElem?_eq_some_iff.1 hx).1
      exact ih i x us[i] hx (by simp [hlt]) (h' i x u hx hu)
  | tup n cs us hl _ ih =>
    intro u h
    cases h with
    | tup _ _ us' hl' h' =>
      refine .tup _ _ _ hl' fun i x u hx hu => ?_
      have hlt : i < us.size := by rw [← hl]; exact (List.getElem?_eq_some_iff.1 hx).1
      exact ih i x us[i] hx (by simp [hlt]) (h' i x u hx hu)
  | nc => intro u h; cases h; exact .nc _ _
  | bnil => intro u h; cases h; exact .bnil _ _
  | slE =>
    intro u h
    cases h with
    | slE => exact .slE _ _ _ _
    | slN _ _ _ b o cap c hm hb hcap hsz hcell hc => exact .slN _ _ _ _ _ _ c (fun h => hm (hM _ h)) hb hcap hsz hcell fun i j x y hx hy => (hc i j x y hx hy).narrow hM
  | slN =>
    intro u h
    cases h with
    | slE => exact .slE _ _ _ _
    | slN _ _ _ b o cap c hm hb hcap hsz hcell hc => exact .slN _ _ _ _ _ _ c (fun h => hm (hM _ h)) hb hcap hsz hcell fun i j x y hx hy => (hc i j x y hx hy).narrow hM
  | vp =>
    intro u h
    cases h with
    | vp _ _ _ b o c hm hb hcell hc => exact .vp _ _ _ _ _ c (fun h => hm (hM _ h)) hb hcell fun j y hy => (hc j y hy).narrow hM
  | fn n f first caps fs us h1 h2 _ _ ih1 ih2 =>
    intro u h
    cases h with
    | fn _ _ _ _ fs' us' g1 g2 g3 g4 =>
      refine .fn _ _ _ _ _ _ g1 g2 (fun i x u hx hu => ?_) (fun i x u hx hu => ?_)
      · have hlt : i < fs.size := by rw [← h1]; exact (List.getElem?_eq_some_iff.1 hx).1
        exact ih1 i x fs[i] hx (by simp [hlt]) (g3 i x u hx hu)
      · have hlt : i < us.size := by rw [← h2]; exact (List.getElem?_eq_some_iff.1 hx).1
        exact ih2 i x us[i] hx (by simp [hlt]) (g4 i x u hx hu)
  | mp =>
    intro u h
    cases h with
    | mp _ _ _ b es clock hm hb hh hks hvs hc => exact .mp _ _ _ _ es clock (fun h => hm (hM _ h)) hb hh hks hvs fun i x e hx he => (hc i x e hx he).narrow hM
  | os n r ver off len u hr _ _ _ =>
    intro u h
    cases h with
    | os _ _ _ _ _ _ _ hle h1 hp => exact .os _ _ _ _ _ _ hr hle h1 hp
  | ptr n r ver off u hr _ _ _ =>
    intro u h
    cases h with
    | ptr _ _ _ _ _ _ hle h1 hp => exact .ptr _ _ _ _ _ hr hle h1 hp
  | pe n r ver i off u hr _ _ _ =>
    intro u h
    cases h with
    | pe _ _ _ _ _ _ _ hle h1 hp => exact .pe _ _ _ _ _ _ hr hle h1 hp
  | om n r ver u hr _ _ _ =>
    intro u h
    cases h with
    | om _ _ _ _ _ hle h1 hp => exact .om _ _ _ _ hr hle h1 hp

theorem ObjOk.scope {l l' : Loc} {o : HO} (h0 : ObjOk w M ρ n l o) (hM : ∀ b, M'' b → M' b) (h : ObjOk w' M' ρ' n' l' o) : ObjOk w' M'' ρ' n l' o := by
  cases o with
  | dead => trivial
  | box cs =>
    obtain ⟨_, _, c0, _, _, _, _, hl0, _, h06⟩ := h0
    obtain ⟨h1, b, c, e, fr, h2, h3, h4, h5, h6⟩ := h
    refine ⟨h1, b, c, e, fr, h2, h3, h4, h5, fun j y u hy hu => ⟨?_, (h6 j y u hy hu).2⟩⟩
    have hlt : j < c0.size := by rw [← hl0]; exact (List.getElem?_eq_some_iff.1 hy).1
    exact (h06 j y c0[j] hy (by simp [hlt])).1.scope hM (h6 j y u hy hu).1
  | arr ver sz xs =>
    obtain ⟨h1, h2, h3, h4, h5, h6⟩ := h
    refine ⟨h1, h2, h3, h4, h5, ?_⟩
    split
    · rename_i hl; rw [hl] at h6; exact h6
    · rename_i b o hl
      rw [hl] at h6
      obtain ⟨c, e, fr, g1, g2, g3, g4⟩ := h6
      exact ⟨c, e, fr, g1, g2, g3, fun i j x y u hx hy hu => ⟨(g4 i j x y u hx hy hu).1.narrow hM, (g4 i j x y u hx hy hu).2⟩⟩
  | map ver ks vs =>
    obtain ⟨h1, b, es, clock, h2, h3, h4, h5, h6⟩ := h
    exact ⟨h1, b, es, clock, h2, h3, h4, h5, fun i x e hx he => (h6 i x e hx he).narrow hM⟩
  | iter s pos => exact h
  | lp b lr e st =>
    obtain ⟨_, _, _, h04⟩ := h0
    obtain ⟨h1, h2, h3, h4⟩ := h
    exact ⟨h1, h2, h3, fun t u hu => (h04 t u hu).scope hM (h4 t u hu)⟩
  | barr t ver bl => exact h

/-- A call that hands back a value without objects, and leaves the objects that were there: what else it has made may be forgotten. -/
theorem ACall.drop {k : FuncId} {args : List AV} {R : AV → Prop} (h : ACall P k args H fun x H' => R x ∧ x.cl = true ∧ ∃ rest, H' = H ++ rest) : ACall P k args H fun x H' => R x ∧ H' = H := by
  refine ⟨h.1, fun X ρ w vs hrel hargs => (h.2 X ρ w vs hrel hargs).mono ?_⟩
  rintro en w' ⟨v, x, H', ρ', rfl, ⟨hR, hcl, rest, rfl⟩, g1, g2, g3⟩
  have hle : H.length ≤ (H ++ rest).length := by simp
  have hM : ∀ b, Mut X ρ' H.length b → Mut X ρ' (H ++ rest).length b := fun b hb => hb.imp id fun ⟨r, o, hr, hbl⟩ => ⟨r, o, by omega, hbl⟩
  refine ⟨v, x, H, ρ', rfl, ⟨hR, rfl⟩, ⟨fun r o hr => ?_, fun r r' b o b' o' hr hr' => g1.inj r r' b o b' o' (by omega) (by omega), fun r b o hr => g1.lt r b o (by omega), g1.xlt, fun g hg => ⟨fun ⟨r, o, hr, hbl⟩ => (g1.gl g hg).1 ⟨r, o, by omega, hbl⟩, (g1.gl g hg).2⟩⟩, ?_, ?_⟩
  · have hlt : r < H.length := (List.getElem?_eq_some_iff.1 hr).1
    exact (hrel.objs r o hr).scope hM (g1.objs r o (by rw [List.getElem?_append_left hlt]; exact hr))
  · exact ((g2.of_cl hcl).narrow hM).closed rfl _ _
  · exact ⟨g3.os, g3.tape, g3.output, g3.size, g3.keep, fun b ⟨r, o, hr, hbl⟩ => g3.own b ⟨r, o, by omega, hbl⟩, Nat.le_refl _, g3.loc⟩
end

theorem bool_eq {a b : Bool} (h : a = true ↔ b = true) : bool a = bool b := by rw [Bool.eq_iff_iff.2 h]
end Go.Ax

/- The last step of a row: from the abstract call to the statement. -/
namespace Go.Ax
open Go Go.RowKit Go.WideShapes Go.ChangeShapes
set_option linter.unusedSimpArgs false
set_option linter.unusedVariables false

/-- Nothing is owned. -/
abbrev X0 : Nat → Prop := fun _ => False

theorem hrel_nil (w : World) (ρ : Nat → Loc) (hg : ∀ g ∈ glbs, ∃ m, w.cell? ⟨g, 0, none⟩ = some (.int .i64 m)) : HRel w X0 ρ [] where
  objs := fun r o h => by simp at h
  inj := fun r _ _ _ _ _ h => by simp at h
  lt := fun r _ _ h => by simp at h
  xlt := fun b h => h.elim
  gl := fun g h => ⟨fun ⟨r, o, hr, _⟩ => by simp at hr, hg g h⟩

/-- What a call from nothing leaves alone. -/
theorem Fut.below {w w' : World} {ρ ρ' : Nat → Loc} {n' : Nat} (h : Fut w ρ 0 w' ρ' n') : Below w.heap.size w w' :=
  ⟨h.os, h.tape, h.output, h.size, fun k hk => h.keep k hk fun ⟨r, o, hr, _⟩ => by omega⟩

/-- A call of values that name no object. -/
theorem ACall.top {P : Program} {k : FuncId} {args : List AV} {R : AV → AHeap → Prop} (h : ACall P k args [] R) {w : World} {vs : Array Value} (hargs : RepL w X0 (fun _ => {}) 0 args vs) (hg : ∀ g ∈ glbs, ∃ m, w.cell? ⟨g, 0, none⟩ = some (.int .i64 m)) :
    Calls P k vs w fun e w' => ∃ v x H' ρ', e = .returned v ∧ R x H' ∧ Rep w' (Mut X0 ρ' H'.length) ρ' H'.length x v ∧ Below w.heap.size w w' := by
  have hm : Mut X0 (fun _ => ({} : Loc)) 0 = X0 := by
    funext b
    simp [Mut, Own, X0]
  refine (h.2 X0 (fun _ => {}) w vs (hrel_nil _ _ hg) ?_).mono ?_
  · simpa [hm] using hargs
  · rintro e w' ⟨v, x, H', ρ', he, hR, _, hx, hf⟩
    exact ⟨v, x, H', ρ', he, hR, hx, hf.below⟩

section
variable {H : Type} {enc : TypeId × Value → H} {P : Program}
/-- A law's post: true is handed back, the arguments read as they did. -/
theorem post_law {f : Func} {s : ChangeSpec} {apart fresh handsOn again : Bool} {W W' : World} {args : Array Value} {ds : List (DataW H)} {before : List MemPlace} {tb : TypeId}
    (hW : DataW.Whole enc P f.params.toList s.vars apart W args.toList ds [] before) (hv : s.vars = [])
    (hf : f.resultTypes = #[tb]) (htb : P.underlying tb = some .bool) (hs : s.fn H ds = ⟨[.lit (.bool true)], ds, []⟩)
    (hargs : ∀ sp : Nat → Bool, (∀ p ∈ before, sp p.block = true) → DataW.TrodAll enc P W' 0 sp true f.params.toList args.toList ds before)
    (hb : Below W.heap.size W W') : s.post enc P f apart fresh handsOn again W args (.bool true) W' := by
  have hlt : ∀ p ∈ before, p.block < W.heap.size := fun p hp => hW.lt p hp
  have hold : ∀ p ∈ before, (fun b => decide (b < W.heap.size)) p.block = true := fun p hp => by simpa using hlt p hp
  have hs' : s.fn H (ds ++ []) = ⟨[.lit (.bool true)], ds, []⟩ := by rw [List.append_nil]; exact hs
  have hres : ∀ (b : Nat) (sp : Nat → Bool) (hd : Bool), DataW.TrodAll enc P W' b sp hd f.resultTypes.toList ((Value.bool true).resultList f.resultTypes.size) (s.fn H (ds ++ [])).results [] := by
    intro b sp hd
    rw [hs', hf]
    exact trodAll_mk1 (shut_bool htb true)
  have hvars : ∀ sp : Nat → Bool, DataW.TrodVars enc P W' sp s.vars (s.fn H (ds ++ [])).vars [] := by
    intro sp; rw [hs', hv]; rfl
  have hk : W.keptBut W' (· ∈ before) := hb.frame _
  refine ⟨ds, [], before, [], before, [], hW, hres _ _ _, ?_, hvars _, World.keptBut_mono (fun p hp => ⟨hp, .inr (.inl hp)⟩) hk, fun _ => ?_⟩
  · rw [hs']; exact hargs _ hold
  · obtain ⟨_, _, _, _, _, hz, hn⟩ := hW
    refine ⟨?_, _, _, ([] ++ before) ++ [], ⟨[] ++ before, [], trodAll_append (hargs _ fun _ _ => rfl) (hres 0 (fun _ => true) true), hvars _, rfl, ?_, ?_⟩, ?_⟩
    · intro j t r h1 h2
      rw [hf] at h1 h2
      cases j with
      | zero => simp [Value.resultList] at h1 h2; subst h1; subst h2; exact okWide_bool_mk htb true
      | succ j => simp at h1
    · intro b off hp
      have hin : MemPlace.cell b off ∈ before := by simpa using hp
      rw [hb.frozen (hlt _ hin)]
      exact hz b off (by simpa using hin)
    · intro ha
      simpa using hn ha
    · intro p hp _
      simpa using hp
end
end Go.Ax

/- Arguments of plain types (numbers, strings, structs, slices, trees of them) as values without addresses; they read behind the call as they did. -/
namespace Go.Ax
open Go Go.RowKit Go.WideShapes Go.ChangeShapes
set_option linter.unusedSimpArgs false
set_option linter.unusedVariables false

/-- Cells of a value of type t. -/
inductive Val (P : Program) : TypeId → List AV → Prop
  | int {t : TypeId} {k : IntKind} {n : Int} : P.underlying t = some (.int k) → (Lit.int k n).wf = true → Val P t [.v (.int k n)]
  | bool {t : TypeId} {b : Bool} : P.underlying t = some .bool → Val P t [.v (.bool b)]
  | str {t : TypeId} {s : ByteArray} : P.underlying t = some .string → s.size ≤ maxLen → Val P t [.v (.string s)]
  | sl {t e : TypeId} {rows : List (List AV)} : P.underlying t = some (.slice e) → rows.length ≤ maxLen → (∀ x ∈ rows, Val P e x) → Val P t [.sl (P.cellsOf e) rows]
  | st {t : TypeId} {fs : Array Field} {xs : List AV} : P.underlying t = some (.struct fs) → xs.length = P.cellsOf t → (∀ (i : Nat) (f : Field), fs[i]? = some f → Val P f.type ((xs.drop f.offset).take (P.cellsOf f.type))) → Val P t xs

/-- Fields one behind the other. -/
def contig (P : Program) : Nat → List Field → Option Nat
  | o, [] => some o
  | o, f :: fs => if f.offset = o then contig P (o + P.cellsOf f.type) fs else none
/-- A closed set of plain types. -/
def plainB (P : Program) (S : List TypeId) : Bool := S.all fun t =>
  match P.underlying t with
  | some (.int _) => decide (P.cellsOf t = 1)
  | some .bool => decide (P.cellsOf t = 1)
  | some .string => decide (P.cellsOf t = 1)
  | some (.slice e) => decide (P.cellsOf t = 1) && S.contains e && decide (0 < P.cellsOf e)
  | some (.struct fs) => decide (contig P 0 fs.toList = some (P.cellsOf t)) && fs.toList.all fun f => S.contains f.type
  | _ => false

section
variable {H : Type} {enc : TypeId × Value → H} {P : Program} {w : World} {sp : Nat → Bool} {held : Bool}

/-- xs stand for the cells cs. -/
def RepC (w : World) (xs : List AV) (cs : List Value) : Prop := xs.length = cs.length ∧ ∀ (i : Nat) (x : AV) (u : Value), xs[i]? = some x → cs[i]? = some u → Rep w X0 (fun _ => {}) 0 x u ∧ one u = true

theorem contig_ge : ∀ (fl : List Field) {o n : Nat}, contig P o fl = some n → o ≤ n ∧ ∀ f ∈ fl, o ≤ f.offset ∧ f.offset + P.cellsOf f.type ≤ n
  | [], o, n, h => by simp [contig] at h; subst h; simp
  | f :: fs, o, n, h => by
    simp only [contig] at h
    split at h
    · rename_i hf
      obtain ⟨h1, h2⟩ := contig_ge fs h
      refine ⟨by omega, fun g hg => ?_⟩
      rcases List.mem_cons.1 hg with rfl | hg
      · omega
      · have := h2 g hg; omega
    · cases h

theorem fields_open (cs : List Value) : ∀ (fl : List Field) {o n : Nat}, contig P o fl = some n → n ≤ cs.length → (∀ f ∈ fl, ∃ ys, RepC w ys ((cs.drop f.offset).take (P.cellsOf f.type)) ∧ Val P f.type ys) →
    ∃ xs, RepC w xs ((cs.drop o).take (n - o)) ∧ ∀ f ∈ fl, Val P f.type ((xs.drop (f.offset - o)).take (P.cellsOf f.type))
  | [], o, n, h, _, _ => by
    simp [contig] at h; subst h
    exact ⟨[], ⟨by simp, fun i x u hx => by simp at hx⟩, by simp⟩
  | f :: fs, o, n, h, hn, hf => by
    simp only [contig] at h
    split at h
    · rename_i hfo
      obtain ⟨h1, h2⟩ := contig_ge fs h
      obtain ⟨ys, ⟨hyl, hyr⟩, hyv⟩ := hf f (by simp)
      obtain ⟨zs, ⟨hzl, hzr⟩, hzv⟩ := fields_open cs fs h hn fun g hg => hf g (by simp [hg])
      rw [hfo] at hyl hyr
      have hyl' : ys.length = P.cellsOf f.type := by rw [hyl]; simp; omega
      have hzl' : zs.length = n - (o + P.cellsOf f.type) := by rw [hzl]; simp; omega
      refine ⟨ys ++ zs, ⟨by simp [hyl', hzl']; omega, fun i x u hx hu => ?_⟩, fun g hg => ?_⟩
      · have hu' : cs[o + i]? = some u := by
          rw [List.getElem?_take] at hu
          split at hu
          · simpa using hu
          · cases hu
        by_cases hi : i < ys.length
        · rw [List.getElem?_append_left hi] at hx
          refine hyr i x u hx ?_
          rw [List.getElem?_take, if_pos (by omega)]
          simpa using hu'
        · rw [List.getElem?_append_right (by omega)] at hx
          refine hzr (i - ys.length) x u hx ?_
          have hlt := (List.getElem?_eq_some_iff.1 hx).1
          rw [List.getElem?_take, if_pos (by omega)]
          simp only [List.getElem?_drop]
          rw [← hu']
          congr 1
          omega
      · rcases List.mem_cons.1 hg with rfl | hg
        · rw [hfo, Nat.sub_self, List.drop_zero, List.take_left' hyl']
          exact hyv
        · have := h2 g hg
          have e : (ys ++ zs).drop (g.offset - o) = zs.drop (g.offset - (o + P.cellsOf f.type)) := by
            rw [show g.offset - o = ys.length + (g.offset - (o + P.cellsOf f.type)) by omega, ← List.drop_drop, List.drop_left]
          rw [e]
          exact hzv g hg
    · cases h

theorem add_zero_ (a : Addr) : a.add 0 = a := rfl
theorem add_off (b o n : Nat) : (⟨b, o, none⟩ : Addr).add n = ⟨b, o + n, none⟩ := by
  unfold Addr.add
  split
  · rename_i h; rw [h]; rfl
  · rfl
theorem cell_one {t : TypeId} {a : Addr} {u : Value} (h : w.cell? a = some u) : a.spot = none := by
  unfold World.cell? at h
  split at h
  · split at h
    · cases h
    · rename_i hs; simpa using hs
  · cases h

theorem open_cells {S : List TypeId} (hS : plainB P S = true) : ∀ (fuel : Nat) {t : TypeId} {cs : List Value} {x : DataW H × List MemPlace}, t ∈ S → DataW.trod enc P w 0 sp held fuel t cs = some x → ∃ xs, RepC w xs cs ∧ Val P t xs := by
  intro fuel
  induction fuel with
  | zero => intro t cs x _ h; simp [DataW.trod] at h
  | succ fuel ih =>
    intro t cs x ht h
    have hS0 := hS
    unfold plainB at hS
    rw [List.all_eq_true] at hS
    have h1 := hS t ht
    have single : ∀ (u : Value), one u = true → RepC w [.v u] [u] := fun u hu => ⟨rfl, fun i x y hx hy => by
      cases i with
      | zero => simp at hx hy; subst hx; subst hy; exact ⟨.v _ _, hu⟩
      | succ i => simp at hx⟩
    split at h1
    · rename_i k hu
      obtain ⟨n, rfl, -, hw⟩ := DataW.trod_int hu h
      exact ⟨_, single _ rfl, .int hu hw⟩
    · rename_i hu
      obtain ⟨b, rfl, -⟩ := DataW.trod_bool hu h
      exact ⟨_, single _ rfl, .bool hu⟩
    · rename_i hu
      obtain ⟨s, rfl, -, hs⟩ := DataW.trod_string hu h
      exact ⟨_, single _ rfl, .str hu hs⟩
    · rename_i e hu
      simp only [Bool.and_eq_true, decide_eq_true_eq, List.contains_iff_mem] at h1
      obtain ⟨⟨_, he⟩, hpos⟩ := h1
      have wrap : ∀ (y : AV) (u : Value), one u = true → Rep w X0 (fun _ => {}) 0 y u → RepC w [y] [u] := fun y u h1 hu => ⟨rfl, fun i x z hx hz => by
        cases i with
        | zero => simp at hx hz; subst hx; subst hz; exact ⟨hu, h1⟩
        | succ i => simp at hx⟩
      rcases DataW.trod_slice hu h with ⟨rfl, -⟩ | ⟨a, len, cap, elems, rest, n, hn, rfl, -, _, hlc, hcap, hel, helems, -, -⟩
      · exact ⟨[.sl (P.cellsOf e) []], wrap _ _ rfl (.slE _ _ _ _), .sl hu (by simp) (by simp)⟩
      · obtain rfl : n = fuel := by omega
        by_cases hlen : len = 0
        · subst hlen
          exact ⟨[.sl (P.cellsOf e) []], wrap _ _ rfl (.slE _ _ _ _), .sl hu (by simp) (by simp)⟩
        · have hrow : ∀ i, i < len → ∃ (cs : List Value) (xs : List AV), w.cells? 0 (a.add (i * P.cellsOf e)) (P.cellsOf e) = some cs ∧ RepC w xs cs ∧ Val P e xs := by
            intro i hi
            have hg := helems i hi
            rw [List.getElem?_eq_getElem (by omega)] at hg
            cases hc : w.cells? 0 (a.add (i * P.cellsOf e)) (P.cellsOf e) with
            | none => rw [hc] at hg; cases hg
            | some cs =>
              rw [hc] at hg
              obtain ⟨xs, h1, h2⟩ := ih he hg
              exact ⟨cs, xs, rfl, h1, h2⟩
          have hcell : ∀ i cs, w.cells? 0 (a.add (i * P.cellsOf e)) (P.cellsOf e) = some cs → cs.length = P.cellsOf e ∧ ∀ j, j < P.cellsOf e → w.cell? ((a.add (i * P.cellsOf e)).add j) = cs[j]? := by
            intro i cs hc
            obtain ⟨_, h2, h3⟩ := World.cells?_some hc
            exact ⟨h2, h3⟩
          obtain ⟨f, hf⟩ : ∃ f : Nat → List Value × List AV, ∀ i, i < len → w.cells? 0 (a.add (i * P.cellsOf e)) (P.cellsOf e) = some (f i).1 ∧ RepC w (f i).2 (f i).1 ∧ Val P e (f i).2 := by
            refine ⟨fun i => if hi : i < len then (Classical.choose (hrow i hi), Classical.choose (Classical.choose_spec (hrow i hi))) else ([], []), fun i hi => ?_⟩
            simp only [dif_pos hi]
            exact Classical.choose_spec (Classical.choose_spec (hrow i hi))
          have hfl : ∀ i, i < len → (f i).2.length = P.cellsOf e := fun i hi => (hf i hi).2.1.1.trans (hcell i _ (hf i hi).1).1
          have hspot : a.spot = none := by
            have h0 := (hcell 0 _ (hf 0 (by omega)).1).2 0 hpos
            rw [List.getElem?_eq_getElem (by rw [(hcell 0 _ (hf 0 (by omega)).1).1]; exact hpos)] at h0
            simp only [Nat.zero_mul, add_zero_] at h0
            exact cell_one (t := t) h0
          have hblk : a.block < w.heap.size := by
            have := World.cells?_block (hf 0 (by omega)).1 hpos
            simpa only [Nat.zero_mul, add_zero_] using this
          obtain ⟨b, o, spot⟩ := a
          simp only at hspot hblk
          subst hspot
          have hget : ∀ i x, ((List.range len).map fun i => (f i).2)[i]? = some x → i < len ∧ x = (f i).2 := by
            intro i x hx
            simp only [List.getElem?_map, List.getElem?_range] at hx
            by_cases hi : i < len
            · simp [hi] at hx; exact ⟨hi, hx.symm⟩
            · simp [hi] at hx
          have hc : ∀ (i j : Nat) (x : List AV) (y : AV), ((List.range len).map fun i => (f i).2)[i]? = some x → x[j]? = some y → w.cell? ⟨b, o + i * P.cellsOf e + j, none⟩ = some ((f i).1.getD j default) ∧ Rep w X0 (fun _ => {}) 0 y ((f i).1.getD j default) ∧ one ((f i).1.getD j default) = true := by
            intro i j x y hx hy
            obtain ⟨hi, rfl⟩ := hget i x hx
            have hj : j < (f i).2.length := (List.getElem?_eq_some_iff.1 hy).1
            have hl := hcell i _ (hf i hi).1
            have hj' : j < (f i).1.length := by rw [hl.1, ← hfl i hi]; exact hj
            have hgd : (f i).1[j]? = some ((f i).1.getD j default) := by simp [List.getD_eq_getElem?_getD, hj']
            refine ⟨?_, (hf i hi).2.1.2 j y _ hy hgd⟩
            have := hl.2 j (by rw [← hfl i hi]; exact hj)
            rw [hgd, add_off, add_off] at this
            exact this
          refine ⟨[.sl (P.cellsOf e) ((List.range len).map fun i => (f i).2)], wrap _ _ rfl ?_, .sl hu (by simp; omega) fun x hx => ?_⟩
          · have := Rep.slN (w := w) (M := X0) (ρ := fun _ => {}) 0 (P.cellsOf e) ((List.range len).map fun i => (f i).2) b o cap (fun i j => (f i).1.getD j default) (fun h => h.elim) hblk (by simpa using hlc)
              (fun x hx => by obtain ⟨i, hi, rfl⟩ := List.mem_map.1 hx; exact hfl i (by simpa using hi)) (fun i j x y hx hy => ⟨(hc i j x y hx hy).1, (hc i j x y hx hy).2.2⟩) (fun i j x y hx hy => (hc i j x y hx hy).2.1)
            simpa using this
          · obtain ⟨i, hi, rfl⟩ := List.mem_map.1 hx
            exact (hf i (by simpa using hi)).2.2
    · rename_i fs hu
      simp only [Bool.and_eq_true, decide_eq_true_eq, List.all_eq_true, List.contains_iff_mem] at h1
      obtain ⟨ys, n, hn, -, hcl, hyl, hy⟩ := DataW.trod_struct hu h
      obtain rfl : n = fuel := by omega
      obtain ⟨xs, hxr, hxv⟩ := fields_open (w := w) cs fs.toList h1.1 (by omega) fun f hf => by
        obtain ⟨i, hi, hif⟩ := List.mem_iff_getElem.1 hf
        have hg := hy i f (by rw [← hif]; simp at hi; simp [hi])
        rw [List.getElem?_eq_getElem (by simp at hi; omega)] at hg
        exact ih (h1.2 f hf) hg
      rw [Nat.sub_zero, List.drop_zero, List.take_of_length_le (by omega)] at hxr
      refine ⟨xs, hxr, .st hu (by rw [hxr.1]; exact hcl) fun i f hf => ?_⟩
      have := hxv f (by rw [← Array.getElem?_toList] at hf; exact List.mem_of_getElem? hf)
      simpa using this
    · cases h1

/-- An argument of type t. -/
def topV (P : Program) (t : TypeId) (xs : List AV) : AV := match P.underlying t with | some (.struct _) => .agg xs | _ => xs.headD .any

theorem open_val {S : List TypeId} (hS : plainB P S = true) {t : TypeId} {v : Value} {d : DataW H} {ps : List MemPlace} {r : Reach} {base : Nat} (ht : t ∈ S) (hval : Value.okWide P w r base t v) (h : DataW.Trod enc P w 0 sp held t v d ps) :
    ∃ xs, Val P t xs ∧ Rep w X0 (fun _ => {}) 0 (topV P t xs) v := by
  obtain ⟨fuel, hf⟩ := h
  obtain ⟨xs, hx, hv⟩ := open_cells hS fuel ht hf
  refine ⟨xs, hv, ?_⟩
  unfold plainB at hS
  rw [List.all_eq_true] at hS
  have h1 := hS t ht
  have single : v.cells = #[v] → (∀ fs, P.underlying t ≠ some (.struct fs)) → Rep w X0 (fun _ => {}) 0 (topV P t xs) v := by
    intro hc hn
    have e : topV P t xs = xs.headD .any := by
      unfold topV
      split
      · rename_i fs hu; exact absurd hu (hn fs)
      · rfl
    rw [e]
    rw [hc] at hx
    obtain ⟨hl, hr⟩ := hx
    match xs, hl with
    | [x], _ => exact (hr 0 x v rfl rfl).1
  split at h1
  · rename_i k hu
    obtain ⟨n, rfl⟩ := okWide_int hu hval
    exact single rfl fun fs => by rw [hu]; simp
  · rename_i hu
    obtain ⟨n, rfl⟩ := okWide_bool hu hval
    exact single rfl fun fs => by rw [hu]; simp
  · rename_i hu
    obtain ⟨n, rfl⟩ := okWide_string hu hval
    exact single rfl fun fs => by rw [hu]; simp
  · rename_i e hu
    obtain ⟨a, len, cap, rfl⟩ := okWide_slice hu hval
    exact single rfl fun fs => by rw [hu]; simp
  · rename_i fs hu
    obtain ⟨cs, rfl, hsz⟩ := okWide_struct hu hval
    have e : topV P t xs = .agg xs := by unfold topV; rw [hu]
    rw [e]
    exact .agg _ _ _ (by rw [hx.1]; simp [Value.cells]) fun i x u hxi hui => (hx.2 i x u hxi (by simpa [Value.cells] using hui)).1
  · cases h1

/-- Arguments of these types. -/
def ValAll (P : Program) : List TypeId → List (List AV) → Prop
  | [], [] => True
  | t :: ts, xs :: l => Val P t xs ∧ ValAll P ts l
  | _, _ => False
def topAll (P : Program) : List TypeId → List (List AV) → List AV
  | t :: ts, xs :: l => topV P t xs :: topAll P ts l
  | _, _ => []

theorem open_all {S : List TypeId} (hS : plainB P S = true) : ∀ {ts : List TypeId} {vs : List Value} {ds : List (DataW H)} {ps : List MemPlace}, (∀ t ∈ ts, t ∈ S) → (∀ (j : Nat) t v, ts[j]? = some t → vs[j]? = some v → ∃ r base, Value.okWide P w r base t v) →
    DataW.TrodAll enc P w 0 sp held ts vs ds ps → ∃ l, ValAll P ts l ∧ (topAll P ts l).length = vs.length ∧ ∀ (i : Nat) (x : AV) (u : Value), (topAll P ts l)[i]? = some x → vs[i]? = some u → Rep w X0 (fun _ => {}) 0 x u
  | [], vs, ds, ps, _, _, h => by
    obtain ⟨rfl, rfl, rfl⟩ := trodAll_nil h
    exact ⟨[], trivial, rfl, fun i x u hx => by simp [topAll] at hx⟩
  | t :: ts, vs, ds, ps, hts, hv, h => by
    obtain ⟨v, vs1, d, ds1, a, b, rfl, rfl, rfl, h1, h2⟩ := trodAll_cons h
    obtain ⟨r, base, hok⟩ := hv 0 t v rfl rfl
    obtain ⟨xs, hx, hr⟩ := open_val hS (hts t (by simp)) hok h1
    obtain ⟨l, hl, hlen, hrep⟩ := open_all hS (fun t ht => hts t (by simp [ht])) (fun j t v ht hv' => hv (j + 1) t v (by simpa using ht) (by simpa using hv')) h2
    refine ⟨xs :: l, ⟨hx, hl⟩, by simp [topAll, hlen], fun i x u hxi hui => ?_⟩
    cases i with
    | zero => simp [topAll] at hxi hui; subst hxi; subst hui; exact hr
    | succ i => exact hrep i x u (by simpa [topAll] using hxi) (by simpa using hui)

theorem stays_all (hl : laidOutB P = true) {w' : World} {sp' : Nat → Bool} : ∀ {ts : List TypeId} {vs : List Value} {ds : List (DataW H)} {ps : List MemPlace}, (∀ t ∈ ts, P.readableRec t = true ∧ t < P.types.size) →
    DataW.TrodAll enc P w 0 (fun _ => true) true ts vs ds ps → (∀ p ∈ ps, w.sameAt w' p) → (∀ p ∈ ps, sp' p.block = true) → DataW.TrodAll enc P w' 0 sp' true ts vs ds ps
  | [], vs, ds, ps, _, h, _, _ => by
    obtain ⟨rfl, rfl, rfl⟩ := trodAll_nil h
    exact trodAll_mk0
  | t :: ts, vs, ds, ps, hts, h, hsame, hs => by
    obtain ⟨v, vs1, d, ds1, a, b, rfl, rfl, rfl, h1, h2⟩ := trodAll_cons h
    have ht := hts t (by simp)
    exact ⟨a, b, WideElems.Trod_stays hl ht.1 ht.2 h1 (fun p hp => hsame p (by simp [hp])) (fun p hp => hs p (by simp [hp])), stays_all hl (fun t ht => hts t (by simp [ht])) h2 (fun p hp => hsame p (by simp [hp])) (fun p hp => hs p (by simp [hp])), rfl⟩
end

/-- The package variables of glbs are ints. -/
def intVars (P : Program) : Bool := glbs.all fun g => decide (g < P.globals.size) &&
  match ((begin P (fun _ _ => 0) default).world.heap[g]?).bind Obj.row? with
  | some (zero, t) => zero.size == 1 && P.buildable t && P.cellTypes P.depth t == some [t] && (match P.underlying t with | some (.int .i64) => true | _ => false)
  | none => false

theorem glbs_shaped {P : Program} {w : World} (h : intVars P = true) (hsh : w.ShapedOpen P) : ∀ g ∈ glbs, ∃ m, w.cell? ⟨g, 0, none⟩ = some (.int .i64 m) := by
  intro g hg
  have h1 := List.all_eq_true.1 h g hg
  rw [Bool.and_eq_true, decide_eq_true_eq] at h1
  obtain ⟨h1, h2⟩ := h1
  split at h2
  · rename_i zero t h0
    simp only [Bool.and_eq_true, beq_iff_eq] at h2
    obtain ⟨⟨⟨h3, h4⟩, h5⟩, h6⟩ := h2
    refine Go.Proofs.cell_of_shapedOpen_int hsh h1 h0 h3 h4 h5 ?_
    split at h6
    · assumption
    · cases h6
  · cases h2

/-- A law: what holds of every call of plain arguments is what the row says. -/
theorem law_lifted {C : Checked} {k : FuncId} {fn : Func} {s : ChangeSpec} {conds : List PathCond} {tb : TypeId} {S : List TypeId} {os : Os} {H : Type} {enc : TypeId × Value → H} {ts : List TypeId}
    (own : ownKnob C.prog.godebug = none) (started : os.Started) (noInit : C.prog.inits.idxOf? k = none) (hfn : C.prog.funcs[k]? = some fn)
    (witness : ∃ (w : World) (tape : Tape) (i : Input), w.os = os ∧ (w.forCall tape i).Shaped C.prog ∧ i.vars = [] ∧ Input.okWide C.prog (w.forCall tape i) .any w.heap.size k i ∧
      s.pre6 enc C.prog fn conds false (w.forCall tape i).memory i.args ∧ (({} : Assume)).holds C.prog (lone (Frame.enter C.prog k i.args .normal) [] (w.forCall tape i)))
    (hv : s.vars = []) (hts : fn.params.toList = ts) (hf : fn.resultTypes = #[tb]) (htb : C.prog.underlying tb = some .bool) (hs : ∀ ds : List (DataW H), ds.length = ts.length → s.fn H ds = ⟨[.lit (.bool true)], ds, []⟩)
    (hgl : intVars C.prog = true) (hl : laidOutB C.prog = true) (hr : ts.all (fun t => C.prog.readableRec t && decide (t < C.prog.types.size) && S.contains t) = true) (hS : plainB C.prog S = true)
    (law : ∀ l, ValAll C.prog ts l → ∃ R : AHeap → Prop, ACall C.prog k (topAll C.prog ts l) [] fun x H' => x = bool true ∧ R H') :
    ReturnsInHanded {} C os k .any (s.pre6 enc C.prog fn conds false) (s.post enc C.prog fn false true false false) := by
  refine returnsInHanded_of_change_shaped own started noInit hfn witness ?_
  intro W base args ds gs before hval hW hcnd _ hsh _
  have hW' := hW
  obtain ⟨p, q, hA, hV, rfl, hfz, hnd⟩ := hW
  rw [hv] at hV
  obtain ⟨rfl, rfl⟩ := trodVars_none hV
  have hall : ∀ t ∈ ts, C.prog.readableRec t = true ∧ t < C.prog.types.size ∧ t ∈ S := fun t ht => by
    have := List.all_eq_true.1 hr t ht
    simpa [and_assoc] using this
  rw [hts] at hA
  obtain ⟨l, hl1, hl2, hl3⟩ := open_all hS (fun t ht => (hall t ht).2.2) (fun j t v ht hvv => ⟨_, _, hval j t v (by rw [← Array.getElem?_toList, hts]; exact ht) (by rw [← Array.getElem?_toList]; exact hvv)⟩) hA
  obtain ⟨R, hlaw⟩ := law l hl1
  have hrep : RepL W X0 (fun _ => {}) 0 (topAll C.prog ts l) args := ⟨by simpa using hl2, fun i x u hx hu => hl3 i x u hx (by rw [Array.getElem?_toList]; exact hu)⟩
  refine (hlaw.top hrep (glbs_shaped hgl hsh)).mono fun e W' ⟨v, x, H', ρ', he, hx, hrx, hb⟩ => ?_
  obtain ⟨rfl, _⟩ := hx
  have hvv := rep_v hrx
  subst hvv
  subst he
  have hlt : ∀ x ∈ p ++ [], x.block < W.heap.size := fun x hx => hW'.lt x hx
  have hdl : ds.length = ts.length := by
    have aux : ∀ {ts : List TypeId} {vs : List Value} {ds : List (DataW H)} {ps : List MemPlace}, DataW.TrodAll enc C.prog W 0 (fun _ => true) true ts vs ds ps → ds.length = ts.length := by
      intro ts
      induction ts with
      | nil => intro vs ds ps h; obtain ⟨_, rfl, _⟩ := trodAll_nil h; rfl
      | cons t ts ih => intro vs ds ps h; obtain ⟨v, vs1, d, ds1, a, b, rfl, rfl, rfl, h1, h2⟩ := trodAll_cons h; simp [ih h2]
    exact aux hA
  refine ⟨_, rfl, post_law hW' hv hf htb (hs ds hdl) (fun sp hsp => ?_) hb⟩
  rw [hts, List.append_nil]
  exact stays_all hl (fun t ht => ⟨(hall t ht).1, (hall t ht).2.1⟩) hA (fun x hx => hb.same (hlt x (by simpa using hx))) (fun x hx => hsp x (by simpa using hx))
end Go.Ax
