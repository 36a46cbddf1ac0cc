/- Every operation of the model's code does what is said of its lowered form. -/
import Derived.Test.YtdgmlepakippmaaAx15
namespace Go.Ax
open Go Go.RowKit

section
variable {P : Program} {w : World} {X : Nat → Prop} {ρ : Nat → Loc} {H : AHeap} {e : Env} {a : Act} {n : Nat}

abbrev ER (w : World) (X : Nat → Prop) (ρ : Nat → Loc) (H : AHeap) (n : Nat) (e : Env) (a : Act) : Prop := ERep w (Mut X ρ H.length) ρ H.length n e a

/-- The operation comes to the result. -/
def OpOK (P : Program) (o : Oper) (a : Act) (w : World) (X : Nat → Prop) (ρ : Nat → Loc) (H : AHeap) (r : Res) : Prop :=
  r.ok → ∃ u w' ρ', ((execOp a.eval o).run P w = .ok (.value u) w' ∨ ((execOp a.eval o).run P w = .ok .skip w' ∧ u = undef)) ∧ HRel w' X ρ' r.H ∧ Rep w' (Mut X ρ' r.H.length) ρ' r.H.length r.x u ∧ Fut w ρ H.length w' ρ' r.H.length

theorem opOK_v {o : Oper} {s : Sem Value} {r : Res} (h : Gives P s w X ρ H r) (he : execOp a.eval o = (do pure (.value (← s)))) : OpOK P o a w X ρ H r := by
  intro hok
  obtain ⟨u, w', ρ', h1, h2, h3, h4⟩ := h hok
  exact ⟨u, w', ρ', .inl (by rw [he]; simp [h1]), h2, h3, h4⟩
theorem opOK_u {o : Oper} {s : Sem Unit} {r : Res} (h : GivesU P s w X ρ H r) (he : execOp a.eval o = (do s; pure .skip)) : OpOK P o a w X ρ H r := by
  intro hok
  obtain ⟨hx, w', ρ', h1, h2, h3⟩ := h hok
  exact ⟨undef, w', ρ', .inr ⟨by rw [he]; simp [h1], rfl⟩, h2, by rw [hx]; exact .any _ _, h3⟩
theorem opOK_no {o : Oper} : OpOK P o a w X ρ H (.no H) := fun h => h.elim

theorem lx_inv {o : Operand} {f : LX → Option LOp} {lo : LOp} (h : (match lx n o with | some x => f x | none => none) = some lo) : ∃ x, lx n o = some x ∧ f x = some lo := by
  cases hx : lx n o with
  | none => simp [hx] at h
  | some x => exact ⟨x, rfl, by simpa [hx] using h⟩

theorem lxs_rep {M : Nat → Prop} {k : Nat} (he : ERep w M ρ k n e a) : ∀ (l : List Operand) (m : List LX), lxs n l = some m → m.length = l.length ∧ ∀ (i : Nat) (x : AV) (u : Value), (m.map (ev e))[i]? = some x → (l.map a.eval)[i]? = some u → Rep w M ρ k x u
  | [], m, h => by simp [lxs] at h; subst h; exact ⟨rfl, fun i x u hx => by simp at hx⟩
  | o :: l, m, h => by
    unfold lxs at h
    cases ho : lx n o with
    | none => simp [ho] at h
    | some y =>
      cases hm : lxs n l with
      | none => simp [ho, hm] at h
      | some m' =>
        simp [ho, hm] at h
        subst h
        obtain ⟨h1, h2⟩ := lxs_rep he l m' hm
        refine ⟨by simp [h1], fun i x u hx hu => ?_⟩
        cases i with
        | zero => simp at hx hu; subst hx hu; exact ev_rep he ho
        | succ i => exact h2 i x u (by simpa using hx) (by simpa using hu)

theorem lowPs_rep (he : ER w X ρ H n e a) {place : Nat → Option (Nat × Nat)} : ∀ (l : List (Nat × Operand)) (m : List (Nat × Nat × LX)), lowPs n place l = some m → RpPs w X ρ H place (l.map fun (i, x) => (i, a.eval x)) (m.map fun (o, k, x) => (o, k, ev e x))
  | [], m, h => by simp [lowPs] at h; subst h; trivial
  | (i, o) :: l, m, h => by
    unfold lowPs at h
    cases hp : place i with
    | none => simp [hp] at h
    | some pl =>
      obtain ⟨off, sz⟩ := pl
      cases ho : lx n o with
      | none => simp [hp, ho] at h
      | some y =>
        cases hm : lowPs n place l with
        | none => simp [hp, ho, hm] at h
        | some m' =>
          simp [hp, ho, hm] at h
          subst h
          exact ⟨hp, ev_rep he ho, lowPs_rep he l m' hm⟩

theorem lowSs_rep (he : ER w X ρ H n e a) : ∀ (l : List (Nat × Operand)) (m : List (Nat × LX)), lowSs n l = some m → RpSs w X ρ H (l.map fun (i, x) => (i, a.eval x)) (m.map fun (i, x) => (i, ev e x))
  | [], m, h => by simp [lowSs] at h; subst h; trivial
  | (i, o) :: l, m, h => by
    unfold lowSs at h
    cases ho : lx n o with
    | none => simp [ho] at h
    | some y =>
      cases hm : lowSs n l with
      | none => simp [ho, hm] at h
      | some m' =>
        simp [ho, hm] at h
        subst h
        exact ⟨rfl, ev_rep he ho, lowSs_rep he l m' hm⟩

theorem snd_nilchk {x : AV} {u : Value} {o : Oper} {ox : Operand} (ho : o.op = .nilCheck ox) (hu : a.eval ox = u) (h : HRel w X ρ H) (hx : Rp w X ρ H x u) : OpOK P o a w X ρ H (rNil x H) := by
  have key : ∀ v : Value, (∃ p, v = .pointer (some p)) ∨ (∃ r, v = .map r) ∨ (∃ f fs us, v = .func (.func f) fs us) → u = v → (execOp a.eval o).run P w = .ok (.value v) w := by
    intro v hv huv
    unfold execOp
    rw [ho]
    simp only [hu, huv]
    rcases hv with ⟨p, rfl⟩ | ⟨r, rfl⟩ | ⟨f, fs, us, rfl⟩ <;> rfl
  cases x with
  | vp cs off =>
    intro _
    cases hx with
    | vp _ _ _ b o' c hm hb hcell hrep => exact ⟨_, w, ρ, .inl (key _ (.inl ⟨_, rfl⟩) rfl), h, .vp _ _ _ _ _ c hm hb hcell hrep, Fut.refl _ _ _⟩
  | mp ks vs =>
    intro _
    cases hx with
    | mp _ _ _ b es clock hm hb hh hks hvs hr => exact ⟨_, w, ρ, .inl (key _ (.inr (.inl ⟨_, rfl⟩)) rfl), h, .mp _ _ _ _ es clock hm hb hh hks hvs hr, Fut.refl _ _ _⟩
  | fn f fs us =>
    cases f <;> first | exact opOK_no | skip
    intro _
    have hx' := hx
    cases hx with
    | fn => exact ⟨_, w, ρ, .inl (key _ (.inr (.inr ⟨_, _, _, rfl⟩)) rfl), h, hx', Fut.refl _ _ _⟩
  | ptr r ver off =>
    intro hv
    have hx' := hx
    cases hx with
    | ptr _ _ _ _ _ hr hle hone hp =>
      have hver : ver = (ρ r).ver := by
        have hv : isVer ver H[r]? := hv
        cases ho' : H[r]? with
        | none => rw [ho'] at hv; exact hv.elim
        | some obj =>
          rw [ho'] at hv
          have hob := h.objs r _ ho'
          cases obj <;> simp only [isVer] at hv <;> first | exact hv.elim | skip
          · rw [hob.1]; exact hv
          · rw [hob.1]; exact hv
          · rw [hob.1]; exact hv
      obtain ⟨b, o', _, rfl⟩ := hp hver
      exact ⟨_, w, ρ, .inl (key _ (.inl ⟨_, rfl⟩) rfl), h, hx', Fut.refl _ _ _⟩
  | pe r ver i off =>
    intro hv
    have hx' := hx
    cases hx with
    | pe _ _ _ _ _ _ hr hle hone hp =>
      have hver : ver = (ρ r).ver := by
        have hv : isVer ver H[r]? := hv
        cases ho' : H[r]? with
        | none => rw [ho'] at hv; exact hv.elim
        | some obj =>
          rw [ho'] at hv
          have hob := h.objs r _ ho'
          cases obj <;> simp only [isVer] at hv <;> first | exact hv.elim | skip
          · rw [hob.1]; exact hv
          · rw [hob.1]; exact hv
          · rw [hob.1]; exact hv
      obtain ⟨b, o', _, rfl⟩ := hp hver
      exact ⟨_, w, ρ, .inl (key _ (.inl ⟨_, rfl⟩) rfl), h, hx', Fut.refl _ _ _⟩
  | _ => exact opOK_no

/-- The operations that are neither calls nor choices nor the prover's own. -/
def plain : LOp → Bool
  | .call _ _ => false
  | .pick _ _ _ => false
  | .isnil _ _ => false
  | .frz _ => false
  | .own _ _ => false
  | _ => true

theorem opt_map {α β : Type} {x : Option α} {f : α → β} {y : β} (h : x.map f = some y) : ∃ a, x = some a ∧ f a = y := by
  cases x with
  | none => cases h
  | some a => exact ⟨a, rfl, by simpa using h⟩

theorem lowCall_ok {c : Call} {lo : LOp} {o : Oper} (ho : o.op = .call c) (hl : lowCall P n c = some lo) (hp : plain lo = true) (h : HRel w X ρ H) (he : ER w X ρ H n e a) : OpOK P o a w X ρ H (ares lo e H) := by
  obtain ⟨callee, args, tys⟩ := c
  have hex : ∀ b : Builtin, callee = .builtin b → ∃ cs, execOp a.eval o = builtin b tys o.type cs (args.map a.eval) := by
    intro b hb
    subst hb
    unfold execOp
    rw [ho]
    exact ⟨_, rfl⟩
  unfold lowCall at hl
  cases callee with
  | value f =>
    simp only at hl
    cases hf : lx n f with
    | none => simp [hf] at hl
    | some g =>
      cases hm : lxs n args.toList with
      | none => simp [hf, hm] at hl
      | some m => simp [hf, hm] at hl; subst hl; simp [plain] at hp
  | invoke r m => simp at hl
  | builtin b =>
    obtain ⟨bcs, hex⟩ := hex b rfl
    cases b <;> simp only at hl <;> first | (cases hl; done) | skip
    case len =>
      cases hm : lxs n args.toList with
      | none => simp [hm] at hl
      | some m =>
        obtain ⟨hlen, hrep⟩ := lxs_rep he _ _ hm
        match m, hlen, hl with
        | [], _, hl => simp [hm] at hl
        | _ :: _ :: _, _, hl => simp [hm] at hl
        | [x], hlen, hl =>
          obtain ⟨ao, hao⟩ : ∃ ao, args.toList = [ao] := by
            match h1 : args.toList, hlen with
            | [ao], _ => exact ⟨ao, rfl⟩
          have hae : args.map a.eval = #[a.eval ao] := by apply Array.ext'; simp [hao]
          have hx : Rp w X ρ H (ev e x) (a.eval ao) := hrep 0 _ _ rfl (by simp [hao])
          match ht : tys.toList, hl with
          | [], hl => simp [hm] at hl
          | _ :: _ :: _, hl => simp [hm] at hl
          | [t], hl =>
            have hty : tys = #[t] := by apply Array.ext'; simpa using ht
            simp only [hm] at hl
            refine opOK_v (s := Builtin.len_ #[t] o.type #[a.eval ao]) ?_ (by rw [hex, hae, hty]; rfl)
            cases hu : P.underlying t with
            | none => simp [hu] at hl
            | some d =>
              simp only [hu] at hl
              cases d <;> simp at hl <;> subst hl <;> refine snd_len ⟨?_, ?_, ?_⟩ h hx <;> intro hk <;> first | (cases hk; done) | exact hu | exact ⟨_, hu⟩ | exact ⟨_, _, hu⟩
    case append =>
      cases hm : lxs n args.toList with
      | none => simp [hm] at hl
      | some m =>
        obtain ⟨hlen, hrep⟩ := lxs_rep he _ _ hm
        match m, hlen, hl with
        | [], _, hl => simp [hm] at hl
        | [_], _, hl => simp [hm] at hl
        | _ :: _ :: _ :: _, _, hl => simp [hm] at hl
        | [s, x], hlen, hl =>
          obtain ⟨so, xo, hao⟩ : ∃ so xo, args.toList = [so, xo] := by
            match h1 : args.toList, hlen with
            | [so, xo], _ => exact ⟨so, xo, rfl⟩
          have hae : args.map a.eval = #[a.eval so, a.eval xo] := by apply Array.ext'; simp [hao]
          have hs : Rp w X ρ H (ev e s) (a.eval so) := hrep 0 _ _ rfl (by simp [hao])
          have hx : Rp w X ρ H (ev e x) (a.eval xo) := hrep 1 _ _ rfl (by simp [hao])
          match ht : tys.toList, hl with
          | [], hl => simp [hm] at hl
          | [_], hl => simp [hm] at hl
          | _ :: _ :: _ :: _, hl => simp [hm] at hl
          | [t, u], hl =>
            have hty : tys = #[t, u] := by apply Array.ext'; simpa using ht
            simp only [hm] at hl
            cases hu : P.underlying t with
            | none => simp [hu] at hl
            | some d =>
              simp only [hu] at hl
              cases d <;> simp only at hl <;> first | (cases hl; done) | skip
              rename_i el
              cases hi : P.info? el with
              | none => simp [hi] at hl
              | some i =>
                cases hv : P.underlying u with
                | none => simp [hi, hv] at hl
                | some d2 =>
                  simp only [hi, hv] at hl
                  have fin : (i.zero.map (·.cells.size)) = some i.size → lo = .append i.size i.bytes s x → (∀ k, d2 ≠ .int k) → OpOK P o a w X ρ H (ares lo e H) := by
                    intro hz hlo hd2
                    obtain ⟨z, hz1, hz2⟩ := opt_map hz
                    subst hlo
                    exact opOK_v (s := Builtin.append_ #[t, u] o.type #[a.eval so, a.eval xo]) (snd_append hu ⟨d2, hv, hd2⟩ hi hz1 hz2 h hs hx) (by rw [hex, hae, hty]; rfl)
                  cases d2 <;> simp only at hl <;> first | (cases hl; done) | skip
                  case slice =>
                    split at hl
                    · rename_i hc; exact fin hc.2 (by simpa using hl.symm) (fun k hk => by cases hk)
                    · cases hl
                  case string =>
                    split at hl
                    · rename_i hc; exact fin (by rw [hc.2, hc.1]) (by simpa using hl.symm) (fun k hk => by cases hk)
                    · cases hl
    case copy =>
      cases hm : lxs n args.toList with
      | none => simp [hm] at hl
      | some m =>
        obtain ⟨hlen, hrep⟩ := lxs_rep he _ _ hm
        match m, hlen, hl with
        | [], _, hl => simp [hm] at hl
        | [_], _, hl => simp [hm] at hl
        | _ :: _ :: _ :: _, _, hl => simp [hm] at hl
        | [s, x], hlen, hl =>
          obtain ⟨so, xo, hao⟩ : ∃ so xo, args.toList = [so, xo] := by
            match h1 : args.toList, hlen with
            | [so, xo], _ => exact ⟨so, xo, rfl⟩
          have hae : args.map a.eval = #[a.eval so, a.eval xo] := by apply Array.ext'; simp [hao]
          have hs : Rp w X ρ H (ev e s) (a.eval so) := hrep 0 _ _ rfl (by simp [hao])
          have hx : Rp w X ρ H (ev e x) (a.eval xo) := hrep 1 _ _ rfl (by simp [hao])
          match ht : tys.toList, hl with
          | [], hl => simp [hm] at hl
          | [_], hl => simp [hm] at hl
          | _ :: _ :: _ :: _, hl => simp [hm] at hl
          | [t, u], hl =>
            have hty : tys = #[t, u] := by apply Array.ext'; simpa using ht
            simp only [hm] at hl
            cases hu : P.underlying t with
            | none => simp [hu] at hl
            | some d =>
              simp only [hu] at hl
              cases d <;> simp only at hl <;> first | (cases hl; done) | skip
              rename_i el
              cases hn : tySz P el with
              | none => simp [hn] at hl
              | some sz =>
                simp only [hn, Option.bind_some] at hl
                split at hl
                · rename_i hc
                  simp only [Option.some.injEq] at hl
                  subst hl
                  exact opOK_v (s := Builtin.copy_ #[t, u] o.type #[a.eval so, a.eval xo]) (snd_copy hu hn hc h hs hx) (by rw [hex, hae, hty]; rfl)
                · cases hl
    case min =>
      cases hm : lxs n args.toList with
      | none => simp [hm] at hl
      | some m =>
        obtain ⟨hlen, hrep⟩ := lxs_rep he _ _ hm
        match m, hlen, hl with
        | [], _, hl => simp [hm] at hl
        | [_], _, hl => simp [hm] at hl
        | _ :: _ :: _ :: _, _, hl => simp [hm] at hl
        | [s, x], hlen, hl =>
          obtain ⟨so, xo, hao⟩ : ∃ so xo, args.toList = [so, xo] := by
            match h1 : args.toList, hlen with
            | [so, xo], _ => exact ⟨so, xo, rfl⟩
          have hae : args.map a.eval = #[a.eval so, a.eval xo] := by apply Array.ext'; simp [hao]
          have hs : Rp w X ρ H (ev e s) (a.eval so) := hrep 0 _ _ rfl (by simp [hao])
          have hx : Rp w X ρ H (ev e x) (a.eval xo) := hrep 1 _ _ rfl (by simp [hao])
          simp only [hm, Option.some.injEq] at hl
          subst hl
          exact opOK_v (s := Builtin.min_ tys o.type #[a.eval so, a.eval xo]) (snd_min h hs hx) (by rw [hex, hae]; rfl)
    case max =>
      cases hm : lxs n args.toList with
      | none => simp [hm] at hl
      | some m =>
        obtain ⟨hlen, hrep⟩ := lxs_rep he _ _ hm
        match m, hlen, hl with
        | [], _, hl => simp [hm] at hl
        | [_], _, hl => simp [hm] at hl
        | _ :: _ :: _ :: _, _, hl => simp [hm] at hl
        | [s, x], hlen, hl =>
          obtain ⟨so, xo, hao⟩ : ∃ so xo, args.toList = [so, xo] := by
            match h1 : args.toList, hlen with
            | [so, xo], _ => exact ⟨so, xo, rfl⟩
          have hae : args.map a.eval = #[a.eval so, a.eval xo] := by apply Array.ext'; simp [hao]
          have hs : Rp w X ρ H (ev e s) (a.eval so) := hrep 0 _ _ rfl (by simp [hao])
          have hx : Rp w X ρ H (ev e x) (a.eval xo) := hrep 1 _ _ rfl (by simp [hao])
          simp only [hm, Option.some.injEq] at hl
          subst hl
          exact opOK_v (s := Builtin.max_ tys o.type #[a.eval so, a.eval xo]) (snd_max h hs hx) (by rw [hex, hae]; rfl)
end
end Go.Ax
