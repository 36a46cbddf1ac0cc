/- Every operation of the model's code does what is said of its lowered form: all of them; calls. -/
import Derived.Test.YtdgmlepakippmaaAx16
namespace Go.Ax
open Go Go.RowKit

section
variable {P : Program} {w : World} {X : Nat → Prop} {ρ : Nat → Loc} {H : AHeap} {e : Env} {a : Act} {n : Nat}

theorem lxo_rep (he : ER w X ρ H n e a) {o : Option Operand} {x : Option LX} (h : lxo n o = some x) : RpO w X ρ H (x.map (ev e)) (o.map a.eval) := by
  cases o with
  | none => simp [lxo] at h; subst h; trivial
  | some o =>
    obtain ⟨y, h1, h2⟩ := opt_map h
    subst h2
    exact ev_rep he h1

theorem lowConv_ok {src dst : TypeId} {x : Operand} {lo : LOp} {o : Oper} (ho : o.op = .convert src dst x) (hl : lowConv P n src dst x = some lo) (h : HRel w X ρ H) (he : ER w X ρ H n e a) : OpOK P o a w X ρ H (ares lo e H) := by
  have hex : execOp a.eval o = (do pure (.value (← convert src dst (a.eval x)))) := by unfold execOp; rw [ho]
  unfold lowConv at hl
  cases hs : P.underlying src with
  | none => simp [hs] at hl
  | some sd =>
    cases hd : P.underlying dst with
    | none => cases sd <;> simp [hs, hd] at hl
    | some dd =>
      cases hx : lx n x with
      | none => cases sd <;> cases dd <;> simp [hs, hd, hx] at hl
      | some y =>
        have hr := ev_rep he hx
        cases sd <;> cases dd <;> simp [hs, hd, hx] at hl
        case int.int => subst hl; exact opOK_v (snd_conv ⟨⟨_, hs⟩, hd⟩ h hr) hex
        case int.string => subst hl; exact opOK_v (snd_conv ⟨⟨_, hs⟩, hd⟩ h hr) hex
        case string.string => subst hl; exact opOK_v (snd_conv ⟨hs, hd⟩ h hr) hex
        case string.slice el =>
          cases hu : P.underlying el with
          | none => simp [hu] at hl
          | some ud =>
            cases ud <;> simp [hu] at hl
            rename_i k
            cases k <;> simp at hl
            subst hl
            exact opOK_v (snd_conv ⟨hs, el, hd, hu⟩ h hr) hex
        case slice.string el =>
          cases hu : P.underlying el with
          | none => simp [hu] at hl
          | some ud =>
            cases ud <;> simp [hu] at hl
            rename_i k
            cases k <;> first | (simp at hl; done) | skip
            cases hz : tySz P el with
            | none => simp [hz] at hl
            | some z =>
              match z, hl with
              | 1, hl =>
                simp [hz] at hl
                subst hl
                exact opOK_v (snd_conv ⟨⟨el, hs, hu⟩, hd⟩ h hr) hex
              | 0, hl => simp [hz] at hl
              | _ + 2, hl => simp [hz] at hl
        case slice.slice el el2 =>
          cases hu : P.underlying el with
          | none => simp [hu] at hl
          | some ud =>
            cases ud <;> simp [hu] at hl
            rename_i k
            cases k <;> simp at hl
            obtain ⟨h1, hl⟩ := hl
            subst hl
            exact opOK_v (snd_conv ⟨el, hs, hu, h1⟩ h hr) hex

theorem lowOp0_ok {imm : Bool} {o : Oper} {lo : LOp} (hl : lowOp0 P n imm o = some lo) (hp : plain lo = true) (h : HRel w X ρ H) (he : ER w X ρ H n e a) : OpOK P o a w X ρ H (ares lo e H) := by
  unfold lowOp0 at hl
  cases ho : o.op <;> rw [ho] at hl <;> simp only at hl <;> first | (cases hl; done) | skip
  case move x =>
    obtain ⟨y, h1, rfl⟩ := opt_map hl
    intro _
    exact ⟨_, w, ρ, .inl (by unfold execOp; rw [ho]; rfl), h, ev_rep he h1, Fut.refl _ _ _⟩
  case assign x =>
    obtain ⟨y, h1, rfl⟩ := opt_map hl
    intro _
    exact ⟨_, w, ρ, .inl (by unfold execOp; rw [ho]; rfl), h, ev_rep he h1, Fut.refl _ _ _⟩
  case pick c x y =>
    cases hc : lx n c <;> cases hx : lx n x <;> cases hy : lx n y <;> simp [hc, hx, hy] at hl
    subst hl
    simp [plain] at hp
  case alloc t =>
    cases hz : tyZero P t with
    | none => simp [hz] at hl
    | some z =>
      simp [hz] at hl
      subst hl
      exact opOK_v (snd_alloc hz h) (by unfold execOp; rw [ho])
  case box t x =>
    obtain ⟨y, h1, rfl⟩ := opt_map hl
    exact opOK_v (snd_box h (ev_rep he h1)) (by unfold execOp; rw [ho])
  case build t ps =>
    unfold lowBuild at hl
    cases hz : tyZero P t with
    | none => simp [hz] at hl
    | some z =>
      cases z <;> simp only [hz] at hl <;> first | (cases hl; done) | skip
      rename_i z
      cases hu : P.underlying t with
      | none => simp [hu] at hl
      | some d =>
        cases d <;> simp only [hu] at hl <;> first | (cases hl; done) | skip
        case struct fs =>
          cases hpl : placesOf P fs.toList with
          | none => simp [hpl] at hl
          | some pl =>
            simp only [hpl] at hl
            obtain ⟨m, h1, rfl⟩ := opt_map hl
            refine opOK_v (s := Instr.build t (ps.map fun (i, x) => (i, a.eval x))) (snd_build_struct hz hu hpl h ?_) (by unfold execOp; rw [ho])
            have := lowPs_rep he _ _ h1
            simpa using this
        case array k el =>
          cases hs : tySz P el with
          | none => simp [hs] at hl
          | some sz =>
            simp only [hs] at hl
            obtain ⟨m, h1, rfl⟩ := opt_map hl
            refine opOK_v (s := Instr.build t (ps.map fun (i, x) => (i, a.eval x))) (snd_build_array hz hu hs h ?_) (by unfold execOp; rw [ho])
            have := lowPs_rep he _ _ h1
            simpa using this
  case buildSlice t len ps =>
    unfold lowBsl at hl
    cases hu : P.underlying t with
    | none => simp [hu] at hl
    | some d =>
      cases d <;> simp only [hu] at hl <;> first | (cases hl; done) | skip
      rename_i el
      cases hs : tySz P el with
      | none => simp [hs] at hl
      | some sz =>
        cases hz : tyZero P el with
        | none => simp [hs, hz] at hl
        | some z =>
          cases hm : lowSs n ps.toList with
          | none => simp [hs, hz, hm] at hl
          | some m =>
            simp only [hs, hz, hm] at hl
            split at hl
            · rename_i hc
              simp only [Option.some.injEq] at hl
              subst hl
              refine opOK_v (s := Instr.buildSlice t len (ps.map fun (i, x) => (i, a.eval x))) (snd_bsl hu hs hz hc.1 hc.2.1 hc.2.2.1 hc.2.2.2 h ?_) (by unfold execOp; rw [ho])
              have := lowSs_rep he _ _ hm
              simpa using this
            · cases hl
  case makeMap t r =>
    cases r with
    | some r => cases hl
    | none =>
      simp only [Option.some.injEq] at hl
      subst hl
      exact opOK_v (snd_mkmap h) (by unfold execOp; rw [ho]; rfl)
  case insert t m k x =>
    cases hu : P.underlying t with
    | none => simp [hu] at hl
    | some d =>
      cases d <;> simp only [hu] at hl <;> first | (cases hl; done) | skip
      rename_i kt el
      cases hm : lx n m <;> cases hk : lx n k <;> cases hx : lx n x <;> simp only [hm, hk, hx] at hl <;> first | (cases hl; done) | skip
      obtain ⟨kd, h1, rfl⟩ := opt_map hl
      exact opOK_u (snd_ins hu h1 h (ev_rep he hm) (ev_rep he hk) (ev_rep he hx)) (by unfold execOp; rw [ho])
  case mapUpdate t m k x =>
    cases hu : P.underlying t with
    | none => simp [hu] at hl
    | some d =>
      cases d <;> simp only [hu] at hl <;> first | (cases hl; done) | skip
      rename_i kt el
      cases hm : lx n m <;> cases hk : lx n k <;> cases hx : lx n x <;> simp only [hm, hk, hx] at hl <;> first | (cases hl; done) | skip
      obtain ⟨kd, h1, rfl⟩ := opt_map hl
      exact opOK_u (snd_ins hu h1 h (ev_rep he hm) (ev_rep he hk) (ev_rep he hx)) (by unfold execOp; rw [ho])
  case load t p =>
    cases hag : tyAg P t <;> cases hs : tySz P t <;> cases hx : lx n p <;> simp only [hag, hs, hx] at hl <;> first | (cases hl; done) | skip
    simp only [Option.some.injEq] at hl
    subst hl
    exact opOK_v (snd_load hag hs h (ev_rep he hx)) (by unfold execOp; rw [ho])
  case store t p x =>
    cases hs : tySz P t <;> cases hq : lx n p <;> cases hx : lx n x <;> simp only [hs, hq, hx] at hl <;> first | (cases hl; done) | skip
    simp only [Option.some.injEq] at hl
    subst hl
    exact opOK_u (snd_store hs h (ev_rep he hq) (ev_rep he hx)) (by unfold execOp; rw [ho])
  case nilCheck x =>
    obtain ⟨y, h1, rfl⟩ := opt_map hl
    exact snd_nilchk ho rfl h (ev_rep he h1)
  case binOp op t x y yt =>
    unfold lowBin at hl
    have fin : ∀ kd, tyKD P t = some kd → ∀ x' y', lx n x = some x' → lx n y = some y' → OpOK P o a w X ρ H (ares (.bin kd op x' y') e H) := fun kd hk x' y' hx hy =>
      opOK_v (snd_bin hk h (ev_rep he hx) (ev_rep he hy)) (by unfold execOp; rw [ho])
    have fin2 : (match tyKD P t, lx n x, lx n y with | some kd, some x, some y => some (LOp.bin kd op x y) | _, _, _ => none) = some lo → OpOK P o a w X ρ H (ares lo e H) := by
      intro hl
      cases hk : tyKD P t <;> cases hx : lx n x <;> cases hy : lx n y <;> simp only [hk, hx, hy] at hl <;> first | (cases hl; done) | skip
      simp only [Option.some.injEq] at hl
      subst hl
      exact fin _ hk _ _ hx hy
    cases hu : P.underlying t with
    | none => rw [hu] at hl; exact fin2 hl
    | some d =>
      rw [hu] at hl
      cases d <;> first | exact fin2 hl | skip
      cases hq : isEq op <;> cases hx : lx n x <;> simp only [hq, hx] at hl <;> first | (cases hl; done) | skip
      split at hl
      · simp only [Option.some.injEq] at hl; subst hl; simp [plain] at hp
      · cases hl
  case unOp op t x =>
    cases op <;> simp only at hl <;> first | (cases hl; done) | skip
    case not =>
      obtain ⟨y, h1, rfl⟩ := opt_map hl
      exact opOK_v (snd_not h (ev_rep he h1)) (by unfold execOp; rw [ho])
    case neg =>
      obtain ⟨y, h1, rfl⟩ := opt_map hl
      exact opOK_v (snd_neg h (ev_rep he h1)) (by unfold execOp; rw [ho])
  case convert src dst x => exact lowConv_ok ho hl h he
  case makeFunc f first caps =>
    cases hf : lxs n first.toList <;> cases hc : lxs n caps.toList <;> simp only [hf, hc] at hl <;> first | (cases hl; done) | skip
    simp only [Option.some.injEq] at hl
    subst hl
    obtain ⟨h1, h2⟩ := lxs_rep he _ _ hf
    obtain ⟨h3, h4⟩ := lxs_rep he _ _ hc
    intro _
    refine ⟨.func f (first.map a.eval) (caps.map a.eval), w, ρ, .inl (by unfold execOp; rw [ho]; rfl), h, ?_, Fut.refl _ _ _⟩
    refine .fn _ _ _ _ _ _ (by simpa using h1) (by simpa using h3) (fun i x u hx hu => h2 i x u hx (by simpa using hu)) (fun i x u hx hu => h4 i x u hx (by simpa using hu))
  case makeSlice t l c =>
    cases hu : P.underlying t with
    | none => simp [hu] at hl
    | some d =>
      cases d <;> simp only [hu] at hl <;> first | (cases hl; done) | skip
      rename_i el
      cases hx : lx n l <;> cases hy : lx n c <;> simp only [hx, hy] at hl <;> first | (cases hl; done) | skip
      cases hi : P.info? el with
      | none => simp [hi] at hl
      | some i =>
        simp only [hi] at hl
        cases hz : i.zero with
        | none => simp [hz] at hl
        | some z =>
          simp only [hz] at hl
          split at hl
          · rename_i hc
            simp only [Option.some.injEq] at hl
            subst hl
            exact opOK_v (snd_msl hu hi hz hc.1 hc.2.1 hc.2.2 h (ev_rep he hx) (ev_rep he hy)) (by unfold execOp; rw [ho])
          · cases hl
  case slice t x l hi mx =>
    cases mx with
    | some m => cases hl
    | none =>
      cases hu : P.underlying t with
      | none => simp [hu] at hl
      | some d =>
        cases d <;> simp only [hu] at hl <;> first | (cases hl; done) | skip
        case string =>
          cases hx : lx n x <;> cases h1 : lxo n l <;> cases h2 : lxo n hi <;> simp only [hx, h1, h2] at hl <;> first | (cases hl; done) | skip
          simp only [Option.some.injEq] at hl
          subst hl
          exact opOK_v (s := Instr.sliceAt t (a.eval x) (l.map a.eval) (hi.map a.eval) none) (snd_slice (.inl ⟨rfl, hu⟩) h (ev_rep he hx) (lxo_rep he h1) (lxo_rep he h2)) (by unfold execOp; rw [ho]; rfl)
        case slice el =>
          cases hx : lx n x <;> cases h1 : lxo n l <;> cases h2 : lxo n hi <;> simp only [hx, h1, h2] at hl <;> first | (cases hl; done) | skip
          obtain ⟨sz, hs, rfl⟩ := opt_map hl
          exact opOK_v (s := Instr.sliceAt t (a.eval x) (l.map a.eval) (hi.map a.eval) none) (snd_slice (.inr ⟨rfl, el, hu, hs⟩) h (ev_rep he hx) (lxo_rep he h1) (lxo_rep he h2)) (by unfold execOp; rw [ho]; rfl)
  case fieldAddr s p f =>
    cases hu : P.underlying s with
    | none => simp [hu] at hl
    | some d =>
      cases d <;> simp only [hu] at hl <;> first | (cases hl; done) | skip
      rename_i fs
      cases hx : lx n p with
      | none => simp [hx] at hl
      | some y =>
        simp only [hx] at hl
        cases hf : fs[f]? with
        | none => simp [hf] at hl
        | some fd =>
          simp only [hf] at hl
          cases hn : tySz P fd.type with
          | none => simp [hn] at hl
          | some k =>
            cases k with
            | zero => simp [hn] at hl
            | succ k =>
              simp only [hn, Option.some.injEq] at hl
              subst hl
              exact opOK_v (snd_faddr hu hf hn (by omega) h (ev_rep he hx)) (by unfold execOp; rw [ho])
  case field s x f =>
    cases hu : P.underlying s with
    | none => simp [hu] at hl
    | some d =>
      cases d <;> simp only [hu] at hl <;> first | (cases hl; done) | skip
      rename_i fs
      cases hx : lx n x with
      | none => simp [hx] at hl
      | some y =>
        simp only [hx] at hl
        cases hf : fs[f]? with
        | none => simp [hf] at hl
        | some fd =>
          simp only [hf] at hl
          cases hag : tyAg P fd.type <;> cases hn : tySz P fd.type <;> simp only [hag, hn] at hl <;> first | (cases hl; done) | skip
          simp only [Option.some.injEq] at hl
          subst hl
          exact opOK_v (snd_fld hu hf hag hn h (ev_rep he hx)) (by unfold execOp; rw [ho])
  case indexAddr t x i =>
    cases hu : P.underlying t with
    | none => simp [hu] at hl
    | some d =>
      cases d <;> simp only [hu] at hl <;> first | (cases hl; done) | skip
      cases hx : lx n x <;> cases hi : lx n i <;> simp only [hx, hi] at hl <;> first | (cases hl; done) | skip
      obtain ⟨sz, hs, rfl⟩ := opt_map hl
      exact opOK_v (snd_iaddr hu hs h (ev_rep he hx) (ev_rep he hi)) (by unfold execOp; rw [ho])
  case index t x i =>
    cases hu : P.underlying t with
    | none => simp [hu] at hl
    | some d =>
      cases d <;> simp only [hu] at hl <;> first | (cases hl; done) | skip
      cases hx : lx n x <;> cases hi : lx n i <;> simp only [hx, hi] at hl <;> first | (cases hl; done) | skip
      simp only [Option.some.injEq] at hl
      subst hl
      exact opOK_v (snd_idx hu h (ev_rep he hx) (ev_rep he hi)) (by unfold execOp; rw [ho])
  case lookup t m k ok =>
    cases hu : P.underlying t with
    | none => simp [hu] at hl
    | some d =>
      cases d <;> simp only [hu] at hl <;> first | (cases hl; done) | skip
      cases hx : lx n m <;> cases hi : lx n k <;> simp only [hx, hi] at hl <;> first | (cases hl; done) | skip
      rename_i kt el _ _
      cases hk : tyKD P kt <;> cases hz : tyZero P el <;> simp only [hk, hz] at hl <;> first | (cases hl; done) | skip
      simp only [Option.some.injEq] at hl
      subst hl
      exact opOK_v (snd_look hu hk hz h (ev_rep he hx) (ev_rep he hi)) (by unfold execOp; rw [ho])
  case extract x i =>
    obtain ⟨y, h1, rfl⟩ := opt_map hl
    exact opOK_v (snd_ext h (ev_rep he h1)) (by unfold execOp; rw [ho])
  case call c => exact lowCall_ok ho hl hp h he
end
end Go.Ax
