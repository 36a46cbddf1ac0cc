/- Whole functions: what the steps say of a function's lowered form holds of every call of it. -/
import Derived.Test.YtdgmlepakippmaaAx17
import Derived.Deep.LoopGhost
namespace Go.Ax
open Go Go.RowKit

section
variable {P : Program} {w : World} {X : Nat → Prop} {ρ : Nat → Loc} {H : AHeap} {e : Env} {a : Act} {n : Nat}

/-- What is asked of what follows an operation. -/
abbrev Cont (X : Nat → Prop) (w : World) (ρ : Nat → Loc) (H : AHeap) (a : Act) (d : Option Nat) (K : AV → AHeap → Prop) (next : Act → World → Prop) : Prop :=
  ∀ u x H' ρ' w', K x H' → HRel w' X ρ' H' → Rep w' (Mut X ρ' H'.length) ρ' H'.length x u → Fut w ρ H.length w' ρ' H'.length → next (a.put d u) w'

theorem aop_plain {lo : LOp} (hp : plain lo = true) {K : AV → AHeap → Prop} (h : aop P lo e H K) : (ares lo e H).ok ∧ K (ares lo e H).x (ares lo e H).H := by
  cases lo <;> first | exact h | (simp [plain] at hp)

theorem sl_nilcase {x : AV} {u : Value} (h : HRel w X ρ H) (hx : Rp w X ρ H x u) (hs : slcK H x) : ∃ b l c, u = .slice b l c ∧ nilOk x b.isNone := by
  cases x with
  | v x =>
    have := rep_v hx; subst this
    cases u with
    | slice b l c => cases b <;> cases l <;> cases c <;> simp [slcK] at hs; exact ⟨_, _, _, rfl, rfl⟩
    | _ => simp [slcK] at hs
  | sl sz xs =>
    cases hx with
    | slE _ _ b c => exact ⟨b, 0, c, rfl, fun _ => rfl⟩
    | slN => exact ⟨_, _, _, rfl, fun hh => by simp at hh⟩
  | os r ver off len =>
    obtain ⟨hb, hv⟩ := hs
    obtain ⟨v, sz, xs, ho⟩ := isArr_some hb
    rw [ho] at hv
    obtain ⟨_, _, _, _, _, _, ⟨b, c, rfl, hlc, hcap⟩, _⟩ := os_arr h hx ho hv
    refine ⟨_, _, _, rfl, fun hh => ?_⟩
    rcases hcap with h0 | ⟨_, _, _, rfl, _⟩
    · omega
    · simp at hh
  | nc => cases hx; exact ⟨_, _, _, rfl, trivial⟩
  | _ => simp [slcK] at hs

theorem eqIn_nilS0 {d : Nat} {t el : TypeId} {b : Option Addr} {l c : Nat} (ht : P.underlying t = some (.slice el)) : (Op.equalIn (d + 1) t (.slice b l c) (.slice none 0 0)).run P w = .ok b.isNone w := by
  cases b <;> simp [Op.equalIn, run_underlying ht]
theorem eqIn_nilS {t el : TypeId} {b : Option Addr} {l c : Nat} (ht : P.underlying t = some (.slice el)) : (Op.equal t (.slice b l c) (.slice none 0 0)).run P w = .ok b.isNone w :=
  eqIn_nilS0 (d := 9999) ht

def plainO : Option LOp → Bool
  | some lo => plain lo
  | none => true

theorem aop_sound {imm : Bool} {o : Oper} {K : AV → AHeap → Prop} (hop : aop P (lowOp P n imm o) e H K) (h : HRel w X ρ H) (he : ER w X ρ H n e a) {next : Act → World → Prop} {Q : Exit → Act → World → Prop}
    (hn : Cont X w ρ H a o.dst K next) : o.wp P a w next Q := by
  unfold lowOp at hop
  cases hl : lowOp0 P n imm o with
  | none => rw [hl] at hop; exact hop.1.elim
  | some lo =>
    rw [hl] at hop
    simp only [Option.getD_some] at hop
    by_cases hp : plain lo = true
    · obtain ⟨h1, h2⟩ := aop_plain hp hop
      obtain ⟨u, w', ρ', hr, g1, g2, g3⟩ := lowOp0_ok hl hp h he h1
      unfold Oper.wp
      rcases hr with hr | ⟨hr, rfl⟩
      · rw [hr]; exact hn _ _ _ _ _ h2 g1 g2 g3
      · rw [hr]; exact hn _ _ _ _ _ h2 g1 g2 g3
    · unfold lowOp0 at hl
      cases ho : o.op <;> rw [ho] at hl <;> simp only at hl <;> first | (cases hl; done) | skip
      case pick c x y =>
        cases hc : lx n c <;> cases hx : lx n x <;> cases hy : lx n y <;> simp [hc, hx, hy] at hl
        subst hl
        have rc := ev_rep he hc
        have rx := ev_rep he hx
        have ry := ev_rep he hy
        simp only [aop] at hop
        unfold Oper.wp execOp
        rw [ho]
        split at hop
        · rename_i t htb
          rw [htb] at rc
          have hcv := rep_v rc
          split at hop
          · rename_i hb
            subst hb
            simp only [hcv, asBool, Sem.run_bind, Sem.run_pure, Result.andThen_ok, if_true]
            exact hn _ _ _ _ _ hop h rx (Fut.refl _ _ _)
          · rename_i hb
            have hb' : t = false := by simpa using hb
            subst hb'
            simp only [hcv, asBool, Sem.run_bind, Sem.run_pure, Result.andThen_ok, Bool.false_eq_true, if_false]
            exact hn _ _ _ _ _ hop h ry (Fut.refl _ _ _)
        · exact hop.elim
      case binOp op t x y yt =>
        unfold lowBin at hl
        have bad : (match tyKD P t, lx n x, lx n y with | some kd, some x, some y => some (LOp.bin kd op x y) | _, _, _ => none) = some lo → False := by
          intro hl
          cases hk : tyKD P t <;> cases hx : lx n x <;> cases hy : lx n y <;> simp only [hk, hx, hy] at hl <;> first | (cases hl; done) | skip
          simp only [Option.some.injEq] at hl
          subst hl
          simp [plain] at hp
        cases hu : P.underlying t with
        | none => rw [hu] at hl; exact (bad hl).elim
        | some d =>
          rw [hu] at hl
          cases d <;> first | exact (bad hl).elim | skip
          rename_i el
          cases hq : isEq op <;> cases hx : lx n x <;> simp only [hq, hx] at hl <;> first | (cases hl; done) | skip
          rename_i neg lxx
          split at hl
          · rename_i hnc
            simp only [Option.some.injEq] at hl
            subst hl
            obtain ⟨hs, hK⟩ := hop
            obtain ⟨b, l, c, hae, hnil⟩ := sl_nilcase h (ev_rep he hx) hs
            have hy : a.eval y = .slice none 0 0 := by
              cases y with
              | const v => cases v with
                | slice b l c => cases b <;> cases l <;> cases c <;> simp [isNilC] at hnc; rfl
                | _ => simp [isNilC] at hnc
              | _ => simp [isNilC] at hnc
            have hex : (execOp a.eval o).run P w = .ok (.value (.bool (b.isNone ^^ neg))) w := by
              unfold execOp
              rw [ho]
              cases op <;> simp [isEq] at hq <;> subst hq
              · simp [hae, hy, eqGuard_at_slice, binOp, eqIn_nilS hu]
              · simp [hae, hy, eqGuard_at_slice, binOp, eqIn_nilS hu]
            unfold Oper.wp
            rw [hex]
            exact hn _ _ _ _ _ (hK _ hnil) h (.v _ _) (Fut.refl _ _ _)
          · cases hl
      case call c =>
        obtain ⟨callee, args, tys⟩ := c
        unfold lowCall at hl
        cases callee with
        | value f =>
          simp only at hl
          cases hf : lx n f with
          | none => simp [hf] at hl
          | some g =>
            cases hm : lxs n args.toList with
            | none => simp [hf, hm] at hl
            | some m =>
              simp [hf, hm] at hl
              subst hl
              have rf := ev_rep he hf
              obtain ⟨hlen, hrep⟩ := lxs_rep he _ _ hm
              simp only [aop] at hop
              cases hfv : ev e g with
              | fn fk first caps =>
                rw [hfv] at hop rf
                cases fk <;> simp only [acall] at hop <;> first | exact hop.elim | skip
                rename_i k
                obtain ⟨⟨fn, hfn, hbody, hname⟩, hcall⟩ := hop
                generalize hfe : a.eval f = fv at rf
                cases rf with
                | fn _ _ _ _ fs us h1 h2 h3 h4 =>
                  have hex : (execOp a.eval o).run P w = .ok (.enter k (fs ++ args.map a.eval ++ us)) w := by
                    unfold execOp
                    rw [ho]
                    simp only [resolve, hfe, Deferred.ofValue, Sem.run_bind, Sem.run_pure, Result.andThen_ok, invoke, callFunc, run_program, hfn, hname, Bool.false_eq_true, if_false, hbody]
                  unfold Oper.wp
                  rw [hex]
                  refine (hcall X ρ w _ h ⟨?_, ?_⟩).mono ?_
                  · simp [h1, h2, hlen]
                  · intro i x u hx hu
                    rw [List.append_assoc, List.getElem?_append] at hx
                    rw [Array.append_assoc, Array.getElem?_append] at hu
                    by_cases hi : i < first.length
                    · rw [if_pos hi] at hx
                      rw [if_pos (by omega)] at hu
                      exact h3 i x u hx hu
                    · rw [if_neg hi, List.getElem?_append] at hx
                      rw [if_neg (by omega), Array.getElem?_append] at hu
                      simp only [List.length_map, Array.size_map] at hx hu
                      have hl2 : m.length = args.size := by simpa using hlen
                      by_cases hj : i - first.length < m.length
                      · rw [if_pos hj] at hx
                        rw [if_pos (by omega)] at hu
                        exact hrep (i - first.length) x u hx (by rw [← h1] at hu; simpa using hu)
                      · rw [if_neg hj] at hx
                        rw [if_neg (by omega)] at hu
                        exact h4 (i - first.length - m.length) x u hx (by rw [← h1, ← hl2] at hu; exact hu)
                  · rintro en w' ⟨v, x, H', ρ', rfl, hK, g1, g2, g3⟩
                    exact hn _ _ _ _ _ hK g1 g2 g3
              | _ => rw [hfv] at hop; exact hop.elim
        | invoke r m => simp at hl
        | builtin b =>
          refine absurd (show plainO (some lo) = true from ?_) hp
          rw [← hl]
          cases b <;> simp only <;> (repeat' split) <;> first | rfl | (cases tySz P _ <;> simp only [Option.bind_none, Option.bind_some] <;> (try split) <;> rfl)
      case unOp op t x => cases op <;> simp only at hl <;> first | (cases hl; done) | (obtain ⟨_, _, rfl⟩ := opt_map hl; exact absurd rfl hp)
      case makeMap t r => cases r <;> simp only at hl <;> first | (cases hl; done) | (cases hl; exact absurd rfl hp)
      case slice t x lo hi mx => cases mx <;> simp only at hl <;> first | (cases hl; done) | (refine absurd (show plainO (some _) = true from ?_) hp; rw [← hl]; (repeat' split) <;> first | rfl | (cases tySz P _ <;> rfl))
      all_goals
        refine absurd (show plainO (some lo) = true from ?_) hp
        rw [← hl]
        (try unfold lowBuild); (try unfold lowBsl); (try unfold lowConv)
        (repeat' split) <;> first | rfl | (cases lx n _ <;> rfl) | (cases lowPs n _ _ <;> rfl) | (cases tyKD P _ <;> rfl) | (cases tySz P _ <;> rfl)
end
end Go.Ax
