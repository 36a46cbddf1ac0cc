/- Whole functions: what the steps say of a function's lowered form holds of every call of it. -/
import Derived.Test.YtdgmlepakippmaaAx20b
import Derived.Deep.LoopGhost
namespace Go.Ax
open Go Go.RowKit

section
variable {P : Program} {w w0 : World} {X : Nat → Prop} {ρ ρ0 : Nat → Loc} {H : AHeap} {e : Env} {a : Act} {n n0 : Nat}

/-- The ways out of a piece of code. -/
def outE : Out → Exit
  | .normal => .normal
  | .exit id => .exit id
  | .ret => .ret

theorem mark_ev {x : LX} {b : Bool} (h : ev e x = bool b) : markX e x b = e := by
  cases x with
  | t k => exact up_eq h
  | c _ => rfl

theorem code_sound {hs : List Hn} : ∀ (c : Code) {lc : LCode} {e : Env} {H : AHeap} {a : Act} {w : World} {K : Out → Env → AHeap → Prop} {Q : Exit → Act → World → Prop}, lowC P n hs c = some lc → awp P lc e H K → St X w0 ρ0 n0 n e H a w →
    (∀ o e' H' a' w', K o e' H' → St X w0 ρ0 n0 n e' H' a' w' → Q (outE o) a' w') → c.wp P Q a w := by
  intro c
  induction c with
  | skip =>
    intro lc e H a w K Q hl h hst hQ
    simp only [lowC, Option.some.injEq] at hl
    subst hl
    exact wp_skip (hQ .normal _ _ _ _ h hst)
  | region id ops b =>
    intro lc e H a w K Q hl h hst hQ
    cases b with
    | false =>
      simp only [lowC] at hl
      obtain ⟨los, h1, rfl⟩ := opt_map hl
      exact wp_region_list (ops_sound (fun e' H' a' w' hk hs' => hQ .normal _ _ _ _ hk hs') _ _ _ _ _ _ _ h1 h hst)
    | true =>
      simp only [lowC] at hl
      split at hl
      · rename_i hd tl h1 h2
        split at hl
        · rename_i hc
          simp only [Bool.and_eq_true, Bool.or_eq_true, decide_eq_true_eq] at hc
          obtain ⟨⟨⟨c1, c2⟩, c3⟩, c4⟩ := hc
          simp only [Option.some.injEq] at hl
          subst hl
          rcases c1 with c1 | c1
          · exact draw_sound h1 h2 c1 c2 c3 c4 h hst fun e' H' a' w' hk hs' => hQ .normal _ _ _ _ hk hs'
          · exact draw_sound2 h1 h2 c1 c2 c3 c4 h hst fun e' H' a' w' hk hs' => hQ .normal _ _ _ _ hk hs'
        · cases hl
      · cases hl
  | seq x y ihx ihy =>
    intro lc e H a w K Q hl h hst hQ
    simp only [lowC] at hl
    split at hl
    · rename_i lx ly h1 h2
      simp only [Option.some.injEq] at hl
      subst hl
      refine wp_seq (ihx h1 h hst fun o e' H' a' w' hk hs' => ?_)
      cases o with
      | normal => exact ihy h2 hk hs' hQ
      | exit id => exact hQ (.exit id) _ _ _ _ hk hs'
      | ret => exact hQ .ret _ _ _ _ hk hs'
    · cases hl
  | cond c x y ihx ihy =>
    intro lc e H a w K Q hl h hst hQ
    simp only [lowC] at hl
    split at hl
    · rename_i lcx lx ly h0 h1 h2
      simp only [Option.some.injEq] at hl
      subst hl
      simp only [awp] at h
      have hst' := hst
      obtain ⟨_, _, ρ, _, he, _⟩ := hst'
      have hr := ev_rep he h0
      split at h
      · rename_i t ht
        rw [ht] at hr
        have hv := rep_v hr
        refine wp_cond hv ?_
        cases t with
        | true =>
          rw [if_pos rfl, mark_ev ht] at h
          exact ihx h1 h hst hQ
        | false =>
          rw [if_neg (by simp), mark_ev ht] at h
          exact ihy h2 h hst hQ
      · exact h.elim
    · cases hl
  | block id c ih =>
    intro lc e H a w K Q hl h hst hQ
    simp only [lowC] at hl
    obtain ⟨lb, h1, rfl⟩ := opt_map hl
    refine wp_block (ih h1 h hst fun o e' H' a' w' hk hs' => ?_)
    cases o with
    | normal => exact hQ .normal _ _ _ _ hk hs'
    | exit j =>
      simp only at hk
      simp only [outE, Exit.inBlock]
      split
      · rename_i hj; rw [if_pos hj] at hk; exact hQ .normal _ _ _ _ hk hs'
      · rename_i hj; rw [if_neg hj] at hk; exact hQ (.exit j) _ _ _ _ hk hs'
    | ret => exact hQ .ret _ _ _ _ hk hs'
  | loop c ih =>
    intro lc e H a w K Q hl h hst hQ
    simp only [lowC] at hl
    obtain ⟨lb, h1, rfl⟩ := opt_map hl
    obtain ⟨I, μ, h2, h3⟩ := h
    refine wp_loop_ghost (fun k a w => ∃ e H, I e H ∧ μ e H = k ∧ St X w0 ρ0 n0 n e H a w) (μ e H) ⟨e, H, h2, rfl, hst⟩ ?_
    rintro k a w ⟨e, H, hI, rfl, hst⟩
    refine ih h1 (h3 e H hI) hst fun o e' H' a' w' hk hs' => ?_
    cases o with
    | normal => exact ⟨_, hk.2, e', H', hk.1, rfl, hs'⟩
    | exit id => exact hQ (.exit id) _ _ _ _ hk hs'
    | ret => exact hQ .ret _ _ _ _ hk hs'
  | exit id =>
    intro lc e H a w K Q hl h hst hQ
    simp only [lowC, Option.some.injEq] at hl
    subst hl
    exact wp_exit (hQ (.exit id) _ _ _ _ h hst)
  | ret =>
    intro lc e H a w K Q hl h hst hQ
    simp only [lowC, Option.some.injEq] at hl
    subst hl
    exact wp_ret (hQ .ret _ _ _ _ h hst)
  | _ => intro lc e H a w K Q hl; simp [lowC] at hl

theorem envOf_get : ∀ (l : List AV) (i t : Nat), envOf l i t = if i ≤ t then (l[t - i]?).getD .any else .any
  | [], i, t => by simp [envOf, e0]
  | x :: l, i, t => by
    simp only [envOf, up]
    by_cases h : t = i
    · subst h; simp
    · rw [if_neg h, envOf_get l (i + 1) t]
      by_cases h2 : i ≤ t
      · rw [if_pos (by omega), if_pos h2, show t - i = t - (i + 1) + 1 by omega]
        simp
      · rw [if_neg (by omega), if_neg h2]

/-- The run comes to what the result says, and the world stands still. -/
def Still (P : Program) (s : Sem Value) (w : World) (X : Nat → Prop) (ρ : Nat → Loc) (H : AHeap) (r : Res) : Prop :=
  r.ok → r.H = H ∧ ∃ u, s.run P w = .ok u w ∧ Rep w (Mut X ρ H.length) ρ H.length r.x u
theorem still_pure {s : Sem Value} {p : Prop} {x : AV} (f : p → ∃ u, s.run P w = .ok u w ∧ Rep w (Mut X ρ H.length) ρ H.length x u) : Still P s w X ρ H ⟨p, x, H⟩ := fun hp => ⟨rfl, f hp⟩
theorem still_also {s : Sem Value} {p : Prop} {r : Res} (f : p → Still P s w X ρ H r) : Still P s w X ρ H (r.also p) := fun ⟨hp, hr⟩ => f hp hr

theorem res_load {t : TypeId} {ag : Bool} {n : Nat} (hag : tyAg P t = some ag) (hsz : tySz P t = some n) (h : HRel w X ρ H) {p : AV} {u : Value} (hp : Rep w (Mut X ρ H.length) ρ H.length p u) :
    Still P (do loadVar t (← asAddr u)) w X ρ H (rLoad ag n p H) := by
  have at_ : ∀ a : Addr, (do loadVar t (← asAddr (.pointer (some a)))) = loadVar t a := fun a => rfl
  cases p with
  | vp cs off =>
    simp only [rLoad]
    refine still_pure fun ⟨h1, h2⟩ => ?_
    cases hp with
    | vp _ _ _ b o c hm hb hcell hrep =>
      rw [at_]
      refine loadVar_ok hag hsz (cs := cs.drop off) (by simp; omega) h2 (fun j => c (off + j)) (fun j hj => ?_) (fun j y hj hy => ?_)
      · have hlt : off + j < cs.length := by omega
        have := hcell (off + j) cs[off + j] (by simp [hlt])
        rw [Nat.add_assoc]
        exact this.1
      · rw [List.getElem?_drop] at hy
        exact (hrep _ _ hy).mono (Nat.zero_le _)
  | ptr r ver off =>
    simp only [rLoad]
    refine still_also fun ⟨hb, hv⟩ => ?_
    obtain ⟨cs, ho⟩ := isBox_some hb
    rw [ho] at hv ⊢
    simp only [isVer] at hv
    simp only [rLoadO]
    refine still_pure fun ⟨h1, h2⟩ => ?_
    obtain ⟨hr, b, c, e, fr, hblk, rfl, hh, hl, hfr, _, hrep⟩ := ptr_box h hp ho hv
    rw [at_]
    refine loadVar_ok hag hsz (cs := cs.drop off) (by simp; omega) h2 (fun j => c.getD (off + j) undef) (fun j hj => ?_) (fun j y hj hy => ?_)
    · rw [cell_of_blk hh]
      have hlt : off + j < c.size := by omega
      simp [hlt]
    · rw [List.getElem?_drop] at hy
      have hlt : off + j < c.size := by omega
      exact (hrep _ _ _ hy (by simp [hlt])).1
  | pe r ver i off =>
    simp only [rLoad]
    refine still_also fun ⟨hb, hv⟩ => ?_
    obtain ⟨v, sz, xs, ho⟩ := isArr_some hb
    rw [ho] at hv ⊢
    simp only [isVer] at hv
    simp only [rLoadO]
    refine still_pure fun ⟨h0, h1, h2⟩ => ?_
    obtain ⟨hr, b, o, c, e, fr, hblk, rfl, hh, hext, hfr, hle, hrow, hsz0, _, _, hrep⟩ := pe_arr h hp ho hv h0
    rw [at_]
    have hx : xs[i]? = some (xs.getD i []) := by simp [h0]
    have hxl : (xs.getD i []).length = sz := hrow _ (List.mem_of_getElem? hx)
    have hlt : ∀ j, j < n → o + i * sz + (off + j) < c.size := fun j hj => by
      have := mul_lt_of (sz := sz) (j := off + j) h0 (by omega)
      omega
    refine loadVar_ok hag hsz (cs := (xs.getD i []).drop off) (by simp only [List.length_drop]; omega) h2 (fun j => c.getD (o + i * sz + (off + j)) undef) (fun j hj => ?_) (fun j y hj hy => ?_)
    · rw [cell_of_blk hh]
      have := hlt j hj
      rw [show o + (i * sz + off) + j = o + i * sz + (off + j) by omega]
      simp [this]
    · rw [List.getElem?_drop] at hy
      exact (hrep i (off + j) _ _ _ hx hy (by simp [hlt j hj])).1.mono (Nat.zero_le _)
  | _ => exact fun h => h.elim

def resS (tmps : Array Value) : ResultVar → Sem Value
  | .tmp t => pure (tmps.getD t undef)
  | .cell a t => do loadVar t (← asAddr (tmps.getD a undef))

theorem res_each (h : HRel w X ρ H) (he : ER w X ρ H n e a) : ∀ (l : List ResultVar) (rs : List RV), lowRs P n l = some rs → (∀ r ∈ rs, (resV e H r).ok) →
    ∃ us : List Value, (l.mapM (resS a.tmps)).run P w = .ok us w ∧ us.length = rs.length ∧ (∀ r ∈ rs, (resV e H r).H = H) ∧ ∀ (i : Nat) (r : RV) (u : Value), rs[i]? = some r → us[i]? = some u → Rep w (Mut X ρ H.length) ρ H.length (resV e H r).x u
  | [], rs, hl, _ => by
    simp only [lowRs, Option.some.injEq] at hl
    subst hl
    exact ⟨[], by simp, rfl, by simp, by simp⟩
  | .tmp t :: l, rs, hl, hok => by
    simp only [lowRs] at hl
    split at hl
    · rename_i m hm
      split at hl
      · rename_i ht
        simp only [Option.some.injEq] at hl
        subst hl
        obtain ⟨us, h1, h2, h3, h4⟩ := res_each h he l m hm fun r hr => hok r (by simp [hr])
        refine ⟨a.tmps.getD t undef :: us, by simp [resS, h1], by simp [h2], ?_, ?_⟩
        · intro r hr
          simp only [List.mem_cons] at hr
          rcases hr with rfl | hr
          · rfl
          · exact h3 r hr
        · intro i r u hr hu
          cases i with
          | zero => simp only [List.getElem?_cons_zero, Option.some.injEq] at hr hu; subst hr; subst hu; exact he t ht
          | succ i => exact h4 i r u (by simpa using hr) (by simpa using hu)
      · cases hl
    · cases hl
  | .cell t ty :: l, rs, hl, hok => by
    simp only [lowRs] at hl
    split at hl
    · rename_i m ag sz hm hag hsz
      split at hl
      · rename_i ht
        simp only [Option.some.injEq] at hl
        subst hl
        obtain ⟨us, h1, h2, h3, h4⟩ := res_each h he l m hm fun r hr => hok r (by simp [hr])
        obtain ⟨g0, u0, g1, g2⟩ := res_load hag hsz h (he t ht) (hok (.cell t ag sz) (by simp))
        refine ⟨u0 :: us, ?_, by simp [h2], ?_, ?_⟩
        · have g1' : (resS a.tmps (.cell t ty)).run P w = .ok u0 w := g1
          simp only [List.mapM_cons, Sem.run_bind]
          rw [g1']
          simp [h1]
        · intro r hr
          simp only [List.mem_cons] at hr
          rcases hr with rfl | hr
          · exact g0
          · exact h3 r hr
        · intro i r u hr hu
          cases i with
          | zero => simp only [List.getElem?_cons_zero, Option.some.injEq] at hr hu; subst hr; subst hu; exact g2
          | succ i => exact h4 i r u (by simpa using hr) (by simpa using hu)
      · cases hl
    · cases hl

theorem results_ok {fn : Func} {rs : List RV} (hl : lowRs P n fn.results.toList = some rs) (h : HRel w X ρ H) (he : ER w X ρ H n e a) (hok : (resVs e H rs).ok) :
    (resVs e H rs).H = H ∧ ∃ v, (results fn a.tmps).run P w = .ok v w ∧ Rep w (Mut X ρ H.length) ρ H.length (resVs e H rs).x v := by
  have hall : ∀ r ∈ rs, (resV e H r).ok := by
    unfold resVs at hok
    split at hok
    · intro r hr; simp at hr; subst hr; exact hok
    · exact hok
  obtain ⟨us, h1, h2, h3, h4⟩ := res_each h he _ _ hl hall
  have hrun : (results fn a.tmps).run P w = .ok (if hh : us.toArray.size = 1 then us.toArray[0] else .tuple us.toArray) w := by
    unfold results
    rw [Array.mapM_eq_mapM_toList]
    simp only [Sem.run_bind]
    have h5 : (List.toArray <$> fn.results.toList.mapM (resS a.tmps)).run P w = .ok us.toArray w := by
      rw [map_eq_pure_bind]
      simp [h1]
    change ((Sem.run P (List.toArray <$> fn.results.toList.mapM (resS a.tmps)) w).andThen _) = _
    rw [h5]
    simp
  rw [hrun]
  match rs, h2, h3, h4 with
  | [r], h2, h3, h4 =>
    match us, h2, h4 with
    | [u], _, h4 => exact ⟨h3 r (by simp), u, rfl, h4 0 r u rfl rfl⟩
  | [], h2, h3, h4 =>
    match us, h2 with
    | [], _ => exact ⟨rfl, _, by simp; rfl, .tup _ _ _ rfl (by simp)⟩
  | r :: r' :: rs, h2, h3, h4 =>
    refine ⟨rfl, _, rfl, ?_⟩
    rw [dif_neg (by simp [h2])]
    refine .tup _ _ _ (by simp [h2]) fun i x u hx hu => ?_
    rw [List.getElem?_map] at hx
    cases hr : (r :: r' :: rs)[i]? with
    | none => rw [hr] at hx; cases hx
    | some r0 =>
      rw [hr] at hx
      simp at hx
      subst hx
      exact h4 i r0 u hr (by simpa using hu)

/-- What a run of the lowered form says holds of every call. -/
theorem enter {k : FuncId} {fn : Func} {hs : List Hn} {L : LFn} {args : List AV} {R : AV → AHeap → Prop} (hf : P.funcs[k]? = some fn) (hl : lowFn P fn hs = some L) (ha : args.length ≤ L.n)
    (h : runK P [.code L.body] (retQ L.res R) .normal (envOf args 0) H) : ACall P k args H R := by
  unfold lowFn at hl
  cases hb : fn.body with
  | none => simp [hb] at hl
  | some c =>
    cases hr : lowRs P fn.ntmps fn.results.toList with
    | none => simp [hb, hr] at hl
    | some rs =>
      simp only [hb, hr] at hl
      split at hl
      · rename_i b hc
        split at hl
        · rename_i hcond
          simp only [Option.some.injEq] at hl
          subst hl
          refine ⟨⟨fn, hf, by simp [hb], hcond.2⟩, fun X ρ w vs hrel hargs => calls_of_wp hf hb ?_⟩
          have hvs : vs.size ≤ fn.ntmps := by rw [← hargs.1]; exact ha
          refine code_sound (X := X) (w0 := w) (ρ0 := ρ) (n0 := H.length) (H := H) (e := envOf args 0) c hc h ⟨rfl, by simp; omega, ρ, hrel, fun t ht => ?_, Fut.refl _ _ _⟩ ?_
          · rw [envOf_get, if_pos (Nat.zero_le _), Nat.sub_zero]
            by_cases htl : t < vs.size
            · have hx : args[t]? = some (args[t]'(by rw [hargs.1]; exact htl)) := by simp
              rw [hx, Option.getD_some]
              refine hargs.2 t _ _ hx ?_
              simp [Array.getD_eq_getD_getElem?, Array.getElem?_append, htl]
            · rw [List.getElem?_eq_none (by rw [hargs.1]; omega)]
              exact .any _ _
          · intro o e' H' a' w' hk hst
            obtain ⟨hd, hn, ρ', g1, g2, g3⟩ := hst
            have fin : (resVs e' H' rs).ok ∧ R (resVs e' H' rs).x H' → a'.defers = [] ∧ ∃ v, (results fn a'.tmps).run P w' = .ok v w' ∧ ∃ v' x H'' ρ'', Ending.returned v = .returned v' ∧ R x H'' ∧ HRel w' X ρ'' H'' ∧ Rep w' (Mut X ρ'' H''.length) ρ'' H''.length x v' ∧ Fut w ρ H.length w' ρ'' H''.length := by
              rintro ⟨k1, k2⟩
              obtain ⟨_, v, k3, k4⟩ := results_ok hr g1 g2 k1
              exact ⟨hd, v, k3, v, _, H', ρ', rfl, k2, g1, k4, g3⟩
            cases o with
            | normal => exact fin hk
            | exit id => exact hk.elim
            | ret => exact fin hk
        · cases hl
      · cases hl
end
end Go.Ax
