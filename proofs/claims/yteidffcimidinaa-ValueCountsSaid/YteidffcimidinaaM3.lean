/- Parts, merged by a program (wip/tools/merge.py): Ax21 Ax22 Vl1 Ft Ax24 Ax25 Ax3 Ax23 Ax26 Ty1 Ty2 Ty3 Va1 Va2 Va3 Ty4 Ty5 Va4 Va5 Va6. -/
import Derived.Test.YteidffcimidinaaM2
import Derived.RangeFuncIn
import Derived.RangeFuncLeaves
import Derived.RangeFuncRecord
import Derived.KernelRfl
import Derived.Test.YteidffcimidinaaChecked
import Derived.Below
import Derived.ChangeSame
import Derived.Carry
import Derived.ChangeArms
import Derived.ProofKit
import Derived.HandedShaped
import Derived.Shelf.Vars
/- Whole functions: what the steps say of a function's lowered form holds of every call of it. -/
namespace Go.Ax
open Go Go.RowKit
set_option linter.unusedSimpArgs false
set_option linter.unusedVariables false

section
variable {B : List Deferred} {P : Program} {w w0 : World} {X : Nat → Prop} {ρ ρ0 : Nat → Loc} {H : AHeap} {e : Env} {a : Act} {n n0 : Nat}

/-- The ways out of a piece of code. -/
def outE : Out → Exit
  | .normal => .normal
  | .exit id => .exit id
  | .ret => .ret
  | .pan v => .panic [{ v, recovered := false }]

theorem mark_ev {x : LX} {b : Bool} (h : ev e x = bool b) : markX e x b = e := by
  cases x with
  | t k => exact up_eq h
  | c _ => rfl

theorem least' {p : Nat → Prop} (h : ∃ n, p n) : ∃ n, p n ∧ ∀ m, p m → n ≤ m := by
  obtain ⟨n, hn⟩ := h
  induction n using Nat.strongRecOn with
  | _ n ih =>
    by_cases hh : ∃ m, m < n ∧ p m
    · obtain ⟨m, hm, hp⟩ := hh; exact ih m hm hp
    · exact ⟨n, hn, fun m hm => Nat.le_of_not_lt fun hlt => hh ⟨m, hlt, hm⟩⟩

open Classical in
theorem wpIn_loop_ghost {F : Fence} {m0 : Nat} {c : Code} {Q : Exit → Act → World → Prop} (I : Nat → Act → World → Prop) (k : Nat) (h0 : I k a w)
    (round : ∀ k a w, I k a w → c.wpIn F m0 P (Exit.then (fun a' w' => ∃ k', k' < k ∧ I k' a' w') Q) a w) : (Code.loop c).wpIn F m0 P Q a w := by
  refine wpIn_loop (fun a w => ∃ k, I k a w) (fun a w => if hx : ∃ k, I k a w then Classical.choose (least' hx) else 0) ⟨k, h0⟩ ?_
  intro a w hs
  obtain ⟨hI, hl⟩ := Classical.choose_spec (least' hs)
  refine wpIn_mono (round _ a w hI) fun e a' w' hh => ?_
  cases e with
  | normal =>
    obtain ⟨k', hk, hI'⟩ := hh
    refine ⟨⟨k', hI'⟩, ?_⟩
    rw [dif_pos ⟨k', hI'⟩, dif_pos hs]
    exact Nat.lt_of_le_of_lt ((Classical.choose_spec (least' ⟨k', hI'⟩)).2 _ hI') hk
  | _ => exact hh

/-- The slots of a round: those of the record, the loop's variables set. -/
theorem upL_rep {M : Nat → Prop} {N k : Nat} : ∀ (ps : List Nat) (xs : List AV) (us : List Value) {e : Env} {tmps : Array Value}, xs.length = us.length → xs.length = ps.length → tmps.size = N → (∀ p ∈ ps, p < N) →
    (∀ t, t < N → Rep w M ρ k (e t) (tmps.getD t undef)) → (∀ (i : Nat) (x : AV) (u : Value), xs[i]? = some x → us[i]? = some u → Rep w M ρ k x u) →
    ((ps.zip us).foldl (fun tmps (t, a) => tmps.setIfInBounds t a) tmps).size = N ∧ ∀ t, t < N → Rep w M ρ k (upL e ps xs t) (((ps.zip us).foldl (fun tmps (t, a) => tmps.setIfInBounds t a) tmps).getD t undef)
  | [], xs, us, e, tmps, h1, h2, h3, _, h4, _ => by
    cases xs with
    | nil => exact ⟨h3, h4⟩
    | cons x xs => simp at h2
  | p :: ps, [], us, e, tmps, h1, h2, h3, _, h4, _ => by simp at h2
  | p :: ps, x :: xs, [], e, tmps, h1, h2, h3, _, h4, _ => by simp at h1
  | p :: ps, x :: xs, u :: us, e, tmps, h1, h2, h3, hp, h4, h5 => by
    simp only [List.zip_cons_cons, List.foldl_cons, upL]
    refine upL_rep ps xs us (by simpa using h1) (by simpa using h2) (by simpa using h3) (fun q hq => hp q (by simp [hq])) (fun t ht => ?_) (fun i x u hx hu => h5 (i + 1) x u (by simpa using hx) (by simpa using hu))
    simp only [up]
    by_cases htp : t = p
    · subst htp
      rw [if_pos rfl]
      have : (tmps.setIfInBounds t u).getD t undef = u := by simp [Array.getD_eq_getD_getElem?, h3, ht]
      rw [this]
      exact h5 0 x u rfl rfl
    · rw [if_neg htp]
      have : (tmps.setIfInBounds p u).getD t undef = tmps.getD t undef := by
        simp only [Array.getD_eq_getD_getElem?]
        rw [Array.getElem?_setIfInBounds_ne (fun e => htp e.symm)]
      rw [this]
      exact h4 t ht

theorem same_put (w : World) (b : Nat) (o : Obj) : Same w (w.putObj b o) := ⟨rfl, rfl, rfl, by simp⟩

/-- The record of a range over a function is set. -/
theorem HRel.setLp (h : HRel w X ρ H) {r l : Nat} {lr : Go.Loop} {e0 : Env} {st : LpSt} (st' : LpSt) (hr : H[r]? = some (.lp l lr e0 st)) :
    ∃ ρ', HRel (w.putObj l (.loop (lpRec lr st'))) X ρ' (H.set r (.lp l lr e0 st')) ∧ Fut w ρ H.length (w.putObj l (.loop (lpRec lr st'))) ρ' (H.set r (.lp l lr e0 st')).length := by
  have hlt : r < H.length := (List.getElem?_eq_some_iff.1 hr).1
  obtain ⟨h1, h2, h3, h4⟩ := h.objs r _ hr
  have hb := (h.lt r l 0 hlt h2).1
  obtain ⟨ρ', _, g2, g3⟩ := h.setAt (w' := w.putObj l (.loop (lpRec lr st'))) hlt (ρ r) (.lp l lr e0 st') (same_put _ _ _) (.inl rfl) (fun b o hbl => .inl ⟨o, hbl⟩)
    (fun b _ hne => World.putObj_heap_other fun e => by subst e; exact hne 0 h2)
    (fun ρ' _ hf => ⟨h1, h2, World.putObj_heap_same hb, fun t u hu => (h4 t u hu).nextN hf⟩)
  exact ⟨ρ', g2, g3⟩
theorem HRel.setDead (h : HRel w X ρ H) {r l : Nat} {lr : Go.Loop} {e0 : Env} {st : LpSt} (o : Obj) (hr : H[r]? = some (.lp l lr e0 st)) :
    ∃ ρ', HRel (w.putObj l o) X ρ' (H.set r .dead) ∧ Fut w ρ H.length (w.putObj l o) ρ' (H.set r .dead).length := by
  have hlt : r < H.length := (List.getElem?_eq_some_iff.1 hr).1
  obtain ⟨h1, h2, h3, h4⟩ := h.objs r _ hr
  obtain ⟨ρ', _, g2, g3⟩ := h.setAt (w' := w.putObj l o) hlt (ρ r) .dead (same_put _ _ _) (.inl rfl) (fun b o hbl => .inl ⟨o, hbl⟩)
    (fun b _ hne => World.putObj_heap_other fun e => by subst e; exact hne 0 h2) (fun ρ' _ hf => trivial)
  exact ⟨ρ', g2, g3⟩

theorem code_sound {hs : List Hn} : ∀ (c : Code) {B : List Deferred} {X : Nat → Prop} {w0 : World} {ρ0 : Nat → Loc} {n0 : Nat} {rd : Option Nat} {m0 : Nat} {lc : LCode} {e : Env} {H : AHeap} {a : Act} {w : World} {K : Out → Env → AHeap → Prop} {Q : Exit → Act → World → Prop}, lowC P n hs c = some lc → (rd = none ∨ nr lc = true) → awp P lc e H K → St B X w0 ρ0 n0 n e H a w →
    (∀ o e' H' a' w', K o e' H' → St B X w0 ρ0 n0 n e' H' a' w' → Q (outE o) a' w') → c.wpIn (WR rd) m0 P Q a w := by
  intro c
  induction c with
  | skip =>
    intro B X w0 ρ0 n0 rd m0 lc e H a w K Q hl hrd h hst hQ
    simp only [lowC, Option.some.injEq] at hl
    subst hl
    exact wpIn_skip (hQ .normal _ _ _ _ h hst)
  | region id ops b =>
    intro B X w0 ρ0 n0 rd m0 lc e H a w K Q hl hrd h hst hQ
    cases b with
    | false =>
      simp only [lowC] at hl
      split at hl
      · exact wpIn_region_list (opsP_sound (fun e' H' a' w' hk hs' => hQ .normal _ _ _ _ hk hs') (fun v e' H' a' w' hk hs' => hQ (.pan v) _ _ _ _ hk hs') _ _ _ _ _ _ _ hl h hst)
      obtain ⟨los, h1, rfl⟩ := opt_map hl
      exact wpIn_region_list (ops_sound (fun e' H' a' w' hk hs' => hQ .normal _ _ _ _ hk hs') _ _ _ _ _ _ _ h1 h hst)
    | true =>
      simp only [lowC] at hl
      split at hl
      · rename_i p1 p2 _
        split at hl
        · rename_i hd post h1 h2
          split at hl
          · rename_i hc
            simp only [Bool.and_eq_true, decide_eq_true_eq] at hc
            obtain ⟨⟨⟨⟨⟨c1, c2⟩, c3⟩, c4⟩, c5⟩, c6⟩ := hc
            simp only [Option.some.injEq] at hl
            subst hl
            refine perm_region (hs := hs) c3 ?_
            exact draw_sound3 h1 h2 c1 c2 c4 c5 c6 h hst fun e' H' a' w' hk hs' => hQ .normal _ _ _ _ hk hs'
          · cases hl
        · cases hl
      · split at hl
        · rename_i hd tl h1 h2
          split at hl
          · rename_i hc
            simp only [Bool.and_eq_true, Bool.or_eq_true, decide_eq_true_eq] at hc
            obtain ⟨⟨⟨c1, c2⟩, c3⟩, c4⟩ := hc
            simp only [Option.some.injEq] at hl
            subst hl
            refine perm_region (hs := hs) c3 ?_
            rcases c1 with c1 | c1
            · exact draw_sound h1 h2 c1 c2 c3 c4 h hst fun e' H' a' w' hk hs' => hQ .normal _ _ _ _ hk hs'
            · exact draw_sound2 h1 h2 c1 c2 c3 c4 h hst fun e' H' a' w' hk hs' => hQ .normal _ _ _ _ hk hs'
          · cases hl
        · cases hl
  | seq x y ihx ihy =>
    intro B X w0 ρ0 n0 rd m0 lc e H a w K Q hl hrd h hst hQ
    simp only [lowC] at hl
    split at hl
    · rename_i lx ly h1 h2
      simp only [Option.some.injEq] at hl
      subst hl
      simp only [nr, Bool.and_eq_true] at hrd
      refine wpIn_seq (ihx h1 (hrd.imp id (·.1)) h hst fun o e' H' a' w' hk hs' => ?_)
      cases o with
      | normal => exact ihy h2 (hrd.imp id (·.2)) hk hs' hQ
      | exit id => exact hQ (.exit id) _ _ _ _ hk hs'
      | ret => exact hQ .ret _ _ _ _ hk hs'
      | pan v => exact hQ (.pan v) _ _ _ _ hk hs'
    · cases hl
  | cond c x y ihx ihy =>
    intro B X w0 ρ0 n0 rd m0 lc e H a w K Q hl hrd h hst hQ
    simp only [lowC] at hl
    split at hl
    · rename_i lcx lx ly h0 h1 h2
      simp only [Option.some.injEq] at hl
      subst hl
      simp only [nr, Bool.and_eq_true] at hrd
      simp only [awp] at h
      have hst' := hst
      obtain ⟨_, ρ, _, he, _⟩ := hst'
      have hr := ev_rep he h0
      split at h
      · rename_i t ht
        rw [ht] at hr
        have hv := rep_v hr
        refine wpIn_cond hv ?_
        cases t with
        | true =>
          rw [if_pos rfl, mark_ev ht] at h
          exact ihx h1 (hrd.imp id (·.1)) h hst hQ
        | false =>
          rw [if_neg (by simp), mark_ev ht] at h
          exact ihy h2 (hrd.imp id (·.2)) h hst hQ
      · exact h.elim
    · cases hl
  | block id c ih =>
    intro B X w0 ρ0 n0 rd m0 lc e H a w K Q hl hrd h hst hQ
    simp only [lowC] at hl
    obtain ⟨lb, h1, rfl⟩ := opt_map hl
    simp only [nr] at hrd
    refine wpIn_block (ih h1 hrd h hst fun o e' H' a' w' hk hs' => ?_)
    cases o with
    | normal => exact hQ .normal _ _ _ _ hk hs'
    | exit j =>
      simp only at hk
      simp only [outE, Exit.inBlock]
      split
      · rename_i hj; rw [if_pos hj] at hk; exact hQ .normal _ _ _ _ hk hs'
      · rename_i hj; rw [if_neg hj] at hk; exact hQ (.exit j) _ _ _ _ hk hs'
    | ret => exact hQ .ret _ _ _ _ hk hs'
    | pan v => exact hQ (.pan v) _ _ _ _ hk hs'
  | loop c ih =>
    intro B X w0 ρ0 n0 rd m0 lc e H a w K Q hl hrd h hst hQ
    simp only [lowC] at hl
    obtain ⟨lb, h1, rfl⟩ := opt_map hl
    simp only [nr] at hrd
    obtain ⟨I, μ, h2, h3⟩ := h
    refine wpIn_loop_ghost (fun k a w => ∃ e H, I e H ∧ μ e H = k ∧ St B X w0 ρ0 n0 n e H a w) (μ e H) ⟨e, H, h2, rfl, hst⟩ ?_
    rintro k a w ⟨e, H, hI, rfl, hst⟩
    refine ih h1 hrd (h3 e H hI) hst fun o e' H' a' w' hk hs' => ?_
    cases o with
    | normal => exact ⟨_, hk.2, e', H', hk.1, rfl, hs'⟩
    | exit id => exact hQ (.exit id) _ _ _ _ hk hs'
    | ret => exact hQ .ret _ _ _ _ hk hs'
    | pan v => exact hQ (.pan v) _ _ _ _ hk hs'
  | exit id =>
    intro B X w0 ρ0 n0 rd m0 lc e H a w K Q hl hrd h hst hQ
    simp only [lowC, Option.some.injEq] at hl
    subst hl
    exact wpIn_exit (hQ (.exit id) _ _ _ _ h hst)
  | ret =>
    intro B X w0 ρ0 n0 rd m0 lc e H a w K Q hl hrd h hst hQ
    simp only [lowC, Option.some.injEq] at hl
    subst hl
    exact wpIn_ret (hQ .ret _ _ _ _ h hst)
  | rangeFunc g ps asg bdy iha ihb =>
    intro B X w0 ρ0 n0 rd m0 lc e H a w K Q hl hrd h hst hQ
    simp only [lowC] at hl
    split at hl
    · rename_i g' la lb hg ha hb
      split at hl
      · rename_i hc
        simp only [Bool.and_eq_true, List.all_eq_true, decide_eq_true_eq] at hc
        obtain ⟨⟨nra, nrb⟩, hps⟩ := hc
        simp only [Option.some.injEq] at hl
        subst hl
        obtain rfl : rd = none := hrd.resolve_right (by simp [nr])
        simp only [awp] at h
        obtain ⟨hn, ρ, hrel, he, hf, hm⟩ := hst
        have rf := ev_rep he hg
        split at h
        · rename_i k first caps hev
          rw [hev] at rf
          generalize hfe : a.eval g = fv at rf
          cases rf with
          | fn _ _ _ _ fs us h1 h2 h3 h4 =>
            refine wpIn_rangeFunc fun fn _ => ?_
            obtain ⟨lr, hlr⟩ : ∃ lr : Go.Loop, lr = { state := .ready, pending := none, fn, tmps := a.tmps, params := ps, assign := asg, body := bdy, defers := w.heap.size } := ⟨_, rfl⟩
            have hlr0 : (lr.state = .ready ∧ lr.pending = none) ∧ (lr.tmps = a.tmps ∧ lr.params = ps) ∧ lr.assign = asg ∧ lr.body = bdy := by subst hlr; exact ⟨⟨rfl, rfl⟩, ⟨rfl, rfl⟩, rfl, rfl⟩
            obtain ⟨⟨l1, l2⟩, ⟨l3, l4⟩, l5, l6⟩ := hlr0
            have hlb : ∀ st o, lpRec { lpRec lr st with state := .done, pending := some (lpJump o) } .ready = lpRec lr (.done o) := by intro st o; cases st <;> rfl
            obtain ⟨w1, hw1⟩ : ∃ w1, (w.alloc (.deferred (some []))).alloc (.loop lr) = w1 := ⟨_, rfl⟩
            -- the two blocks are laid
            obtain ⟨a1, a2⟩ := hrel.more (Same.alloc w (.deferred (some []))) (heap_old w _)
            obtain ⟨ρ1, p1, p2, p3⟩ := a1.push (w' := w1) { blk := some (w.heap.size + 1, 0) } (.lp (w.heap.size + 1) lr e .ready) (by rw [← hw1]; exact Same.alloc _ _) (fun b o hbl => by simp at hbl; obtain ⟨rfl, _⟩ := hbl; rw [← hw1]; simp) (by rw [← hw1]; exact heap_old _ _)
              (fun ρ' hf' hl' => ⟨rfl, rfl, by rw [← hw1]; have := World.alloc_heap_new (w.alloc (.deferred (some []))) (.loop lr); rwa [World.size_alloc] at this, fun t u hu => by
                rw [l3] at hu
                have htl : t < n := by rw [← hn]; exact (Array.getElem?_eq_some_iff.1 hu).1
                have := he t htl
                rw [show a.tmps.getD t undef = u by simp [Array.getD_eq_getD_getElem?, hu]] at this
                exact (this.nextN a2).nextN hf'⟩)
            have hfw := a2.trans p3
            have hD1 : w1.heap[w.heap.size]? = some (.deferred (some [])) := by rw [← hw1]; exact (Below.heap_alloc _ _ _ (by simp)).trans (World.alloc_heap_new w _)
            have hDs : w.heap.size < w1.heap.size := by rw [← hw1]; simp; omega
            have hDo : ¬ Own ρ1 (H ++ [HO.lp (w.heap.size + 1) lr e .ready]).length w.heap.size := by
              rintro ⟨r, o, hr, hbl⟩
              by_cases hrl : r = H.length
              · subst hrl; rw [p1] at hbl; simp at hbl
              · have hr' : r < H.length := by simp at hr; omega
                rcases p3.loc r hr' with h' | h'
                · rw [h'] at hbl
                  have := (hrel.lt r _ _ hr' hbl).1
                  omega
                · have h9 : ∃ b o, (ρ1 r).blk = some (b, o) := ⟨_, _, hbl⟩
                  have := p2.lt r _ _ hr hbl
                  rcases p3.own _ ⟨r, o, hr, hbl⟩ with ⟨r', o', hr2, hbl2⟩ | h'
                  · have := (hrel.lt r' _ _ hr2 hbl2).1; omega
                  · rw [World.size_alloc] at h'; omega
            have hmk : Mk B w0 w1 ρ1 (H ++ [HO.lp (w.heap.size + 1) lr e .ready]).length (mark w.heap.size :: a.defers) := by
              obtain ⟨ds, d1, d2, d3⟩ := hm.fut hfw
              obtain ⟨ds', d1', d2', d3'⟩ := hm
              have hdd : ds = ds' := by
                rw [d1] at d1'
                replace d1' := List.append_cancel_right d1'
                clear d2 d3 d2' d3' d1
                induction ds generalizing ds' with
                | nil => cases ds' with
                  | nil => rfl
                  | cons _ _ => simp at d1'
                | cons D ds ih => cases ds' with
                  | nil => simp at d1'
                  | cons D' ds' => simp [mark] at d1'; rw [d1'.1, ih ds' (by simpa [mark] using d1'.2)]
              subst hdd
              refine ⟨w.heap.size :: ds, by rw [List.map_cons, List.cons_append, d1], List.nodup_cons.2 ⟨fun hin => ?_, d2⟩, fun D hD => ?_⟩
              · have := (d3' _ hin).2.1; omega
              · rcases List.mem_cons.1 hD with rfl | hD
                · exact ⟨hf.size, hDs, hDo, hD1⟩
                · exact d3 D hD
            -- the rounds
            have hY : ∀ (args : List AV) (H1 : AHeap) (r : Nat) (R : AV → AHeap → Prop), args.length = ps.toList.length → H1[r]? = some (.lp (w.heap.size + 1) lr e .ready) →
                (awp P la (upL e ps.toList args) H1 fun o e1 H2 => match o with
                  | .normal => H2[r]? = some (.lp (w.heap.size + 1) lr e .ready) ∧ awp P lb e1 (H2.set r (.lp (w.heap.size + 1) lr e .busy)) (rndQ (w.heap.size + 1) lr e r R)
                  | _ => False) → AYield P (w.heap.size + 1) args H1 R := by
              intro args H1 r R hal hr1 hrun X' ρ' w' vs hrel' hargs'
              obtain ⟨_, _, q3, q4⟩ := hrel'.objs r _ hr1
              have q3' : w'.heap[w.heap.size + 1]? = some (.loop lr) := q3
              refine ⟨lr.fn, _, lr.assign, lr.body, run_yield q3' (by rw [← hargs'.1, hal, l4]; simp), roundIn_of_wpIn trivial ?_⟩
              rw [l5, l6, l3, l4, ← Array.foldl_toList, Array.toList_zip]
              obtain ⟨u1, u2⟩ := upL_rep (w := w') (M := Mut X' ρ' H1.length) (ρ := ρ') (k := H1.length) (N := n) (e := e) (tmps := a.tmps) ps.toList args vs.toList (by simpa using hargs'.1) hal hn (fun p hp => hps p hp)
                (fun t ht => q4 t _ (by rw [l3]; simp [Array.getD_eq_getD_getElem?, hn, ht])) (fun i x u hx hu => hargs'.2 i x u hx (by simpa using hu))
              refine iha (B := []) (X := X') (w0 := w') (ρ0 := ρ') (n0 := H1.length) (rd := some (w.heap.size + 1)) ha (.inr nra) hrun ⟨u1, ρ', hrel', u2, Fut.refl _ _ _, Mk.nil⟩ ?_
              intro o e1 H2 a1 w1' hk hs1
              cases o with
              | normal =>
                obtain ⟨hr2, hk2⟩ := hk
                obtain ⟨s1, ρ2, s2, s3, s4, s5⟩ := hs1
                have q5 : w1'.heap[w.heap.size + 1]? = some (.loop lr) := (s2.objs r _ hr2).2.2.1
                obtain ⟨ρ3, t2, t3⟩ := s2.setLp .busy hr2
                refine ⟨_, run_beginRound q5 l1, ihb (B := []) (X := X') (w0 := w') (ρ0 := ρ') (n0 := H1.length) (rd := some (w.heap.size + 1)) hb (.inr nrb) hk2 ⟨s1, ρ3, t2, fun t ht => (s3 t ht).nextN t3, s4.trans t3, s5.fut t3⟩ ?_⟩
                intro o e2 H3 a2 w2' hk3 hs3
                obtain ⟨hr3, hR⟩ := hk3
                obtain ⟨_, ρ4, v2, _, v4, _⟩ := hs3
                have q6 : w2'.heap[w.heap.size + 1]? = some (.loop (lpRec lr .busy)) := (v2.objs r _ hr3).2.2.1
                cases o with
                | normal =>
                  obtain ⟨ρ5, x2, x3⟩ := v2.setLp .ready hr3
                  have hrec : ({ lpRec lr .busy with state := if (none : Option Code).isNone then LoopState.ready else .done, pending := none } : Go.Loop) = lpRec lr .ready := by
                    cases lr; simp only at l1 l2; subst l1; subst l2; rfl
                  refine ⟨_, _, run_endRound none q6, ?_⟩
                  rw [hrec]
                  exact ⟨_, bool true, _, ρ5, rfl, hR, x2, .v _ _, v4.trans x3⟩
                | exit id =>
                  obtain ⟨ρ5, x2, x3⟩ := v2.setLp (.done (some id)) hr3
                  exact ⟨_, _, run_endRound (some (.exit id)) q6, _, bool false, _, ρ5, rfl, hR, x2, .v _ _, v4.trans x3⟩
                | ret =>
                  obtain ⟨ρ5, x2, x3⟩ := v2.setLp (.done none) hr3
                  exact ⟨_, _, run_endRound (some .ret) q6, _, bool false, _, ρ5, rfl, hR, x2, .v _ _, v4.trans x3⟩
                | pan v => exact hR.elim
              | exit id => exact hk.elim
              | ret => exact hk.elim
              | pan v => exact hk.elim
            obtain ⟨⟨fn', hfn, hbody, hname⟩, hcall⟩ := h (w.heap.size + 1) lr hY
            refine ⟨w.heap.size + 1, [mark w.heap.size], w1, { target := .fn (.func k) us, args := fs ++ #[.func (.yield (w.heap.size + 1)) #[] #[]] }, w1, k, fs ++ #[.func (.yield (w.heap.size + 1)) #[] #[]] ++ us, w1, ?_, ?_, ?_, ?_, wr_depth, ?_⟩
            · rw [← hw1, hlr]; exact run_enterLoop_outer _ _ _ _ _
            · simp only [resolve, hfe, Deferred.ofValue, Sem.run_bind, Sem.run_pure, Result.andThen_ok]
              simp [Act.eval]
            · intro f' _; trivial
            · simp only [Sem.run_bind, Sem.run_pure, Result.andThen_ok, invoke, callFunc, run_program, hfn, hname, Bool.false_eq_true, if_false, hbody]
            · refine callsIn_wr ((hcall X ρ1 w1 _ p2 ⟨by simp [h1, h2]; omega, ?_⟩).mono ?_)
              · intro i x u hx hu
                rw [List.append_assoc, List.getElem?_append] at hx
                rw [Array.append_assoc, Array.getElem?_append] at hu
                by_cases hi : i < first.length
                · rw [if_pos hi] at hx
                  rw [if_pos (by omega)] at hu
                  exact (h3 i x u hx hu).nextN hfw
                · rw [if_neg hi, List.getElem?_append] at hx
                  rw [if_neg (by omega), Array.getElem?_append] at hu
                  by_cases hj : i - first.length < 1
                  · rw [if_pos (by simpa using hj)] at hx
                    rw [if_pos (by simp; omega)] at hu
                    have e1 : i - first.length = 0 := by omega
                    have e2 : i - fs.size = 0 := by omega
                    rw [e1] at hx
                    rw [e2] at hu
                    simp at hx hu
                    subst hx; subst hu
                    exact .v _ _
                  · rw [if_neg (by simpa using hj)] at hx
                    rw [if_neg (by simp; omega)] at hu
                    simp only [List.length_cons, List.length_nil, List.size_toArray] at hx hu
                    exact (h4 (i - first.length - 1) x u hx (by rw [← h1] at hu; exact hu)).nextN hfw
              · rintro en w3 ⟨v, x, H', ρ', rfl, ⟨st, hst1, hout⟩, g1, g2, g3⟩
                have q7 : w3.heap[w.heap.size + 1]? = some (.loop (lpRec lr st)) := (g1.objs _ _ hst1).2.2.1
                obtain ⟨ρ4, g4, g5⟩ := g1.setDead (.loop { lpRec lr st with state := .exhausted }) hst1
                have hfut := hfw.trans (g3.trans g5)
                have hSt : St B X w0 ρ0 n0 n e (H'.set H.length .dead) { a with defers := [mark w.heap.size] ++ a.defers } (w3.putObj (w.heap.size + 1) (.loop { lpRec lr st with state := .exhausted })) :=
                  ⟨hn, ρ4, g4, fun t ht => (he t ht).nextN hfut, hf.trans hfut, hmk.fut (g3.trans g5)⟩
                cases st with
                | ready => exact ⟨_, _, run_endLoop q7 (by show lr.state ≠ _; rw [l1]; simp), by show (match lr.pending with | none => _ | some c => _); rw [l2]; exact hQ .normal _ _ _ _ hout hSt⟩
                | busy => exact hout.elim
                | done o =>
                  cases o with
                  | none => exact ⟨_, _, run_endLoop q7 (by simp [lpRec]), wpIn_ret (hQ .ret _ _ _ _ hout hSt)⟩
                  | some id => exact ⟨_, _, run_endLoop q7 (by simp [lpRec]), wpIn_exit (hQ (.exit id) _ _ _ _ hout hSt)⟩
        · exact h.elim
      · cases hl
    · cases hl
  | _ => intro B X w0 ρ0 n0 rd m0 lc e H a w K Q hl; simp [lowC] at hl

theorem envOf_get : ∀ (l : List AV) (i t : Nat), envOf l i t = if i ≤ t then (l[t - i]?).getD .any else .any
  | [], i, t => by simp [envOf, e0]
  | x :: l, i, t => by
    simp only [envOf, up]
    by_cases h : t = i
    · subst h; simp
    · rw [if_neg h, envOf_get l (i + 1) t]
      by_cases h2 : i ≤ t
      · rw [if_pos (by omega), if_pos h2, show t - i = t - (i + 1) + 1 by omega]
        simp
      · rw [if_neg (by omega), if_neg h2]

/-- The run comes to what the result says, and the world stands still. -/
def Still (P : Program) (s : Sem Value) (w : World) (X : Nat → Prop) (ρ : Nat → Loc) (H : AHeap) (r : Res) : Prop :=
  r.ok → r.H = H ∧ ∃ u, s.run P w = .ok u w ∧ Rep w (Mut X ρ H.length) ρ H.length r.x u
theorem still_pure {s : Sem Value} {p : Prop} {x : AV} (f : p → ∃ u, s.run P w = .ok u w ∧ Rep w (Mut X ρ H.length) ρ H.length x u) : Still P s w X ρ H ⟨p, x, H⟩ := fun hp => ⟨rfl, f hp⟩
theorem still_also {s : Sem Value} {p : Prop} {r : Res} (f : p → Still P s w X ρ H r) : Still P s w X ρ H (r.also p) := fun ⟨hp, hr⟩ => f hp hr

theorem res_load {t : TypeId} {ag : Bool} {n : Nat} (hag : tyAg P t = some ag) (hsz : tySz P t = some n) (h : HRel w X ρ H) {p : AV} {u : Value} (hp : Rep w (Mut X ρ H.length) ρ H.length p u) :
    Still P (do loadVar t (← asAddr u)) w X ρ H (rLoad ag n p H) := by
  have at_ : ∀ a : Addr, (do loadVar t (← asAddr (.pointer (some a)))) = loadVar t a := fun a => rfl
  cases p with
  | vp cs off =>
    simp only [rLoad]
    refine still_pure fun ⟨h1, h2⟩ => ?_
    cases hp with
    | vp _ _ _ b o c hm hb hcell hrep =>
      rw [at_]
      refine loadVar_ok hag hsz (cs := cs.drop off) (by simp; omega) h2 (fun j => c (off + j)) (fun j hj => ?_) (fun j y hj hy => ?_)
      · have hlt : off + j < cs.length := by omega
        have := hcell (off + j) cs[off + j] (by simp [hlt])
        rw [Nat.add_assoc]
        exact this.1
      · rw [List.getElem?_drop] at hy
        exact (hrep _ _ hy).mono (Nat.zero_le _)
  | ptr r ver off =>
    simp only [rLoad]
    refine still_also fun ⟨hb, hv⟩ => ?_
    obtain ⟨cs, ho⟩ := isBox_some hb
    rw [ho] at hv ⊢
    simp only [isVer] at hv
    simp only [rLoadO]
    refine still_pure fun ⟨h1, h2⟩ => ?_
    obtain ⟨hr, b, c, e, fr, hblk, rfl, hh, hl, hfr, _, hrep⟩ := ptr_box h hp ho hv
    rw [at_]
    refine loadVar_ok hag hsz (cs := cs.drop off) (by simp; omega) h2 (fun j => c.getD (off + j) undef) (fun j hj => ?_) (fun j y hj hy => ?_)
    · rw [cell_of_blk hh]
      have hlt : off + j < c.size := by omega
      simp [hlt]
    · rw [List.getElem?_drop] at hy
      have hlt : off + j < c.size := by omega
      exact (hrep _ _ _ hy (by simp [hlt])).1
  | pe r ver i off =>
    simp only [rLoad]
    refine still_also fun ⟨hb, hv⟩ => ?_
    obtain ⟨v, sz, xs, ho⟩ := isArr_some hb
    rw [ho] at hv ⊢
    simp only [isVer] at hv
    simp only [rLoadO]
    refine still_pure fun ⟨h0, h1, h2⟩ => ?_
    obtain ⟨hr, b, o, c, e, fr, hblk, rfl, hh, hext, hfr, hle, hrow, hsz0, _, _, hrep⟩ := pe_arr h hp ho hv h0
    rw [at_]
    have hx : xs[i]? = some (xs.getD i []) := by simp [h0]
    have hxl : (xs.getD i []).length = sz := hrow _ (List.mem_of_getElem? hx)
    have hlt : ∀ j, j < n → o + i * sz + (off + j) < c.size := fun j hj => by
      have := mul_lt_of (sz := sz) (j := off + j) h0 (by omega)
      omega
    refine loadVar_ok hag hsz (cs := (xs.getD i []).drop off) (by simp only [List.length_drop]; omega) h2 (fun j => c.getD (o + i * sz + (off + j)) undef) (fun j hj => ?_) (fun j y hj hy => ?_)
    · rw [cell_of_blk hh]
      have := hlt j hj
      rw [show o + (i * sz + off) + j = o + i * sz + (off + j) by omega]
      simp [this]
    · rw [List.getElem?_drop] at hy
      exact (hrep i (off + j) _ _ _ hx hy (by simp [hlt j hj])).1.mono (Nat.zero_le _)
  | _ => exact fun h => h.elim

def resS (tmps : Array Value) : ResultVar → Sem Value
  | .tmp t => pure (tmps.getD t undef)
  | .cell a t => do loadVar t (← asAddr (tmps.getD a undef))

theorem res_each (h : HRel w X ρ H) (he : ER w X ρ H n e a) : ∀ (l : List ResultVar) (rs : List RV), lowRs P n l = some rs → (∀ r ∈ rs, (resV e H r).ok) →
    ∃ us : List Value, (l.mapM (resS a.tmps)).run P w = .ok us w ∧ us.length = rs.length ∧ (∀ r ∈ rs, (resV e H r).H = H) ∧ ∀ (i : Nat) (r : RV) (u : Value), rs[i]? = some r → us[i]? = some u → Rep w (Mut X ρ H.length) ρ H.length (resV e H r).x u
  | [], rs, hl, _ => by
    simp only [lowRs, Option.some.injEq] at hl
    subst hl
    exact ⟨[], by simp, rfl, by simp, by simp⟩
  | .tmp t :: l, rs, hl, hok => by
    simp only [lowRs] at hl
    split at hl
    · rename_i m hm
      split at hl
      · rename_i ht
        simp only [Option.some.injEq] at hl
        subst hl
        obtain ⟨us, h1, h2, h3, h4⟩ := res_each h he l m hm fun r hr => hok r (by simp [hr])
        refine ⟨a.tmps.getD t undef :: us, by simp [resS, h1], by simp [h2], ?_, ?_⟩
        · intro r hr
          simp only [List.mem_cons] at hr
          rcases hr with rfl | hr
          · rfl
          · exact h3 r hr
        · intro i r u hr hu
          cases i with
          | zero => simp only [List.getElem?_cons_zero, Option.some.injEq] at hr hu; subst hr; subst hu; exact he t ht
          | succ i => exact h4 i r u (by simpa using hr) (by simpa using hu)
      · cases hl
    · cases hl
  | .cell t ty :: l, rs, hl, hok => by
    simp only [lowRs] at hl
    split at hl
    · rename_i m ag sz hm hag hsz
      split at hl
      · rename_i ht
        simp only [Option.some.injEq] at hl
        subst hl
        obtain ⟨us, h1, h2, h3, h4⟩ := res_each h he l m hm fun r hr => hok r (by simp [hr])
        obtain ⟨g0, u0, g1, g2⟩ := res_load hag hsz h (he t ht) (hok (.cell t ag sz) (by simp))
        refine ⟨u0 :: us, ?_, by simp [h2], ?_, ?_⟩
        · have g1' : (resS a.tmps (.cell t ty)).run P w = .ok u0 w := g1
          simp only [List.mapM_cons, Sem.run_bind]
          rw [g1']
          simp [h1]
        · intro r hr
          simp only [List.mem_cons] at hr
          rcases hr with rfl | hr
          · exact g0
          · exact h3 r hr
        · intro i r u hr hu
          cases i with
          | zero => simp only [List.getElem?_cons_zero, Option.some.injEq] at hr hu; subst hr; subst hu; exact g2
          | succ i => exact h4 i r u (by simpa using hr) (by simpa using hu)
      · cases hl
    · cases hl

theorem results_ok {fn : Func} {rs : List RV} (hl : lowRs P n fn.results.toList = some rs) (h : HRel w X ρ H) (he : ER w X ρ H n e a) (hok : (resVs e H rs).ok) :
    (resVs e H rs).H = H ∧ ∃ v, (results fn a.tmps).run P w = .ok v w ∧ Rep w (Mut X ρ H.length) ρ H.length (resVs e H rs).x v := by
  have hall : ∀ r ∈ rs, (resV e H r).ok := by
    unfold resVs at hok
    split at hok
    · intro r hr; simp at hr; subst hr; exact hok
    · exact hok
  obtain ⟨us, h1, h2, h3, h4⟩ := res_each h he _ _ hl hall
  have hrun : (results fn a.tmps).run P w = .ok (if hh : us.toArray.size = 1 then us.toArray[0] else .tuple us.toArray) w := by
    unfold results
    rw [Array.mapM_eq_mapM_toList]
    simp only [Sem.run_bind]
    have h5 : (List.toArray <$> fn.results.toList.mapM (resS a.tmps)).run P w = .ok us.toArray w := by
      rw [map_eq_pure_bind]
      simp [h1]
    change ((Sem.run P (List.toArray <$> fn.results.toList.mapM (resS a.tmps)) w).andThen _) = _
    rw [h5]
    simp
  rw [hrun]
  match rs, h2, h3, h4 with
  | [r], h2, h3, h4 =>
    match us, h2, h4 with
    | [u], _, h4 => exact ⟨h3 r (by simp), u, rfl, h4 0 r u rfl rfl⟩
  | [], h2, h3, h4 =>
    match us, h2 with
    | [], _ => exact ⟨rfl, _, by simp; rfl, .tup _ _ _ rfl (by simp)⟩
  | r :: r' :: rs, h2, h3, h4 =>
    refine ⟨rfl, _, rfl, ?_⟩
    rw [dif_neg (by simp [h2])]
    refine .tup _ _ _ (by simp [h2]) fun i x u hx hu => ?_
    rw [List.getElem?_map] at hx
    cases hr : (r :: r' :: rs)[i]? with
    | none => rw [hr] at hx; cases hx
    | some r0 =>
      rw [hr] at hx
      simp at hx
      subst hx
      exact h4 i r0 u hr (by simpa using hu)

/-- A block of deferred calls is shut: what stands for values goes on standing. -/
theorem cell_poke {D : Nat} {o : Option (List Deferred)} {o' : Obj} (hD : w.heap[D]? = some (.deferred o)) {x : Addr} {u : Value} (h : w.cell? x = some u) : (w.putObj D o').cell? x = some u := by
  by_cases hb : x.block = D
  · exfalso
    obtain ⟨b, i, sp⟩ := x
    simp only at hb
    subst hb
    simp [World.cell?, hD] at h
  · obtain ⟨b, i, sp⟩ := x
    rw [← h]
    unfold World.cell?
    rw [World.putObj_heap_other hb]
theorem Rep.poke {D : Nat} {o : Option (List Deferred)} {o' : Obj} (hD : w.heap[D]? = some (.deferred o)) {M : Nat → Prop} {k : Nat} {x : AV} {u : Value} (h : Rep w M ρ k x u) : Rep (w.putObj D o') M ρ k x u := by
  induction h with
  | any => exact .any _ _
  | v => exact .v _ _
  | agg n cs us hl _ ih => exact .agg _ _ _ hl ih
  | tup n cs us hl _ ih => exact .tup _ _ _ hl ih
  | nc => exact .nc _ _
  | bnil => exact .bnil _ _
  | slE => exact .slE _ _ _ _
  | slN n sz xs b o cap c hm hb hcap hsz hcell _ ih => exact .slN _ _ _ _ _ _ c hm (by simpa using hb) hcap hsz (fun i j x y hx hy => ⟨cell_poke hD (hcell i j x y hx hy).1, (hcell i j x y hx hy).2⟩) ih
  | vp n cs off b o c hm hb hcell _ ih => exact .vp _ _ _ _ _ c hm (by simpa using hb) (fun j y hy => ⟨cell_poke hD (hcell j y hy).1, (hcell j y hy).2⟩) ih
  | fn n f first caps fs us h1 h2 _ _ ih1 ih2 => exact .fn _ _ _ _ _ _ h1 h2 ih1 ih2
  | mp n ks vs b es clock hm hb hh hks hvs _ ih => exact .mp _ _ _ _ es clock hm (by simpa using hb) (by rw [World.putObj_heap_other (fun e => by subst e; rw [hD] at hh; cases hh)]; exact hh) hks hvs ih
  | os n r ver off len u hr hle h1 hp => exact .os _ _ _ _ _ _ hr hle h1 hp
  | ptr n r ver off u hr hle h1 hp => exact .ptr _ _ _ _ _ hr hle h1 hp
  | pe n r ver i off u hr hle h1 hp => exact .pe _ _ _ _ _ _ hr hle h1 hp
  | om n r ver u hr hle h1 hp => exact .om _ _ _ _ hr hle h1 hp
theorem ObjOk.poke {D : Nat} {o0 : Option (List Deferred)} {o' : Obj} (hD : w.heap[D]? = some (.deferred o0)) {M : Nat → Prop} {k : Nat} {l : Loc} {o : HO} (h : ObjOk w M ρ k l o) : ObjOk (w.putObj D o') M ρ k l o := by
  have hk : ∀ b ob, w.heap[b]? = some ob → (∀ d, ob ≠ Obj.deferred d) → (w.putObj D o').heap[b]? = some ob := fun b ob hb hne => by
    rw [World.putObj_heap_other (fun e => by subst e; rw [hD] at hb; cases hb; exact hne _ rfl)]; exact hb
  cases o with
  | dead => trivial
  | box cs =>
    obtain ⟨h1, b, c, e, fr, h2, h3, h4, h5, h6⟩ := h
    exact ⟨h1, b, c, e, fr, h2, hk _ _ h3 (by simp), h4, h5, fun j y u hy hu => ⟨(h6 j y u hy hu).1.poke hD, (h6 j y u hy hu).2⟩⟩
  | arr ver sz xs =>
    obtain ⟨h1, h2, h3, h4, h5, h6⟩ := h
    refine ⟨h1, h2, h3, h4, h5, ?_⟩
    split
    · rename_i hl; rw [hl] at h6; exact h6
    · rename_i b o hl
      rw [hl] at h6
      obtain ⟨c, e, fr, g1, g2, g3, g4⟩ := h6
      exact ⟨c, e, fr, hk _ _ g1 (by simp), g2, g3, fun i j x y u hx hy hu => ⟨(g4 i j x y u hx hy hu).1.poke hD, (g4 i j x y u hx hy hu).2⟩⟩
  | map ver ks vs =>
    obtain ⟨h1, b, es, clock, h2, h3, h4, h5, h6⟩ := h
    exact ⟨h1, b, es, clock, h2, hk _ _ h3 (by simp), h4, h5, fun i x e hx he => (h6 i x e hx he).poke hD⟩
  | iter s pos =>
    obtain ⟨h1, b, h2, h3⟩ := h
    exact ⟨h1, b, h2, hk _ _ h3 (by simp)⟩
  | lp b lr e st =>
    obtain ⟨h1, h2, h3, h4⟩ := h
    exact ⟨h1, h2, hk _ _ h3 (by simp), fun t u hu => (h4 t u hu).poke hD⟩
  | barr t ver bl =>
    obtain ⟨h1, h2, h3, h4⟩ := h
    refine ⟨h1, h2, h3, ?_⟩
    split
    · rename_i hl; rw [hl] at h4; exact h4
    · rename_i b o hl
      rw [hl] at h4
      obtain ⟨c, fr, g1, g2, g3, g4⟩ := h4
      exact ⟨c, fr, hk _ _ g1 (by simp), g2, g3, g4⟩
theorem HRel.poke {D : Nat} {o0 : Option (List Deferred)} {o' : Obj} (hD : w.heap[D]? = some (.deferred o0)) (h : HRel w X ρ H) : HRel (w.putObj D o') X ρ H :=
  ⟨fun r o hr => (h.objs r o hr).poke hD, h.inj, fun r b o hr hb => by simpa using h.lt r b o hr hb, fun b hb => by simpa using h.xlt b hb, fun g hg => ⟨(h.gl g hg).1, by obtain ⟨m, hm⟩ := (h.gl g hg).2; exact ⟨m, cell_poke hD hm⟩⟩⟩
theorem Fut.poke {D : Nat} {o' : Obj} (h : Fut w0 ρ0 n0 w ρ n) (hD : w0.heap.size ≤ D) : Fut w0 ρ0 n0 (w.putObj D o') ρ n :=
  ⟨h.os, h.tape, h.output, by simpa using h.size, fun b hb ho => by rw [World.putObj_heap_other (by omega)]; exact h.keep b hb ho, h.own, h.len, h.loc⟩

def pokes : List Nat → World → World
  | [], w => w
  | D :: ds, w => pokes ds (w.putObj D (.deferred none))
theorem leaves_marks {fn : Func} {tmps : Array Value} {R : Ending → World → Prop} {u : FrameMode} (hu : u ≠ .run) {B : List Deferred} : ∀ (ds : List Nat) (w : World), ds.Nodup → (∀ D ∈ ds, w.heap[D]? = some (.deferred (some []))) → LeavesInM Fence.wide 0 P fn tmps R B u (pokes ds w) →
    LeavesInM Fence.wide 0 P fn tmps R (ds.map mark ++ B) u w
  | [], w, _, _, h => h
  | D :: ds, w, hn, hd, h => by
    obtain ⟨n1, n2⟩ := List.nodup_cons.1 hn
    refine ⟨hu, .inl ⟨D, _, rfl, run_takeDeferred (hd D (by simp)), leaves_marks hu ds _ n2 (fun D' hD' => ?_) h⟩⟩
    rw [World.putObj_heap_other (fun e => by subst e; exact n1 hD')]
    exact hd D' (by simp [hD'])
theorem pokes_ok : ∀ (ds : List Nat) {w : World}, ds.Nodup → (∀ D ∈ ds, w0.heap.size ≤ D ∧ w.heap[D]? = some (.deferred (some []))) → HRel w X ρ H → ER w X ρ H n e a → Fut w0 ρ0 n0 w ρ H.length →
    HRel (pokes ds w) X ρ H ∧ ER (pokes ds w) X ρ H n e a ∧ Fut w0 ρ0 n0 (pokes ds w) ρ H.length
  | [], w, _, _, h1, h2, h3 => ⟨h1, h2, h3⟩
  | D :: ds, w, hn, hd, h1, h2, h3 => by
    obtain ⟨n1, n2⟩ := List.nodup_cons.1 hn
    have hD := hd D (by simp)
    refine pokes_ok ds n2 (fun D' hD' => ⟨(hd D' (by simp [hD'])).1, ?_⟩) (h1.poke hD.2) (fun t ht => (h2 t ht).poke hD.2) (h3.poke hD.1)
    rw [World.putObj_heap_other (fun e => by subst e; exact n1 hD')]
    exact (hd D' (by simp [hD'])).2

/-- What a run of the lowered form says holds of every call. -/
theorem enterX {k : FuncId} {fn : Func} {hs : List Hn} {L : LFn} {args : List AV} {R : AV → AHeap → Prop} {Z : Value → AHeap → Prop} (hf : P.funcs[k]? = some fn) (hl : lowFn P fn hs = some L) (ha : args.length ≤ L.n)
    (h : runK P [.code L.body] (retQX L.res R Z) .normal (envOf args 0) H) : ACallX P k args H R Z := by
  unfold lowFn at hl
  cases hb : fn.body with
  | none => simp [hb] at hl
  | some c =>
    cases hr : lowRs P fn.ntmps fn.results.toList with
    | none => simp [hb, hr] at hl
    | some rs =>
      simp only [hb, hr] at hl
      split at hl
      · rename_i b hc
        split at hl
        · rename_i hcond
          simp only [Option.some.injEq] at hl
          subst hl
          refine ⟨⟨fn, hf, by simp [hb], hcond.2⟩, fun X ρ w vs hrel hargs => (callsIn_wide (n := 0)).1 (callsIn_of_wp_marks hf hb trivial ?_)⟩
          have hvs : vs.size ≤ fn.ntmps := by rw [← hargs.1]; exact ha
          refine code_sound (B := []) (X := X) (w0 := w) (ρ0 := ρ) (n0 := H.length) (rd := none) (m0 := 0) (H := H) (e := envOf args 0) c hc (.inl rfl) h ⟨by simp; omega, ρ, hrel, fun t ht => ?_, Fut.refl _ _ _, Mk.nil⟩ ?_
          · rw [envOf_get, if_pos (Nat.zero_le _), Nat.sub_zero]
            by_cases htl : t < vs.size
            · have hx : args[t]? = some (args[t]'(by rw [hargs.1]; exact htl)) := by simp
              rw [hx, Option.getD_some]
              refine hargs.2 t _ _ hx ?_
              simp [Array.getD_eq_getD_getElem?, Array.getElem?_append, htl]
            · rw [List.getElem?_eq_none (by rw [hargs.1]; omega)]
              exact .any _ _
          · intro o e' H' a' w' hk hst
            obtain ⟨hn, ρ', g1, g2, g3, ds, d1, d2, d3⟩ := hst
            obtain ⟨f1, f2, f3⟩ := pokes_ok ds d2 (fun D hD => ⟨(d3 D hD).1, (d3 D hD).2.2.2⟩) g1 g2 g3
            have fin : (resVs e' H' rs).ok ∧ R (resVs e' H' rs).x H' → LeavesInM Fence.wide 0 P fn a'.tmps (fun en w' => (∃ v x H' ρ', en = .returned v ∧ R x H' ∧ HRel w' X ρ' H' ∧ Rep w' (Mut X ρ' H'.length) ρ' H'.length x v ∧ Fut w ρ H.length w' ρ' H'.length) ∨
                ∃ z H' ρ', en = .panicked [{ v := z, recovered := false }] ∧ Z z H' ∧ HRel w' X ρ' H' ∧ Fut w ρ H.length w' ρ' H'.length) a'.defers .returning w' := by
              rintro ⟨k1, k2⟩
              obtain ⟨_, v, k3, k4⟩ := results_ok hr f1 f2 k1
              rw [d1]
              exact leaves_marks (by simp) ds w' d2 (fun D hD => (d3 D hD).2.2.2) ⟨v, k3, .inl ⟨v, _, H', ρ', rfl, k2, f1, k4, f3⟩⟩
            cases o with
            | normal => exact fin hk
            | exit id => exact hk.elim
            | ret => exact fin hk
            | pan z =>
              show LeavesInM Fence.wide 0 P fn a'.tmps _ a'.defers (.panicking [{ v := z, recovered := false }]) w'
              rw [d1]
              exact leaves_marks (by simp) ds w' d2 (fun D hD => (d3 D hD).2.2.2) (.inr ⟨z, H', ρ', rfl, hk, f1, f3⟩)
        · cases hl
      · cases hl
theorem enter {k : FuncId} {fn : Func} {hs : List Hn} {L : LFn} {args : List AV} {R : AV → AHeap → Prop} (hf : P.funcs[k]? = some fn) (hl : lowFn P fn hs = some L) (ha : args.length ≤ L.n)
    (h : runK P [.code L.body] (retQ L.res R) .normal (envOf args 0) H) : ACall P k args H R :=
  (enterX hf hl ha (by
    have : retQ L.res R = retQX L.res R fun _ _ => False := by
      funext o e H
      cases o <;> rfl
    rw [← this]
    exact h)).calm
end
end Go.Ax

/- What a call has made and does not hand back may be forgotten. -/
namespace Go.Ax
open Go Go.RowKit

section
variable {P : Program} {w w' : World} {X M M' M'' : Nat → Prop} {ρ ρ' : Nat → Loc} {H : AHeap} {n n' : Nat}

theorem Rep.narrow {x : AV} {u : Value} (h : Rep w M' ρ 0 x u) (hM : ∀ b, M'' b → M' b) : Rep w M'' ρ 0 x u :=
  h.fut (n0 := 0) (Fut.refl _ _ _) (fun b _ hb hb' => hb (hM b hb')) (fun b _ ⟨r, o, hr, _⟩ => by omega) (Nat.le_refl _)

/-- It names objects of the first n alone, if it did so once. -/
theorem Rep.scope {x : AV} {u0 : Value} (h0 : Rep w M ρ n x u0) (hM : ∀ b, M'' b → M' b) : ∀ {u : Value}, Rep w' M' ρ' n' x u → Rep w' M'' ρ' n x u := by
  induction h0 with
  | any => intro u _; exact .any _ _
  | v => intro u h; cases h; exact .v _ _
  | agg n cs us hl _ ih =>
    intro u h
    cases h with
    | agg _ _ us' hl' h' =>
      refine .agg _ _ _ hl' fun i x u hx hu => ?_
      have hlt : i < us.size := by rw [← hl]; exact (List.getElem?_eq_some_iff.1 hx).1
      exact ih i x us[i] hx (by simp [hlt]) (h' i x u hx hu)
  | tup n cs us hl _ ih =>
    intro u h
    cases h with
    | tup _ _ us' hl' h' =>
      refine .tup _ _ _ hl' fun i x u hx hu => ?_
      have hlt : i < us.size := by rw [← hl]; exact (List.getElem?_eq_some_iff.1 hx).1
      exact ih i x us[i] hx (by simp [hlt]) (h' i x u hx hu)
  | nc => intro u h; cases h; exact .nc _ _
  | bnil => intro u h; cases h; exact .bnil _ _
  | slE =>
    intro u h
    cases h with
    | slE => exact .slE _ _ _ _
    | slN _ _ _ b o cap c hm hb hcap hsz hcell hc => exact .slN _ _ _ _ _ _ c (fun h => hm (hM _ h)) hb hcap hsz hcell fun i j x y hx hy => (hc i j x y hx hy).narrow hM
  | slN =>
    intro u h
    cases h with
    | slE => exact .slE _ _ _ _
    | slN _ _ _ b o cap c hm hb hcap hsz hcell hc => exact .slN _ _ _ _ _ _ c (fun h => hm (hM _ h)) hb hcap hsz hcell fun i j x y hx hy => (hc i j x y hx hy).narrow hM
  | vp =>
    intro u h
    cases h with
    | vp _ _ _ b o c hm hb hcell hc => exact .vp _ _ _ _ _ c (fun h => hm (hM _ h)) hb hcell fun j y hy => (hc j y hy).narrow hM
  | fn n f first caps fs us h1 h2 _ _ ih1 ih2 =>
    intro u h
    cases h with
    | fn _ _ _ _ fs' us' g1 g2 g3 g4 =>
      refine .fn _ _ _ _ _ _ g1 g2 (fun i x u hx hu => ?_) (fun i x u hx hu => ?_)
      · have hlt : i < fs.size := by rw [← h1]; exact (List.getElem?_eq_some_iff.1 hx).1
        exact ih1 i x fs[i] hx (by simp [hlt]) (g3 i x u hx hu)
      · have hlt : i < us.size := by rw [← h2]; exact (List.getElem?_eq_some_iff.1 hx).1
        exact ih2 i x us[i] hx (by simp [hlt]) (g4 i x u hx hu)
  | mp =>
    intro u h
    cases h with
    | mp _ _ _ b es clock hm hb hh hks hvs hc => exact .mp _ _ _ _ es clock (fun h => hm (hM _ h)) hb hh hks hvs fun i x e hx he => (hc i x e hx he).narrow hM
  | os n r ver off len u hr _ _ _ =>
    intro u h
    cases h with
    | os _ _ _ _ _ _ _ hle h1 hp => exact .os _ _ _ _ _ _ hr hle h1 hp
  | ptr n r ver off u hr _ _ _ =>
    intro u h
    cases h with
    | ptr _ _ _ _ _ _ hle h1 hp => exact .ptr _ _ _ _ _ hr hle h1 hp
  | pe n r ver i off u hr _ _ _ =>
    intro u h
    cases h with
    | pe _ _ _ _ _ _ _ hle h1 hp => exact .pe _ _ _ _ _ _ hr hle h1 hp
  | om n r ver u hr _ _ _ =>
    intro u h
    cases h with
    | om _ _ _ _ _ hle h1 hp => exact .om _ _ _ _ hr hle h1 hp

theorem ObjOk.scope {l l' : Loc} {o : HO} (h0 : ObjOk w M ρ n l o) (hM : ∀ b, M'' b → M' b) (h : ObjOk w' M' ρ' n' l' o) : ObjOk w' M'' ρ' n l' o := by
  cases o with
  | dead => trivial
  | box cs =>
    obtain ⟨_, _, c0, _, _, _, _, hl0, _, h06⟩ := h0
    obtain ⟨h1, b, c, e, fr, h2, h3, h4, h5, h6⟩ := h
    refine ⟨h1, b, c, e, fr, h2, h3, h4, h5, fun j y u hy hu => ⟨?_, (h6 j y u hy hu).2⟩⟩
    have hlt : j < c0.size := by rw [← hl0]; exact (List.getElem?_eq_some_iff.1 hy).1
    exact (h06 j y c0[j] hy (by simp [hlt])).1.scope hM (h6 j y u hy hu).1
  | arr ver sz xs =>
    obtain ⟨h1, h2, h3, h4, h5, h6⟩ := h
    refine ⟨h1, h2, h3, h4, h5, ?_⟩
    split
    · rename_i hl; rw [hl] at h6; exact h6
    · rename_i b o hl
      rw [hl] at h6
      obtain ⟨c, e, fr, g1, g2, g3, g4⟩ := h6
      exact ⟨c, e, fr, g1, g2, g3, fun i j x y u hx hy hu => ⟨(g4 i j x y u hx hy hu).1.narrow hM, (g4 i j x y u hx hy hu).2⟩⟩
  | map ver ks vs =>
    obtain ⟨h1, b, es, clock, h2, h3, h4, h5, h6⟩ := h
    exact ⟨h1, b, es, clock, h2, h3, h4, h5, fun i x e hx he => (h6 i x e hx he).narrow hM⟩
  | iter s pos => exact h
  | lp b lr e st =>
    obtain ⟨_, _, _, h04⟩ := h0
    obtain ⟨h1, h2, h3, h4⟩ := h
    exact ⟨h1, h2, h3, fun t u hu => (h04 t u hu).scope hM (h4 t u hu)⟩
  | barr t ver bl => exact h

/-- A call that hands back a value without objects, and leaves the objects that were there: what else it has made may be forgotten. -/
theorem ACall.drop {k : FuncId} {args : List AV} {R : AV → Prop} (h : ACall P k args H fun x H' => R x ∧ x.cl = true ∧ ∃ rest, H' = H ++ rest) : ACall P k args H fun x H' => R x ∧ H' = H := by
  refine ⟨h.1, fun X ρ w vs hrel hargs => (h.2 X ρ w vs hrel hargs).mono ?_⟩
  rintro en w' ⟨v, x, H', ρ', rfl, ⟨hR, hcl, rest, rfl⟩, g1, g2, g3⟩
  have hle : H.length ≤ (H ++ rest).length := by simp
  have hM : ∀ b, Mut X ρ' H.length b → Mut X ρ' (H ++ rest).length b := fun b hb => hb.imp id fun ⟨r, o, hr, hbl⟩ => ⟨r, o, by omega, hbl⟩
  refine ⟨v, x, H, ρ', rfl, ⟨hR, rfl⟩, ⟨fun r o hr => ?_, fun r r' b o b' o' hr hr' => g1.inj r r' b o b' o' (by omega) (by omega), fun r b o hr => g1.lt r b o (by omega), g1.xlt, fun g hg => ⟨fun ⟨r, o, hr, hbl⟩ => (g1.gl g hg).1 ⟨r, o, by omega, hbl⟩, (g1.gl g hg).2⟩⟩, ?_, ?_⟩
  · have hlt : r < H.length := (List.getElem?_eq_some_iff.1 hr).1
    exact (hrel.objs r o hr).scope hM (g1.objs r o (by rw [List.getElem?_append_left hlt]; exact hr))
  · exact ((g2.of_cl hcl).narrow hM).closed rfl _ _
  · exact ⟨g3.os, g3.tape, g3.output, g3.size, g3.keep, fun b ⟨r, o, hr, hbl⟩ => g3.own b ⟨r, o, by omega, hbl⟩, Nat.le_refl _, g3.loc⟩
end

end Go.Ax

/- The library's functions, met by the contracts of the shelf, as calls over values without addresses: strings.Contains, strings.Join. -/
namespace Go.Proofs.Yteidffcimidinaa
open Go Go.Ax Go.RowKit
set_option maxRecDepth 100000
set_option linter.unusedSimpArgs false
set_option linter.unusedVariables false

theorem repL_two {w : World} {M : Nat → Prop} {ρ : Nat → Ax.Loc} {n : Nat} {x y : AV} {vs : Array Value} (h : RepL w M ρ n [x, y] vs) : ∃ a b, vs = #[a, b] ∧ Rep w M ρ n x a ∧ Rep w M ρ n y b := by
  obtain ⟨h1, h2⟩ := h
  match vs, h1 with
  | ⟨[a, b]⟩, _ => exact ⟨a, b, rfl, h2 0 x a rfl rfl, h2 1 y b rfl rfl⟩

theorem bs_mkS (l : List UInt8) : (mkS l).data.toList = l := rfl
theorem size_mkS (l : List UInt8) : (mkS l).size = l.length := rfl

theorem containsC (s p : List UInt8) (hs : s.length < 4294967281) (H : AHeap) : ACall Try.prog 92 [str s, str p] H fun x H' => x = bool (Lib.contains s p) ∧ H' = H := by
  refine ⟨⟨_, Try.func92, by kernel_rfl, by kernel_rfl⟩, fun X ρ w vs hrel hargs => ?_⟩
  obtain ⟨a, b, rfl, ha, hb⟩ := repL_two hargs
  have ha := rep_vx ha
  have hb := rep_vx hb
  subst ha
  subst hb
  obtain ⟨-, m, hm⟩ := hrel.gl 0 (by simp [glbs])
  refine (Try.strings_Contains (mkS s) (mkS p) m w (by rw [size_mkS]; exact hs) hm).mono ?_
  rintro e w' ⟨rfl, rfl⟩
  exact ⟨_, _, H, ρ, rfl, ⟨rfl, rfl⟩, hrel, .v _ _, Fut.refl _ _ _⟩

theorem joinC (xs : List (List UInt8)) (sep : List UInt8) (hn : xs.length ≤ 140737488355328) (hl : (Lib.join xs sep).length ≤ 140737488355328) (H : AHeap) :
    ACall Try.prog 21 [.sl 1 (xs.map fun x => [str x]), str sep] H fun x H' => x = str (Lib.join xs sep) ∧ H' = H := by
  refine ⟨⟨_, Try.func21, by kernel_rfl, by kernel_rfl⟩, fun X ρ w vs hrel hargs => ?_⟩
  obtain ⟨a, b, rfl, ha, hb⟩ := repL_two hargs
  have hb := rep_vx hb
  subst hb
  cases xs with
  | nil =>
    simp only [List.map_nil] at ha
    have : ∃ ad cap, a = .slice ad 0 cap := by
      cases ha with
      | slE => exact ⟨_, _, rfl⟩
      | slN => exact ⟨_, _, rfl⟩
    obtain ⟨ad, cap, rfl⟩ := this
    refine (Try.strings_Join_none ad cap (mkS sep) w).mono ?_
    rintro e w' ⟨rfl, rfl⟩
    exact ⟨_, _, H, ρ, rfl, ⟨rfl, rfl⟩, hrel, .v _ _, Fut.refl _ _ _⟩
  | cons x0 xr =>
    generalize hxs : x0 :: xr = xs at *
    have hne : xs.map (fun x => [str x]) ≠ [] := by rw [← hxs]; simp
    generalize hys : xs.map (fun x => [str x]) = ys at *
    cases ha with
    | slE => exact absurd rfl hne
    | slN _ _ _ b o cap c hm hb hcap hsz hcell hrep =>
      have hlen : ys.length = xs.length := by rw [← hys]; simp
      have hmm : (xs.map mkS).map (fun x => x.data.toList) = xs := by simp [Function.comp_def, bs_mkS]
      have hcells : ∀ (j : Nat) x, (xs.map mkS)[j]? = some x → w.cell? ⟨b, o + j, none⟩ = some (.string x) := by
        intro j x hx
        simp only [List.getElem?_map, Option.map_eq_some_iff] at hx
        obtain ⟨y, hy, rfl⟩ := hx
        have hyj : ys[j]? = some [str y] := by rw [← hys]; simp [hy]
        have h1 := hcell j 0 _ (str y) hyj rfl
        have h2 := rep_vx (hrep j 0 _ (str y) hyj rfl)
        simp only [Nat.mul_one, Nat.add_zero] at h1
        rw [h1.1, h2]
      have := Try.strings_Join b o cap (xs.map mkS) (mkS sep) w hcells hb (by simpa using hn) (by simp; omega) (by rw [hmm]; exact hl)
      rw [hmm, List.length_map, ← hlen] at this
      refine this.mono ?_
      rintro e w' ⟨rfl, hbel⟩
      obtain ⟨f1, f2⟩ := hrel.more ⟨hbel.os, hbel.tape, hbel.output, hbel.size⟩ hbel.block
      exact ⟨_, _, H, ρ, rfl, ⟨rfl, rfl⟩, f1, .v _ _, f2⟩
end Go.Proofs.Yteidffcimidinaa

/- The functions, lowered. Printed by a program (wip/tools/pl.py). -/
namespace Go.Proofs.Yteidffcimidinaa
open Go Go.Ax
set_option maxRecDepth 100000

/-- assessor_types.Valid -/
def L7 : LFn := ⟨22, [(.tmp 4)], (.seq (.ops [⟨(some 2), none, (.box false (.t 0))⟩,
      ⟨(some 4), none, (.mv (.c (.v (.bool false))))⟩])
    (.seq (.draw [⟨(some 8), none, (.call (.c (.fn (.func 24) [] [])) [])⟩,
      ⟨(some 9), none, (.faddr 0 (.t 2))⟩,
      ⟨(some 10), none, (.load false 1 (.t 9))⟩,
      ⟨(some 11), none, (.look .int (.agg [(.v .nilFunc), (.v .nilFunc)]) true (.t 8) (.t 10))⟩,
      ⟨(some 7), none, (.mv (.t 11))⟩,
      ⟨(some 12), none, (.ext (.t 7) 0)⟩,
      ⟨(some 13), none, (.ext (.t 7) 1)⟩] [⟨(some 5), none, (.alloc [(.v .nilFunc), (.v .nilFunc)])⟩,
      ⟨none, none, (.store 2 (.t 5) (.t 12))⟩,
      ⟨(some 6), none, (.mv (.t 13))⟩])
    (.seq (.ops [⟨(some 14), none, (.mv (.t 6))⟩,
      ⟨(some 15), none, (.mv (.t 14))⟩,
      ⟨(some 16), (some (15, true)), (.faddr 0 (.t 5))⟩,
      ⟨(some 17), (some (15, true)), (.load false 1 (.t 16))⟩,
      ⟨(some 18), (some (15, true)), (.load true 3 (.t 2))⟩,
      ⟨(some 19), (some (15, true)), (.mv (.t 1))⟩,
      ⟨(some 20), (some (15, true)), (.call (.t 17) [(.t 18), (.t 19)])⟩,
      ⟨(some 21), none, (.pick (.t 15) (.t 20) (.c (.v (.bool false))))⟩,
      ⟨(some 4), none, (.mv (.t 21))⟩])
    .ret)))⟩
theorem L7_ok : lowFn Try.prog Try.f7 [⟨1, 7, .tail⟩] = some L7 := by kernel_rfl

/-- slices.Compare___int_int_ -/
def L16 : LFn := ⟨36, [(.tmp 4)], (.seq (.ops [⟨(some 4), none, (.mv (.c (.v (.int .i64 0))))⟩])
    (.seq (.seq (.ops [⟨(some 9), none, (.mv (.t 0))⟩,
      ⟨(some 10), none, (.len .slc (.t 9))⟩,
      ⟨(some 11), none, (.mv (.c (.v (.int .i64 0))))⟩])
    (.block 0 (.loop (.seq (.ops [⟨(some 12), none, (.bin .int .lss (.t 11) (.t 10))⟩])
    (.seq (.cond (.t 12)
    .skip
    (.exit 0))
    (.seq (.block 1 (.seq (.ops [⟨(some 13), none, (.mv (.t 11))⟩,
      ⟨(some 14), none, (.iaddr 1 (.t 9) (.t 11))⟩,
      ⟨(some 15), none, (.load false 1 (.t 14))⟩,
      ⟨(some 5), none, (.mv (.t 13))⟩,
      ⟨(some 6), none, (.mv (.t 15))⟩])
    (.seq (.seq (.ops [⟨(some 16), none, (.mv (.t 5))⟩,
      ⟨(some 17), none, (.mv (.t 1))⟩,
      ⟨(some 18), none, (.len .slc (.t 17))⟩,
      ⟨(some 19), none, (.bin .int .geq (.t 16) (.t 18))⟩])
    (.cond (.t 19)
    (.seq (.ops [⟨(some 4), none, (.mv (.c (.v (.int .i64 1))))⟩])
    .ret)
    .skip))
    (.seq (.ops [⟨(some 20), none, (.mv (.t 1))⟩,
      ⟨(some 21), none, (.mv (.t 5))⟩,
      ⟨(some 22), none, (.iaddr 1 (.t 20) (.t 21))⟩,
      ⟨(some 23), none, (.load false 1 (.t 22))⟩,
      ⟨(some 7), none, (.mv (.t 23))⟩])
    (.seq (.ops [⟨(some 24), none, (.mv (.t 6))⟩,
      ⟨(some 25), none, (.mv (.t 7))⟩,
      ⟨(some 26), none, (.call (.c (.fn (.func 47) [] [])) [(.t 24), (.t 25)])⟩,
      ⟨(some 8), none, (.mv (.t 26))⟩])
    (.seq (.ops [⟨(some 27), none, (.mv (.t 8))⟩,
      ⟨(some 28), none, (.bin .int .neq (.t 27) (.c (.v (.int .i64 0))))⟩])
    (.cond (.t 28)
    (.seq (.ops [⟨(some 29), none, (.mv (.t 8))⟩,
      ⟨(some 4), none, (.mv (.t 29))⟩])
    .ret)
    .skip)))))))
    (.ops [⟨(some 30), none, (.bin .int .add (.t 11) (.c (.v (.int .i64 1))))⟩,
      ⟨(some 11), none, (.mv (.t 30))⟩])))))))
    (.seq (.seq (.ops [⟨(some 31), none, (.mv (.t 0))⟩,
      ⟨(some 32), none, (.len .slc (.t 31))⟩,
      ⟨(some 33), none, (.mv (.t 1))⟩,
      ⟨(some 34), none, (.len .slc (.t 33))⟩,
      ⟨(some 35), none, (.bin .int .lss (.t 32) (.t 34))⟩])
    (.cond (.t 35)
    (.seq (.ops [⟨(some 4), none, (.mv (.c (.v (.int .i64 (-1)))))⟩])
    .ret)
    .skip))
    (.seq (.ops [⟨(some 4), none, (.mv (.c (.v (.int .i64 0))))⟩])
    .ret))))⟩
theorem L16_ok : lowFn Try.prog Try.f16 [] = some L16 := by kernel_rfl

/-- assessor_types.shapes -/
def L24 : LFn := ⟨13, [(.tmp 0)], (.seq (.ops [⟨(some 0), none, (.mv (.c (.v (.map none))))⟩])
    (.seq (.ops [⟨(some 1), none, (.mv (.c (.fn (.func 61) [] [])))⟩])
    (.seq (.ops [⟨(some 2), none, (.mv (.c (.fn (.func 62) [] [])))⟩])
    (.seq (.ops [⟨(some 3), none, .mkmap⟩,
      ⟨(some 4), none, (.mv (.t 1))⟩,
      ⟨(some 5), none, (.mv (.t 2))⟩,
      ⟨(some 6), none, (.build [(.v .nilFunc), (.v .nilFunc)] [(0, (1, (.t 4))), (1, (1, (.t 5)))])⟩,
      ⟨none, none, (.ins .int (.t 3) (.c (.v (.int .i64 1))) (.t 6))⟩,
      ⟨(some 7), none, (.mv (.t 1))⟩,
      ⟨(some 8), none, (.mv (.t 2))⟩,
      ⟨(some 9), none, (.build [(.v .nilFunc), (.v .nilFunc)] [(0, (1, (.t 7))), (1, (1, (.t 8)))])⟩,
      ⟨none, none, (.ins .int (.t 3) (.c (.v (.int .i64 2))) (.t 9))⟩,
      ⟨(some 10), none, (.build [(.v .nilFunc), (.v .nilFunc)] [(0, (1, (.c (.fn (.func 63) [] [])))), (1, (1, (.c (.fn (.func 64) [] []))))])⟩,
      ⟨none, none, (.ins .int (.t 3) (.c (.v (.int .i64 3))) (.t 10))⟩,
      ⟨(some 11), none, (.build [(.v .nilFunc), (.v .nilFunc)] [(0, (1, (.c (.fn (.func 66) [] [])))), (1, (1, (.c (.fn (.func 68) [] []))))])⟩,
      ⟨none, none, (.ins .int (.t 3) (.c (.v (.int .i64 4))) (.t 11))⟩,
      ⟨(some 12), none, (.mv (.t 3))⟩,
      ⟨(some 0), none, (.mv (.t 12))⟩,
      ⟨(some 0), none, (.frz (.t 0))⟩])
    .ret))))⟩
theorem L24_ok : lowFn Try.prog Try.f24 [⟨3, 15, (.pre 0 (.frz (.t 0)))⟩] = some L24 := by kernel_rfl

/-- assessor_types.Scalars -/
def L32 : LFn := ⟨30, [(.tmp 4)], (.seq (.ops [⟨(some 4), none, (.mv (.c (.v (.slice none 0 0))))⟩])
    (.seq (.ops [⟨(some 5), none, (.mv (.c (.v (.slice none 0 0))))⟩,
      ⟨(some 5), none, (.own 3 (.t 5))⟩])
    (.seq (.seq (.ops [⟨(some 8), none, (.mv (.t 1))⟩,
      ⟨(some 9), none, (.len .slc (.t 8))⟩,
      ⟨(some 10), none, (.mv (.c (.v (.int .i64 0))))⟩])
    (.block 0 (.loop (.seq (.ops [⟨(some 11), none, (.bin .int .lss (.t 10) (.t 9))⟩])
    (.seq (.cond (.t 11)
    .skip
    (.exit 0))
    (.seq (.block 1 (.seq (.ops [⟨(some 12), none, (.iaddr 3 (.t 8) (.t 10))⟩,
      ⟨(some 13), none, (.load true 3 (.t 12))⟩,
      ⟨(some 7), none, (.alloc [(.v (.int .i64 0)), (.v (.int .i64 0)), (.v (.string (mkS [])))])⟩,
      ⟨none, none, (.store 3 (.t 7) (.t 13))⟩])
    (.seq (.seq (.ops [⟨(some 14), none, (.load true 3 (.t 7))⟩,
      ⟨(some 15), none, (.mv (.t 0))⟩,
      ⟨(some 16), none, (.call (.c (.fn (.func 7) [] [])) [(.t 14), (.t 15)])⟩,
      ⟨(some 17), none, (.not (.t 16))⟩])
    (.cond (.t 17)
    (.seq (.ops [⟨(some 4), none, (.mv (.c (.v (.slice none 0 0))))⟩])
    .ret)
    .skip))
    (.draw [⟨(some 18), none, (.mv (.t 5))⟩,
      ⟨(some 19), none, (.call (.c (.fn (.func 24) [] [])) [])⟩,
      ⟨(some 20), none, (.faddr 0 (.t 7))⟩,
      ⟨(some 21), none, (.load false 1 (.t 20))⟩,
      ⟨(some 22), none, (.look .int (.agg [(.v .nilFunc), (.v .nilFunc)]) false (.t 19) (.t 21))⟩,
      ⟨(some 23), none, (.fld false 1 1 (.t 22))⟩,
      ⟨(some 24), none, (.load true 3 (.t 7))⟩,
      ⟨(some 25), none, (.mv (.t 0))⟩,
      ⟨(some 26), none, (.call (.t 23) [(.t 24), (.t 25)])⟩] [⟨(some 27), none, (.append 3 32 (.t 18) (.t 26))⟩,
      ⟨(some 5), none, (.mv (.t 27))⟩]))))
    (.ops [⟨(some 28), none, (.bin .int .add (.t 10) (.c (.v (.int .i64 1))))⟩,
      ⟨(some 10), none, (.mv (.t 28))⟩])))))))
    (.seq (.ops [⟨(some 29), none, (.mv (.t 5))⟩,
      ⟨(some 4), none, (.mv (.t 29))⟩,
      ⟨(some 4), none, (.frz (.t 4))⟩])
    .ret))))⟩
theorem L32_ok : lowFn Try.prog Try.f32 [⟨9, 2, (.pre 4 (.frz (.t 4)))⟩, ⟨1, 1, (.pre 5 (.own 3 (.t 5)))⟩, ⟨7, 9, .tail⟩] = some L32 := by kernel_rfl

/-- assessor_types.shapes$1 -/
def L61 : LFn := ⟨13, [(.tmp 4)], (.seq (.ops [⟨(some 2), none, (.box false (.t 0))⟩,
      ⟨(some 4), none, (.mv (.c (.v (.bool false))))⟩])
    (.seq (.ops [⟨(some 5), none, (.faddr 1 (.t 2))⟩,
      ⟨(some 6), none, (.load false 1 (.t 5))⟩,
      ⟨(some 7), none, (.bin .int .eql (.t 6) (.c (.v (.int .i64 0))))⟩,
      ⟨(some 8), none, (.mv (.t 7))⟩,
      ⟨(some 9), (some (8, true)), (.faddr 2 (.t 2))⟩,
      ⟨(some 10), (some (8, true)), (.load false 1 (.t 9))⟩,
      ⟨(some 11), (some (8, true)), (.bin .str .eql (.t 10) (.c (.v (.string (mkS [])))))⟩,
      ⟨(some 12), none, (.pick (.t 8) (.t 11) (.c (.v (.bool false))))⟩,
      ⟨(some 4), none, (.mv (.t 12))⟩])
    .ret))⟩
theorem L61_ok : lowFn Try.prog Try.f61 [] = some L61 := by kernel_rfl

/-- assessor_types.shapes$2 -/
def L62 : LFn := ⟨9, [(.tmp 4)], (.seq (.ops [⟨(some 2), none, (.box false (.t 0))⟩,
      ⟨(some 4), none, (.mv (.c (.v (.slice none 0 0))))⟩])
    (.seq (.ops [⟨(some 5), none, (.faddr 0 (.t 2))⟩,
      ⟨(some 6), none, (.load false 1 (.t 5))⟩,
      ⟨(some 7), none, (.build [(.v (.int .i64 0)), (.v (.int .i64 0)), (.v (.string (mkS [])))] [(0, (1, (.t 6)))])⟩,
      ⟨(some 8), none, (.bsl false 3 1 [(.v (.int .i64 0)), (.v (.int .i64 0)), (.v (.string (mkS [])))] [(0, (.t 7))])⟩,
      ⟨(some 4), none, (.mv (.t 8))⟩,
      ⟨(some 4), none, (.frz (.t 4))⟩])
    .ret))⟩
theorem L62_ok : lowFn Try.prog Try.f62 [⟨1, 5, (.pre 4 (.frz (.t 4)))⟩] = some L62 := by kernel_rfl

/-- assessor_types.shapes$3 -/
def L63 : LFn := ⟨18, [(.tmp 4)], (.seq (.ops [⟨(some 2), none, (.box false (.t 0))⟩,
      ⟨(some 4), none, (.mv (.c (.v (.bool false))))⟩])
    (.seq (.ops [⟨(some 5), none, (.faddr 1 (.t 2))⟩,
      ⟨(some 6), none, (.load false 1 (.t 5))⟩,
      ⟨(some 7), none, (.bin .int .geq (.t 6) (.c (.v (.int .i64 1))))⟩,
      ⟨(some 8), none, (.mv (.t 7))⟩,
      ⟨(some 9), (some (8, true)), (.faddr 1 (.t 2))⟩,
      ⟨(some 10), (some (8, true)), (.load false 1 (.t 9))⟩,
      ⟨(some 11), (some (8, true)), (.bin .int .leq (.t 10) (.c (.v (.int .i64 8))))⟩,
      ⟨(some 12), none, (.pick (.t 8) (.t 11) (.c (.v (.bool false))))⟩,
      ⟨(some 13), none, (.mv (.t 12))⟩,
      ⟨(some 14), (some (13, true)), (.faddr 2 (.t 2))⟩,
      ⟨(some 15), (some (13, true)), (.load false 1 (.t 14))⟩,
      ⟨(some 16), (some (13, true)), (.bin .str .eql (.t 15) (.c (.v (.string (mkS [])))))⟩,
      ⟨(some 17), none, (.pick (.t 13) (.t 16) (.c (.v (.bool false))))⟩,
      ⟨(some 4), none, (.mv (.t 17))⟩])
    .ret))⟩
theorem L63_ok : lowFn Try.prog Try.f63 [] = some L63 := by kernel_rfl

/-- assessor_types.shapes$4 -/
def L64 : LFn := ⟨10, [(.tmp 4)], (.seq (.ops [⟨(some 2), none, (.box false (.t 0))⟩,
      ⟨(some 4), none, (.mv (.c (.v (.slice none 0 0))))⟩])
    (.seq (.ops [⟨(some 5), none, (.build [(.v (.int .i64 0)), (.v (.int .i64 0)), (.v (.string (mkS [])))] [(0, (1, (.c (.v (.int .i64 1)))))])⟩,
      ⟨(some 6), none, (.bsl true 3 1 [(.v (.int .i64 0)), (.v (.int .i64 0)), (.v (.string (mkS [])))] [(0, (.t 5))])⟩,
      ⟨(some 7), none, (.faddr 1 (.t 2))⟩,
      ⟨(some 8), none, (.load false 1 (.t 7))⟩,
      ⟨(some 9), none, (.call (.c (.fn (.func 65) [] [])) [(.t 6), (.t 8)])⟩,
      ⟨(some 4), none, (.mv (.t 9))⟩,
      ⟨(some 4), none, (.frz (.t 4))⟩])
    .ret))⟩
theorem L64_ok : lowFn Try.prog Try.f64 [⟨1, 1, .imm⟩, ⟨1, 6, (.pre 4 (.frz (.t 4)))⟩] = some L64 := by kernel_rfl

/-- slices.Repeat___assessor_api.Type_assessor_api.Type_ -/
def L65 : LFn := ⟨48, [(.tmp 4)], (.seq (.ops [⟨(some 4), none, (.mv (.c (.v (.slice none 0 0))))⟩])
    (.seq (.seq (.ops [⟨(some 9), none, (.mv (.t 1))⟩,
      ⟨(some 10), none, (.bin .int .lss (.t 9) (.c (.v (.int .i64 0))))⟩])
    (.cond (.t 10)
    (.ops [⟨(some 11), none, .bad⟩,
      ⟨none, none, .bad⟩])
    .skip))
    (.seq (.ops [⟨(some 13), none, (.mv (.t 0))⟩,
      ⟨(some 14), none, (.len .slc (.t 13))⟩,
      ⟨(some 15), none, (.conv (.toInt .u64) (.t 14))⟩,
      ⟨(some 16), none, (.mv (.t 1))⟩,
      ⟨(some 17), none, (.conv (.toInt .u64) (.t 16))⟩,
      ⟨(some 18), none, (.call (.c (.fn (.func 102) [] [])) [(.t 15), (.t 17)])⟩,
      ⟨(some 12), none, (.mv (.t 18))⟩,
      ⟨(some 19), none, (.ext (.t 12) 0)⟩,
      ⟨(some 20), none, (.ext (.t 12) 1)⟩,
      ⟨(some 5), none, (.mv (.t 19))⟩,
      ⟨(some 6), none, (.mv (.t 20))⟩])
    (.seq (.seq (.ops [⟨(some 21), none, (.mv (.t 5))⟩,
      ⟨(some 22), none, (.bin .int .gtr (.t 21) (.c (.v (.int .u64 0))))⟩,
      ⟨(some 23), none, (.mv (.t 22))⟩,
      ⟨(some 24), (some (23, false)), (.mv (.t 6))⟩,
      ⟨(some 25), (some (23, false)), (.bin .int .gtr (.t 24) (.c (.v (.int .u64 9223372036854775807))))⟩,
      ⟨(some 26), none, (.pick (.t 23) (.c (.v (.bool true))) (.t 25))⟩])
    (.cond (.t 26)
    (.ops [⟨(some 27), none, .bad⟩,
      ⟨none, none, .bad⟩])
    .skip))
    (.seq (.ops [⟨(some 28), none, (.mv (.t 6))⟩,
      ⟨(some 29), none, (.conv (.toInt .i64) (.t 28))⟩,
      ⟨(some 30), none, (.msl 3 32 [(.v (.int .i64 0)), (.v (.int .i64 0)), (.v (.string (mkS [])))] (.t 29) (.t 29))⟩,
      ⟨(some 7), none, (.mv (.t 30))⟩])
    (.seq (.ops [⟨(some 31), none, (.mv (.t 7))⟩,
      ⟨(some 32), none, (.mv (.t 0))⟩,
      ⟨(some 33), none, (.copy 3 (.t 31) (.t 32))⟩,
      ⟨(some 8), none, (.mv (.t 33))⟩])
    (.seq (.block 0 (.loop (.seq (.seq (.ops [⟨(some 34), none, (.mv (.t 8))⟩,
      ⟨(some 35), none, (.mv (.t 7))⟩,
      ⟨(some 36), none, (.len .slc (.t 35))⟩,
      ⟨(some 37), none, (.bin .int .lss (.t 34) (.t 36))⟩])
    (.cond (.t 37)
    .skip
    (.exit 0)))
    (.block 1 (.draw [⟨(some 38), none, (.mv (.t 8))⟩,
      ⟨(some 39), none, (.mv (.t 7))⟩,
      ⟨(some 40), none, (.mv (.t 8))⟩,
      ⟨(some 41), none, (.slice .slc 3 (.t 39) (some (.t 40)) none)⟩,
      ⟨(some 42), none, (.mv (.t 7))⟩,
      ⟨(some 43), none, (.mv (.t 8))⟩,
      ⟨(some 44), none, (.slice .slc 3 (.t 42) none (some (.t 43)))⟩] [⟨(some 45), none, (.copy 3 (.t 41) (.t 44))⟩,
      ⟨(some 46), none, (.bin .int .add (.t 38) (.t 45))⟩,
      ⟨(some 8), none, (.mv (.t 46))⟩])))))
    (.seq (.ops [⟨(some 47), none, (.mv (.t 7))⟩,
      ⟨(some 4), none, (.mv (.t 47))⟩,
      ⟨(some 4), none, (.frz (.t 4))⟩])
    .ret))))))))⟩
theorem L65_ok : lowFn Try.prog Try.f65 [⟨10, 2, (.pre 4 (.frz (.t 4)))⟩, ⟨9, 7, .tail⟩] = some L65 := by kernel_rfl

/-- assessor_types.shapes$5 -/
def L66 : LFn := ⟨20, [(.tmp 4)], (.seq (.ops [⟨(some 2), none, (.box false (.t 0))⟩,
      ⟨(some 4), none, (.mv (.c (.v (.bool false))))⟩])
    (.seq (.ops [⟨(some 8), none, (.mv (.t 1))⟩,
      ⟨(some 9), none, (.faddr 2 (.t 2))⟩,
      ⟨(some 10), none, (.load false 1 (.t 9))⟩,
      ⟨(some 11), none, (.call (.c (.fn (.func 67) [] [])) [(.t 8), (.t 10)])⟩,
      ⟨(some 7), none, (.mv (.t 11))⟩,
      ⟨(some 12), none, (.ext (.t 7) 0)⟩,
      ⟨(some 13), none, (.ext (.t 7) 1)⟩,
      ⟨(some 5), none, (.alloc [(.v (.string (mkS []))), (.v (.slice none 0 0))])⟩,
      ⟨none, none, (.store 2 (.t 5) (.t 12))⟩,
      ⟨(some 6), none, (.mv (.t 13))⟩])
    (.seq (.ops [⟨(some 14), none, (.faddr 1 (.t 2))⟩,
      ⟨(some 15), none, (.load false 1 (.t 14))⟩,
      ⟨(some 16), none, (.bin .int .eql (.t 15) (.c (.v (.int .i64 0))))⟩,
      ⟨(some 17), none, (.mv (.t 16))⟩,
      ⟨(some 18), (some (17, true)), (.mv (.t 6))⟩,
      ⟨(some 19), none, (.pick (.t 17) (.t 18) (.c (.v (.bool false))))⟩,
      ⟨(some 4), none, (.mv (.t 19))⟩])
    .ret)))⟩
theorem L66_ok : lowFn Try.prog Try.f66 [] = some L66 := by kernel_rfl

/-- assessor_types.record -/
def L67 : LFn := ⟨17, [(.cell 4 true 2), (.tmp 5)], (.seq (.ops [⟨(some 3), none, (.box false (.t 1))⟩,
      ⟨(some 4), none, (.alloc [(.v (.string (mkS []))), (.v (.slice none 0 0))])⟩,
      ⟨(some 5), none, (.mv (.c (.v (.bool false))))⟩])
    (.seq (.ops [⟨(some 7), none, (.mv (.t 0))⟩,
      ⟨(some 8), none, (.mkfn (.func 104) [] [(.t 3)])⟩,
      ⟨(some 9), none, (.call (.c (.fn (.func 103) [] [])) [(.t 7), (.t 8)])⟩,
      ⟨(some 6), none, (.mv (.t 9))⟩])
    (.seq (.seq (.ops [⟨(some 10), none, (.mv (.t 6))⟩,
      ⟨(some 11), none, (.bin .int .lss (.t 10) (.c (.v (.int .i64 0))))⟩])
    (.cond (.t 11)
    (.seq (.ops [⟨(some 12), none, (.build [(.v (.string (mkS []))), (.v (.slice none 0 0))] [])⟩,
      ⟨none, none, (.store 2 (.t 4) (.t 12))⟩,
      ⟨(some 5), none, (.mv (.c (.v (.bool false))))⟩])
    .ret)
    .skip))
    (.seq (.ops [⟨(some 13), none, (.mv (.t 0))⟩,
      ⟨(some 14), none, (.mv (.t 6))⟩,
      ⟨(some 15), none, (.iaddr 2 (.t 13) (.t 14))⟩,
      ⟨(some 16), none, (.load true 2 (.t 15))⟩,
      ⟨none, none, (.store 2 (.t 4) (.t 16))⟩,
      ⟨(some 5), none, (.mv (.c (.v (.bool true))))⟩])
    .ret))))⟩
theorem L67_ok : lowFn Try.prog Try.f67 [] = some L67 := by kernel_rfl

/-- assessor_types.shapes$6 -/
def L68 : LFn := ⟨32, [(.tmp 4)], (.seq (.ops [⟨(some 2), none, (.box false (.t 0))⟩,
      ⟨(some 4), none, (.mv (.c (.v (.slice none 0 0))))⟩])
    (.seq (.ops [⟨(some 5), none, (.mv (.c (.v (.slice none 0 0))))⟩,
      ⟨(some 5), none, (.own 3 (.t 5))⟩])
    (.seq (.ops [⟨(some 11), none, (.mv (.t 1))⟩,
      ⟨(some 12), none, (.faddr 2 (.t 2))⟩,
      ⟨(some 13), none, (.load false 1 (.t 12))⟩,
      ⟨(some 14), none, (.call (.c (.fn (.func 67) [] [])) [(.t 11), (.t 13)])⟩,
      ⟨(some 10), none, (.mv (.t 14))⟩,
      ⟨(some 15), none, (.ext (.t 10) 0)⟩,
      ⟨(some 16), none, (.ext (.t 10) 1)⟩,
      ⟨(some 6), none, (.alloc [(.v (.string (mkS []))), (.v (.slice none 0 0))])⟩,
      ⟨none, none, (.store 2 (.t 6) (.t 15))⟩,
      ⟨(some 7), none, (.mv (.t 16))⟩])
    (.seq (.seq (.ops [⟨(some 17), none, (.faddr 1 (.t 6))⟩,
      ⟨(some 18), none, (.load false 1 (.t 17))⟩,
      ⟨(some 19), none, (.len .slc (.t 18))⟩,
      ⟨(some 20), none, (.mv (.c (.v (.int .i64 0))))⟩])
    (.block 0 (.loop (.seq (.ops [⟨(some 21), none, (.bin .int .lss (.t 20) (.t 19))⟩])
    (.seq (.cond (.t 21)
    .skip
    (.exit 0))
    (.seq (.block 1 (.seq (.ops [⟨(some 22), none, (.iaddr 4 (.t 18) (.t 20))⟩,
      ⟨(some 23), none, (.load true 4 (.t 22))⟩,
      ⟨(some 9), none, (.alloc [(.v (.string (mkS []))), (.v (.int .i64 0)), (.v (.int .i64 0)), (.v (.string (mkS [])))])⟩,
      ⟨none, none, (.store 4 (.t 9) (.t 23))⟩])
    (.ops [⟨(some 24), none, (.mv (.t 5))⟩,
      ⟨(some 25), none, (.faddr 1 (.t 9))⟩,
      ⟨(some 26), none, (.load true 3 (.t 25))⟩,
      ⟨(some 27), none, (.call (.c (.fn (.func 69) [] [])) [(.t 26)])⟩,
      ⟨(some 28), none, (.bsl true 3 1 [(.v (.int .i64 0)), (.v (.int .i64 0)), (.v (.string (mkS [])))] [(0, (.t 27))])⟩,
      ⟨(some 29), none, (.append 3 32 (.t 24) (.t 28))⟩,
      ⟨(some 5), none, (.mv (.t 29))⟩])))
    (.ops [⟨(some 30), none, (.bin .int .add (.t 20) (.c (.v (.int .i64 1))))⟩,
      ⟨(some 20), none, (.mv (.t 30))⟩])))))))
    (.seq (.ops [⟨(some 31), none, (.mv (.t 5))⟩,
      ⟨(some 4), none, (.mv (.t 31))⟩,
      ⟨(some 4), none, (.frz (.t 4))⟩])
    .ret)))))⟩
theorem L68_ok : lowFn Try.prog Try.f68 [⟨6, 4, .imm⟩, ⟨8, 2, (.pre 4 (.frz (.t 4)))⟩, ⟨1, 1, (.pre 5 (.own 3 (.t 5)))⟩] = some L68 := by kernel_rfl

/-- assessor_types.scalar -/
def L69 : LFn := ⟨8, [(.cell 2 true 3)], (.seq (.ops [⟨(some 1), none, (.box false (.t 0))⟩,
      ⟨(some 2), none, (.alloc [(.v (.int .i64 0)), (.v (.int .i64 0)), (.v (.string (mkS [])))])⟩])
    (.seq (.seq (.ops [⟨(some 3), none, (.faddr 0 (.t 1))⟩,
      ⟨(some 4), none, (.load false 1 (.t 3))⟩,
      ⟨(some 5), none, (.bin .int .eql (.t 4) (.c (.v (.int .i64 2))))⟩])
    (.cond (.t 5)
    (.seq (.ops [⟨(some 6), none, (.build [(.v (.int .i64 0)), (.v (.int .i64 0)), (.v (.string (mkS [])))] [(0, (1, (.c (.v (.int .i64 2)))))])⟩,
      ⟨none, none, (.store 3 (.t 2) (.t 6))⟩])
    .ret)
    .skip))
    (.seq (.ops [⟨(some 7), none, (.build [(.v (.int .i64 0)), (.v (.int .i64 0)), (.v (.string (mkS [])))] [(0, (1, (.c (.v (.int .i64 1)))))])⟩,
      ⟨none, none, (.store 3 (.t 2) (.t 7))⟩])
    .ret)))⟩
theorem L69_ok : lowFn Try.prog Try.f69 [] = some L69 := by kernel_rfl

/-- assessor_types.Size -/
def L76 : LFn := ⟨10, [(.tmp 4)], (.seq (.ops [⟨(some 2), none, (.box false (.t 0))⟩,
      ⟨(some 4), none, (.mv (.c (.v (.int .i64 0))))⟩])
    (.seq (.ops [⟨(some 5), none, (.mv (.t 1))⟩,
      ⟨(some 6), none, (.load true 3 (.t 2))⟩,
      ⟨(some 7), none, (.bsl true 3 1 [(.v (.int .i64 0)), (.v (.int .i64 0)), (.v (.string (mkS [])))] [(0, (.t 6))])⟩,
      ⟨(some 8), none, (.call (.c (.fn (.func 32) [] [])) [(.t 5), (.t 7)])⟩,
      ⟨(some 9), none, (.len .slc (.t 8))⟩,
      ⟨(some 4), none, (.mv (.t 9))⟩])
    .ret))⟩
theorem L76_ok : lowFn Try.prog Try.f76 [⟨1, 2, .imm⟩] = some L76 := by kernel_rfl

/-- slices.IndexFunc___assessor_api.Record_assessor_api.Record_ -/
def L103 : LFn := ⟨19, [(.tmp 4)], (.seq (.ops [⟨(some 4), none, (.mv (.c (.v (.int .i64 0))))⟩])
    (.seq (.seq (.ops [⟨(some 6), none, (.mv (.t 0))⟩,
      ⟨(some 7), none, (.len .slc (.t 6))⟩,
      ⟨(some 8), none, (.mv (.c (.v (.int .i64 0))))⟩])
    (.block 0 (.loop (.seq (.ops [⟨(some 9), none, (.bin .int .lss (.t 8) (.t 7))⟩])
    (.seq (.cond (.t 9)
    .skip
    (.exit 0))
    (.seq (.block 1 (.seq (.ops [⟨(some 10), none, (.mv (.t 8))⟩,
      ⟨(some 5), none, (.mv (.t 10))⟩])
    (.seq (.ops [⟨(some 11), none, (.mv (.t 1))⟩,
      ⟨(some 12), none, (.mv (.t 0))⟩,
      ⟨(some 13), none, (.mv (.t 5))⟩,
      ⟨(some 14), none, (.iaddr 2 (.t 12) (.t 13))⟩,
      ⟨(some 15), none, (.load true 2 (.t 14))⟩,
      ⟨(some 16), none, (.call (.t 11) [(.t 15)])⟩])
    (.cond (.t 16)
    (.seq (.ops [⟨(some 17), none, (.mv (.t 5))⟩,
      ⟨(some 4), none, (.mv (.t 17))⟩])
    .ret)
    .skip))))
    (.ops [⟨(some 18), none, (.bin .int .add (.t 8) (.c (.v (.int .i64 1))))⟩,
      ⟨(some 8), none, (.mv (.t 18))⟩])))))))
    (.seq (.ops [⟨(some 4), none, (.mv (.c (.v (.int .i64 (-1)))))⟩])
    .ret)))⟩
theorem L103_ok : lowFn Try.prog Try.f103 [] = some L103 := by kernel_rfl

/-- assessor_types.record$1 -/
def L104 : LFn := ⟨8, [(.tmp 3)], (.seq (.ops [⟨(some 2), none, (.box false (.t 0))⟩,
      ⟨(some 3), none, (.mv (.c (.v (.bool false))))⟩])
    (.seq (.ops [⟨(some 4), none, (.faddr 0 (.t 2))⟩,
      ⟨(some 5), none, (.load false 1 (.t 4))⟩,
      ⟨(some 6), none, (.load false 1 (.t 1))⟩,
      ⟨(some 7), none, (.bin .str .eql (.t 5) (.t 6))⟩,
      ⟨(some 3), none, (.mv (.t 7))⟩])
    .ret))⟩
theorem L104_ok : lowFn Try.prog Try.f104 [] = some L104 := by kernel_rfl

/-- math_bits.Mul -/
def L102 : LFn := ⟨30, [(.tmp 4), (.tmp 5)], (.seq (.ops [⟨(some 4), none, (.mv (.c (.v (.int .u64 0))))⟩,
      ⟨(some 5), none, (.mv (.c (.v (.int .u64 0))))⟩])
    (.seq (.cond (.c (.v (.bool false)))
    (.seq (.ops [⟨(some 11), none, (.mv (.t 0))⟩,
      ⟨(some 12), none, (.conv (.toInt .u32) (.t 11))⟩,
      ⟨(some 13), none, (.mv (.t 1))⟩,
      ⟨(some 14), none, (.conv (.toInt .u32) (.t 13))⟩,
      ⟨(some 15), none, (.call (.c (.fn (.func 132) [] [])) [(.t 12), (.t 14)])⟩,
      ⟨(some 10), none, (.mv (.t 15))⟩,
      ⟨(some 16), none, (.ext (.t 10) 0)⟩,
      ⟨(some 17), none, (.ext (.t 10) 1)⟩,
      ⟨(some 6), none, (.mv (.t 16))⟩,
      ⟨(some 7), none, (.mv (.t 17))⟩])
    (.seq (.ops [⟨(some 18), none, (.mv (.t 6))⟩,
      ⟨(some 19), none, (.conv (.toInt .u64) (.t 18))⟩,
      ⟨(some 20), none, (.mv (.t 7))⟩,
      ⟨(some 21), none, (.conv (.toInt .u64) (.t 20))⟩,
      ⟨(some 4), none, (.mv (.t 19))⟩,
      ⟨(some 5), none, (.mv (.t 21))⟩])
    .ret))
    .skip)
    (.seq (.ops [⟨(some 23), none, (.mv (.t 0))⟩,
      ⟨(some 24), none, (.mv (.t 1))⟩,
      ⟨(some 25), none, (.call (.c (.fn (.func 133) [] [])) [(.t 23), (.t 24)])⟩,
      ⟨(some 22), none, (.mv (.t 25))⟩,
      ⟨(some 26), none, (.ext (.t 22) 0)⟩,
      ⟨(some 27), none, (.ext (.t 22) 1)⟩,
      ⟨(some 8), none, (.mv (.t 26))⟩,
      ⟨(some 9), none, (.mv (.t 27))⟩])
    (.seq (.ops [⟨(some 28), none, (.mv (.t 8))⟩,
      ⟨(some 29), none, (.mv (.t 9))⟩,
      ⟨(some 4), none, (.mv (.t 28))⟩,
      ⟨(some 5), none, (.mv (.t 29))⟩])
    .ret))))⟩
theorem L102_ok : lowFn Try.prog Try.f102 [] = some L102 := by kernel_rfl

/-- math_bits.Mul64 -/
def L133 : LFn := ⟨51, [(.tmp 4), (.tmp 5)], (.seq (.ops [⟨(some 4), none, (.mv (.c (.v (.int .u64 0))))⟩,
      ⟨(some 5), none, (.mv (.c (.v (.int .u64 0))))⟩])
    (.seq (.ops [⟨(some 14), none, (.mv (.t 0))⟩,
      ⟨(some 15), none, (.bin .int .and (.t 14) (.c (.v (.int .u64 4294967295))))⟩,
      ⟨(some 6), none, (.mv (.t 15))⟩])
    (.seq (.ops [⟨(some 16), none, (.mv (.t 0))⟩,
      ⟨(some 17), none, (.bin .int .shr (.t 16) (.c (.v (.int .u64 32))))⟩,
      ⟨(some 7), none, (.mv (.t 17))⟩])
    (.seq (.ops [⟨(some 18), none, (.mv (.t 1))⟩,
      ⟨(some 19), none, (.bin .int .and (.t 18) (.c (.v (.int .u64 4294967295))))⟩,
      ⟨(some 8), none, (.mv (.t 19))⟩])
    (.seq (.ops [⟨(some 20), none, (.mv (.t 1))⟩,
      ⟨(some 21), none, (.bin .int .shr (.t 20) (.c (.v (.int .u64 32))))⟩,
      ⟨(some 9), none, (.mv (.t 21))⟩])
    (.seq (.ops [⟨(some 22), none, (.mv (.t 6))⟩,
      ⟨(some 23), none, (.mv (.t 8))⟩,
      ⟨(some 24), none, (.bin .int .mul (.t 22) (.t 23))⟩,
      ⟨(some 10), none, (.mv (.t 24))⟩])
    (.seq (.ops [⟨(some 25), none, (.mv (.t 7))⟩,
      ⟨(some 26), none, (.mv (.t 8))⟩,
      ⟨(some 27), none, (.bin .int .mul (.t 25) (.t 26))⟩,
      ⟨(some 28), none, (.mv (.t 10))⟩,
      ⟨(some 29), none, (.bin .int .shr (.t 28) (.c (.v (.int .u64 32))))⟩,
      ⟨(some 30), none, (.bin .int .add (.t 27) (.t 29))⟩,
      ⟨(some 11), none, (.mv (.t 30))⟩])
    (.seq (.ops [⟨(some 31), none, (.mv (.t 11))⟩,
      ⟨(some 32), none, (.bin .int .and (.t 31) (.c (.v (.int .u64 4294967295))))⟩,
      ⟨(some 12), none, (.mv (.t 32))⟩])
    (.seq (.ops [⟨(some 33), none, (.mv (.t 11))⟩,
      ⟨(some 34), none, (.bin .int .shr (.t 33) (.c (.v (.int .u64 32))))⟩,
      ⟨(some 13), none, (.mv (.t 34))⟩])
    (.seq (.ops [⟨(some 35), none, (.mv (.t 12))⟩,
      ⟨(some 36), none, (.mv (.t 6))⟩,
      ⟨(some 37), none, (.mv (.t 9))⟩,
      ⟨(some 38), none, (.bin .int .mul (.t 36) (.t 37))⟩,
      ⟨(some 39), none, (.bin .int .add (.t 35) (.t 38))⟩,
      ⟨(some 12), none, (.mv (.t 39))⟩])
    (.seq (.ops [⟨(some 40), none, (.mv (.t 7))⟩,
      ⟨(some 41), none, (.mv (.t 9))⟩,
      ⟨(some 42), none, (.bin .int .mul (.t 40) (.t 41))⟩,
      ⟨(some 43), none, (.mv (.t 13))⟩,
      ⟨(some 44), none, (.bin .int .add (.t 42) (.t 43))⟩,
      ⟨(some 45), none, (.mv (.t 12))⟩,
      ⟨(some 46), none, (.bin .int .shr (.t 45) (.c (.v (.int .u64 32))))⟩,
      ⟨(some 47), none, (.bin .int .add (.t 44) (.t 46))⟩,
      ⟨(some 4), none, (.mv (.t 47))⟩])
    (.seq (.ops [⟨(some 48), none, (.mv (.t 0))⟩,
      ⟨(some 49), none, (.mv (.t 1))⟩,
      ⟨(some 50), none, (.bin .int .mul (.t 48) (.t 49))⟩,
      ⟨(some 5), none, (.mv (.t 50))⟩])
    .ret))))))))))))⟩
theorem L133_ok : lowFn Try.prog Try.f133 [] = some L133 := by kernel_rfl

end Go.Proofs.Yteidffcimidinaa

/- The last step of a row: from the abstract call to the statement. -/
namespace Go.Ax
open Go Go.RowKit Go.WideShapes Go.ChangeShapes
set_option linter.unusedSimpArgs false
set_option linter.unusedVariables false

/-- Nothing is owned. -/
abbrev X0 : Nat → Prop := fun _ => False

theorem hrel_nil (w : World) (ρ : Nat → Loc) (hg : ∀ g ∈ glbs, ∃ m, w.cell? ⟨g, 0, none⟩ = some (.int .i64 m)) : HRel w X0 ρ [] where
  objs := fun r o h => by simp at h
  inj := fun r _ _ _ _ _ h => by simp at h
  lt := fun r _ _ h => by simp at h
  xlt := fun b h => h.elim
  gl := fun g h => ⟨fun ⟨r, o, hr, _⟩ => by simp at hr, hg g h⟩

/-- What a call from nothing leaves alone. -/
theorem Fut.below {w w' : World} {ρ ρ' : Nat → Loc} {n' : Nat} (h : Fut w ρ 0 w' ρ' n') : Below w.heap.size w w' :=
  ⟨h.os, h.tape, h.output, h.size, fun k hk => h.keep k hk fun ⟨r, o, hr, _⟩ => by omega⟩

/-- A call of values that name no object. -/
theorem ACall.top {P : Program} {k : FuncId} {args : List AV} {R : AV → AHeap → Prop} (h : ACall P k args [] R) {w : World} {vs : Array Value} (hargs : RepL w X0 (fun _ => {}) 0 args vs) (hg : ∀ g ∈ glbs, ∃ m, w.cell? ⟨g, 0, none⟩ = some (.int .i64 m)) :
    Calls P k vs w fun e w' => ∃ v x H' ρ', e = .returned v ∧ R x H' ∧ Rep w' (Mut X0 ρ' H'.length) ρ' H'.length x v ∧ Below w.heap.size w w' := by
  have hm : Mut X0 (fun _ => ({} : Loc)) 0 = X0 := by
    funext b
    simp [Mut, Own, X0]
  refine (h.2 X0 (fun _ => {}) w vs (hrel_nil _ _ hg) ?_).mono ?_
  · simpa [hm] using hargs
  · rintro e w' ⟨v, x, H', ρ', he, hR, _, hx, hf⟩
    exact ⟨v, x, H', ρ', he, hR, hx, hf.below⟩

section
variable {H : Type} {enc : TypeId × Value → H} {P : Program}
/-- A law's post: true is handed back, the arguments read as they did. -/
theorem post_law {f : Func} {s : ChangeSpec} {apart fresh handsOn again : Bool} {W W' : World} {args : Array Value} {ds : List (DataW H)} {before : List MemPlace} {tb : TypeId}
    (hW : DataW.Whole enc P f.params.toList s.vars apart W args.toList ds [] before) (hv : s.vars = [])
    (hf : f.resultTypes = #[tb]) (htb : P.underlying tb = some .bool) (hs : s.fn H ds = ⟨[.lit (.bool true)], ds, []⟩)
    (hargs : ∀ sp : Nat → Bool, (∀ p ∈ before, sp p.block = true) → DataW.TrodAll enc P W' 0 sp true f.params.toList args.toList ds before)
    (hb : Below W.heap.size W W') : s.post enc P f apart fresh handsOn again W args (.bool true) W' := by
  have hlt : ∀ p ∈ before, p.block < W.heap.size := fun p hp => hW.lt p hp
  have hold : ∀ p ∈ before, (fun b => decide (b < W.heap.size)) p.block = true := fun p hp => by simpa using hlt p hp
  have hs' : s.fn H (ds ++ []) = ⟨[.lit (.bool true)], ds, []⟩ := by rw [List.append_nil]; exact hs
  have hres : ∀ (b : Nat) (sp : Nat → Bool) (hd : Bool), DataW.TrodAll enc P W' b sp hd f.resultTypes.toList ((Value.bool true).resultList f.resultTypes.size) (s.fn H (ds ++ [])).results [] := by
    intro b sp hd
    rw [hs', hf]
    exact trodAll_mk1 (shut_bool htb true)
  have hvars : ∀ sp : Nat → Bool, DataW.TrodVars enc P W' sp s.vars (s.fn H (ds ++ [])).vars [] := by
    intro sp; rw [hs', hv]; rfl
  have hk : W.keptBut W' (· ∈ before) := hb.frame _
  refine ⟨ds, [], before, [], before, [], hW, hres _ _ _, ?_, hvars _, World.keptBut_mono (fun p hp => ⟨hp, .inr (.inl hp)⟩) hk, fun _ => ?_⟩
  · rw [hs']; exact hargs _ hold
  · obtain ⟨_, _, _, _, _, hz, hn⟩ := hW
    refine ⟨?_, _, _, ([] ++ before) ++ [], ⟨[] ++ before, [], trodAll_append (hargs _ fun _ _ => rfl) (hres 0 (fun _ => true) true), hvars _, rfl, ?_, ?_⟩, ?_⟩
    · intro j t r h1 h2
      rw [hf] at h1 h2
      cases j with
      | zero => simp [Value.resultList] at h1 h2; subst h1; subst h2; exact okWide_bool_mk htb true
      | succ j => simp at h1
    · intro b off hp
      have hin : MemPlace.cell b off ∈ before := by simpa using hp
      rw [hb.frozen (hlt _ hin)]
      exact hz b off (by simpa using hin)
    · intro ha
      simpa using hn ha
    · intro p hp _
      simpa using hp
end
end Go.Ax

/- Arguments of plain types (numbers, strings, structs, slices, trees of them) as values without addresses; they read behind the call as they did. -/
namespace Go.Ax
open Go Go.RowKit Go.WideShapes Go.ChangeShapes
set_option linter.unusedSimpArgs false
set_option linter.unusedVariables false

/-- Cells of a value of type t. -/
inductive Val (P : Program) : TypeId → List AV → Prop
  | int {t : TypeId} {k : IntKind} {n : Int} : P.underlying t = some (.int k) → (Lit.int k n).wf = true → Val P t [.v (.int k n)]
  | bool {t : TypeId} {b : Bool} : P.underlying t = some .bool → Val P t [.v (.bool b)]
  | str {t : TypeId} {s : ByteArray} : P.underlying t = some .string → s.size ≤ maxLen → Val P t [.v (.string s)]
  | sl {t e : TypeId} {rows : List (List AV)} : P.underlying t = some (.slice e) → rows.length ≤ maxLen → (∀ x ∈ rows, Val P e x) → Val P t [.sl (P.cellsOf e) rows]
  | st {t : TypeId} {fs : Array Field} {xs : List AV} : P.underlying t = some (.struct fs) → xs.length = P.cellsOf t → (∀ (i : Nat) (f : Field), fs[i]? = some f → Val P f.type ((xs.drop f.offset).take (P.cellsOf f.type))) → Val P t xs

/-- Fields one behind the other. -/
def contig (P : Program) : Nat → List Field → Option Nat
  | o, [] => some o
  | o, f :: fs => if f.offset = o then contig P (o + P.cellsOf f.type) fs else none
/-- A closed set of plain types. -/
def plainB (P : Program) (S : List TypeId) : Bool := S.all fun t =>
  match P.underlying t with
  | some (.int _) => decide (P.cellsOf t = 1)
  | some .bool => decide (P.cellsOf t = 1)
  | some .string => decide (P.cellsOf t = 1)
  | some (.slice e) => decide (P.cellsOf t = 1) && S.contains e && decide (0 < P.cellsOf e)
  | some (.struct fs) => decide (contig P 0 fs.toList = some (P.cellsOf t)) && fs.toList.all fun f => S.contains f.type
  | _ => false

section
variable {H : Type} {enc : TypeId × Value → H} {P : Program} {w : World} {sp : Nat → Bool} {held : Bool}

/-- xs stand for the cells cs. -/
def RepC (w : World) (xs : List AV) (cs : List Value) : Prop := xs.length = cs.length ∧ ∀ (i : Nat) (x : AV) (u : Value), xs[i]? = some x → cs[i]? = some u → Rep w X0 (fun _ => {}) 0 x u ∧ one u = true

theorem contig_ge : ∀ (fl : List Field) {o n : Nat}, contig P o fl = some n → o ≤ n ∧ ∀ f ∈ fl, o ≤ f.offset ∧ f.offset + P.cellsOf f.type ≤ n
  | [], o, n, h => by simp [contig] at h; subst h; simp
  | f :: fs, o, n, h => by
    simp only [contig] at h
    split at h
    · rename_i hf
      obtain ⟨h1, h2⟩ := contig_ge fs h
      refine ⟨by omega, fun g hg => ?_⟩
      rcases List.mem_cons.1 hg with rfl | hg
      · omega
      · have := h2 g hg; omega
    · cases h

theorem fields_open (cs : List Value) : ∀ (fl : List Field) {o n : Nat}, contig P o fl = some n → n ≤ cs.length → (∀ f ∈ fl, ∃ ys, RepC w ys ((cs.drop f.offset).take (P.cellsOf f.type)) ∧ Val P f.type ys) →
    ∃ xs, RepC w xs ((cs.drop o).take (n - o)) ∧ ∀ f ∈ fl, Val P f.type ((xs.drop (f.offset - o)).take (P.cellsOf f.type))
  | [], o, n, h, _, _ => by
    simp [contig] at h; subst h
    exact ⟨[], ⟨by simp, fun i x u hx => by simp at hx⟩, by simp⟩
  | f :: fs, o, n, h, hn, hf => by
    simp only [contig] at h
    split at h
    · rename_i hfo
      obtain ⟨h1, h2⟩ := contig_ge fs h
      obtain ⟨ys, ⟨hyl, hyr⟩, hyv⟩ := hf f (by simp)
      obtain ⟨zs, ⟨hzl, hzr⟩, hzv⟩ := fields_open cs fs h hn fun g hg => hf g (by simp [hg])
      rw [hfo] at hyl hyr
      have hyl' : ys.length = P.cellsOf f.type := by rw [hyl]; simp; omega
      have hzl' : zs.length = n - (o + P.cellsOf f.type) := by rw [hzl]; simp; omega
      refine ⟨ys ++ zs, ⟨by simp [hyl', hzl']; omega, fun i x u hx hu => ?_⟩, fun g hg => ?_⟩
      · have hu' : cs[o + i]? = some u := by
          rw [List.getElem?_take] at hu
          split at hu
          · simpa using hu
          · cases hu
        by_cases hi : i < ys.length
        · rw [List.getElem?_append_left hi] at hx
          refine hyr i x u hx ?_
          rw [List.getElem?_take, if_pos (by omega)]
          simpa using hu'
        · rw [List.getElem?_append_right (by omega)] at hx
          refine hzr (i - ys.length) x u hx ?_
          have hlt := (List.getElem?_eq_some_iff.1 hx).1
          rw [List.getElem?_take, if_pos (by omega)]
          simp only [List.getElem?_drop]
          rw [← hu']
          congr 1
          omega
      · rcases List.mem_cons.1 hg with rfl | hg
        · rw [hfo, Nat.sub_self, List.drop_zero, List.take_left' hyl']
          exact hyv
        · have := h2 g hg
          have e : (ys ++ zs).drop (g.offset - o) = zs.drop (g.offset - (o + P.cellsOf f.type)) := by
            rw [show g.offset - o = ys.length + (g.offset - (o + P.cellsOf f.type)) by omega, ← List.drop_drop, List.drop_left]
          rw [e]
          exact hzv g hg
    · cases h

theorem add_zero_ (a : Addr) : a.add 0 = a := rfl
theorem add_off (b o n : Nat) : (⟨b, o, none⟩ : Addr).add n = ⟨b, o + n, none⟩ := by
  unfold Addr.add
  split
  · rename_i h; rw [h]; rfl
  · rfl
theorem cell_one {t : TypeId} {a : Addr} {u : Value} (h : w.cell? a = some u) : a.spot = none := by
  unfold World.cell? at h
  split at h
  · split at h
    · cases h
    · rename_i hs; simpa using hs
  · cases h

theorem open_cells {S : List TypeId} (hS : plainB P S = true) : ∀ (fuel : Nat) {t : TypeId} {cs : List Value} {x : DataW H × List MemPlace}, t ∈ S → DataW.trod enc P w 0 sp held fuel t cs = some x → ∃ xs, RepC w xs cs ∧ Val P t xs := by
  intro fuel
  induction fuel with
  | zero => intro t cs x _ h; simp [DataW.trod] at h
  | succ fuel ih =>
    intro t cs x ht h
    have hS0 := hS
    unfold plainB at hS
    rw [List.all_eq_true] at hS
    have h1 := hS t ht
    have single : ∀ (u : Value), one u = true → RepC w [.v u] [u] := fun u hu => ⟨rfl, fun i x y hx hy => by
      cases i with
      | zero => simp at hx hy; subst hx; subst hy; exact ⟨.v _ _, hu⟩
      | succ i => simp at hx⟩
    split at h1
    · rename_i k hu
      obtain ⟨n, rfl, -, hw⟩ := DataW.trod_int hu h
      exact ⟨_, single _ rfl, .int hu hw⟩
    · rename_i hu
      obtain ⟨b, rfl, -⟩ := DataW.trod_bool hu h
      exact ⟨_, single _ rfl, .bool hu⟩
    · rename_i hu
      obtain ⟨s, rfl, -, hs⟩ := DataW.trod_string hu h
      exact ⟨_, single _ rfl, .str hu hs⟩
    · rename_i e hu
      simp only [Bool.and_eq_true, decide_eq_true_eq, List.contains_iff_mem] at h1
      obtain ⟨⟨_, he⟩, hpos⟩ := h1
      have wrap : ∀ (y : AV) (u : Value), one u = true → Rep w X0 (fun _ => {}) 0 y u → RepC w [y] [u] := fun y u h1 hu => ⟨rfl, fun i x z hx hz => by
        cases i with
        | zero => simp at hx hz; subst hx; subst hz; exact ⟨hu, h1⟩
        | succ i => simp at hx⟩
      rcases DataW.trod_slice hu h with ⟨rfl, -⟩ | ⟨a, len, cap, elems, rest, n, hn, rfl, -, _, hlc, hcap, hel, helems, -, -⟩
      · exact ⟨[.sl (P.cellsOf e) []], wrap _ _ rfl (.slE _ _ _ _), .sl hu (by simp) (by simp)⟩
      · obtain rfl : n = fuel := by omega
        by_cases hlen : len = 0
        · subst hlen
          exact ⟨[.sl (P.cellsOf e) []], wrap _ _ rfl (.slE _ _ _ _), .sl hu (by simp) (by simp)⟩
        · have hrow : ∀ i, i < len → ∃ (cs : List Value) (xs : List AV), w.cells? 0 (a.add (i * P.cellsOf e)) (P.cellsOf e) = some cs ∧ RepC w xs cs ∧ Val P e xs := by
            intro i hi
            have hg := helems i hi
            rw [List.getElem?_eq_getElem (by omega)] at hg
            cases hc : w.cells? 0 (a.add (i * P.cellsOf e)) (P.cellsOf e) with
            | none => rw [hc] at hg; cases hg
            | some cs =>
              rw [hc] at hg
              obtain ⟨xs, h1, h2⟩ := ih he hg
              exact ⟨cs, xs, rfl, h1, h2⟩
          have hcell : ∀ i cs, w.cells? 0 (a.add (i * P.cellsOf e)) (P.cellsOf e) = some cs → cs.length = P.cellsOf e ∧ ∀ j, j < P.cellsOf e → w.cell? ((a.add (i * P.cellsOf e)).add j) = cs[j]? := by
            intro i cs hc
            obtain ⟨_, h2, h3⟩ := World.cells?_some hc
            exact ⟨h2, h3⟩
          obtain ⟨f, hf⟩ : ∃ f : Nat → List Value × List AV, ∀ i, i < len → w.cells? 0 (a.add (i * P.cellsOf e)) (P.cellsOf e) = some (f i).1 ∧ RepC w (f i).2 (f i).1 ∧ Val P e (f i).2 := by
            refine ⟨fun i => if hi : i < len then (Classical.choose (hrow i hi), Classical.choose (Classical.choose_spec (hrow i hi))) else ([], []), fun i hi => ?_⟩
            simp only [dif_pos hi]
            exact Classical.choose_spec (Classical.choose_spec (hrow i hi))
          have hfl : ∀ i, i < len → (f i).2.length = P.cellsOf e := fun i hi => (hf i hi).2.1.1.trans (hcell i _ (hf i hi).1).1
          have hspot : a.spot = none := by
            have h0 := (hcell 0 _ (hf 0 (by omega)).1).2 0 hpos
            rw [List.getElem?_eq_getElem (by rw [(hcell 0 _ (hf 0 (by omega)).1).1]; exact hpos)] at h0
            simp only [Nat.zero_mul, add_zero_] at h0
            exact cell_one (t := t) h0
          have hblk : a.block < w.heap.size := by
            have := World.cells?_block (hf 0 (by omega)).1 hpos
            simpa only [Nat.zero_mul, add_zero_] using this
          obtain ⟨b, o, spot⟩ := a
          simp only at hspot hblk
          subst hspot
          have hget : ∀ i x, ((List.range len).map fun i => (f i).2)[i]? = some x → i < len ∧ x = (f i).2 := by
            intro i x hx
            simp only [List.getElem?_map, List.getElem?_range] at hx
            by_cases hi : i < len
            · simp [hi] at hx; exact ⟨hi, hx.symm⟩
            · simp [hi] at hx
          have hc : ∀ (i j : Nat) (x : List AV) (y : AV), ((List.range len).map fun i => (f i).2)[i]? = some x → x[j]? = some y → w.cell? ⟨b, o + i * P.cellsOf e + j, none⟩ = some ((f i).1.getD j default) ∧ Rep w X0 (fun _ => {}) 0 y ((f i).1.getD j default) ∧ one ((f i).1.getD j default) = true := by
            intro i j x y hx hy
            obtain ⟨hi, rfl⟩ := hget i x hx
            have hj : j < (f i).2.length := (List.getElem?_eq_some_iff.1 hy).1
            have hl := hcell i _ (hf i hi).1
            have hj' : j < (f i).1.length := by rw [hl.1, ← hfl i hi]; exact hj
            have hgd : (f i).1[j]? = some ((f i).1.getD j default) := by simp [List.getD_eq_getElem?_getD, hj']
            refine ⟨?_, (hf i hi).2.1.2 j y _ hy hgd⟩
            have := hl.2 j (by rw [← hfl i hi]; exact hj)
            rw [hgd, add_off, add_off] at this
            exact this
          refine ⟨[.sl (P.cellsOf e) ((List.range len).map fun i => (f i).2)], wrap _ _ rfl ?_, .sl hu (by simp; omega) fun x hx => ?_⟩
          · have := Rep.slN (w := w) (M := X0) (ρ := fun _ => {}) 0 (P.cellsOf e) ((List.range len).map fun i => (f i).2) b o cap (fun i j => (f i).1.getD j default) (fun h => h.elim) hblk (by simpa using hlc)
              (fun x hx => by obtain ⟨i, hi, rfl⟩ := List.mem_map.1 hx; exact hfl i (by simpa using hi)) (fun i j x y hx hy => ⟨(hc i j x y hx hy).1, (hc i j x y hx hy).2.2⟩) (fun i j x y hx hy => (hc i j x y hx hy).2.1)
            simpa using this
          · obtain ⟨i, hi, rfl⟩ := List.mem_map.1 hx
            exact (hf i (by simpa using hi)).2.2
    · rename_i fs hu
      simp only [Bool.and_eq_true, decide_eq_true_eq, List.all_eq_true, List.contains_iff_mem] at h1
      obtain ⟨ys, n, hn, -, hcl, hyl, hy⟩ := DataW.trod_struct hu h
      obtain rfl : n = fuel := by omega
      obtain ⟨xs, hxr, hxv⟩ := fields_open (w := w) cs fs.toList h1.1 (by omega) fun f hf => by
        obtain ⟨i, hi, hif⟩ := List.mem_iff_getElem.1 hf
        have hg := hy i f (by rw [← hif]; simp at hi; simp [hi])
        rw [List.getElem?_eq_getElem (by simp at hi; omega)] at hg
        exact ih (h1.2 f hf) hg
      rw [Nat.sub_zero, List.drop_zero, List.take_of_length_le (by omega)] at hxr
      refine ⟨xs, hxr, .st hu (by rw [hxr.1]; exact hcl) fun i f hf => ?_⟩
      have := hxv f (by rw [← Array.getElem?_toList] at hf; exact List.mem_of_getElem? hf)
      simpa using this
    · cases h1

/-- An argument of type t. -/
def topV (P : Program) (t : TypeId) (xs : List AV) : AV := match P.underlying t with | some (.struct _) => .agg xs | _ => xs.headD .any

theorem open_val {S : List TypeId} (hS : plainB P S = true) {t : TypeId} {v : Value} {d : DataW H} {ps : List MemPlace} {r : Reach} {base : Nat} (ht : t ∈ S) (hval : Value.okWide P w r base t v) (h : DataW.Trod enc P w 0 sp held t v d ps) :
    ∃ xs, Val P t xs ∧ Rep w X0 (fun _ => {}) 0 (topV P t xs) v := by
  obtain ⟨fuel, hf⟩ := h
  obtain ⟨xs, hx, hv⟩ := open_cells hS fuel ht hf
  refine ⟨xs, hv, ?_⟩
  unfold plainB at hS
  rw [List.all_eq_true] at hS
  have h1 := hS t ht
  have single : v.cells = #[v] → (∀ fs, P.underlying t ≠ some (.struct fs)) → Rep w X0 (fun _ => {}) 0 (topV P t xs) v := by
    intro hc hn
    have e : topV P t xs = xs.headD .any := by
      unfold topV
      split
      · rename_i fs hu; exact absurd hu (hn fs)
      · rfl
    rw [e]
    rw [hc] at hx
    obtain ⟨hl, hr⟩ := hx
    match xs, hl with
    | [x], _ => exact (hr 0 x v rfl rfl).1
  split at h1
  · rename_i k hu
    obtain ⟨n, rfl⟩ := okWide_int hu hval
    exact single rfl fun fs => by rw [hu]; simp
  · rename_i hu
    obtain ⟨n, rfl⟩ := okWide_bool hu hval
    exact single rfl fun fs => by rw [hu]; simp
  · rename_i hu
    obtain ⟨n, rfl⟩ := okWide_string hu hval
    exact single rfl fun fs => by rw [hu]; simp
  · rename_i e hu
    obtain ⟨a, len, cap, rfl⟩ := okWide_slice hu hval
    exact single rfl fun fs => by rw [hu]; simp
  · rename_i fs hu
    obtain ⟨cs, rfl, hsz⟩ := okWide_struct hu hval
    have e : topV P t xs = .agg xs := by unfold topV; rw [hu]
    rw [e]
    exact .agg _ _ _ (by rw [hx.1]; simp [Value.cells]) fun i x u hxi hui => (hx.2 i x u hxi (by simpa [Value.cells] using hui)).1
  · cases h1

/-- Arguments of these types. -/
def ValAll (P : Program) : List TypeId → List (List AV) → Prop
  | [], [] => True
  | t :: ts, xs :: l => Val P t xs ∧ ValAll P ts l
  | _, _ => False
def topAll (P : Program) : List TypeId → List (List AV) → List AV
  | t :: ts, xs :: l => topV P t xs :: topAll P ts l
  | _, _ => []

theorem open_all {S : List TypeId} (hS : plainB P S = true) : ∀ {ts : List TypeId} {vs : List Value} {ds : List (DataW H)} {ps : List MemPlace}, (∀ t ∈ ts, t ∈ S) → (∀ (j : Nat) t v, ts[j]? = some t → vs[j]? = some v → ∃ r base, Value.okWide P w r base t v) →
    DataW.TrodAll enc P w 0 sp held ts vs ds ps → ∃ l, ValAll P ts l ∧ (topAll P ts l).length = vs.length ∧ ∀ (i : Nat) (x : AV) (u : Value), (topAll P ts l)[i]? = some x → vs[i]? = some u → Rep w X0 (fun _ => {}) 0 x u
  | [], vs, ds, ps, _, _, h => by
    obtain ⟨rfl, rfl, rfl⟩ := trodAll_nil h
    exact ⟨[], trivial, rfl, fun i x u hx => by simp [topAll] at hx⟩
  | t :: ts, vs, ds, ps, hts, hv, h => by
    obtain ⟨v, vs1, d, ds1, a, b, rfl, rfl, rfl, h1, h2⟩ := trodAll_cons h
    obtain ⟨r, base, hok⟩ := hv 0 t v rfl rfl
    obtain ⟨xs, hx, hr⟩ := open_val hS (hts t (by simp)) hok h1
    obtain ⟨l, hl, hlen, hrep⟩ := open_all hS (fun t ht => hts t (by simp [ht])) (fun j t v ht hv' => hv (j + 1) t v (by simpa using ht) (by simpa using hv')) h2
    refine ⟨xs :: l, ⟨hx, hl⟩, by simp [topAll, hlen], fun i x u hxi hui => ?_⟩
    cases i with
    | zero => simp [topAll] at hxi hui; subst hxi; subst hui; exact hr
    | succ i => exact hrep i x u (by simpa [topAll] using hxi) (by simpa using hui)

theorem stays_all (hl : laidOutB P = true) {w' : World} {sp' : Nat → Bool} : ∀ {ts : List TypeId} {vs : List Value} {ds : List (DataW H)} {ps : List MemPlace}, (∀ t ∈ ts, P.readableRec t = true ∧ t < P.types.size) →
    DataW.TrodAll enc P w 0 (fun _ => true) true ts vs ds ps → (∀ p ∈ ps, w.sameAt w' p) → (∀ p ∈ ps, sp' p.block = true) → DataW.TrodAll enc P w' 0 sp' true ts vs ds ps
  | [], vs, ds, ps, _, h, _, _ => by
    obtain ⟨rfl, rfl, rfl⟩ := trodAll_nil h
    exact trodAll_mk0
  | t :: ts, vs, ds, ps, hts, h, hsame, hs => by
    obtain ⟨v, vs1, d, ds1, a, b, rfl, rfl, rfl, h1, h2⟩ := trodAll_cons h
    have ht := hts t (by simp)
    exact ⟨a, b, WideElems.Trod_stays hl ht.1 ht.2 h1 (fun p hp => hsame p (by simp [hp])) (fun p hp => hs p (by simp [hp])), stays_all hl (fun t ht => hts t (by simp [ht])) h2 (fun p hp => hsame p (by simp [hp])) (fun p hp => hs p (by simp [hp])), rfl⟩
end

/-- The package variables of glbs are ints. -/
def intVars (P : Program) : Bool := glbs.all fun g => decide (g < P.globals.size) &&
  match ((begin P (fun _ _ => 0) default).world.heap[g]?).bind Obj.row? with
  | some (zero, t) => zero.size == 1 && P.buildable t && P.cellTypes P.depth t == some [t] && (match P.underlying t with | some (.int .i64) => true | _ => false)
  | none => false

theorem glbs_shaped {P : Program} {w : World} (h : intVars P = true) (hsh : w.ShapedOpen P) : ∀ g ∈ glbs, ∃ m, w.cell? ⟨g, 0, none⟩ = some (.int .i64 m) := by
  intro g hg
  have h1 := List.all_eq_true.1 h g hg
  rw [Bool.and_eq_true, decide_eq_true_eq] at h1
  obtain ⟨h1, h2⟩ := h1
  split at h2
  · rename_i zero t h0
    simp only [Bool.and_eq_true, beq_iff_eq] at h2
    obtain ⟨⟨⟨h3, h4⟩, h5⟩, h6⟩ := h2
    refine Go.Proofs.cell_of_shapedOpen_int hsh h1 h0 h3 h4 h5 ?_
    split at h6
    · assumption
    · cases h6
  · cases h2

/-- A law: what holds of every call of plain arguments is what the row says. -/
theorem law_lifted {C : Checked} {k : FuncId} {fn : Func} {s : ChangeSpec} {conds : List PathCond} {tb : TypeId} {S : List TypeId} {os : Os} {H : Type} {enc : TypeId × Value → H} {ts : List TypeId}
    (own : ownKnob C.prog.godebug = none) (started : os.Started) (noInit : C.prog.inits.idxOf? k = none) (hfn : C.prog.funcs[k]? = some fn)
    (witness : ∃ (w : World) (tape : Tape) (i : Input), w.os = os ∧ (w.forCall tape i).Shaped C.prog ∧ i.vars = [] ∧ Input.okWide C.prog (w.forCall tape i) .any w.heap.size k i ∧
      s.pre6 enc C.prog fn conds false (w.forCall tape i).memory i.args ∧ (({} : Assume)).holds C.prog (lone (Frame.enter C.prog k i.args .normal) [] (w.forCall tape i)))
    (hv : s.vars = []) (hts : fn.params.toList = ts) (hf : fn.resultTypes = #[tb]) (htb : C.prog.underlying tb = some .bool) (hs : ∀ ds : List (DataW H), ds.length = ts.length → s.fn H ds = ⟨[.lit (.bool true)], ds, []⟩)
    (hgl : intVars C.prog = true) (hl : laidOutB C.prog = true) (hr : ts.all (fun t => C.prog.readableRec t && decide (t < C.prog.types.size) && S.contains t) = true) (hS : plainB C.prog S = true)
    (law : ∀ l, ValAll C.prog ts l → ∃ R : AHeap → Prop, ACall C.prog k (topAll C.prog ts l) [] fun x H' => x = bool true ∧ R H') :
    ReturnsInHanded {} C os k .any (s.pre6 enc C.prog fn conds false) (s.post enc C.prog fn false true false false) := by
  refine returnsInHanded_of_change_shaped own started noInit hfn witness ?_
  intro W base args ds gs before hval hW hcnd _ hsh _
  have hW' := hW
  obtain ⟨p, q, hA, hV, rfl, hfz, hnd⟩ := hW
  rw [hv] at hV
  obtain ⟨rfl, rfl⟩ := trodVars_none hV
  have hall : ∀ t ∈ ts, C.prog.readableRec t = true ∧ t < C.prog.types.size ∧ t ∈ S := fun t ht => by
    have := List.all_eq_true.1 hr t ht
    simpa [and_assoc] using this
  rw [hts] at hA
  obtain ⟨l, hl1, hl2, hl3⟩ := open_all hS (fun t ht => (hall t ht).2.2) (fun j t v ht hvv => ⟨_, _, hval j t v (by rw [← Array.getElem?_toList, hts]; exact ht) (by rw [← Array.getElem?_toList]; exact hvv)⟩) hA
  obtain ⟨R, hlaw⟩ := law l hl1
  have hrep : RepL W X0 (fun _ => {}) 0 (topAll C.prog ts l) args := ⟨by simpa using hl2, fun i x u hx hu => hl3 i x u hx (by rw [Array.getElem?_toList]; exact hu)⟩
  refine (hlaw.top hrep (glbs_shaped hgl hsh)).mono fun e W' ⟨v, x, H', ρ', he, hx, hrx, hb⟩ => ?_
  obtain ⟨rfl, _⟩ := hx
  have hvv := rep_v hrx
  subst hvv
  subst he
  have hlt : ∀ x ∈ p ++ [], x.block < W.heap.size := fun x hx => hW'.lt x hx
  have hdl : ds.length = ts.length := by
    have aux : ∀ {ts : List TypeId} {vs : List Value} {ds : List (DataW H)} {ps : List MemPlace}, DataW.TrodAll enc C.prog W 0 (fun _ => true) true ts vs ds ps → ds.length = ts.length := by
      intro ts
      induction ts with
      | nil => intro vs ds ps h; obtain ⟨_, rfl, _⟩ := trodAll_nil h; rfl
      | cons t ts ih => intro vs ds ps h; obtain ⟨v, vs1, d, ds1, a, b, rfl, rfl, rfl, h1, h2⟩ := trodAll_cons h; simp [ih h2]
    exact aux hA
  refine ⟨_, rfl, post_law hW' hv hf htb (hs ds hdl) (fun sp hsp => ?_) hb⟩
  rw [hts, List.append_nil]
  exact stays_all hl (fun t ht => ⟨(hall t ht).1, (hall t ht).2.1⟩) hA (fun x hx => hb.same (hlt x (by simpa using hx))) (fun x hx => hsp x (by simpa using hx))
end Go.Ax

/- The steps of a run, as rules for rewriting. -/
namespace Go.Ax
open Go Go.RowKit

section
variable {P : Program} {k : List Item} {Q : Out → Env → AHeap → Prop} {e : Env} {H : AHeap} {d : Option Nat} {l : List LO}

/-- On with the value of an operation. -/
def goK (P : Program) (r : Res) (e : Env) (d : Option Nat) (l : List LO) (k : List Item) (Q : Out → Env → AHeap → Prop) : Prop :=
  r.ok ∧ runK P (.ops l :: k) Q .normal (ups e d r.x) r.H
def opK (P : Program) (op : LOp) (e : Env) (H : AHeap) (d : Option Nat) (l : List LO) (k : List Item) (Q : Out → Env → AHeap → Prop) : Prop :=
  aop P op e H fun x H' => runK P (.ops l :: k) Q .normal (ups e d x) H'
/-- A call, and on with what it hands back. -/
def callK (P : Program) (f : AV) (args : List AV) (H : AHeap) (e : Env) (d : Option Nat) (l : List LO) (k : List Item) (Q : Out → Env → AHeap → Prop) : Prop :=
  acall P f args H fun x H' => runK P (.ops l :: k) Q .normal (ups e d x) H'
def callF (P : Program) (f : FuncId) (args : List AV) (H : AHeap) (e : Env) (d : Option Nat) (l : List LO) (k : List Item) (Q : Out → Env → AHeap → Prop) : Prop :=
  ACall P f args H fun x H' => runK P (.ops l :: k) Q .normal (ups e d x) H'
def nilK (P : Program) (neg : Bool) (x : AV) (e : Env) (H : AHeap) (d : Option Nat) (l : List LO) (k : List Item) (Q : Out → Env → AHeap → Prop) : Prop :=
  slcK H x ∧ ∀ b, nilOk x b → runK P (.ops l :: k) Q .normal (ups e d (bool (b ^^ neg))) H
def gK (P : Program) (x : AV) (want : Bool) (op : LOp) (e : Env) (t : Nat) (H : AHeap) (d : Option Nat) (l : List LO) (k : List Item) (Q : Out → Env → AHeap → Prop) : Prop :=
  match x with
  | .v (.bool b) => if b = true then (if want = true then opK P op (up e t (bool true)) H d l k Q else runK P (.ops l :: k) Q .normal (ups (up e t (bool true)) d undefA) H)
      else (if want = true then runK P (.ops l :: k) Q .normal (ups (up e t (bool false)) d undefA) H else opK P op (up e t (bool false)) H d l k Q)
  | .v (.tuple _) => runK P (.ops l :: k) Q .normal (ups e d undefA) H
  | _ => False
def pickK (P : Program) (c a b : AV) (e : Env) (H : AHeap) (d : Option Nat) (l : List LO) (k : List Item) (Q : Out → Env → AHeap → Prop) : Prop :=
  match c with
  | .v (.bool t) => if t = true then runK P (.ops l :: k) Q .normal (ups e d a) H else runK P (.ops l :: k) Q .normal (ups e d b) H
  | _ => False
def cK (P : Program) (v : AV) (x : LX) (a b : LCode) (e : Env) (H : AHeap) (k : List Item) (Q : Out → Env → AHeap → Prop) : Prop :=
  match v with
  | .v (.bool t) => if t = true then runK P (.code a :: k) Q .normal (markX e x true) H else runK P (.code b :: k) Q .normal (markX e x false) H
  | _ => False

@[push_cast] theorem goK_mk (p : Prop) (x : AV) (H' : AHeap) : goK P ⟨p, x, H'⟩ e d l k Q = (p ∧ runK P (.ops l :: k) Q .normal (ups e d x) H') := rfl
@[push_cast] theorem also_mk (p q : Prop) (x : AV) (H' : AHeap) : Res.also p ⟨q, x, H'⟩ = ⟨p ∧ q, x, H'⟩ := rfl

@[push_cast] theorem rk_nil (o : Out) : runK P [] Q o e H = Q o e H := rfl
@[push_cast] theorem rk_skip : runK P (.code .skip :: k) Q .normal e H = runK P k Q .normal e H := rfl
@[push_cast] theorem rk_seq (a b : LCode) : runK P (.code (.seq a b) :: k) Q .normal e H = runK P (.code a :: .code b :: k) Q .normal e H := by
  show awp P a e H _ = awp P a e H _
  congr 1
  funext o e' H'
  cases o <;> rfl
@[push_cast] theorem rk_block (id : Nat) (c : LCode) : runK P (.code (.block id c) :: k) Q .normal e H = runK P (.code c :: .blk id :: k) Q .normal e H := by
  show awp P c e H _ = awp P c e H _
  rfl
@[push_cast] theorem rk_code_pan (c : LCode) (v : Value) : runK P (.code c :: k) Q (.pan v) e H = runK P k Q (.pan v) e H := rfl
@[push_cast] theorem rk_blk_pan (id : Nat) (v : Value) : runK P (.blk id :: k) Q (.pan v) e H = runK P k Q (.pan v) e H := rfl
@[push_cast] theorem rk_lp_pan (R : Env → AHeap → Prop) (v : Value) : runK P (.lp R :: k) Q (.pan v) e H = runK P k Q (.pan v) e H := rfl
@[push_cast] theorem rk_ops_pan (l : List LO) (v : Value) : runK P (.ops l :: k) Q (.pan v) e H = runK P k Q (.pan v) e H := rfl
@[push_cast] theorem rk_exit (id : Nat) : runK P (.code (.exit id) :: k) Q .normal e H = runK P k Q (.exit id) e H := rfl
@[push_cast] theorem rk_ret : runK P (.code .ret :: k) Q .normal e H = runK P k Q .ret e H := rfl
@[push_cast] theorem rk_code_exit (c : LCode) (id : Nat) : runK P (.code c :: k) Q (.exit id) e H = runK P k Q (.exit id) e H := rfl
@[push_cast] theorem rk_code_ret (c : LCode) : runK P (.code c :: k) Q .ret e H = runK P k Q .ret e H := rfl
@[push_cast] theorem rk_blk : ∀ (id : Nat), runK P (.blk id :: k) Q .normal e H = runK P k Q .normal e H := fun _ => rfl
@[push_cast] theorem rk_blk_exit (id j : Nat) : runK P (.blk id :: k) Q (.exit j) e H = if j = id then runK P k Q .normal e H else runK P k Q (.exit j) e H := rfl
@[push_cast] theorem rk_blk_ret (id : Nat) : runK P (.blk id :: k) Q .ret e H = runK P k Q .ret e H := rfl
@[push_cast] theorem rk_lp (R : Env → AHeap → Prop) : runK P (.lp R :: k) Q .normal e H = R e H := rfl
@[push_cast] theorem rk_lp_exit (R : Env → AHeap → Prop) (j : Nat) : runK P (.lp R :: k) Q (.exit j) e H = runK P k Q (.exit j) e H := rfl
@[push_cast] theorem rk_lp_ret (R : Env → AHeap → Prop) : runK P (.lp R :: k) Q .ret e H = runK P k Q .ret e H := rfl
@[push_cast] theorem rk_ops (l : List LO) : runK P (.code (.ops l) :: k) Q .normal e H = runK P (.ops l :: k) Q .normal e H := rfl
@[push_cast] theorem rk_opsnil : runK P (.ops [] :: k) Q .normal e H = runK P k Q .normal e H := rfl
@[push_cast] theorem rk_op (op : LOp) : runK P (.ops (⟨d, none, op⟩ :: l) :: k) Q .normal e H = opK P op e H d l k Q := rfl
@[push_cast] theorem rk_opg (t : Nat) (want : Bool) (op : LOp) : runK P (.ops (⟨d, some (t, want), op⟩ :: l) :: k) Q .normal e H = gK P (e t) want op e t H d l k Q := by
  simp only [runK, aops, gK, opK]
  try (cases e t with
  | v x => cases x <;> rfl
  | _ => rfl)
@[push_cast] theorem rk_cond (x : LX) (a b : LCode) : runK P (.code (.cond x a b) :: k) Q .normal e H = cK P (ev e x) x a b e H k Q := by
  simp only [runK, awp, cK]
  cases ev e x with
  | v x => cases x <;> rfl
  | _ => rfl
@[push_cast] theorem cK_bool (t : Bool) (x : LX) (a b : LCode) : cK P (.v (.bool t)) x a b e H k Q = if t = true then runK P (.code a :: k) Q .normal (markX e x true) H else runK P (.code b :: k) Q .normal (markX e x false) H := rfl
@[push_cast] theorem gK_t (b : Bool) (op : LOp) (t : Nat) : gK P (.v (.bool b)) true op e t H d l k Q = if b = true then opK P op (up e t (bool true)) H d l k Q else runK P (.ops l :: k) Q .normal (ups (up e t (bool false)) d undefA) H := by simp [gK]
@[push_cast] theorem gK_f (b : Bool) (op : LOp) (t : Nat) : gK P (.v (.bool b)) false op e t H d l k Q = if b = true then runK P (.ops l :: k) Q .normal (ups (up e t (bool true)) d undefA) H else opK P op (up e t (bool false)) H d l k Q := by simp [gK]
@[push_cast] theorem gK_u (us : Array Value) (want : Bool) (op : LOp) (t : Nat) : gK P (.v (.tuple us)) want op e t H d l k Q = runK P (.ops l :: k) Q .normal (ups e d undefA) H := rfl

@[push_cast] theorem opK_mv (x : LX) : opK P (.mv x) e H d l k Q = runK P (.ops l :: k) Q .normal (ups e d (ev e x)) H := by simp [opK, aop, ares]
@[push_cast] theorem opK_pick (c a b : LX) : opK P (.pick c a b) e H d l k Q = pickK P (ev e c) (ev e a) (ev e b) e H d l k Q := by
  simp only [opK, aop, pickK]
  cases ev e c with
  | v x => cases x <;> rfl
  | _ => rfl
@[push_cast] theorem pickK_b (t : Bool) (a b : AV) : pickK P (.v (.bool t)) a b e H d l k Q = if t = true then runK P (.ops l :: k) Q .normal (ups e d a) H else runK P (.ops l :: k) Q .normal (ups e d b) H := rfl
@[push_cast] theorem opK_allocb (t : TypeId) (zs : List AV) : opK P (.allocb t zs) e H d l k Q = goK P ⟨isNilP (zs.headD .any) = true ∧ c1s zs = true, .ptr H.length 0 0, H ++ [.box (.bnil t :: zs.drop 1)]⟩ e d l k Q := rfl
@[push_cast] theorem opK_alloc (zs : List AV) : opK P (.alloc zs) e H d l k Q = goK P ⟨c1s zs = true, .ptr H.length 0 0, H ++ [.box zs]⟩ e d l k Q := rfl
@[push_cast] theorem opK_box (imm : Bool) (x : LX) : opK P (.box imm x) e H d l k Q = goK P (rBox imm (ev e x) H) e d l k Q := rfl
@[push_cast] theorem opK_build (zs : List AV) (ps : List (Nat × Nat × LX)) : opK P (.build zs ps) e H d l k Q = goK P (rBuild zs (ps.map fun (o, n, x) => (o, n, ev e x)) H) e d l k Q := rfl
@[push_cast] theorem opK_bsl (imm : Bool) (sz len : Nat) (zs : List AV) (ps : List (Nat × LX)) : opK P (.bsl imm sz len zs ps) e H d l k Q = goK P (rBsl imm sz len zs (ps.map fun (i, x) => (i, ev e x)) H) e d l k Q := rfl
@[push_cast] theorem opK_mkmap : opK P .mkmap e H d l k Q = goK P ⟨True, .om H.length 0, H ++ [.map 0 [] []]⟩ e d l k Q := rfl
@[push_cast] theorem keyV_v (x : Value) : keyV (.v x) = .v x := rfl
@[push_cast] theorem keyV_two (a b : Value) : keyV (.agg [.v a, .v b]) = .v (.agg #[a, b]) := rfl
@[push_cast] theorem opK_ins (kd : KD) (m x y : LX) : opK P (.ins kd m x y) e H d l k Q = goK P (rIns kd (ev e m) (keyV (ev e x)) (ev e y) H) e d l k Q := rfl
@[push_cast] theorem opK_load (ag : Bool) (n : Nat) (p : LX) : opK P (.load ag n p) e H d l k Q = goK P (rLoad ag n (ev e p) H) e d l k Q := rfl
@[push_cast] theorem opK_loadb (ag : Bool) (n : Nat) (p : LX) : opK P (.loadb ag n p) e H d l k Q = goK P (rLoadB ag n (ev e p) H) e d l k Q := rfl
@[push_cast] theorem opK_store (n : Nat) (p x : LX) : opK P (.store n p x) e H d l k Q = goK P (rStore n (ev e p) (ev e x) H) e d l k Q := rfl
@[push_cast] theorem opK_nilchk (x : LX) : opK P (.nilchk x) e H d l k Q = goK P (rNil (ev e x) H) e d l k Q := rfl
@[push_cast] theorem opK_bin (kd : KD) (op : BinOp) (x y : LX) : opK P (.bin kd op x y) e H d l k Q = goK P (rBin kd op (ev e x) (ev e y) H) e d l k Q := rfl
@[push_cast] theorem opK_not (x : LX) : opK P (.not x) e H d l k Q = goK P (rNot (ev e x) H) e d l k Q := rfl
@[push_cast] theorem opK_neg (x : LX) : opK P (.neg x) e H d l k Q = goK P (rNeg (ev e x) H) e d l k Q := rfl
@[push_cast] theorem opK_conv (c : Cv) (x : LX) : opK P (.conv c x) e H d l k Q = goK P (rConv c (ev e x) H) e d l k Q := rfl
@[push_cast] theorem opK_mkfn (f : Fn) (a b : List LX) : opK P (.mkfn f a b) e H d l k Q = goK P ⟨True, .fn f (a.map (ev e)) (b.map (ev e)), H⟩ e d l k Q := rfl
@[push_cast] theorem opK_msl (sz bytes : Nat) (zs : List AV) (len cap : LX) : opK P (.msl sz bytes zs len cap) e H d l k Q = goK P (rMsl sz bytes zs (ev e len) (ev e cap) H) e d l k Q := rfl
@[push_cast] theorem opK_slice (lk : LK) (n : Nat) (x : LX) (lo hi : Option LX) : opK P (.slice lk n x lo hi) e H d l k Q = goK P (rSlice lk n (ev e x) (lo.map (ev e)) (hi.map (ev e)) H) e d l k Q := rfl
@[push_cast] theorem opK_slicev (lk : LK) (n : Nat) (x : LX) (lo hi : Option LX) : opK P (.slicev lk n x lo hi) e H d l k Q = goK P (rSliceV lk n (ev e x) (lo.map (ev e)) (hi.map (ev e)) H) e d l k Q := rfl
@[push_cast] theorem opK_faddr (off : Nat) (p : LX) : opK P (.faddr off p) e H d l k Q = goK P (rFaddr off (ev e p) H) e d l k Q := rfl
@[push_cast] theorem opK_fld (ag : Bool) (off n : Nat) (x : LX) : opK P (.fld ag off n x) e H d l k Q = goK P (rFld ag off n (ev e x) H) e d l k Q := rfl
@[push_cast] theorem opK_iaddr (sz : Nat) (x i : LX) : opK P (.iaddr sz x i) e H d l k Q = goK P (rIaddr sz (ev e x) (ev e i) H) e d l k Q := rfl
@[push_cast] theorem opK_iaddrv (sz : Nat) (x i : LX) : opK P (.iaddrv sz x i) e H d l k Q = goK P (rIaddrV sz (ev e x) (ev e i) H) e d l k Q := rfl
@[push_cast] theorem opK_faddrb (off : Nat) (p : LX) : opK P (.faddrb off p) e H d l k Q = goK P (rFaddrB off (ev e p) H) e d l k Q := rfl
@[push_cast] theorem opK_idx (x i : LX) : opK P (.idx x i) e H d l k Q = goK P (rIdx (ev e x) (ev e i) H) e d l k Q := rfl
@[push_cast] theorem opK_look (kd : KD) (zero : AV) (ok : Bool) (m x : LX) : opK P (.look kd zero ok m x) e H d l k Q = goK P (rLook kd zero ok (ev e m) (keyV (ev e x)) H) e d l k Q := rfl
@[push_cast] theorem opK_ext (x : LX) (i : Nat) : opK P (.ext x i) e H d l k Q = goK P (rExt (ev e x) i H) e d l k Q := rfl
@[push_cast] theorem opK_len (lk : LK) (x : LX) : opK P (.len lk x) e H d l k Q = goK P (rLen lk (ev e x) H) e d l k Q := rfl
@[push_cast] theorem opK_append (sz bytes : Nat) (s x : LX) : opK P (.append sz bytes s x) e H d l k Q = goK P (rAppend sz bytes (ev e s) (ev e x) H) e d l k Q := rfl
@[push_cast] theorem opK_appendb (t : TypeId) (s x : LX) : opK P (.appendb t s x) e H d l k Q = goK P (rAppendB t (ev e s) (ev e x) H) e d l k Q := rfl
@[push_cast] theorem opK_copy (sz : Nat) (s x : LX) : opK P (.copy sz s x) e H d l k Q = goK P (rCopy sz (ev e s) (ev e x) H) e d l k Q := rfl
@[push_cast] theorem opK_min (x y : LX) : opK P (.min2 x y) e H d l k Q = goK P (rMin (ev e x) (ev e y) H) e d l k Q := rfl
@[push_cast] theorem opK_max (x y : LX) : opK P (.max2 x y) e H d l k Q = goK P (rMax (ev e x) (ev e y) H) e d l k Q := rfl
@[push_cast] theorem opK_frz (x : LX) : opK P (.frz x) e H d l k Q = goK P (rFrz (ev e x) H) e d l k Q := rfl
@[push_cast] theorem opK_frzf (sz off : Nat) (x : LX) : opK P (.frzf sz off x) e H d l k Q = goK P (rFrzf sz off (ev e x) H) e d l k Q := rfl
@[push_cast] theorem opK_own (sz : Nat) (x : LX) : opK P (.own sz x) e H d l k Q = goK P (rOwn sz (ev e x) H) e d l k Q := rfl
@[push_cast] theorem opK_bad : opK P .bad e H d l k Q = goK P (.no H) e d l k Q := rfl
@[push_cast] theorem opK_isnil (neg : Bool) (x : LX) : opK P (.isnil neg x) e H d l k Q = nilK P neg (ev e x) e H d l k Q := rfl
@[push_cast] theorem opK_call (f : LX) (args : List LX) : opK P (.call f args) e H d l k Q = callK P (ev e f) (args.map (ev e)) H e d l k Q := rfl
@[push_cast] theorem callK_fn (f : FuncId) (a b args : List AV) : callK P (.fn (.func f) a b) args H e d l k Q = callF P f (a ++ args ++ b) H e d l k Q := rfl

/-- A call of yield: a round. -/
def callY (P : Program) (f : Nat) (args : List AV) (H : AHeap) (e : Env) (d : Option Nat) (l : List LO) (k : List Item) (Q : Out → Env → AHeap → Prop) : Prop :=
  AYield P f args H fun x H' => runK P (.ops l :: k) Q .normal (ups e d x) H'
@[push_cast] theorem callK_yield (f : Nat) (args : List AV) : callK P (.v (.func (.yield f) #[] #[])) args H e d l k Q = callY P f args H e d l k Q := rfl
@[push_cast] theorem rk_bgn (l0 : Nat) (lr : Go.Loop) (e0 : Env) (r : Nat) : runK P (.bgn l0 lr e0 r :: k) Q .normal e H = (H[r]? = some (.lp l0 lr e0 .ready) ∧ runK P k Q .normal e (H.set r (.lp l0 lr e0 .busy))) := rfl
@[push_cast] theorem rndQ_normal (l0 : Nat) (lr : Go.Loop) (e0 : Env) (r : Nat) (R : AV → AHeap → Prop) : rndQ l0 lr e0 r R .normal e H = (H[r]? = some (.lp l0 lr e0 .busy) ∧ R (bool true) (H.set r (.lp l0 lr e0 .ready))) := rfl
@[push_cast] theorem rndQ_exit (l0 : Nat) (lr : Go.Loop) (e0 : Env) (r id : Nat) (R : AV → AHeap → Prop) : rndQ l0 lr e0 r R (.exit id) e H = (H[r]? = some (.lp l0 lr e0 .busy) ∧ R (bool false) (H.set r (.lp l0 lr e0 (.done (some id))))) := rfl
@[push_cast] theorem rndQ_ret (l0 : Nat) (lr : Go.Loop) (e0 : Env) (r : Nat) (R : AV → AHeap → Prop) : rndQ l0 lr e0 r R .ret e H = (H[r]? = some (.lp l0 lr e0 .busy) ∧ R (bool false) (H.set r (.lp l0 lr e0 (.done none)))) := rfl
@[push_cast] theorem upL_cons (p : Nat) (ps : List Nat) (x : AV) (xs : List AV) : upL e (p :: ps) (x :: xs) = upL (up e p x) ps xs := rfl
@[push_cast] theorem upL_nil (xs : List AV) : upL e [] xs = e := by cases xs <;> rfl

/-- A call that may end in a panic. -/
def callXK (P : Program) (f : AV) (args : List AV) (H : AHeap) (e : Env) (d : Option Nat) (k : List Item) (Q : Out → Env → AHeap → Prop) : Prop :=
  acallx P f args H (fun y H' => runK P k Q .normal (ups e d y) H') fun v H' => runK P k Q (.pan v) e H'
def callXF (P : Program) (f : FuncId) (args : List AV) (H : AHeap) (e : Env) (d : Option Nat) (k : List Item) (Q : Out → Env → AHeap → Prop) : Prop :=
  ACallX P f args H (fun y H' => runK P k Q .normal (ups e d y) H') fun v H' => runK P k Q (.pan v) e H'
@[push_cast] theorem rk_callp (f : LX) (args : List LX) : runK P (.code (.callp d f args) :: k) Q .normal e H = callXK P (ev e f) (args.map (ev e)) H e d k Q := rfl
@[push_cast] theorem callXK_fn (f : FuncId) (a b args : List AV) : callXK P (.fn (.func f) a b) args H e d k Q = callXF P f (a ++ args ++ b) H e d k Q := rfl
def panK (P : Program) (d : Nat) (t : TypeId) (x : Option Value) (e : Env) (H : AHeap) (k : List Item) (Q : Out → Env → AHeap → Prop) : Prop := ∃ v, x = some v ∧ runK P k Q (.pan (.iface t v)) (up e d (.v (.iface t v))) H
@[push_cast] theorem rk_pan (d0 : Nat) (t : TypeId) (x : LX) : runK P (.code (.pan d0 t x) :: k) Q .normal e H = panK P d0 t (valA (ev e x)) e H k Q := rfl
@[push_cast] theorem panK_some (d0 : Nat) (t : TypeId) (v : Value) : panK P d0 t (some v) e H k Q = runK P k Q (.pan (.iface t v)) (up e d0 (.v (.iface t v))) H := by simp [panK]
@[push_cast] theorem valA_v (v : Value) : valA (.v v) = some v := rfl
@[push_cast] theorem valA_agg (cs : List AV) : valA (.agg cs) = (valsA cs).map fun l => .agg l.toArray := rfl
@[push_cast] theorem valsA_nil : valsA [] = some [] := rfl
@[push_cast] theorem valsA_cons (v : Value) (l : List AV) : valsA (.v v :: l) = (valsA l).map (v :: ·) := rfl

/-- A call that computes x. -/
theorem callF_pure {f : FuncId} {args : List AV} {x : AV} (h : ACall P f args H fun y H' => y = x ∧ H' = H) (hk : runK P (.ops l :: k) Q .normal (ups e d x) H) : callF P f args H e d l k Q :=
  h.mono fun y H' ⟨hy, hH⟩ => by subst hy; subst hH; exact hk
theorem rk_loop {c : LCode} (I : Env → AHeap → Prop) (μ : Env → AHeap → Nat) (h0 : I e H)
    (h : ∀ e H, I e H → runK P (.code c :: .lp (fun e' H' => I e' H' ∧ μ e' H' < μ e H) :: k) Q .normal e H) : runK P (.code (.loop c) :: k) Q .normal e H := by
  refine ⟨I, μ, h0, fun e H hI => ?_⟩
  have h1 : awp P c e H (runK P (.lp (fun e' H' => I e' H' ∧ μ e' H' < μ e H) :: k) Q) := h e H hI
  have : (runK P (.lp (fun e' H' => I e' H' ∧ μ e' H' < μ e H) :: k) Q) = (fun o e' H' => match o with | .normal => I e' H' ∧ μ e' H' < μ e H | o => runK P k Q o e' H') := by
    funext o e' H'; cases o <;> rfl
  rw [this] at h1
  exact h1

/-! ### The same where an order is drawn -/
def gqK (P : Program) (r : Res) (e : Env) (H : AHeap) (d : Option Nat) (l tl : List LO) (k : List Item) (Q : Out → Env → AHeap → Prop) : Prop :=
  r.ok ∧ r.H = H ∧ runK P (.opq l tl :: k) Q .normal (ups e d r.x) H
def oqK (P : Program) (op : LOp) (e : Env) (H : AHeap) (d : Option Nat) (l tl : List LO) (k : List Item) (Q : Out → Env → AHeap → Prop) : Prop :=
  aopq P op e H fun x => runK P (.opq l tl :: k) Q .normal (ups e d x) H
def callQ (P : Program) (f : AV) (args : List AV) (H : AHeap) (e : Env) (d : Option Nat) (l tl : List LO) (k : List Item) (Q : Out → Env → AHeap → Prop) : Prop :=
  match f with
  | .fn (.func f) a b => ∃ x, APure P f (a ++ args ++ b) x ∧ clL (a ++ args ++ b) = true ∧ runK P (.opq l tl :: k) Q .normal (ups e d x) H
  | _ => False
def callQF (P : Program) (f : FuncId) (args : List AV) (H : AHeap) (e : Env) (d : Option Nat) (l tl : List LO) (k : List Item) (Q : Out → Env → AHeap → Prop) : Prop :=
  ∃ x, APure P f args x ∧ clL args = true ∧ runK P (.opq l tl :: k) Q .normal (ups e d x) H
def gqG (P : Program) (x : AV) (want : Bool) (op : LOp) (e : Env) (t : Nat) (H : AHeap) (d : Option Nat) (l tl : List LO) (k : List Item) (Q : Out → Env → AHeap → Prop) : Prop :=
  match x with
  | .v (.bool b) => if b = true then (if want = true then oqK P op (up e t (bool true)) H d l tl k Q else runK P (.opq l tl :: k) Q .normal (ups (up e t (bool true)) d undefA) H)
      else (if want = true then runK P (.opq l tl :: k) Q .normal (ups (up e t (bool false)) d undefA) H else oqK P op (up e t (bool false)) H d l tl k Q)
  | .v (.tuple _) => runK P (.opq l tl :: k) Q .normal (ups e d undefA) H
  | _ => False
variable {tl : List LO}
@[push_cast] theorem gqK_mk (p : Prop) (x : AV) (H' : AHeap) : gqK P ⟨p, x, H'⟩ e H d l tl k Q = (p ∧ H' = H ∧ runK P (.opq l tl :: k) Q .normal (ups e d x) H) := rfl
@[push_cast] theorem rk_draw (hd tl : List LO) : runK P (.code (.draw hd tl) :: k) Q .normal e H = runK P (.opq hd tl :: k) Q .normal e H := rfl
@[push_cast] theorem rk_opqnil : runK P (.opq [] tl :: k) Q .normal e H = runK P (.ops tl :: k) Q .normal e H := rfl
@[push_cast] theorem rk_oq (op : LOp) : runK P (.opq (⟨d, none, op⟩ :: l) tl :: k) Q .normal e H = oqK P op e H d l tl k Q := rfl
@[push_cast] theorem rk_oqg (t : Nat) (want : Bool) (op : LOp) : runK P (.opq (⟨d, some (t, want), op⟩ :: l) tl :: k) Q .normal e H = gqG P (e t) want op e t H d l tl k Q := by
  simp only [runK, aopsq, gqG, oqK]
  cases e t with
  | v x => cases x <;> rfl
  | _ => rfl
@[push_cast] theorem gqG_t (b : Bool) (op : LOp) (t : Nat) : gqG P (.v (.bool b)) true op e t H d l tl k Q = if b = true then oqK P op (up e t (bool true)) H d l tl k Q else runK P (.opq l tl :: k) Q .normal (ups (up e t (bool false)) d undefA) H := by simp [gqG]
@[push_cast] theorem gqG_f (b : Bool) (op : LOp) (t : Nat) : gqG P (.v (.bool b)) false op e t H d l tl k Q = if b = true then runK P (.opq l tl :: k) Q .normal (ups (up e t (bool true)) d undefA) H else oqK P op (up e t (bool false)) H d l tl k Q := by simp [gqG]
@[push_cast] theorem gqG_u (us : Array Value) (want : Bool) (op : LOp) (t : Nat) : gqG P (.v (.tuple us)) want op e t H d l tl k Q = runK P (.opq l tl :: k) Q .normal (ups e d undefA) H := rfl
@[push_cast] theorem oqK_mv (x : LX) : oqK P (.mv x) e H d l tl k Q = runK P (.opq l tl :: k) Q .normal (ups e d (ev e x)) H := by simp [oqK, aopq, ares]
@[push_cast] theorem oqK_pick (c a b : LX) : oqK P (.pick c a b) e H d l tl k Q = match ev e c with | .v (.bool t) => (if t = true then runK P (.opq l tl :: k) Q .normal (ups e d (ev e a)) H else runK P (.opq l tl :: k) Q .normal (ups e d (ev e b)) H) | _ => False := rfl
@[push_cast] theorem oqK_box (imm : Bool) (x : LX) : oqK P (.box imm x) e H d l tl k Q = gqK P (rBox imm (ev e x) H) e H d l tl k Q := rfl
@[push_cast] theorem oqK_build (zs : List AV) (ps : List (Nat × Nat × LX)) : oqK P (.build zs ps) e H d l tl k Q = gqK P (rBuild zs (ps.map fun (o, n, x) => (o, n, ev e x)) H) e H d l tl k Q := rfl
@[push_cast] theorem oqK_bsl (imm : Bool) (sz len : Nat) (zs : List AV) (ps : List (Nat × LX)) : oqK P (.bsl imm sz len zs ps) e H d l tl k Q = gqK P (rBsl imm sz len zs (ps.map fun (i, x) => (i, ev e x)) H) e H d l tl k Q := rfl
@[push_cast] theorem oqK_load (ag : Bool) (n : Nat) (p : LX) : oqK P (.load ag n p) e H d l tl k Q = gqK P (rLoad ag n (ev e p) H) e H d l tl k Q := rfl
@[push_cast] theorem oqK_loadb (ag : Bool) (n : Nat) (p : LX) : oqK P (.loadb ag n p) e H d l tl k Q = gqK P (rLoadB ag n (ev e p) H) e H d l tl k Q := rfl
@[push_cast] theorem oqK_nilchk (x : LX) : oqK P (.nilchk x) e H d l tl k Q = gqK P (rNil (ev e x) H) e H d l tl k Q := rfl
@[push_cast] theorem oqK_bin (kd : KD) (op : BinOp) (x y : LX) : oqK P (.bin kd op x y) e H d l tl k Q = gqK P (rBin kd op (ev e x) (ev e y) H) e H d l tl k Q := rfl
@[push_cast] theorem oqK_not (x : LX) : oqK P (.not x) e H d l tl k Q = gqK P (rNot (ev e x) H) e H d l tl k Q := rfl
@[push_cast] theorem oqK_neg (x : LX) : oqK P (.neg x) e H d l tl k Q = gqK P (rNeg (ev e x) H) e H d l tl k Q := rfl
@[push_cast] theorem oqK_conv (c : Cv) (x : LX) : oqK P (.conv c x) e H d l tl k Q = gqK P (rConv c (ev e x) H) e H d l tl k Q := rfl
@[push_cast] theorem oqK_mkfn (f : Fn) (a b : List LX) : oqK P (.mkfn f a b) e H d l tl k Q = gqK P ⟨True, .fn f (a.map (ev e)) (b.map (ev e)), H⟩ e H d l tl k Q := rfl
@[push_cast] theorem oqK_slice (lk : LK) (n : Nat) (x : LX) (lo hi : Option LX) : oqK P (.slice lk n x lo hi) e H d l tl k Q = gqK P (rSlice lk n (ev e x) (lo.map (ev e)) (hi.map (ev e)) H) e H d l tl k Q := rfl
@[push_cast] theorem oqK_slicev (lk : LK) (n : Nat) (x : LX) (lo hi : Option LX) : oqK P (.slicev lk n x lo hi) e H d l tl k Q = gqK P (rSliceV lk n (ev e x) (lo.map (ev e)) (hi.map (ev e)) H) e H d l tl k Q := rfl
@[push_cast] theorem oqK_faddr (off : Nat) (p : LX) : oqK P (.faddr off p) e H d l tl k Q = gqK P (rFaddr off (ev e p) H) e H d l tl k Q := rfl
@[push_cast] theorem oqK_fld (ag : Bool) (off n : Nat) (x : LX) : oqK P (.fld ag off n x) e H d l tl k Q = gqK P (rFld ag off n (ev e x) H) e H d l tl k Q := rfl
@[push_cast] theorem oqK_iaddr (sz : Nat) (x i : LX) : oqK P (.iaddr sz x i) e H d l tl k Q = gqK P (rIaddr sz (ev e x) (ev e i) H) e H d l tl k Q := rfl
@[push_cast] theorem oqK_iaddrv (sz : Nat) (x i : LX) : oqK P (.iaddrv sz x i) e H d l tl k Q = gqK P (rIaddrV sz (ev e x) (ev e i) H) e H d l tl k Q := rfl
@[push_cast] theorem oqK_faddrb (off : Nat) (p : LX) : oqK P (.faddrb off p) e H d l tl k Q = gqK P (rFaddrB off (ev e p) H) e H d l tl k Q := rfl
@[push_cast] theorem oqK_idx (x i : LX) : oqK P (.idx x i) e H d l tl k Q = gqK P (rIdx (ev e x) (ev e i) H) e H d l tl k Q := rfl
@[push_cast] theorem oqK_look (kd : KD) (zero : AV) (ok : Bool) (m x : LX) : oqK P (.look kd zero ok m x) e H d l tl k Q = gqK P (rLook kd zero ok (ev e m) (keyV (ev e x)) H) e H d l tl k Q := rfl
@[push_cast] theorem oqK_ext (x : LX) (i : Nat) : oqK P (.ext x i) e H d l tl k Q = gqK P (rExt (ev e x) i H) e H d l tl k Q := rfl
@[push_cast] theorem oqK_len (lk : LK) (x : LX) : oqK P (.len lk x) e H d l tl k Q = gqK P (rLen lk (ev e x) H) e H d l tl k Q := rfl
@[push_cast] theorem oqK_min (x y : LX) : oqK P (.min2 x y) e H d l tl k Q = gqK P (rMin (ev e x) (ev e y) H) e H d l tl k Q := rfl
@[push_cast] theorem oqK_max (x y : LX) : oqK P (.max2 x y) e H d l tl k Q = gqK P (rMax (ev e x) (ev e y) H) e H d l tl k Q := rfl
@[push_cast] theorem oqK_call (f : LX) (args : List LX) : oqK P (.call f args) e H d l tl k Q = callQ P (ev e f) (args.map (ev e)) H e d l tl k Q := by
  simp only [oqK, aopq, callQ]
  cases ev e f with
  | fn f a b => cases f <;> rfl
  | _ => rfl
@[push_cast] theorem callQ_fn (f : FuncId) (a b args : List AV) : callQ P (.fn (.func f) a b) args H e d l tl k Q = callQF P f (a ++ args ++ b) H e d l tl k Q := rfl
theorem callQF_pure {f : FuncId} {args : List AV} {x : AV} (h : APure P f args x) (hc : clL args = true) (hk : runK P (.opq l tl :: k) Q .normal (ups e d x) H) : callQF P f args H e d l tl k Q := ⟨x, h, hc, hk⟩

@[push_cast] theorem ups_some (t : Nat) (x : AV) : ups e (some t) x = up e t x := rfl
@[push_cast] theorem ups_none (x : AV) : ups e none x = e := rfl
@[push_cast] theorem up_same (t : Nat) (x : AV) : up e t x t = x := by simp [up]
@[push_cast] theorem up_at (t u : Nat) (x : AV) : up e t x u = if u = t then x else e u := rfl
@[push_cast] theorem ev_t (n : Nat) : ev e (.t n) = e n := rfl
@[push_cast] theorem ev_c (x : AV) : ev e (.c x) = x := rfl
@[push_cast] theorem markX_t (n : Nat) (b : Bool) : markX e (.t n) b = up e n (bool b) := rfl
@[push_cast] theorem markX_c (x : AV) (b : Bool) : markX e (.c x) b = e := rfl
@[push_cast] theorem retQX_ret (res : List RV) (R : AV → AHeap → Prop) (Z : Value → AHeap → Prop) : retQX res R Z .ret e H = ((resVs e H res).ok ∧ R (resVs e H res).x H) := rfl
@[push_cast] theorem retQX_normal (res : List RV) (R : AV → AHeap → Prop) (Z : Value → AHeap → Prop) : retQX res R Z .normal e H = ((resVs e H res).ok ∧ R (resVs e H res).x H) := rfl
@[push_cast] theorem retQX_pan (res : List RV) (R : AV → AHeap → Prop) (Z : Value → AHeap → Prop) (v : Value) : retQX res R Z (.pan v) e H = Z v H := rfl
@[push_cast] theorem retQ_ret (res : List RV) (R : AV → AHeap → Prop) : retQ res R .ret e H = ((resVs e H res).ok ∧ R (resVs e H res).x H) := rfl
@[push_cast] theorem retQ_normal (res : List RV) (R : AV → AHeap → Prop) : retQ res R .normal e H = ((resVs e H res).ok ∧ R (resVs e H res).x H) := rfl
@[push_cast] theorem resVs_1 (r : RV) : resVs e H [r] = resV e H r := rfl
@[push_cast] theorem resVs_2 (a b : RV) : resVs e H [a, b] = ⟨(resV e H a).ok ∧ (resV e H b).ok, .tup [(resV e H a).x, (resV e H b).x], H⟩ := by simp [resVs]
@[push_cast] theorem resVs_3 (a b c : RV) : resVs e H [a, b, c] = ⟨(resV e H a).ok ∧ (resV e H b).ok ∧ (resV e H c).ok, .tup [(resV e H a).x, (resV e H b).x, (resV e H c).x], H⟩ := by simp [resVs]
@[push_cast] theorem resVs_4 (a b c d : RV) : resVs e H [a, b, c, d] = ⟨(resV e H a).ok ∧ (resV e H b).ok ∧ (resV e H c).ok ∧ (resV e H d).ok, .tup [(resV e H a).x, (resV e H b).x, (resV e H c).x, (resV e H d).x], H⟩ := by simp [resVs]
@[push_cast] theorem resV_tmp (t : Nat) : resV e H (.tmp t) = ⟨True, e t, H⟩ := rfl
@[push_cast] theorem resV_cell (t : Nat) (ag : Bool) (n : Nat) : resV e H (.cell t ag n) = rLoad ag n (e t) H := rfl
@[push_cast] theorem envOf_nil (i : Nat) : envOf [] i = e0 := rfl
@[push_cast] theorem envOf_cons (x : AV) (l : List AV) (i : Nat) : envOf (x :: l) i = up (envOf l (i + 1)) i x := rfl
end

@[push_cast] theorem rIaddrV_sl (sz a : Nat) (b : List (List AV)) (i : AV) (H : AHeap) : rIaddrV sz (.sl a b) i H = rIaddr sz (.sl a b) i H := rfl
@[push_cast] theorem rSliceV_sl (lk : LK) (n a : Nat) (b : List (List AV)) (lo hi : Option AV) (H : AHeap) : rSliceV lk n (.sl a b) lo hi H = rSlice lk n (.sl a b) lo hi H := rfl
@[push_cast] theorem rSliceV_v (lk : LK) (n : Nat) (v : Value) (lo hi : Option AV) (H : AHeap) : rSliceV lk n (.v v) lo hi H = rSlice lk n (.v v) lo hi H := rfl
@[push_cast] theorem rFaddrB_ptr (off r v o : Nat) (H : AHeap) : rFaddrB off (.ptr r v o) H = rFaddr off (.ptr r v o) H := rfl
@[push_cast] theorem rFaddrB_vp (off : Nat) (cs : List AV) (o : Nat) (H : AHeap) : rFaddrB off (.vp cs o) H = rFaddr off (.vp cs o) H := rfl
@[push_cast] theorem rLoadB_ptr (ag : Bool) (n r v o : Nat) (H : AHeap) : rLoadB ag n (.ptr r v o) H = rLoad ag n (.ptr r v o) H := rfl
@[push_cast] theorem rLoadB_vp (ag : Bool) (n : Nat) (cs : List AV) (o : Nat) (H : AHeap) : rLoadB ag n (.vp cs o) H = rLoad ag n (.vp cs o) H := rfl
attribute [push_cast] rBox.eq_1 fillA.eq_1 fillA.eq_2 rBuild.eq_1 fillS.eq_1 fillS.eq_2 rBsl.eq_1 rIns.eq_1 rIns.eq_2 rLoadO.eq_1 rLoadO.eq_2 rLoadO.eq_3 isVer.eq_1 isVer.eq_2 isVer.eq_3 isVer.eq_4 isBox.eq_1 isBox.eq_2 isArr.eq_1 isArr.eq_2 rLoad.eq_1 rLoad.eq_2 rLoad.eq_3 rLoad.eq_4 rStoreO.eq_1 rStoreO.eq_2 rStoreO.eq_3 rStore.eq_1 rStore.eq_2 rStore.eq_3 rNil.eq_1 rNil.eq_2 rNil.eq_3 rNil.eq_4 rNil.eq_5 rNil.eq_6 cEq.eq_1 cEq.eq_2 cEq.eq_3 iBin.eq_1 iBin.eq_2 iBin.eq_3 iBin.eq_4 iBin.eq_5 iBin.eq_6 iBin.eq_7 iBin.eq_8 iBin.eq_9 iBin.eq_10 iBin.eq_11 iBin.eq_12 iBin.eq_13 iBin.eq_14 iBin.eq_15 iBin.eq_16 sBin.eq_1 sBin.eq_2 sBin.eq_3 sBin.eq_4 sBin.eq_5 sBin.eq_6 sBin.eq_7 sBin.eq_8 eqRes.eq_1 eqRes.eq_2 eqRes.eq_3 isKD.eq_1 isKD.eq_2 isKD.eq_3 isKD.eq_4 rBin.eq_1 rBin.eq_2 rBin.eq_3 rBin.eq_4 rBin.eq_5 rBin.eq_6 rBin.eq_7 rNot.eq_1 rNot.eq_2 rNeg.eq_1 rNeg.eq_2 rConv.eq_1 rConv.eq_2 rConv.eq_3 rConv.eq_4 rConv.eq_5 rConv.eq_6 rConv.eq_7 rConv.eq_8 rMsl.eq_1 rMsl.eq_2 bnd.eq_1 bnd.eq_2 bnd.eq_3 rSliceN.eq_1 rSliceN.eq_2 rSliceN.eq_3 rSliceN.eq_4 rSliceN.eq_5 lenOf.eq_1 lenOf.eq_2 lenOf.eq_3 lenOf.eq_4 lenOf.eq_5 lenOf.eq_6 lenOf.eq_7 lenOf.eq_8 rSlice.eq_1 lkOk.eq_1 lkOk.eq_2 lkOk.eq_3 lkOk.eq_4 lkOk.eq_5 lkOk.eq_6 lkOk.eq_7 verOk.eq_1 verOk.eq_2 rLen.eq_1 rFaddr.eq_1 rFaddr.eq_2 rFaddr.eq_3 rFaddr.eq_4 rFld.eq_1 rFld.eq_2 rIaddr.eq_1 rIaddr.eq_2 rIaddr.eq_3 rIdx.eq_1 rIdx.eq_2 lookV.eq_1 lookV.eq_2 rLookN.eq_1 rLook.eq_1 rLook.eq_2 rLook.eq_3 rExt.eq_1 rExt.eq_2 rAppendO.eq_1 rAppendO.eq_2 rAppendO.eq_3 rAppendN.eq_1 rAppendN.eq_2 rAppend.eq_1 rAppend.eq_2 rAppend.eq_3 rAppend.eq_4 rCopy.eq_1 rCopy.eq_2 rMin.eq_1 rMin.eq_2 rMax.eq_1 rMax.eq_2 rFrz.eq_1 rFrz.eq_2 rFrz.eq_3 rFrz.eq_4 rFrz.eq_5 rFrz.eq_6 rFrzN.eq_1 rFrzN.eq_2 rFrzN.eq_3 rFrzO.eq_1 rFrzfO.eq_1 rFrzfO.eq_2 rFrzf.eq_1 rOwn.eq_1 rOwn.eq_2 cellsOf.eq_1 cellsOf.eq_2 c1.eq_1 c1.eq_2 c1.eq_3 c1.eq_4 one.eq_1 one.eq_2 one.eq_3 cellsV.eq_1 splice.eq_1 osRows.eq_1 rowsOf.eq_1 rowsOf.eq_2 rowsOf.eq_3 rowsOf.eq_4 rowsOf.eq_5 rowsOf.eq_6 szOk.eq_1 szOk.eq_2 szOk.eq_3 szOk.eq_4 szOk.eq_5 szOk.eq_6 nilOk.eq_1 nilOk.eq_2 nilOk.eq_3 nilOk.eq_4 slcK.eq_1 slcK.eq_2 slcK.eq_3 slcK.eq_4 slcK.eq_5 kIs.eq_1 kIs.eq_2 kIs.eq_3 kIs.eq_4 AV.cl.eq_1 AV.cl.eq_2 AV.cl.eq_3 AV.cl.eq_4 AV.cl.eq_5 AV.cl.eq_6 AV.cl.eq_7 AV.cl.eq_8 kCmp.eq_1 kCmp.eq_2 kCmp.eq_3 kCmp.eq_4

@[push_cast] theorem verOk_v (H : AHeap) (x : Value) : verOk H (.v x) = True := rfl
@[push_cast] theorem verOk_sl (H : AHeap) (sz : Nat) (xs : List (List AV)) : verOk H (.sl sz xs) = True := rfl
@[push_cast] theorem verOk_mp (H : AHeap) (ks : List Value) (vs : List AV) : verOk H (.mp ks vs) = True := rfl
@[push_cast] theorem verOk_nc (H : AHeap) : verOk H .nc = True := rfl
@[push_cast] theorem bs_mkS (l : List UInt8) : bs (mkS l) = l := by simp [bs, mkS]
@[push_cast] theorem c1s_nil : c1s [] = true := rfl
@[push_cast] theorem c1s_cons (x : AV) (l : List AV) : c1s (x :: l) = (c1 x && c1s l) := rfl
@[push_cast] theorem clL_nil : clL [] = true := rfl
@[push_cast] theorem clL_cons (x : AV) (l : List AV) : clL (x :: l) = (x.cl && clL l) := by simp [clL]
@[push_cast] theorem wrap64_of (n : Int) (h : -9223372036854775808 ≤ n) (h' : n < 9223372036854775808) : IntKind.i64.wrap n = n := by
  simp [IntKind.wrap, IntKind.bits, IntKind.signed]
  split <;> omega
@[push_cast] theorem wrap8_of (n : Int) (h : 0 ≤ n) (h' : n < 256) : IntKind.u8.wrap n = n := by
  simp [IntKind.wrap, IntKind.bits, IntKind.signed]
  omega
@[push_cast] theorem wrap32_of (n : Int) (h : -2147483648 ≤ n) (h' : n < 2147483648) : IntKind.i32.wrap n = n := by
  simp [IntKind.wrap, IntKind.bits, IntKind.signed]
  split <;> omega
@[push_cast] theorem wrapu64_of (n : Int) (h : 0 ≤ n) (h' : n < 18446744073709551616) : IntKind.u64.wrap n = n := by
  simp [IntKind.wrap, IntKind.bits, IntKind.signed]
  omega

attribute [push_cast] List.map_cons List.map_nil List.cons_append List.nil_append List.append_nil List.length_cons List.length_nil List.take_zero List.take_nil List.take_succ_cons List.drop_zero List.drop_nil List.drop_succ_cons List.headD_cons
  List.getElem?_cons_zero List.getElem?_cons_succ List.set_cons_zero List.set_cons_succ List.getD_cons_zero List.getD_cons_succ List.replicate_succ List.replicate_zero List.length_append List.length_map
  if_true if_false ite_true ite_false true_and and_true Option.map_some Option.map_none Option.getD_some Option.getD_none Option.isSome_some decide_eq_true_eq decide_eq_false_iff_not Bool.not_eq_true' Bool.and_eq_true Bool.or_eq_true beq_iff_eq ne_eq not_true not_false_eq_true
  false_and and_false Bool.false_eq_true Bool.not_true Bool.not_false Bool.and_true Bool.and_false Bool.true_and Bool.false_and Bool.or_true Bool.or_false Bool.true_or Bool.false_or Bool.not_not Bool.not_eq_eq_eq_not ite_not
  List.mem_cons List.mem_nil_iff List.not_mem_nil forall_eq forall_eq_or_imp forall_const or_true true_or or_false false_or implies_true and_self or_self List.length_set Int.toNat_natCast eq_self

@[push_cast] theorem cellsOf_v (x : Value) : cellsOf (.v x) = [(.v x)] := rfl
@[push_cast] theorem cl_v (x : Value) : AV.cl (.v x) = true := by simp [AV.cl]
@[push_cast] theorem cellsOf_sl (a : Nat) (b : List (List AV)) : cellsOf (.sl a b) = [(.sl a b)] := rfl
@[push_cast] theorem c1_sl (a : Nat) (b : List (List AV)) : c1 (.sl a b) = true := rfl
@[push_cast] theorem cl_sl (a : Nat) (b : List (List AV)) : AV.cl (.sl a b) = true := by simp [AV.cl]
@[push_cast] theorem cellsOf_vp (a : List AV) (b : Nat) : cellsOf (.vp a b) = [(.vp a b)] := rfl
@[push_cast] theorem c1_vp (a : List AV) (b : Nat) : c1 (.vp a b) = true := rfl
@[push_cast] theorem cl_vp (a : List AV) (b : Nat) : AV.cl (.vp a b) = true := by simp [AV.cl]
@[push_cast] theorem cellsOf_fn (a : Fn) (b c : List AV) : cellsOf (.fn a b c) = [(.fn a b c)] := rfl
@[push_cast] theorem c1_fn (a : Fn) (b c : List AV) : c1 (.fn a b c) = true := rfl
@[push_cast] theorem cellsOf_mp (a : List Value) (b : List AV) : cellsOf (.mp a b) = [(.mp a b)] := rfl
@[push_cast] theorem c1_mp (a : List Value) (b : List AV) : c1 (.mp a b) = true := rfl
@[push_cast] theorem cl_mp (a : List Value) (b : List AV) : AV.cl (.mp a b) = true := by simp [AV.cl]
@[push_cast] theorem cellsOf_os (a b c d : Nat) : cellsOf (.os a b c d) = [(.os a b c d)] := rfl
@[push_cast] theorem c1_os (a b c d : Nat) : c1 (.os a b c d) = true := rfl
@[push_cast] theorem cellsOf_ptr (a b c : Nat) : cellsOf (.ptr a b c) = [(.ptr a b c)] := rfl
@[push_cast] theorem c1_ptr (a b c : Nat) : c1 (.ptr a b c) = true := rfl
@[push_cast] theorem cellsOf_pe (a b c d : Nat) : cellsOf (.pe a b c d) = [(.pe a b c d)] := rfl
@[push_cast] theorem c1_pe (a b c d : Nat) : c1 (.pe a b c d) = true := rfl
@[push_cast] theorem cellsOf_om (a b : Nat) : cellsOf (.om a b) = [(.om a b)] := rfl
@[push_cast] theorem c1_om (a b : Nat) : c1 (.om a b) = true := rfl
@[push_cast] theorem rAppendB_str (t : TypeId) (s : AV) (y : List UInt8) (H : AHeap) : rAppendB t s (str y) H = rAppendBS t s y H := rfl
@[push_cast] theorem rAppendBS_os (t : TypeId) (r ver len : Nat) (y : List UInt8) (H : AHeap) : rAppendBS t (.os r ver 0 len) y H = rAppendBO t r ver len y H H[r]? := rfl
@[push_cast] theorem rAppendBS_nil (t : TypeId) (y : List UInt8) (H : AHeap) : rAppendBS t nilS y H = rAppendBZ t y H := rfl
@[push_cast] theorem rAppendBZ_nil (t : TypeId) (H : AHeap) : rAppendBZ t [] H = ⟨True, nilS, H⟩ := rfl
@[push_cast] theorem rAppendBO_barr (t : TypeId) (r ver len : Nat) (y : List UInt8) (H : AHeap) (t' ver' : Nat) (l : List UInt8) : rAppendBO t r ver len y H (some (.barr t' ver' l)) = ⟨ver = ver' ∧ t = t' ∧ len = l.length ∧ len + y.length ≤ 140737488355328, .os r (ver + 1) 0 (len + y.length), H.set r (.barr t (ver + 1) (l ++ y))⟩ := rfl
@[push_cast] theorem isNilP_nil : isNilP (.v (.pointer none)) = true := rfl
@[push_cast] theorem cellsOf_bnil (t : TypeId) : cellsOf (.bnil t) = [.bnil t] := rfl
@[push_cast] theorem c1_bnil (t : TypeId) : c1 (.bnil t) = false := rfl
@[push_cast] theorem cl_bnil (t : TypeId) : AV.cl (.bnil t) = true := by simp [AV.cl]
@[push_cast] theorem cellsOf_nc  : cellsOf .nc = [.nc] := rfl
@[push_cast] theorem c1_nc  : c1 .nc = true := rfl
@[push_cast] theorem cl_nc  : AV.cl .nc = true := by simp [AV.cl]
@[push_cast] theorem c1_v (x : Value) : c1 (.v x) = one x := rfl
@[push_cast] theorem one_int (k : IntKind) (n : Int) : one (.int k n) = true := rfl
@[push_cast] theorem one_bool (b : Bool) : one (.bool b) = true := rfl
@[push_cast] theorem one_string (s : ByteArray) : one (.string s) = true := rfl
@[push_cast] theorem one_slice (a : Option Addr) (l c : Nat) : one (.slice a l c) = true := rfl
@[push_cast] theorem one_map (a : Option Nat) : one (.map a) = true := rfl
@[push_cast] theorem one_pointer (a : Option Addr) : one (.pointer a) = true := rfl
@[push_cast] theorem get_len {α : Type} (H : List α) (x : α) (l : List α) : (H ++ x :: l)[H.length]? = some x := by simp
@[push_cast] theorem set_len {α : Type} (H : List α) (x y : α) (l : List α) : (H ++ x :: l).set H.length y = H ++ y :: l := by simp
@[push_cast] theorem get_add {α : Type} (H l : List α) (k : Nat) : (H ++ l)[H.length + k]? = l[k]? := by rw [List.getElem?_append_right (by omega)]; congr 1; omega
@[push_cast] theorem set_add {α : Type} (H l : List α) (k : Nat) (y : α) : (H ++ l).set (H.length + k) y = H ++ l.set k y := by rw [List.set_append_right _ _ (by omega)]; congr 2; omega
attribute [push_cast] List.append_assoc
end Go.Ax

/- More rules for proofs by steps: a loop whose state is named, a cut, parts of code. -/
namespace Go.Ax
open Go Go.RowKit
set_option linter.unusedSimpArgs false
set_option linter.unusedVariables false

section
variable {P : Program} {k : List Item} {Q : Out → Env → AHeap → Prop} {e : Env} {H : AHeap}

theorem aops_mono : ∀ {l : List LO} {e : Env} {H : AHeap} {K K' : Env → AHeap → Prop}, aops P l e H K → (∀ e H, K e H → K' e H) → aops P l e H K'
  | [], _, _, _, _, h, hK => hK _ _ h
  | o :: l, _, _, _, _, h, hK => by
    refine aops_of ?_
    rcases aops_cons h with ⟨h1, h2⟩ | ⟨h1, h2⟩
    · exact .inl ⟨h1, aop_mono h2 fun x H' hh => aops_mono hh hK⟩
    · exact .inr ⟨h1, aops_mono h2 hK⟩

theorem aopq_mono {op : LOp} {K K' : AV → Prop} (h : aopq P op e H K) (hK : ∀ x, K x → K' x) : aopq P op e H K' := by
  cases op <;> simp only [aopq] at h ⊢ <;> first | exact ⟨h.1, h.2.1, hK _ h.2.2⟩ | exact h.elim | skip
  case call f args =>
    split at h
    · obtain ⟨x, h1, h2, h3⟩ := h; exact ⟨x, h1, h2, hK _ h3⟩
    · exact h.elim
  case pick c a b =>
    split at h
    · split at h
      · rename_i hb; rw [if_pos hb]; exact hK _ h
      · rename_i hb; rw [if_neg hb]; exact hK _ h
    · exact h.elim

theorem aopsq_mono : ∀ {l : List LO} {e : Env} {K K' : Env → Prop}, aopsq P l e H K → (∀ e, K e → K' e) → aopsq P l e H K'
  | [], _, _, _, h, hK => hK _ h
  | o :: l, e, _, _, h, hK => by
    simp only [aopsq] at h ⊢
    split at h
    · exact aopq_mono h fun x hh => aopsq_mono hh hK
    · rename_i t want hg
      split at h
      · rename_i b hb
        cases b <;> cases want <;> simp only [if_true, Bool.false_eq_true, if_false] at h ⊢ <;> first | exact aopsq_mono h hK | exact aopq_mono h fun x hh => aopsq_mono hh hK
      · exact aopsq_mono h hK
      · exact h.elim

theorem lpOut_mono {st : LpSt} {K K' : Out → Prop} (h : lpOut st K) (hK : ∀ o, K o → K' o) : lpOut st K' := by
  cases st with
  | ready => exact hK _ h
  | busy => exact h
  | done o => cases o <;> exact hK _ h
theorem awp_mono : ∀ {c : LCode} {e : Env} {H : AHeap} {K K' : Out → Env → AHeap → Prop}, awp P c e H K → (∀ o e H, K o e H → K' o e H) → awp P c e H K' := by
  intro c
  induction c with
  | skip => intro e H K K' h hK; exact hK _ _ _ h
  | ops l => intro e H K K' h hK; exact aops_mono h fun e H hh => hK _ _ _ hh
  | draw hd tl => intro e H K K' h hK; exact aopsq_mono h fun e hh => aops_mono hh fun e H hh => hK _ _ _ hh
  | drawM hd pre mid post => intro e H K K' h hK; exact aopsq_mono h fun e hh σ hσ => aops_mono (hh σ hσ) fun e H hh => hK _ _ _ hh
  | seq a b iha ihb =>
    intro e H K K' h hK
    refine iha h fun o e' H' hh => ?_
    cases o with
    | normal => exact ihb hh hK
    | exit id => exact hK _ _ _ hh
    | ret => exact hK _ _ _ hh
    | pan v => exact hK _ _ _ hh
  | cond x a b iha ihb =>
    intro e H K K' h hK
    simp only [awp] at h ⊢
    split at h
    · rename_i t ht
      cases t with
      | true => rw [if_pos rfl] at h ⊢; exact iha h hK
      | false => rw [if_neg (by simp)] at h ⊢; exact ihb h hK
    · exact h.elim
  | block id c ih =>
    intro e H K K' h hK
    refine ih h fun o e' H' hh => ?_
    cases o with
    | normal => exact hK _ _ _ hh
    | exit j =>
      simp only at hh ⊢
      split
      · rename_i hj; rw [if_pos hj] at hh; exact hK _ _ _ hh
      · rename_i hj; rw [if_neg hj] at hh; exact hK _ _ _ hh
    | ret => exact hK _ _ _ hh
    | pan v => exact hK _ _ _ hh
  | loop c ih =>
    intro e H K K' h hK
    obtain ⟨I, μ, h1, h2⟩ := h
    refine ⟨I, μ, h1, fun e H hI => ih (h2 e H hI) fun o e' H' hh => ?_⟩
    cases o with
    | normal => exact hh
    | exit id => exact hK _ _ _ hh
    | ret => exact hK _ _ _ hh
    | pan v => exact hK _ _ _ hh
  | range g ps a b iha ihb =>
    intro e H K K' h hK
    simp only [awp] at h ⊢
    split at h
    · intro l lr hy
      exact (h l lr hy).mono fun x H' ⟨st, h1, h2⟩ => ⟨st, h1, lpOut_mono h2 fun o => hK _ _ _⟩
    · exact h.elim
  | exit id => intro e H K K' h hK; exact hK _ _ _ h
  | ret => intro e H K K' h hK; exact hK _ _ _ h
  | callp d f args =>
    intro e H K K' h hK
    simp only [awp] at h ⊢
    cases hf : ev e f with
    | fn g first caps =>
      rw [hf] at h
      cases g with
      | func k => exact ACallX.mono h (fun _ _ hh => hK _ _ _ hh) fun _ _ hh => hK _ _ _ hh
      | _ => exact h.elim
    | _ => rw [hf] at h; exact h.elim
  | pan d t x => intro e H K K' ⟨v, h1, h2⟩ hK; exact ⟨v, h1, hK _ _ _ h2⟩

theorem least {p : Nat → Prop} (h : ∃ n, p n) : ∃ n, p n ∧ ∀ m, p m → n ≤ m := by
  obtain ⟨n, hn⟩ := h
  induction n using Nat.strongRecOn with
  | _ n ih =>
    by_cases hh : ∃ m, m < n ∧ p m
    · obtain ⟨m, hm, hp⟩ := hh; exact ih m hm hp
    · exact ⟨n, hn, fun m hm => Nat.le_of_not_lt fun hlt => hh ⟨m, hlt, hm⟩⟩

/-- The next state of a loop. -/
inductive Nx {σ : Type} (I : σ → Env → AHeap → Prop) (μ : σ → Nat) (s : σ) (e : Env) (H : AHeap) : Prop where
  | mk (s' : σ) (h : I s' e H) (hm : μ s' < μ s)

open Classical in
/-- A loop whose state is s. -/
theorem rk_loopS {σ : Type} {c : LCode} (I : σ → Env → AHeap → Prop) (μ : σ → Nat) (s : σ) (h0 : I s e H)
    (h : ∀ s e H, I s e H → runK P (.code c :: .lp (Nx I μ s) :: k) Q .normal e H) : runK P (.code (.loop c) :: k) Q .normal e H := by
  have hex : ∀ e H, (∃ s, I s e H) → ∃ n, (∃ s, I s e H ∧ μ s = n) ∧ ∀ m, (∃ s, I s e H ∧ μ s = m) → n ≤ m := fun e H ⟨s, hs⟩ => least ⟨_, s, hs, rfl⟩
  refine rk_loop (fun e H => ∃ s, I s e H) (fun e H => if hx : ∃ s, I s e H then Classical.choose (hex e H hx) else 0) ⟨s, h0⟩ ?_
  intro e H hs
  obtain ⟨⟨s, hI, hm⟩, _⟩ := Classical.choose_spec (hex e H hs)
  refine awp_mono (h s e H hI) fun o e' H' hh => ?_
  cases o with
  | normal =>
    obtain ⟨s', hI', hlt⟩ := hh
    refine ⟨⟨s', hI'⟩, ?_⟩
    rw [dif_pos ⟨s', hI'⟩, dif_pos hs]
    have := (Classical.choose_spec (hex e' H' ⟨s', hI'⟩)).2 _ ⟨s', hI', rfl⟩
    omega
  | exit id => exact hh
  | ret => exact hh
  | pan v => exact hh

end

@[push_cast] theorem toNat_add1 (i : Nat) : ((i : Int) + 1).toNat = i + 1 := by omega
@[push_cast] theorem toNat_add2 (i : Nat) : ((i : Int) + 2).toNat = i + 2 := by omega
@[push_cast] theorem toNat_add3 (i : Nat) : ((i : Int) + 3).toNat = i + 3 := by omega
@[push_cast] theorem toNat_add4 (i : Nat) : ((i : Int) + 4).toNat = i + 4 := by omega
@[push_cast] theorem toNat_add5 (i : Nat) : ((i : Int) + 5).toNat = i + 5 := by omega
@[push_cast] theorem toNat_addC (i j : Nat) : ((i : Int) + (j : Int)).toNat = i + j := by omega

attribute [push_cast] Nat.add_sub_cancel_left
@[push_cast] theorem take_map_len {α β : Type} (f : α → β) (l : List α) : (l.map f).take l.length = l.map f := by
  rw [List.take_of_length_le (by simp)]
@[push_cast] theorem take_map_len0 {α β : Type} (f : α → β) (l : List α) : ((l.map f).drop 0).take l.length = l.map f := by
  rw [List.drop_zero, List.take_of_length_le (by simp)]
/-- The part of code at a place. -/
def LCode.sub : List Nat → LCode → LCode
  | [], c => c
  | 0 :: l, .seq a _ => a.sub l
  | 1 :: l, .seq _ b => b.sub l
  | 0 :: l, .cond _ a _ => a.sub l
  | 1 :: l, .cond _ _ b => b.sub l
  | _ :: l, .block _ c => c.sub l
  | _ :: l, .loop c => c.sub l
  | _, c => c
end Go.Ax

/- Taking arguments apart by their types; rows of typed things. -/
namespace Go.Ax
open Go Go.RowKit
set_option linter.unusedSimpArgs false
set_option linter.unusedVariables false

section
variable {P : Program} {t e : TypeId} {xs : List AV}
def i64R (n : Int) : Prop := -9223372036854775808 ≤ n ∧ n ≤ 9223372036854775807
theorem val_int (hu : P.underlying t = some (.int .i64)) (h : Val P t xs) : ∃ n : Int, xs = [int n] ∧ i64R n := by
  cases h with
  | int hu' hw =>
    rw [hu] at hu'
    cases hu'
    refine ⟨_, rfl, ?_⟩
    simp [Lit.wf, IntKind.min, IntKind.max, IntKind.signed, IntKind.bits] at hw
    unfold i64R; omega
  | bool hu' => rw [hu] at hu'; cases hu'
  | str hu' => rw [hu] at hu'; cases hu'
  | sl hu' => rw [hu] at hu'; cases hu'
  | st hu' => rw [hu] at hu'; cases hu'
theorem val_sl {k : Nat} (hu : P.underlying t = some (.slice e)) (hk : P.cellsOf e = k) (h : Val P t xs) : ∃ rows, xs = [.sl k rows] ∧ rows.length ≤ 9223372036854775807 ∧ ∀ x ∈ rows, Val P e x := by
  cases h with
  | sl hu' hl hr =>
    rw [hu] at hu'
    cases hu'
    subst hk
    unfold maxLen at hl
    exact ⟨_, rfl, by omega, hr⟩
  | int hu' => rw [hu] at hu'; cases hu'
  | bool hu' => rw [hu] at hu'; cases hu'
  | str hu' => rw [hu] at hu'; cases hu'
  | st hu' => rw [hu] at hu'; cases hu'
theorem val_rows {α : Type} {enc : α → List AV} {ok : α → Prop} {rows : List (List AV)} (h : ∀ x ∈ rows, Val P e x) (ho : ∀ x, Val P e x → ∃ a, x = enc a ∧ ok a) : ∃ l : List α, rows = l.map enc ∧ ∀ a ∈ l, ok a := by
  induction rows with
  | nil => exact ⟨[], rfl, by simp⟩
  | cons x rows ih =>
    obtain ⟨a, rfl, ha⟩ := ho x (h x (by simp))
    obtain ⟨l, rfl, hl⟩ := ih fun y hy => h y (by simp [hy])
    exact ⟨a :: l, rfl, by simp only [List.mem_cons, forall_eq_or_imp]; exact ⟨ha, hl⟩⟩
end

@[push_cast] theorem one_nilFunc : one .nilFunc = true := rfl
@[push_cast] theorem one_func (f : Fn) (a b : Array Value) : one (.func f a b) = true := rfl
@[push_cast] theorem rConv_bytes_os (r ver off len : Nat) (H : AHeap) : rConv .bytesStr (.os r ver off len) H = ⟨szOk H 1 (.os r ver off len) ∧ ((rowsOf H (.os r ver off len)).bind rowBytes).isSome = true, str (((rowsOf H (.os r ver off len)).bind rowBytes).getD []), H⟩ := rfl
@[push_cast] theorem rConv_bytes_sl (sz : Nat) (xs : List (List AV)) (H : AHeap) : rConv .bytesStr (.sl sz xs) H = ⟨szOk H 1 (.sl sz xs) ∧ ((rowsOf H (.sl sz xs)).bind rowBytes).isSome = true, str (((rowsOf H (.sl sz xs)).bind rowBytes).getD []), H⟩ := rfl
attribute [push_cast] Option.bind_some Bool.true_xor Bool.false_xor Bool.xor_false Bool.xor_true
/-! copy, step by step -/
def rCopyO (sz r ver off len : Nat) (ys : List (List AV)) (x : AV) (H : AHeap) : Option HO → Res
  | some (.arr ver' sz' xs) => ⟨ver = ver' ∧ sz' = sz ∧ szOk H sz x ∧ off + len ≤ xs.length, int (min ys.length len : Nat), H.set r (.arr ver sz (xs.take off ++ ys.take (min ys.length len) ++ xs.drop (off + min ys.length len)))⟩
  | _ => .no H
def rCopyN (sz : Nat) (s x : AV) (H : AHeap) : Option (List (List AV)) → Res
  | some ys => match s with
    | .os r ver off len => rCopyO sz r ver off len ys x H H[r]?
    | _ => .no H
  | none => .no H
@[push_cast] theorem rCopy_eq (sz : Nat) (s x : AV) (H : AHeap) : rCopy sz s x H = rCopyN sz s x H (rowsOf H x) := by
  unfold rCopy rCopyN rCopyO
  cases rowsOf H x with
  | none => cases s <;> rfl
  | some ys => cases s <;> rfl
@[push_cast] theorem rCopyN_os (sz r ver off len : Nat) (x : AV) (H : AHeap) (ys : List (List AV)) : rCopyN sz (.os r ver off len) x H (some ys) = rCopyO sz r ver off len ys x H H[r]? := rfl
@[push_cast] theorem rCopyO_arr (sz r ver off len ver' sz' : Nat) (ys xs : List (List AV)) (x : AV) (H : AHeap) : rCopyO sz r ver off len ys x H (some (.arr ver' sz' xs)) = ⟨ver = ver' ∧ sz' = sz ∧ szOk H sz x ∧ off + len ≤ xs.length, int (min ys.length len : Nat), H.set r (.arr ver sz (xs.take off ++ ys.take (min ys.length len) ++ xs.drop (off + min ys.length len)))⟩ := rfl
attribute [push_cast] List.length_replicate
def osRowsO (ver off len : Nat) : Option HO → Option (List (List AV))
  | some (.arr ver' _ xs) => if ver = ver' ∧ off + len ≤ xs.length then some ((xs.drop off).take len) else none
  | _ => none
theorem osRows_eq (r ver off len : Nat) (H : AHeap) : osRows r ver off len H = osRowsO ver off len H[r]? := rfl
theorem osRowsO_arr {ver off len ver' sz : Nat} {xs : List (List AV)} (h : ver = ver' ∧ off + len ≤ xs.length) : osRowsO ver off len (some (.arr ver' sz xs)) = some ((xs.drop off).take len) := if_pos h

theorem rows_getD {α : Type} [Inhabited α] {l : List α} {enc : α → List AV} {j : Nat} (h : j < l.length) : (l.map enc).getD j [] = enc (l.getD j default) := by
  simp [List.getD_eq_getElem?_getD, h]
theorem getD_mem' {α : Type} [Inhabited α] {l : List α} {j : Nat} (h : j < l.length) : l.getD j default ∈ l := by
  simp [List.getD_eq_getElem?_getD, h]
theorem take_snoc {α : Type} [Inhabited α] {l : List α} {j : Nat} (h : j < l.length) : l.take (j + 1) = l.take j ++ [l.getD j default] := by
  rw [List.take_succ_eq_append_getElem h]; simp [List.getD_eq_getElem?_getD, h]
theorem intc {x : AV} {a : Int} {b : Int} (h : x = int a) (h2 : a = b) : x = int b := h.trans (by rw [h2])
theorem upto_succ {j : Nat} {p : Nat → Prop} (h : ∀ i, i < j → p i) (hj : p j) : ∀ i, i < j + 1 → p i := fun i hi => by
  by_cases e : i = j
  · rw [e]; exact hj
  · exact h i (by omega)
/-! Tests that the context decides. -/
theorem dT_lt {a b : Int} (h : a < b) : decide (a < b) = true := decide_eq_true h
theorem dF_lt {a b : Int} (h : ¬ a < b) : decide (a < b) = false := decide_eq_false h
theorem dT_le {a b : Int} (h : a ≤ b) : decide (a ≤ b) = true := decide_eq_true h
theorem dF_le {a b : Int} (h : ¬ a ≤ b) : decide (a ≤ b) = false := decide_eq_false h
theorem dT_eq {a b : Int} (h : a = b) : decide (a = b) = true := decide_eq_true h
theorem dF_eq {a b : Int} (h : ¬ a = b) : decide (a = b) = false := decide_eq_false h
attribute [push_cast] decide_true decide_false
/-- An index as Go says it. -/
def idxI : Option Nat → Int
  | some i => i
  | none => -1
theorem find_some {α : Type} [Inhabited α] {l : List α} {p : α → Bool} {j : Nat} (h : j < l.length) (hp : p (l.getD j default) = true) (hb : ∀ i, i < j → p (l.getD i default) = false) : l.findIdx? p = some j := by
  rw [List.findIdx?_eq_some_iff_getElem]
  have e : ∀ i (hi : i < l.length), l.getD i default = l[i] := fun i hi => by simp [List.getD_eq_getElem?_getD, hi]
  refine ⟨h, by rw [← e j h]; exact hp, fun i hi => ?_⟩
  have := hb i hi
  rw [e i (by omega)] at this
  simp [this]
theorem find_none {α : Type} [Inhabited α] {l : List α} {p : α → Bool} (hb : ∀ i, i < l.length → p (l.getD i default) = false) : l.findIdx? p = none := by
  rw [List.findIdx?_eq_none_iff]
  intro x hx
  obtain ⟨i, hi, rfl⟩ := List.mem_iff_getElem.1 hx
  have := hb i hi
  simpa [List.getD_eq_getElem?_getD, hi] using this
theorem find_lt {α : Type} [Inhabited α] {l : List α} {p : α → Bool} {j : Nat} (h : l.findIdx? p = some j) : j < l.length ∧ p (l.getD j default) = true := by
  rw [List.findIdx?_eq_some_iff_getElem] at h
  obtain ⟨h1, h2, _⟩ := h
  exact ⟨h1, by simpa [List.getD_eq_getElem?_getD, h1] using h2⟩
theorem all_take {α : Type} (l : List α) {n : Nat} (h : l.length ≤ n) : l.take n = l := List.take_of_length_le h
end Go.Ax

/- Types, records and variables as plain data; what the functions of types and of its reference compute. Part 1: records, Valid. -/
namespace Go.Proofs.Yteidffcimidinaa
open Go Go.Ax
set_option maxRecDepth 100000
set_option linter.unusedSimpArgs false
set_option linter.unusedVariables false
abbrev Comp' (k : FuncId) (args : List AV) (H : AHeap) (x : AV) : Prop := ACall Try.prog k args H fun y H' => y = x ∧ H' = H

structure Ty where
  k : Int
  len : Int
  rc : List UInt8
  deriving Inhabited, DecidableEq
structure Fd where
  name : List UInt8
  ty : Ty
  deriving Inhabited, DecidableEq
structure Rc where
  name : List UInt8
  fields : List Fd
  deriving Inhabited, DecidableEq
structure Vr where
  name : List UInt8
  ty : Ty
  slot : Int
  node : Int
  var_ : Bool
  loop_ : Bool
  deriving Inhabited, DecidableEq
def tyR (t : Ty) : List AV := [int t.k, int t.len, str t.rc]
def fdR (f : Fd) : List AV := [str f.name, int f.ty.k, int f.ty.len, str f.ty.rc]
def rcR (r : Rc) : List AV := [str r.name, .sl 4 (r.fields.map fdR)]
/-- Nothing is longer, or greater, than a value of its type. -/
def big (n : Nat) : Prop := n ≤ 9223372036854775807
structure Ty.Ok (t : Ty) : Prop where
  k : i64R t.k
  len : i64R t.len
  rc : big t.rc.length
structure Fd.Ok (f : Fd) : Prop where
  name : big f.name.length
  ty : f.ty.Ok
structure Rc.Ok (r : Rc) : Prop where
  name : big r.name.length
  len : big r.fields.length
  fields : ∀ f ∈ r.fields, f.Ok
structure Vr.Ok (v : Vr) : Prop where
  name : big v.name.length
  ty : v.ty.Ok
  slot : i64R v.slot
  node : i64R v.node

theorem c_int : Try.prog.cellsOf 3 = 1 := by kernel_rfl
/-- The index of the record with a name. -/
def idxF (rs : List Rc) (nm : List UInt8) : Option Nat := rs.findIdx? fun r => decide (r.name = nm)
/-- The library's search. -/
theorem indexFunc (rs : List Rc) (p : Rc → Bool) (f : FuncId) (fa fb : List AV) (H : AHeap) (hl : (rs.length : Int) < 9223372036854775807) (hp : ∀ r, Comp' f (fa ++ .agg (rcR r) :: fb) H (bool (p r))) :
    Comp' 103 [.sl 2 (rs.map rcR), .fn (.func f) fa fb] H (int (idxI (rs.findIdx? p))) := by
  refine enter Try.func103 L103_ok (Nat.le_of_ble_eq_true rfl) ?_
  simp -implicitDefEqProofs (disch := omega) only [L103, push_cast, ↓reduceIte, Nat.reduceEqDiff, reduceCtorEq, Nat.reduceAdd, Nat.reduceSub, Nat.reduceMul, Nat.reduceLeDiff, Nat.reduceLT, Nat.reduceMod, Nat.reduceDiv, Int.reduceToNat, Int.reduceLT, Int.reduceLE, Int.reduceEq, Int.reduceAdd, Int.reduceSub, Int.reduceNeg, Int.reduceMul, Bool.and_self]
  refine rk_loopS (fun (j : Nat) e' H' => e' 0 = .sl 2 (rs.map rcR) ∧ e' 1 = .fn (.func f) fa fb ∧ e' 7 = int rs.length ∧ e' 8 = int j ∧ H = H' ∧ j ≤ rs.length ∧ ∀ i, i < j → p (rs.getD i default) = false) (fun j => rs.length - j) 0 ?_ ?_
  · exact ⟨rfl, rfl, rfl, rfl, rfl, Nat.zero_le _, by simp⟩
  rintro j e' H' ⟨h0, h1, h7, h8, rfl, hj, hr⟩
  have hrow : ∀ r : Rc, (rcR r).take 2 = rcR r := fun r => rfl
  have hlen : ∀ r : Rc, (rcR r).length = 2 := fun r => rfl
  by_cases hlt : j < rs.length
  · by_cases hf : p (rs.getD j default) = true
    · repeat' (first | (refine And.intro (by omega) ?_) | (refine callF_pure (hp _) ?_) | (refine callQF_pure (hp _) (by first | rfl | simp only [h0, h1, h7, h8, rows_getD, hrow, hlen, hf, push_cast, ↓reduceIte, Nat.reduceEqDiff]) ?_) | simp -implicitDefEqProofs (disch := omega) only [h0, h1, h7, h8, rows_getD, hrow, hlen, hf, dT_lt, dF_lt, dT_le, dF_le, dT_eq, dF_eq, push_cast, ↓reduceIte, Nat.reduceEqDiff, reduceCtorEq, Nat.reduceAdd, Nat.reduceSub, Nat.reduceMul, Nat.reduceLeDiff, Nat.reduceLT, Nat.reduceMod, Nat.reduceDiv, Int.reduceToNat, Int.reduceLT, Int.reduceLE, Int.reduceEq, Int.reduceAdd, Int.reduceSub, Int.reduceNeg, Int.reduceMul, Bool.and_self] | split)
      rw [show rs.findIdx? p = some j from find_some hlt hf hr]; rfl
    · have hf' := Bool.eq_false_iff.2 hf
      repeat' (first | (refine And.intro (by omega) ?_) | (refine callF_pure (hp _) ?_) | (refine callQF_pure (hp _) (by first | rfl | simp only [h0, h1, h7, h8, rows_getD, hrow, hlen, hf', push_cast, ↓reduceIte, Nat.reduceEqDiff]) ?_) | simp -implicitDefEqProofs (disch := omega) only [h0, h1, h7, h8, rows_getD, hrow, hlen, hf', dT_lt, dF_lt, dT_le, dF_le, dT_eq, dF_eq, push_cast, ↓reduceIte, Nat.reduceEqDiff, reduceCtorEq, Nat.reduceAdd, Nat.reduceSub, Nat.reduceMul, Nat.reduceLeDiff, Nat.reduceLT, Nat.reduceMod, Nat.reduceDiv, Int.reduceToNat, Int.reduceLT, Int.reduceLE, Int.reduceEq, Int.reduceAdd, Int.reduceSub, Int.reduceNeg, Int.reduceMul, Bool.and_self] | split)
      exact .mk (j + 1) ⟨h0, h1, h7, rfl, rfl, hlt, upto_succ hr hf'⟩ (by omega)
  · repeat' (first | (refine And.intro (by omega) ?_) | simp -implicitDefEqProofs (disch := omega) only [h0, h1, h7, h8, dT_lt, dF_lt, dT_le, dF_le, dT_eq, dF_eq, push_cast, ↓reduceIte, Nat.reduceEqDiff, reduceCtorEq, Nat.reduceAdd, Nat.reduceSub, Nat.reduceMul, Nat.reduceLeDiff, Nat.reduceLT, Nat.reduceMod, Nat.reduceDiv, Int.reduceToNat, Int.reduceLT, Int.reduceLE, Int.reduceEq, Int.reduceAdd, Int.reduceSub, Int.reduceNeg, Int.reduceMul, Bool.and_self] | split)
    rw [show rs.findIdx? p = none from find_none fun i hi => hr i (by omega)]; rfl

theorem recordC (r : Rc) (nm : List UInt8) (q : Nat) (H : AHeap) (hq : H[q]? = some (.box [str nm])) : Comp' 104 [.agg (rcR r), .ptr q 0 0] H (bool (decide (r.name = nm))) := by
  refine ACall.drop (R := fun x => x = bool (decide (r.name = nm))) ?_
  refine enter Try.func104 L104_ok (Nat.le_of_ble_eq_true rfl) ?_
  have hq' : ∀ l, (H ++ l)[q]? = some (.box [str nm]) := fun l => get_app hq
  repeat' (first | (refine And.intro (by omega) ?_) | simp -implicitDefEqProofs (disch := omega) only [L104, rcR, hq', dT_lt, dF_lt, dT_le, dF_le, dT_eq, dF_eq, push_cast, ↓reduceIte, Nat.reduceEqDiff, reduceCtorEq, Nat.reduceAdd, Nat.reduceSub, Nat.reduceMul, Nat.reduceLeDiff, Nat.reduceLT, Nat.reduceMod, Nat.reduceDiv, Int.reduceToNat, Int.reduceLT, Int.reduceLE, Int.reduceEq, Int.reduceAdd, Int.reduceSub, Int.reduceNeg, Int.reduceMul, Bool.and_self] | split)
  exact ⟨_, rfl⟩

/-- The record with a name, if there is one. -/
def recV (rs : List Rc) (nm : List UInt8) : AV := match idxF rs nm with
  | some i => .tup [.agg (rcR (rs.getD i default)), bool true]
  | none => .tup [.agg [str [], nilS], bool false]
theorem record (rs : List Rc) (nm : List UInt8) (H : AHeap) (hl : (rs.length : Int) < 9223372036854775807) : Comp' 67 [.sl 2 (rs.map rcR), str nm] H (recV rs nm) := by
  refine ACall.drop (R := fun x => x = recV rs nm) ?_
  refine enter Try.func67 L67_ok (Nat.le_of_ble_eq_true rfl) ?_
  have hc : ∀ r : Rc, Comp' 104 [.agg (rcR r), .ptr H.length 0 0] (H ++ [.box [str nm], .box [str [], nilS]]) (bool (decide (r.name = nm))) := fun r => recordC r nm _ _ (by simp)
  have hrow : ∀ r : Rc, (rcR r).take 2 = rcR r := fun r => rfl
  have hlen : ∀ r : Rc, (rcR r).length = 2 := fun r => rfl
  cases hi : idxF rs nm with
  | none =>
    have hi' : rs.findIdx? (fun r => decide (r.name = nm)) = none := hi
    repeat' (first | (refine And.intro (by omega) ?_) | (refine callF_pure (indexFunc rs (fun r => decide (r.name = nm)) 104 [] [.ptr H.length 0 0] _ hl hc) ?_) | (refine callQF_pure (indexFunc rs (fun r => decide (r.name = nm)) 104 [] [.ptr H.length 0 0] _ hl hc) (by first | rfl | simp only [L67, hi', idxI, push_cast, ↓reduceIte, Nat.reduceEqDiff]) ?_) | simp -implicitDefEqProofs (disch := omega) only [L67, hi', idxI, dT_lt, dF_lt, dT_le, dF_le, dT_eq, dF_eq, push_cast, ↓reduceIte, Nat.reduceEqDiff, reduceCtorEq, Nat.reduceAdd, Nat.reduceSub, Nat.reduceMul, Nat.reduceLeDiff, Nat.reduceLT, Nat.reduceMod, Nat.reduceDiv, Int.reduceToNat, Int.reduceLT, Int.reduceLE, Int.reduceEq, Int.reduceAdd, Int.reduceSub, Int.reduceNeg, Int.reduceMul, Bool.and_self] | split)
    exact ⟨by unfold recV; rw [hi], _, rfl⟩
  | some i =>
    have hi' : rs.findIdx? (fun r => decide (r.name = nm)) = some i := hi
    have hlt := (find_lt hi).1
    repeat' (first | (refine And.intro (by omega) ?_) | (refine callF_pure (indexFunc rs (fun r => decide (r.name = nm)) 104 [] [.ptr H.length 0 0] _ hl hc) ?_) | (refine callQF_pure (indexFunc rs (fun r => decide (r.name = nm)) 104 [] [.ptr H.length 0 0] _ hl hc) (by first | rfl | simp only [L67, hi', idxI, rows_getD, hrow, hlen, push_cast, ↓reduceIte, Nat.reduceEqDiff]) ?_) | simp -implicitDefEqProofs (disch := omega) only [L67, hi', idxI, rows_getD, hrow, hlen, dT_lt, dF_lt, dT_le, dF_le, dT_eq, dF_eq, push_cast, ↓reduceIte, Nat.reduceEqDiff, reduceCtorEq, Nat.reduceAdd, Nat.reduceSub, Nat.reduceMul, Nat.reduceLeDiff, Nat.reduceLT, Nat.reduceMod, Nat.reduceDiv, Int.reduceToNat, Int.reduceLT, Int.reduceLE, Int.reduceEq, Int.reduceAdd, Int.reduceSub, Int.reduceNeg, Int.reduceMul, Bool.and_self] | split)
    exact ⟨rfl, by unfold recV; rw [hi], rfl, _, rfl⟩

def tyI : Ty := ⟨1, 0, []⟩
def tyB : Ty := ⟨2, 0, []⟩
/-- The type of a field. -/
def scF (t : Ty) : Ty := if t.k = 2 then tyB else tyI
theorem scalar (t : Ty) (H : AHeap) : Comp' 69 [.agg (tyR t)] H (.agg (tyR (scF t))) := by
  refine ACall.drop (R := fun x => x = .agg (tyR (scF t))) ?_
  refine enter Try.func69 L69_ok (Nat.le_of_ble_eq_true rfl) ?_
  repeat' (first | (refine And.intro (by omega) ?_) | simp -implicitDefEqProofs (disch := omega) only [L69, tyR, dT_lt, dF_lt, dT_le, dF_le, dT_eq, dF_eq, push_cast, ↓reduceIte, Nat.reduceEqDiff, reduceCtorEq, Nat.reduceAdd, Nat.reduceSub, Nat.reduceMul, Nat.reduceLeDiff, Nat.reduceLT, Nat.reduceMod, Nat.reduceDiv, Int.reduceToNat, Int.reduceLT, Int.reduceLE, Int.reduceEq, Int.reduceAdd, Int.reduceSub, Int.reduceNeg, Int.reduceMul, Bool.and_self] | split)
  · rename_i h; exact ⟨by unfold scF; rw [if_pos h]; rfl, _, rfl⟩
  · rename_i h; exact ⟨by unfold scF; rw [if_neg h]; rfl, _, rfl⟩

theorem shp1 (t : Ty) (rs : List Rc) (H : AHeap) : Comp' 61 [.agg (tyR t), .sl 2 (rs.map rcR)] H (bool (decide (t.len = 0) && decide (t.rc = []))) := by
  refine ACall.drop (R := fun x => x = bool (decide (t.len = 0) && decide (t.rc = []))) ?_
  refine enter Try.func61 L61_ok (Nat.le_of_ble_eq_true rfl) ?_
  repeat' (first | (refine And.intro (by omega) ?_) | simp -implicitDefEqProofs (disch := omega) only [L61, tyR, dT_lt, dF_lt, dT_le, dF_le, dT_eq, dF_eq, push_cast, ↓reduceIte, Nat.reduceEqDiff, reduceCtorEq, Nat.reduceAdd, Nat.reduceSub, Nat.reduceMul, Nat.reduceLeDiff, Nat.reduceLT, Nat.reduceMod, Nat.reduceDiv, Int.reduceToNat, Int.reduceLT, Int.reduceLE, Int.reduceEq, Int.reduceAdd, Int.reduceSub, Int.reduceNeg, Int.reduceMul, Bool.and_self] | split)
  all_goals first | exact ⟨_, rfl⟩ | (refine ⟨?_, _, rfl⟩; simp_all)
theorem shp2 (t : Ty) (rs : List Rc) (H : AHeap) : Comp' 62 [.agg (tyR t), .sl 2 (rs.map rcR)] H (.sl 3 [tyR ⟨t.k, 0, []⟩]) := by
  refine ACall.drop (R := fun x => x = .sl 3 [tyR ⟨t.k, 0, []⟩]) ?_
  refine enter Try.func62 L62_ok (Nat.le_of_ble_eq_true rfl) ?_
  repeat' (first | (refine And.intro (by omega) ?_) | simp -implicitDefEqProofs (disch := omega) only [L62, tyR, dT_lt, dF_lt, dT_le, dF_le, dT_eq, dF_eq, push_cast, ↓reduceIte, Nat.reduceEqDiff, reduceCtorEq, Nat.reduceAdd, Nat.reduceSub, Nat.reduceMul, Nat.reduceLeDiff, Nat.reduceLT, Nat.reduceMod, Nat.reduceDiv, Int.reduceToNat, Int.reduceLT, Int.reduceLE, Int.reduceEq, Int.reduceAdd, Int.reduceSub, Int.reduceNeg, Int.reduceMul, Bool.and_self] | split)
  exact ⟨_, rfl⟩
theorem shp3 (t : Ty) (rs : List Rc) (H : AHeap) : Comp' 63 [.agg (tyR t), .sl 2 (rs.map rcR)] H (bool (decide (1 ≤ t.len) && decide (t.len ≤ 8) && decide (t.rc = []))) := by
  refine ACall.drop (R := fun x => x = bool (decide (1 ≤ t.len) && decide (t.len ≤ 8) && decide (t.rc = []))) ?_
  refine enter Try.func63 L63_ok (Nat.le_of_ble_eq_true rfl) ?_
  repeat' (first | (refine And.intro (by omega) ?_) | simp -implicitDefEqProofs (disch := omega) only [L63, tyR, dT_lt, dF_lt, dT_le, dF_le, dT_eq, dF_eq, push_cast, ↓reduceIte, Nat.reduceEqDiff, reduceCtorEq, Nat.reduceAdd, Nat.reduceSub, Nat.reduceMul, Nat.reduceLeDiff, Nat.reduceLT, Nat.reduceMod, Nat.reduceDiv, Int.reduceToNat, Int.reduceLT, Int.reduceLE, Int.reduceEq, Int.reduceAdd, Int.reduceSub, Int.reduceNeg, Int.reduceMul, Bool.and_self] | split)
  all_goals first | exact ⟨_, rfl⟩ | (refine ⟨?_, _, rfl⟩; simp_all)
theorem shp5 (t : Ty) (rs : List Rc) (H : AHeap) (hl : (rs.length : Int) < 9223372036854775807) : Comp' 66 [.agg (tyR t), .sl 2 (rs.map rcR)] H (bool (decide (t.len = 0) && (idxF rs t.rc).isSome)) := by
  refine ACall.drop (R := fun x => x = bool (decide (t.len = 0) && (idxF rs t.rc).isSome)) ?_
  refine enter Try.func66 L66_ok (Nat.le_of_ble_eq_true rfl) ?_
  cases hi : idxF rs t.rc with
  | none =>
    have hr : recV rs t.rc = .tup [.agg [str [], nilS], bool false] := by unfold recV; rw [hi]
    repeat' (first | (refine And.intro (by omega) ?_) | (refine callF_pure (record _ _ _ hl) ?_) | (refine callQF_pure (record _ _ _ hl) (by first | rfl | simp only [L66, tyR, hr, push_cast, ↓reduceIte, Nat.reduceEqDiff]) ?_) | simp -implicitDefEqProofs (disch := omega) only [L66, tyR, hr, dT_lt, dF_lt, dT_le, dF_le, dT_eq, dF_eq, push_cast, ↓reduceIte, Nat.reduceEqDiff, reduceCtorEq, Nat.reduceAdd, Nat.reduceSub, Nat.reduceMul, Nat.reduceLeDiff, Nat.reduceLT, Nat.reduceMod, Nat.reduceDiv, Int.reduceToNat, Int.reduceLT, Int.reduceLE, Int.reduceEq, Int.reduceAdd, Int.reduceSub, Int.reduceNeg, Int.reduceMul, Bool.and_self] | split)
    all_goals first | exact ⟨_, rfl⟩ | (refine ⟨?_, _, rfl⟩; simp_all)
  | some i =>
    have hr : recV rs t.rc = .tup [.agg (rcR (rs.getD i default)), bool true] := by unfold recV; rw [hi]
    repeat' (first | (refine And.intro (by omega) ?_) | (refine callF_pure (record _ _ _ hl) ?_) | (refine callQF_pure (record _ _ _ hl) (by first | rfl | simp only [L66, tyR, hr, rcR, push_cast, ↓reduceIte, Nat.reduceEqDiff]) ?_) | simp -implicitDefEqProofs (disch := omega) only [L66, tyR, hr, rcR, dT_lt, dF_lt, dT_le, dF_le, dT_eq, dF_eq, push_cast, ↓reduceIte, Nat.reduceEqDiff, reduceCtorEq, Nat.reduceAdd, Nat.reduceSub, Nat.reduceMul, Nat.reduceLeDiff, Nat.reduceLT, Nat.reduceMod, Nat.reduceDiv, Int.reduceToNat, Int.reduceLT, Int.reduceLE, Int.reduceEq, Int.reduceAdd, Int.reduceSub, Int.reduceNeg, Int.reduceMul, Bool.and_self] | split)
    all_goals first | exact ⟨_, rfl⟩ | (refine ⟨?_, _, rfl⟩; simp_all)
def scR (f : Fd) : List AV := tyR (scF f.ty)
theorem shp6 (t : Ty) (rs : List Rc) (i : Nat) (H : AHeap) (hl : (rs.length : Int) < 9223372036854775807) (hi : idxF rs t.rc = some i) (hf : ∀ r ∈ rs, r.fields.length ≤ 20) :
    Comp' 68 [.agg (tyR t), .sl 2 (rs.map rcR)] H (.sl 3 ((rs.getD i default).fields.map scR)) := by
  refine ACall.drop (R := fun x => x = .sl 3 ((rs.getD i default).fields.map scR)) ?_
  refine enter Try.func68 L68_ok (Nat.le_of_ble_eq_true rfl) ?_
  have hr : recV rs t.rc = .tup [.agg (rcR (rs.getD i default)), bool true] := by unfold recV; rw [hi]
  have hlt := (find_lt hi).1
  have h20 := hf _ (getD_mem' hlt)
  generalize rs.getD i default = r at hr h20 ⊢
  repeat' (first | (refine And.intro (by omega) ?_) | (refine callF_pure (record _ _ _ hl) ?_) | (refine callQF_pure (record _ _ _ hl) (by first | rfl | simp only [L68, tyR, hr, rcR, push_cast, ↓reduceIte, Nat.reduceEqDiff]) ?_) | simp -implicitDefEqProofs (disch := omega) only [L68, tyR, hr, rcR, dT_lt, dF_lt, dT_le, dF_le, dT_eq, dF_eq, push_cast, ↓reduceIte, Nat.reduceEqDiff, reduceCtorEq, Nat.reduceAdd, Nat.reduceSub, Nat.reduceMul, Nat.reduceLeDiff, Nat.reduceLT, Nat.reduceMod, Nat.reduceDiv, Int.reduceToNat, Int.reduceLT, Int.reduceLE, Int.reduceEq, Int.reduceAdd, Int.reduceSub, Int.reduceNeg, Int.reduceMul, Bool.and_self] | split)
  refine rk_loopS (fun (p : Nat × Nat × List HO) e' H' => e' 5 = .os (H.length + 1) p.2.1 0 p.1 ∧ e' 18 = .sl 4 (r.fields.map fdR) ∧ e' 19 = int r.fields.length ∧ e' 20 = int p.1 ∧ H' = H ++ .box (tyR t) :: .arr p.2.1 3 ((r.fields.take p.1).map scR) :: p.2.2 ∧ p.1 ≤ r.fields.length) (fun p => r.fields.length - p.1) (0, 0, [.box (rcR r)]) ?_ ?_
  · exact ⟨rfl, rfl, rfl, rfl, rfl, Nat.zero_le _⟩
  rintro ⟨j, ver, rest⟩ e' H' ⟨h5, h18, h19, h20', rfl, hj⟩
  simp only at h5 h18 h19 h20' hj
  have hlen : ((r.fields.take j).map scR).length = j := by simp; omega
  by_cases hlt : j < r.fields.length
  · have hsn : (r.fields.take j).map scR ++ [[int (scF (r.fields.getD j default).ty).k, int (scF (r.fields.getD j default).ty).len, str (scF (r.fields.getD j default).ty).rc]] = (r.fields.take (j + 1)).map scR := by rw [take_snoc hlt]; simp [scR, tyR]
    repeat' (first | (refine And.intro (by omega) ?_) | (refine callF_pure (scalar (r.fields.getD j default).ty _) ?_) | (refine callQF_pure (scalar (r.fields.getD j default).ty _) (by first | rfl | simp only [h5, h18, h19, h20', rows_getD, fdR, tyR, hlen, all_take _ (Nat.le_of_eq hlen), hsn, push_cast, ↓reduceIte, Nat.reduceEqDiff]) ?_) | simp -implicitDefEqProofs (disch := omega) only [h5, h18, h19, h20', rows_getD, fdR, tyR, hlen, all_take _ (Nat.le_of_eq hlen), hsn, dT_lt, dF_lt, dT_le, dF_le, dT_eq, dF_eq, push_cast, ↓reduceIte, Nat.reduceEqDiff, reduceCtorEq, Nat.reduceAdd, Nat.reduceSub, Nat.reduceMul, Nat.reduceLeDiff, Nat.reduceLT, Nat.reduceMod, Nat.reduceDiv, Int.reduceToNat, Int.reduceLT, Int.reduceLE, Int.reduceEq, Int.reduceAdd, Int.reduceSub, Int.reduceNeg, Int.reduceMul, Bool.and_self] | split)
    exact .mk (j + 1, ver + 1, rest ++ [_]) ⟨rfl, h18, h19, rfl, rfl, hlt⟩ (by simp only; omega)
  · repeat' (first | (refine And.intro (by omega) ?_) | (refine callF_pure (scalar _ _) ?_) | (refine callQF_pure (scalar _ _) (by first | rfl | simp only [h5, h18, h19, h20', hlen, all_take _ (Nat.le_of_eq hlen), push_cast, ↓reduceIte, Nat.reduceEqDiff]) ?_) | simp -implicitDefEqProofs (disch := omega) only [h5, h18, h19, h20', hlen, all_take _ (Nat.le_of_eq hlen), dT_lt, dF_lt, dT_le, dF_le, dT_eq, dF_eq, push_cast, ↓reduceIte, Nat.reduceEqDiff, reduceCtorEq, Nat.reduceAdd, Nat.reduceSub, Nat.reduceMul, Nat.reduceLeDiff, Nat.reduceLT, Nat.reduceMod, Nat.reduceDiv, Int.reduceToNat, Int.reduceLT, Int.reduceLE, Int.reduceEq, Int.reduceAdd, Int.reduceSub, Int.reduceNeg, Int.reduceMul, Bool.and_self] | split)
    exact ⟨by rw [all_take _ (by omega)], _, rfl⟩
end Go.Proofs.Yteidffcimidinaa

/- Types, part 2: repetition, shapes, Valid. -/
namespace Go.Proofs.Yteidffcimidinaa
open Go Go.Ax
set_option maxRecDepth 100000
set_option linter.unusedSimpArgs false
set_option linter.unusedVariables false

abbrev u64 (n : Int) : AV := .v (.int .u64 n)
theorem mul64 (n : Nat) (h1 : 1 ≤ n) (h8 : n ≤ 8) (H : AHeap) : Comp' 133 [u64 1, u64 n] H (.tup [u64 0, u64 n]) := by
  refine enter Try.func133 L133_ok (Nat.le_of_ble_eq_true rfl) ?_
  have hn : n = 1 ∨ n = 2 ∨ n = 3 ∨ n = 4 ∨ n = 5 ∨ n = 6 ∨ n = 7 ∨ n = 8 := by omega
  rcases hn with rfl | rfl | rfl | rfl | rfl | rfl | rfl | rfl
  all_goals
    simp -implicitDefEqProofs (disch := omega) only [L133, push_cast, ↓reduceIte, Nat.reduceEqDiff, reduceCtorEq, Nat.reduceAdd, Nat.reduceSub, Nat.reduceMul, Nat.reduceLeDiff, Nat.reduceLT, Nat.reduceMod, Nat.reduceDiv, Int.reduceToNat, Int.reduceLT, Int.reduceLE, Int.reduceEq, Int.reduceAdd, Int.reduceSub, Int.reduceNeg, Int.reduceMul, Bool.and_self]
    refine congrArg (fun n : Int => AV.tup [u64 n, _]) ?_
    decide +kernel
theorem mulC (n : Nat) (h1 : 1 ≤ n) (h8 : n ≤ 8) (H : AHeap) : Comp' 102 [u64 1, u64 n] H (.tup [u64 0, u64 n]) := by
  refine enter Try.func102 L102_ok (Nat.le_of_ble_eq_true rfl) ?_
  repeat' (first | (refine And.intro (by omega) ?_) | (refine callF_pure (mul64 n h1 h8 _) ?_) | (refine callQF_pure (mul64 n h1 h8 _) (by first | rfl | simp only [L102, push_cast, ↓reduceIte, Nat.reduceEqDiff]) ?_) | simp -implicitDefEqProofs (disch := omega) only [L102, push_cast, ↓reduceIte, Nat.reduceEqDiff, reduceCtorEq, Nat.reduceAdd, Nat.reduceSub, Nat.reduceMul, Nat.reduceLeDiff, Nat.reduceLT, Nat.reduceMod, Nat.reduceDiv, Int.reduceToNat, Int.reduceLT, Int.reduceLE, Int.reduceEq, Int.reduceAdd, Int.reduceSub, Int.reduceNeg, Int.reduceMul, Bool.and_self] | split)

theorem rep_step {row : List AV} {xs : List (List AV)} {m n : Nat} (hl : xs.length = n) (hm : m ≤ n) (ht : xs.take m = List.replicate m row) :
    (xs.take m ++ (xs.take m).take (min m (n - m)) ++ xs.drop (m + min m (n - m))).length = n ∧ (xs.take m ++ (xs.take m).take (min m (n - m)) ++ xs.drop (m + min m (n - m))).take (m + min m (n - m)) = List.replicate (m + min m (n - m)) row := by
  refine ⟨by simp [hl]; omega, ?_⟩
  rw [ht, List.take_replicate, show min (min m (n - m)) m = min m (n - m) by omega, List.replicate_append_replicate]
  rw [List.take_left' (by simp)]

theorem repeatC (t : Ty) (n : Nat) (h1 : 1 ≤ n) (h8 : n ≤ 8) (H : AHeap) : Comp' 65 [.sl 3 [tyR t], int n] H (.sl 3 (List.replicate n (tyR t))) := by
  refine ACall.drop (R := fun x => x = .sl 3 (List.replicate n (tyR t))) ?_
  refine enter Try.func65 L65_ok (Nat.le_of_ble_eq_true rfl) ?_
  have w1 : IntKind.u64.wrap 1 = 1 := by decide
  have w2 : IntKind.u64.wrap n = n := wrapu64_of _ (by omega) (by omega)
  have hmin : min 1 n = 1 := by omega
  repeat' (first | (refine And.intro (by omega) ?_) | (refine callF_pure (mulC n h1 h8 _) ?_) | (refine callQF_pure (mulC n h1 h8 _) (by first | rfl | simp only [L65, w1, w2, hmin, push_cast, ↓reduceIte, Nat.reduceEqDiff]) ?_) | simp -implicitDefEqProofs (disch := omega) only [L65, w1, w2, hmin, dT_lt, dF_lt, dT_le, dF_le, dT_eq, dF_eq, push_cast, ↓reduceIte, Nat.reduceEqDiff, reduceCtorEq, Nat.reduceAdd, Nat.reduceSub, Nat.reduceMul, Nat.reduceLeDiff, Nat.reduceLT, Nat.reduceMod, Nat.reduceDiv, Int.reduceToNat, Int.reduceLT, Int.reduceLE, Int.reduceEq, Int.reduceAdd, Int.reduceSub, Int.reduceNeg, Int.reduceMul, Bool.and_self] | split)
  refine rk_loopS (fun (p : Nat × List (List AV)) e' H' => e' 7 = .os H.length 0 0 n ∧ e' 8 = int p.1 ∧ H' = H ++ [.arr 0 3 p.2] ∧ 1 ≤ p.1 ∧ p.1 ≤ n ∧ p.2.length = n ∧ p.2.take p.1 = List.replicate p.1 (tyR t)) (fun p => n - p.1) (1, tyR t :: List.drop 1 (List.replicate n [int 0, int 0, str []])) ?_ ?_
  · exact ⟨rfl, rfl, rfl, by omega, h1, by simp; omega, rfl⟩
  rintro ⟨m, xs⟩ e' H' ⟨h7, h8', rfl, hm1, hmn, hl, ht⟩
  simp only at h7 h8' hm1 hmn hl ht
  have hst := rep_step hl hmn ht
  by_cases hlt : m < n
  · have e1 : min (xs.take m).length (n - m) = min m (n - m) := by simp; omega
    rw [List.append_assoc] at hst
    repeat' (first | (refine And.intro (by omega) ?_) | simp -implicitDefEqProofs (disch := omega) only [h7, h8', osRows_eq, osRowsO_arr, Nat.zero_add, Nat.sub_zero, e1, dT_lt, dF_lt, dT_le, dF_le, dT_eq, dF_eq, push_cast, ↓reduceIte, Nat.reduceEqDiff, reduceCtorEq, Nat.reduceAdd, Nat.reduceSub, Nat.reduceMul, Nat.reduceLeDiff, Nat.reduceLT, Nat.reduceMod, Nat.reduceDiv, Int.reduceToNat, Int.reduceLT, Int.reduceLE, Int.reduceEq, Int.reduceAdd, Int.reduceSub, Int.reduceNeg, Int.reduceMul, Bool.and_self] | split)
    exact .mk (m + min m (n - m), _) ⟨h7, by simp [up], rfl, by simp only; omega, by simp only; omega, hst.1, hst.2⟩ (by simp only; omega)
  · repeat' (first | (refine And.intro (by omega) ?_) | simp -implicitDefEqProofs (disch := omega) only [h7, h8', dT_lt, dF_lt, dT_le, dF_le, dT_eq, dF_eq, push_cast, ↓reduceIte, Nat.reduceEqDiff, reduceCtorEq, Nat.reduceAdd, Nat.reduceSub, Nat.reduceMul, Nat.reduceLeDiff, Nat.reduceLT, Nat.reduceMod, Nat.reduceDiv, Int.reduceToNat, Int.reduceLT, Int.reduceLE, Int.reduceEq, Int.reduceAdd, Int.reduceSub, Int.reduceNeg, Int.reduceMul, Bool.and_self] | split)
    have : m = n := by omega
    subst this
    exact ⟨by rw [ht], _, rfl⟩

theorem shp4 (t : Ty) (rs : List Rc) (n : Nat) (hn : t.len = n) (h1 : 1 ≤ n) (h8 : n ≤ 8) (H : AHeap) : Comp' 64 [.agg (tyR t), .sl 2 (rs.map rcR)] H (.sl 3 (List.replicate n (tyR tyI))) := by
  refine ACall.drop (R := fun x => x = .sl 3 (List.replicate n (tyR tyI))) ?_
  refine enter Try.func64 L64_ok (Nat.le_of_ble_eq_true rfl) ?_
  repeat' (first | (refine And.intro (by omega) ?_) | (refine callF_pure (repeatC tyI n h1 h8 _) ?_) | (refine callQF_pure (repeatC tyI n h1 h8 _) (by first | rfl | simp only [L64, tyR, hn, push_cast, ↓reduceIte, Nat.reduceEqDiff]) ?_) | simp -implicitDefEqProofs (disch := omega) only [L64, tyR, hn, dT_lt, dF_lt, dT_le, dF_le, dT_eq, dF_eq, push_cast, ↓reduceIte, Nat.reduceEqDiff, reduceCtorEq, Nat.reduceAdd, Nat.reduceSub, Nat.reduceMul, Nat.reduceLeDiff, Nat.reduceLT, Nat.reduceMod, Nat.reduceDiv, Int.reduceToNat, Int.reduceLT, Int.reduceLE, Int.reduceEq, Int.reduceAdd, Int.reduceSub, Int.reduceNeg, Int.reduceMul, Bool.and_self] | split)
  exact ⟨_, rfl⟩

def shpK : List Value := [.int .i64 1, .int .i64 2, .int .i64 3, .int .i64 4]
def shpX : List AV := [.agg [.fn (.func 61) [] [], .fn (.func 62) [] []], .agg [.fn (.func 61) [] [], .fn (.func 62) [] []], .agg [.fn (.func 63) [] [], .fn (.func 64) [] []], .agg [.fn (.func 66) [] [], .fn (.func 68) [] []]]
theorem shapes (H : AHeap) : Comp' 24 [] H (.mp shpK shpX) := by
  refine ACall.drop (R := fun x => x = .mp shpK shpX) ?_
  refine enter Try.func24 L24_ok (Nat.le_of_ble_eq_true rfl) ?_
  repeat' (first | (refine And.intro (by omega) ?_) | simp -implicitDefEqProofs (disch := omega) only [L24, dT_lt, dF_lt, dT_le, dF_le, dT_eq, dF_eq, push_cast, ↓reduceIte, Nat.reduceEqDiff, reduceCtorEq, Nat.reduceAdd, Nat.reduceSub, Nat.reduceMul, Nat.reduceLeDiff, Nat.reduceLT, Nat.reduceMod, Nat.reduceDiv, Int.reduceToNat, Int.reduceLT, Int.reduceLE, Int.reduceEq, Int.reduceAdd, Int.reduceSub, Int.reduceNeg, Int.reduceMul, Bool.and_self] | split)
  simp [kEq, shpK, shpX]
theorem shp_cmp (n : Int) : (∀ k' ∈ shpK, kCmp (.int .i64 n) k' = true) = True := by simp [shpK, kCmp]
theorem shp_1 : mget (.int .i64 1) shpK shpX = some (.agg [.fn (.func 61) [] [], .fn (.func 62) [] []]) := rfl
theorem shp_2 : mget (.int .i64 2) shpK shpX = some (.agg [.fn (.func 61) [] [], .fn (.func 62) [] []]) := rfl
theorem shp_3 : mget (.int .i64 3) shpK shpX = some (.agg [.fn (.func 63) [] [], .fn (.func 64) [] []]) := rfl
theorem shp_4 : mget (.int .i64 4) shpK shpX = some (.agg [.fn (.func 66) [] [], .fn (.func 68) [] []]) := rfl
theorem shp_no {k : Int} (h : k ≠ 1 ∧ k ≠ 2 ∧ k ≠ 3 ∧ k ≠ 4) : mget (.int .i64 k) shpK shpX = none := by
  simp [mget, shpK, shpX, kEq, h]

/-- Does a type exist? -/
def validF (t : Ty) (rs : List Rc) : Bool :=
  if t.k = 1 ∨ t.k = 2 then decide (t.len = 0) && decide (t.rc = [])
  else if t.k = 3 then decide (1 ≤ t.len) && decide (t.len ≤ 8) && decide (t.rc = [])
  else if t.k = 4 then decide (t.len = 0) && (idxF rs t.rc).isSome
  else false
theorem valid (t : Ty) (rs : List Rc) (H : AHeap) (hl : (rs.length : Int) < 9223372036854775807) : Comp' 7 [.agg (tyR t), .sl 2 (rs.map rcR)] H (bool (validF t rs)) := by
  refine ACall.drop (R := fun x => x = bool (validF t rs)) ?_
  refine enter Try.func7 L7_ok (Nat.le_of_ble_eq_true rfl) ?_
  obtain ⟨k, len, rc⟩ := t
  have hk : k = 1 ∨ k = 2 ∨ k = 3 ∨ k = 4 ∨ (k ≠ 1 ∧ k ≠ 2 ∧ k ≠ 3 ∧ k ≠ 4) := by omega
  rcases hk with rfl | rfl | rfl | rfl | hk
  · repeat' (first | (refine And.intro (by omega) ?_) | (refine callF_pure (shapes _) ?_) | (refine callF_pure (shp1 ⟨1, len, rc⟩ rs _) ?_) | (refine callQF_pure (shapes _) (by first | rfl | simp only [L7, tyR, shp_1, shp_cmp, lookV, push_cast, ↓reduceIte, Nat.reduceEqDiff]) ?_) | (refine callQF_pure (shp1 ⟨1, len, rc⟩ rs _) (by first | rfl | simp only [L7, tyR, shp_1, shp_cmp, lookV, push_cast, ↓reduceIte, Nat.reduceEqDiff]) ?_) | simp -implicitDefEqProofs (disch := omega) only [L7, tyR, shp_1, shp_cmp, lookV, dT_lt, dF_lt, dT_le, dF_le, dT_eq, dF_eq, push_cast, ↓reduceIte, Nat.reduceEqDiff, reduceCtorEq, Nat.reduceAdd, Nat.reduceSub, Nat.reduceMul, Nat.reduceLeDiff, Nat.reduceLT, Nat.reduceMod, Nat.reduceDiv, Int.reduceToNat, Int.reduceLT, Int.reduceLE, Int.reduceEq, Int.reduceAdd, Int.reduceSub, Int.reduceNeg, Int.reduceMul, Bool.and_self] | split)
    exact ⟨rfl, _, rfl⟩
  · repeat' (first | (refine And.intro (by omega) ?_) | (refine callF_pure (shapes _) ?_) | (refine callF_pure (shp1 ⟨2, len, rc⟩ rs _) ?_) | (refine callQF_pure (shapes _) (by first | rfl | simp only [L7, tyR, shp_2, shp_cmp, lookV, push_cast, ↓reduceIte, Nat.reduceEqDiff]) ?_) | (refine callQF_pure (shp1 ⟨2, len, rc⟩ rs _) (by first | rfl | simp only [L7, tyR, shp_2, shp_cmp, lookV, push_cast, ↓reduceIte, Nat.reduceEqDiff]) ?_) | simp -implicitDefEqProofs (disch := omega) only [L7, tyR, shp_2, shp_cmp, lookV, dT_lt, dF_lt, dT_le, dF_le, dT_eq, dF_eq, push_cast, ↓reduceIte, Nat.reduceEqDiff, reduceCtorEq, Nat.reduceAdd, Nat.reduceSub, Nat.reduceMul, Nat.reduceLeDiff, Nat.reduceLT, Nat.reduceMod, Nat.reduceDiv, Int.reduceToNat, Int.reduceLT, Int.reduceLE, Int.reduceEq, Int.reduceAdd, Int.reduceSub, Int.reduceNeg, Int.reduceMul, Bool.and_self] | split)
    exact ⟨rfl, _, rfl⟩
  · repeat' (first | (refine And.intro (by omega) ?_) | (refine callF_pure (shapes _) ?_) | (refine callF_pure (shp3 ⟨3, len, rc⟩ rs _) ?_) | (refine callQF_pure (shapes _) (by first | rfl | simp only [L7, tyR, shp_3, shp_cmp, lookV, push_cast, ↓reduceIte, Nat.reduceEqDiff]) ?_) | (refine callQF_pure (shp3 ⟨3, len, rc⟩ rs _) (by first | rfl | simp only [L7, tyR, shp_3, shp_cmp, lookV, push_cast, ↓reduceIte, Nat.reduceEqDiff]) ?_) | simp -implicitDefEqProofs (disch := omega) only [L7, tyR, shp_3, shp_cmp, lookV, dT_lt, dF_lt, dT_le, dF_le, dT_eq, dF_eq, push_cast, ↓reduceIte, Nat.reduceEqDiff, reduceCtorEq, Nat.reduceAdd, Nat.reduceSub, Nat.reduceMul, Nat.reduceLeDiff, Nat.reduceLT, Nat.reduceMod, Nat.reduceDiv, Int.reduceToNat, Int.reduceLT, Int.reduceLE, Int.reduceEq, Int.reduceAdd, Int.reduceSub, Int.reduceNeg, Int.reduceMul, Bool.and_self] | split)
    exact ⟨rfl, _, rfl⟩
  · repeat' (first | (refine And.intro (by omega) ?_) | (refine callF_pure (shapes _) ?_) | (refine callF_pure (shp5 ⟨4, len, rc⟩ rs _ hl) ?_) | (refine callQF_pure (shapes _) (by first | rfl | simp only [L7, tyR, shp_4, shp_cmp, lookV, push_cast, ↓reduceIte, Nat.reduceEqDiff]) ?_) | (refine callQF_pure (shp5 ⟨4, len, rc⟩ rs _ hl) (by first | rfl | simp only [L7, tyR, shp_4, shp_cmp, lookV, push_cast, ↓reduceIte, Nat.reduceEqDiff]) ?_) | simp -implicitDefEqProofs (disch := omega) only [L7, tyR, shp_4, shp_cmp, lookV, dT_lt, dF_lt, dT_le, dF_le, dT_eq, dF_eq, push_cast, ↓reduceIte, Nat.reduceEqDiff, reduceCtorEq, Nat.reduceAdd, Nat.reduceSub, Nat.reduceMul, Nat.reduceLeDiff, Nat.reduceLT, Nat.reduceMod, Nat.reduceDiv, Int.reduceToNat, Int.reduceLT, Int.reduceLE, Int.reduceEq, Int.reduceAdd, Int.reduceSub, Int.reduceNeg, Int.reduceMul, Bool.and_self] | split)
    exact ⟨rfl, _, rfl⟩
  · repeat' (first | (refine And.intro (by omega) ?_) | (refine callF_pure (shapes _) ?_) | (refine callQF_pure (shapes _) (by first | rfl | simp only [L7, tyR, shp_no hk, shp_cmp, lookV, push_cast, ↓reduceIte, Nat.reduceEqDiff]) ?_) | simp -implicitDefEqProofs (disch := omega) only [L7, tyR, shp_no hk, shp_cmp, lookV, dT_lt, dF_lt, dT_le, dF_le, dT_eq, dF_eq, push_cast, ↓reduceIte, Nat.reduceEqDiff, reduceCtorEq, Nat.reduceAdd, Nat.reduceSub, Nat.reduceMul, Nat.reduceLeDiff, Nat.reduceLT, Nat.reduceMod, Nat.reduceDiv, Int.reduceToNat, Int.reduceLT, Int.reduceLE, Int.reduceEq, Int.reduceAdd, Int.reduceSub, Int.reduceNeg, Int.reduceMul, Bool.and_self] | split)
    exact ⟨by simp [validF, hk], _, rfl⟩
end Go.Proofs.Yteidffcimidinaa

/- Types, part 3: scalars. -/
namespace Go.Proofs.Yteidffcimidinaa
open Go Go.Ax
set_option maxRecDepth 100000
set_option linter.unusedSimpArgs false
set_option linter.unusedVariables false

/-- The scalars of a type that exists. -/
def scal1 (rs : List Rc) (t : Ty) : List Ty :=
  if t.k = 3 then List.replicate t.len.toNat tyI
  else if t.k = 4 then (match idxF rs t.rc with | some i => (rs.getD i default).fields.map fun f => scF f.ty | none => [])
  else [⟨t.k, 0, []⟩]
def scalV (rs : List Rc) (l : List Ty) : AV := if l.all (fun t => validF t rs) = true then .sl 3 ((l.flatMap (scal1 rs)).map tyR) else nilS
structure Few (rs : List Rc) : Prop where
  len : rs.length ≤ 20
  fields : ∀ r ∈ rs, r.fields.length ≤ 20
theorem scal1_len {rs : List Rc} {t : Ty} (hf : Few rs) (hv : validF t rs = true) : (scal1 rs t).length ≤ 20 := by
  unfold scal1
  split
  · rename_i h
    unfold validF at hv
    rw [if_neg (by omega), if_pos h] at hv
    simp at hv
    simp; omega
  · split
    · split
      · rename_i i hi
        simpa using hf.fields _ (getD_mem' (find_lt hi).1)
      · simp
    · simp
theorem valid_kinds {t : Ty} {rs : List Rc} (hv : validF t rs = true) : t.k = 1 ∨ t.k = 2 ∨ (t.k = 3 ∧ 1 ≤ t.len ∧ t.len ≤ 8) ∨ (t.k = 4 ∧ ∃ i, idxF rs t.rc = some i) := by
  unfold validF at hv
  split at hv
  · omega
  · split at hv
    · simp at hv; omega
    · split at hv
      · simp at hv
        obtain ⟨_, h⟩ := hv
        cases hi : idxF rs t.rc with
        | none => rw [hi] at h; simp at h
        | some i => exact .inr (.inr (.inr ⟨‹_›, i, rfl⟩))
      · simp at hv

theorem flat_take {rs : List Rc} {l : List Ty} {j : Nat} (h : j < l.length) : ((l.take j).flatMap (scal1 rs)).map tyR ++ (scal1 rs (l.getD j default)).map tyR = ((l.take (j + 1)).flatMap (scal1 rs)).map tyR := by
  rw [take_snoc h]; simp
theorem flat_len {rs : List Rc} (hf : Few rs) : ∀ {l : List Ty}, (∀ t ∈ l, validF t rs = true) → (l.flatMap (scal1 rs)).length ≤ 20 * l.length
  | [], _ => by simp
  | t :: l, h => by
    have h1 := scal1_len hf (h t (by simp))
    have h2 := flat_len hf (l := l) fun t ht => h t (by simp [ht])
    simp only [List.flatMap_cons, List.length_append, List.length_cons]; omega
theorem all_upto {α : Type} [Inhabited α] {l : List α} {p : α → Prop} {j : Nat} (h : ∀ i, i < j → p (l.getD i default)) (hj : j ≤ l.length) : ∀ t ∈ l.take j, p t := by
  intro t ht
  obtain ⟨i, hi, rfl⟩ := List.mem_iff_getElem.1 ht
  have := h i (by simp at hi; omega)
  simp at hi
  simpa [List.getD_eq_getElem?_getD, show i < l.length by omega] using this
theorem scalV_no {rs : List Rc} {l : List Ty} {j : Nat} (hj : j < l.length) (h : validF (l.getD j default) rs = false) : scalV rs l = nilS := by
  unfold scalV
  rw [if_neg]
  intro hh
  rw [List.all_eq_true] at hh
  rw [hh _ (getD_mem' hj)] at h
  cases h
theorem scalV_yes {rs : List Rc} {l : List Ty} (h : ∀ i, i < l.length → validF (l.getD i default) rs = true) : scalV rs l = .sl 3 ((l.flatMap (scal1 rs)).map tyR) := by
  unfold scalV
  rw [if_pos]
  rw [List.all_eq_true]
  intro t ht
  have := all_upto (p := fun t => validF t rs = true) h (Nat.le_refl _) t (by rw [List.take_length]; exact ht)
  exact this

theorem scalars (rs : List Rc) (l : List Ty) (H : AHeap) (hf : Few rs) (hl : l.length ≤ 20) : Comp' 32 [.sl 2 (rs.map rcR), .sl 3 (l.map tyR)] H (scalV rs l) := by
  refine ACall.drop (R := fun x => x = scalV rs l) ?_
  refine enter Try.func32 L32_ok (Nat.le_of_ble_eq_true rfl) ?_
  have hrl := hf.len
  repeat' (first | (refine And.intro (by omega) ?_) | simp -implicitDefEqProofs (disch := omega) only [L32, dT_lt, dF_lt, dT_le, dF_le, dT_eq, dF_eq, push_cast, ↓reduceIte, Nat.reduceEqDiff, reduceCtorEq, Nat.reduceAdd, Nat.reduceSub, Nat.reduceMul, Nat.reduceLeDiff, Nat.reduceLT, Nat.reduceMod, Nat.reduceDiv, Int.reduceToNat, Int.reduceLT, Int.reduceLE, Int.reduceEq, Int.reduceAdd, Int.reduceSub, Int.reduceNeg, Int.reduceMul, Bool.and_self] | split)
  refine rk_loopS (fun (p : Nat × Nat × List HO) e' H' => e' 0 = .sl 2 (rs.map rcR) ∧ e' 5 = .os H.length p.2.1 0 ((l.take p.1).flatMap (scal1 rs)).length ∧ e' 8 = .sl 3 (l.map tyR) ∧ e' 9 = int l.length ∧ e' 10 = int p.1 ∧ H' = H ++ .arr p.2.1 3 (((l.take p.1).flatMap (scal1 rs)).map tyR) :: p.2.2 ∧ p.1 ≤ l.length ∧ ∀ i, i < p.1 → validF (l.getD i default) rs = true) (fun p => l.length - p.1) (0, 0, []) ?_ ?_
  · exact ⟨rfl, rfl, rfl, rfl, rfl, rfl, Nat.zero_le _, by simp⟩
  rintro ⟨j, ver, rest⟩ e' H' ⟨h0, h5, h8, h9, h10, rfl, hj, hv⟩
  simp only at h0 h5 h8 h9 h10 hj hv
  have hlen := flat_len hf (all_upto (p := fun t => validF t rs = true) hv hj)
  have hl0 : (l.take j).length = j := by simp; omega
  by_cases hlt : j < l.length
  · have hft := flat_take (rs := rs) hlt
    by_cases hvj : validF (l.getD j default) rs = true
    · have hlen1 := scal1_len hf hvj
      have hall := upto_succ (p := fun i => validF (l.getD i default) rs = true) hv hvj
      have hk := valid_kinds hvj
      generalize hte : l.getD j default = t at hft hvj hk hlen1
      obtain ⟨k, len, rc⟩ := t
      simp only at hk
      rcases hk with rfl | rfl | ⟨rfl, hk1, hk2⟩ | ⟨rfl, i, hi⟩
      · have hs : (scal1 rs ⟨1, len, rc⟩).map tyR = [[int 1, int 0, str []]] := by rfl
        rw [hs] at hft
        have hfl : ((l.take j).flatMap (scal1 rs)).length + 1 = ((l.take (j + 1)).flatMap (scal1 rs)).length := by have := congrArg List.length hft; simpa using this
        have hb : 1 ≤ 20 := by have := congrArg List.length hs; simp only [List.length_map] at this; omega
        repeat' (first | (refine And.intro (by omega) ?_) | (refine callF_pure (valid ⟨1, len, rc⟩ rs _ (by omega)) ?_) | (refine callF_pure (shapes _) ?_) | (refine callF_pure (shp2 ⟨1, len, rc⟩ rs _) ?_) | (refine callQF_pure (valid ⟨1, len, rc⟩ rs _ (by omega)) (by first | rfl | simp only [h0, h5, h8, h9, h10, rows_getD, hte, tyR, hvj, shp_1, shp_cmp, lookV, hft, List.length_replicate, push_cast, ↓reduceIte, Nat.reduceEqDiff]) ?_) | (refine callQF_pure (shapes _) (by first | rfl | simp only [h0, h5, h8, h9, h10, rows_getD, hte, tyR, hvj, shp_1, shp_cmp, lookV, hft, List.length_replicate, push_cast, ↓reduceIte, Nat.reduceEqDiff]) ?_) | (refine callQF_pure (shp2 ⟨1, len, rc⟩ rs _) (by first | rfl | simp only [h0, h5, h8, h9, h10, rows_getD, hte, tyR, hvj, shp_1, shp_cmp, lookV, hft, List.length_replicate, push_cast, ↓reduceIte, Nat.reduceEqDiff]) ?_) | simp -implicitDefEqProofs (disch := omega) only [h0, h5, h8, h9, h10, rows_getD, hte, tyR, hvj, shp_1, shp_cmp, lookV, hft, List.length_replicate, dT_lt, dF_lt, dT_le, dF_le, dT_eq, dF_eq, push_cast, ↓reduceIte, Nat.reduceEqDiff, reduceCtorEq, Nat.reduceAdd, Nat.reduceSub, Nat.reduceMul, Nat.reduceLeDiff, Nat.reduceLT, Nat.reduceMod, Nat.reduceDiv, Int.reduceToNat, Int.reduceLT, Int.reduceLE, Int.reduceEq, Int.reduceAdd, Int.reduceSub, Int.reduceNeg, Int.reduceMul, Bool.and_self] | split)
        exact .mk (j + 1, ver + 1, rest ++ [_]) ⟨h0, by rw [← hfl]; rfl, h8, h9, rfl, rfl, hlt, hall⟩ (by simp only; omega)
      · have hs : (scal1 rs ⟨2, len, rc⟩).map tyR = [[int 2, int 0, str []]] := by rfl
        rw [hs] at hft
        have hfl : ((l.take j).flatMap (scal1 rs)).length + 1 = ((l.take (j + 1)).flatMap (scal1 rs)).length := by have := congrArg List.length hft; simpa using this
        have hb : 1 ≤ 20 := by have := congrArg List.length hs; simp only [List.length_map] at this; omega
        repeat' (first | (refine And.intro (by omega) ?_) | (refine callF_pure (valid ⟨2, len, rc⟩ rs _ (by omega)) ?_) | (refine callF_pure (shapes _) ?_) | (refine callF_pure (shp2 ⟨2, len, rc⟩ rs _) ?_) | (refine callQF_pure (valid ⟨2, len, rc⟩ rs _ (by omega)) (by first | rfl | simp only [h0, h5, h8, h9, h10, rows_getD, hte, tyR, hvj, shp_2, shp_cmp, lookV, hft, List.length_replicate, push_cast, ↓reduceIte, Nat.reduceEqDiff]) ?_) | (refine callQF_pure (shapes _) (by first | rfl | simp only [h0, h5, h8, h9, h10, rows_getD, hte, tyR, hvj, shp_2, shp_cmp, lookV, hft, List.length_replicate, push_cast, ↓reduceIte, Nat.reduceEqDiff]) ?_) | (refine callQF_pure (shp2 ⟨2, len, rc⟩ rs _) (by first | rfl | simp only [h0, h5, h8, h9, h10, rows_getD, hte, tyR, hvj, shp_2, shp_cmp, lookV, hft, List.length_replicate, push_cast, ↓reduceIte, Nat.reduceEqDiff]) ?_) | simp -implicitDefEqProofs (disch := omega) only [h0, h5, h8, h9, h10, rows_getD, hte, tyR, hvj, shp_2, shp_cmp, lookV, hft, List.length_replicate, dT_lt, dF_lt, dT_le, dF_le, dT_eq, dF_eq, push_cast, ↓reduceIte, Nat.reduceEqDiff, reduceCtorEq, Nat.reduceAdd, Nat.reduceSub, Nat.reduceMul, Nat.reduceLeDiff, Nat.reduceLT, Nat.reduceMod, Nat.reduceDiv, Int.reduceToNat, Int.reduceLT, Int.reduceLE, Int.reduceEq, Int.reduceAdd, Int.reduceSub, Int.reduceNeg, Int.reduceMul, Bool.and_self] | split)
        exact .mk (j + 1, ver + 1, rest ++ [_]) ⟨h0, by rw [← hfl]; rfl, h8, h9, rfl, rfl, hlt, hall⟩ (by simp only; omega)
      · obtain ⟨n, hn⟩ : ∃ n : Nat, len = n := ⟨len.toNat, by omega⟩
        have hs : (scal1 rs ⟨3, len, rc⟩).map tyR = List.replicate n [int tyI.k, int tyI.len, str tyI.rc] := by simp [scal1, hn, tyR]
        rw [hs] at hft
        have hfl : ((l.take j).flatMap (scal1 rs)).length + n = ((l.take (j + 1)).flatMap (scal1 rs)).length := by have := congrArg List.length hft; simpa using this
        have hb : n ≤ 20 := by have := congrArg List.length hs; simp only [List.length_map] at this; omega
        repeat' (first | (refine And.intro (by omega) ?_) | (refine callF_pure (valid ⟨3, len, rc⟩ rs _ (by omega)) ?_) | (refine callF_pure (shapes _) ?_) | (refine callF_pure (shp4 ⟨3, len, rc⟩ rs n hn (by omega) (by omega) _) ?_) | (refine callQF_pure (valid ⟨3, len, rc⟩ rs _ (by omega)) (by first | rfl | simp only [h0, h5, h8, h9, h10, rows_getD, hte, tyR, hvj, shp_3, shp_cmp, lookV, hft, List.length_replicate, push_cast, ↓reduceIte, Nat.reduceEqDiff]) ?_) | (refine callQF_pure (shapes _) (by first | rfl | simp only [h0, h5, h8, h9, h10, rows_getD, hte, tyR, hvj, shp_3, shp_cmp, lookV, hft, List.length_replicate, push_cast, ↓reduceIte, Nat.reduceEqDiff]) ?_) | (refine callQF_pure (shp4 ⟨3, len, rc⟩ rs n hn (by omega) (by omega) _) (by first | rfl | simp only [h0, h5, h8, h9, h10, rows_getD, hte, tyR, hvj, shp_3, shp_cmp, lookV, hft, List.length_replicate, push_cast, ↓reduceIte, Nat.reduceEqDiff]) ?_) | simp -implicitDefEqProofs (disch := omega) only [h0, h5, h8, h9, h10, rows_getD, hte, tyR, hvj, shp_3, shp_cmp, lookV, hft, List.length_replicate, dT_lt, dF_lt, dT_le, dF_le, dT_eq, dF_eq, push_cast, ↓reduceIte, Nat.reduceEqDiff, reduceCtorEq, Nat.reduceAdd, Nat.reduceSub, Nat.reduceMul, Nat.reduceLeDiff, Nat.reduceLT, Nat.reduceMod, Nat.reduceDiv, Int.reduceToNat, Int.reduceLT, Int.reduceLE, Int.reduceEq, Int.reduceAdd, Int.reduceSub, Int.reduceNeg, Int.reduceMul, Bool.and_self] | split)
        exact .mk (j + 1, ver + 1, rest ++ [_]) ⟨h0, by rw [← hfl]; rfl, h8, h9, rfl, rfl, hlt, hall⟩ (by simp only; omega)
      · have hs : (scal1 rs ⟨4, len, rc⟩).map tyR = (rs.getD i default).fields.map scR := by simp [scal1, show idxF rs rc = some i from hi, scR]
        rw [hs] at hft
        have hfl : ((l.take j).flatMap (scal1 rs)).length + (rs.getD i default).fields.length = ((l.take (j + 1)).flatMap (scal1 rs)).length := by have := congrArg List.length hft; simpa using this
        have hb : (rs.getD i default).fields.length ≤ 20 := by have := congrArg List.length hs; simp only [List.length_map] at this; omega
        repeat' (first | (refine And.intro (by omega) ?_) | (refine callF_pure (valid ⟨4, len, rc⟩ rs _ (by omega)) ?_) | (refine callF_pure (shapes _) ?_) | (refine callF_pure (shp6 ⟨4, len, rc⟩ rs i _ (by omega) hi hf.fields) ?_) | (refine callQF_pure (valid ⟨4, len, rc⟩ rs _ (by omega)) (by first | rfl | simp only [h0, h5, h8, h9, h10, rows_getD, hte, tyR, hvj, shp_4, shp_cmp, lookV, hft, List.length_replicate, push_cast, ↓reduceIte, Nat.reduceEqDiff]) ?_) | (refine callQF_pure (shapes _) (by first | rfl | simp only [h0, h5, h8, h9, h10, rows_getD, hte, tyR, hvj, shp_4, shp_cmp, lookV, hft, List.length_replicate, push_cast, ↓reduceIte, Nat.reduceEqDiff]) ?_) | (refine callQF_pure (shp6 ⟨4, len, rc⟩ rs i _ (by omega) hi hf.fields) (by first | rfl | simp only [h0, h5, h8, h9, h10, rows_getD, hte, tyR, hvj, shp_4, shp_cmp, lookV, hft, List.length_replicate, push_cast, ↓reduceIte, Nat.reduceEqDiff]) ?_) | simp -implicitDefEqProofs (disch := omega) only [h0, h5, h8, h9, h10, rows_getD, hte, tyR, hvj, shp_4, shp_cmp, lookV, hft, List.length_replicate, dT_lt, dF_lt, dT_le, dF_le, dT_eq, dF_eq, push_cast, ↓reduceIte, Nat.reduceEqDiff, reduceCtorEq, Nat.reduceAdd, Nat.reduceSub, Nat.reduceMul, Nat.reduceLeDiff, Nat.reduceLT, Nat.reduceMod, Nat.reduceDiv, Int.reduceToNat, Int.reduceLT, Int.reduceLE, Int.reduceEq, Int.reduceAdd, Int.reduceSub, Int.reduceNeg, Int.reduceMul, Bool.and_self] | split)
        exact .mk (j + 1, ver + 1, rest ++ [_]) ⟨h0, by rw [← hfl]; rfl, h8, h9, rfl, rfl, hlt, hall⟩ (by simp only; omega)
    · have hvj' := Bool.eq_false_iff.2 hvj
      rw [scalV_no hlt hvj']
      repeat' (first | (refine And.intro (by omega) ?_) | (refine callF_pure (valid (l.getD j default) rs _ (by omega)) ?_) | (refine callQF_pure (valid (l.getD j default) rs _ (by omega)) (by first | rfl | simp only [h0, h5, h8, h9, h10, rows_getD, tyR, hvj', push_cast, ↓reduceIte, Nat.reduceEqDiff]) ?_) | simp -implicitDefEqProofs (disch := omega) only [h0, h5, h8, h9, h10, rows_getD, tyR, hvj', dT_lt, dF_lt, dT_le, dF_le, dT_eq, dF_eq, push_cast, ↓reduceIte, Nat.reduceEqDiff, reduceCtorEq, Nat.reduceAdd, Nat.reduceSub, Nat.reduceMul, Nat.reduceLeDiff, Nat.reduceLT, Nat.reduceMod, Nat.reduceDiv, Int.reduceToNat, Int.reduceLT, Int.reduceLE, Int.reduceEq, Int.reduceAdd, Int.reduceSub, Int.reduceNeg, Int.reduceMul, Bool.and_self] | split)
      exact ⟨_, rfl⟩
  · rw [scalV_yes fun i hi => hv i (by omega)]
    repeat' (first | (refine And.intro (by omega) ?_) | simp -implicitDefEqProofs (disch := omega) only [h0, h5, h8, h9, h10, dT_lt, dF_lt, dT_le, dF_le, dT_eq, dF_eq, push_cast, ↓reduceIte, Nat.reduceEqDiff, reduceCtorEq, Nat.reduceAdd, Nat.reduceSub, Nat.reduceMul, Nat.reduceLeDiff, Nat.reduceLT, Nat.reduceMod, Nat.reduceDiv, Int.reduceToNat, Int.reduceLT, Int.reduceLE, Int.reduceEq, Int.reduceAdd, Int.reduceSub, Int.reduceNeg, Int.reduceMul, Bool.and_self] | split)
    exact ⟨by rw [all_take l (by omega)], _, rfl⟩
end Go.Proofs.Yteidffcimidinaa

/- Values, part 1: widths, wrapping, the least and the greatest int, the operators' functions. -/
namespace Go.Proofs.Yteidffcimidinaa
open Go Go.Ax
set_option maxRecDepth 100000
set_option linter.unusedSimpArgs false
set_option linter.unusedVariables false

def wOk (w : Int) : Prop := 2 ≤ w ∧ w ≤ 8
instance (w : Int) : Decidable (wOk w) := inferInstanceAs (Decidable (_ ∧ _))
def hf (w : Int) : Int := 2 ^ (w.toNat - 1)
def leF (w : Int) : Int := if wOk w then -hf w else 0
def grF (w : Int) : Int := if wOk w then hf w - 1 else 0
def wrF (w n : Int) : Int := if wOk w then (n + hf w) % (2 * hf w) - hf w else 0

theorem w_cases {w : Int} (h : wOk w) : w = 2 ∨ w = 3 ∨ w = 4 ∨ w = 5 ∨ w = 6 ∨ w = 7 ∨ w = 8 := by unfold wOk at h; omega

theorem isWidthC (w : Int) (H : AHeap) : Comp' 48 [int w] H (bool (decide (wOk w))) := by
  refine enter Try.func48 L48_ok (Nat.le_of_ble_eq_true rfl) ?_
  by_cases h1 : 2 ≤ w
  · by_cases h2 : w ≤ 8
    · repeat' (first | (refine And.intro (by omega) ?_) | simp -implicitDefEqProofs (disch := omega) only [L48, dT_lt, dF_lt, dT_le, dF_le, dT_eq, dF_eq, push_cast, ↓reduceIte, Nat.reduceEqDiff, reduceCtorEq, Nat.reduceAdd, Nat.reduceSub, Nat.reduceMul, Nat.reduceLeDiff, Nat.reduceLT, Nat.reduceMod, Nat.reduceDiv, Int.reduceToNat, Int.reduceLT, Int.reduceLE, Int.reduceEq, Int.reduceAdd, Int.reduceSub, Int.reduceNeg, Int.reduceMul, Bool.and_self] | split)
      simp [wOk, h1, h2]
    · repeat' (first | (refine And.intro (by omega) ?_) | simp -implicitDefEqProofs (disch := omega) only [L48, dT_lt, dF_lt, dT_le, dF_le, dT_eq, dF_eq, push_cast, ↓reduceIte, Nat.reduceEqDiff, reduceCtorEq, Nat.reduceAdd, Nat.reduceSub, Nat.reduceMul, Nat.reduceLeDiff, Nat.reduceLT, Nat.reduceMod, Nat.reduceDiv, Int.reduceToNat, Int.reduceLT, Int.reduceLE, Int.reduceEq, Int.reduceAdd, Int.reduceSub, Int.reduceNeg, Int.reduceMul, Bool.and_self] | split)
      simp [wOk, h1, h2]
  · repeat' (first | (refine And.intro (by omega) ?_) | simp -implicitDefEqProofs (disch := omega) only [L48, dT_lt, dF_lt, dT_le, dF_le, dT_eq, dF_eq, push_cast, ↓reduceIte, Nat.reduceEqDiff, reduceCtorEq, Nat.reduceAdd, Nat.reduceSub, Nat.reduceMul, Nat.reduceLeDiff, Nat.reduceLT, Nat.reduceMod, Nat.reduceDiv, Int.reduceToNat, Int.reduceLT, Int.reduceLE, Int.reduceEq, Int.reduceAdd, Int.reduceSub, Int.reduceNeg, Int.reduceMul, Bool.and_self] | split)
    simp [wOk, h1]

theorem wrap64 (n : Int) : IntKind.i64.wrap n = (n + 9223372036854775808) % 18446744073709551616 - 9223372036854775808 := by
  simp only [IntKind.wrap, IntKind.bits, IntKind.signed]
  simp
  split <;> omega

theorem wrapC (w n : Int) (hn : i64R n) (H : AHeap) : Comp' 46 [int w, int n] H (int (wrF w n)) := by
  refine enter Try.func46 L46_ok (Nat.le_of_ble_eq_true rfl) ?_
  by_cases h : wOk w
  · have hd : decide (wOk w) = true := by simp [h]
    have e : wrF w n = (n + hf w) % (2 * hf w) - hf w := by unfold wrF; rw [if_pos h]
    rw [e]
    clear e
    unfold i64R at hn
    rcases w_cases h with rfl | rfl | rfl | rfl | rfl | rfl | rfl
    all_goals
      repeat' (first | (refine And.intro (by omega) ?_) | (refine callF_pure (isWidthC _ _) ?_) | (refine callQF_pure (isWidthC _ _) (by first | rfl | simp only [L46, hd, push_cast, ↓reduceIte, Nat.reduceEqDiff]) ?_) | simp -implicitDefEqProofs (disch := omega) only [L46, hd, dT_lt, dF_lt, dT_le, dF_le, dT_eq, dF_eq, push_cast, ↓reduceIte, Nat.reduceEqDiff, reduceCtorEq, Nat.reduceAdd, Nat.reduceSub, Nat.reduceMul, Nat.reduceLeDiff, Nat.reduceLT, Nat.reduceMod, Nat.reduceDiv, Int.reduceToNat, Int.reduceLT, Int.reduceLE, Int.reduceEq, Int.reduceAdd, Int.reduceSub, Int.reduceNeg, Int.reduceMul, Bool.and_self] | split)
      simp [hf, wrap64, IntKind.bits]
      rw [Int.fdiv_eq_ediv_of_nonneg _ (by decide)]
      omega
  · have hd : decide (wOk w) = false := by simp [h]
    have e : wrF w n = 0 := by unfold wrF; rw [if_neg h]
    repeat' (first | (refine And.intro (by omega) ?_) | (refine callF_pure (isWidthC _ _) ?_) | (refine callQF_pure (isWidthC _ _) (by first | rfl | simp only [L46, hd, e, push_cast, ↓reduceIte, Nat.reduceEqDiff]) ?_) | simp -implicitDefEqProofs (disch := omega) only [L46, hd, e, dT_lt, dF_lt, dT_le, dF_le, dT_eq, dF_eq, push_cast, ↓reduceIte, Nat.reduceEqDiff, reduceCtorEq, Nat.reduceAdd, Nat.reduceSub, Nat.reduceMul, Nat.reduceLeDiff, Nat.reduceLT, Nat.reduceMod, Nat.reduceDiv, Int.reduceToNat, Int.reduceLT, Int.reduceLE, Int.reduceEq, Int.reduceAdd, Int.reduceSub, Int.reduceNeg, Int.reduceMul, Bool.and_self] | split)

theorem leastC (w : Int) (H : AHeap) : Comp' 94 [int w] H (int (leF w)) := by
  refine enter Try.func94 L94_ok (Nat.le_of_ble_eq_true rfl) ?_
  by_cases h : wOk w
  · have hd : decide (wOk w) = true := by simp [h]
    have e : leF w = -hf w := by unfold leF; rw [if_pos h]
    rw [e]
    clear e
    rcases w_cases h with rfl | rfl | rfl | rfl | rfl | rfl | rfl
    all_goals
      repeat' (first | (refine And.intro (by omega) ?_) | (refine callF_pure (isWidthC _ _) ?_) | (refine callQF_pure (isWidthC _ _) (by first | rfl | simp only [L94, hd, push_cast, ↓reduceIte, Nat.reduceEqDiff]) ?_) | simp -implicitDefEqProofs (disch := omega) only [L94, hd, dT_lt, dF_lt, dT_le, dF_le, dT_eq, dF_eq, push_cast, ↓reduceIte, Nat.reduceEqDiff, reduceCtorEq, Nat.reduceAdd, Nat.reduceSub, Nat.reduceMul, Nat.reduceLeDiff, Nat.reduceLT, Nat.reduceMod, Nat.reduceDiv, Int.reduceToNat, Int.reduceLT, Int.reduceLE, Int.reduceEq, Int.reduceAdd, Int.reduceSub, Int.reduceNeg, Int.reduceMul, Bool.and_self] | split)
      simp [hf, wrap64, IntKind.bits]
  · have hd : decide (wOk w) = false := by simp [h]
    have e : leF w = 0 := by unfold leF; rw [if_neg h]
    repeat' (first | (refine And.intro (by omega) ?_) | (refine callF_pure (isWidthC _ _) ?_) | (refine callQF_pure (isWidthC _ _) (by first | rfl | simp only [L94, hd, e, push_cast, ↓reduceIte, Nat.reduceEqDiff]) ?_) | simp -implicitDefEqProofs (disch := omega) only [L94, hd, e, dT_lt, dF_lt, dT_le, dF_le, dT_eq, dF_eq, push_cast, ↓reduceIte, Nat.reduceEqDiff, reduceCtorEq, Nat.reduceAdd, Nat.reduceSub, Nat.reduceMul, Nat.reduceLeDiff, Nat.reduceLT, Nat.reduceMod, Nat.reduceDiv, Int.reduceToNat, Int.reduceLT, Int.reduceLE, Int.reduceEq, Int.reduceAdd, Int.reduceSub, Int.reduceNeg, Int.reduceMul, Bool.and_self] | split)

theorem greatestC (w : Int) (H : AHeap) : Comp' 95 [int w] H (int (grF w)) := by
  refine enter Try.func95 L95_ok (Nat.le_of_ble_eq_true rfl) ?_
  by_cases h : wOk w
  · have hd : decide (wOk w) = true := by simp [h]
    have e : grF w = hf w - 1 := by unfold grF; rw [if_pos h]
    rw [e]
    clear e
    rcases w_cases h with rfl | rfl | rfl | rfl | rfl | rfl | rfl
    all_goals
      repeat' (first | (refine And.intro (by omega) ?_) | (refine callF_pure (isWidthC _ _) ?_) | (refine callQF_pure (isWidthC _ _) (by first | rfl | simp only [L95, hd, push_cast, ↓reduceIte, Nat.reduceEqDiff]) ?_) | simp -implicitDefEqProofs (disch := omega) only [L95, hd, dT_lt, dF_lt, dT_le, dF_le, dT_eq, dF_eq, push_cast, ↓reduceIte, Nat.reduceEqDiff, reduceCtorEq, Nat.reduceAdd, Nat.reduceSub, Nat.reduceMul, Nat.reduceLeDiff, Nat.reduceLT, Nat.reduceMod, Nat.reduceDiv, Int.reduceToNat, Int.reduceLT, Int.reduceLE, Int.reduceEq, Int.reduceAdd, Int.reduceSub, Int.reduceNeg, Int.reduceMul, Bool.and_self] | split)
      simp [hf, wrap64, IntKind.bits]
  · have hd : decide (wOk w) = false := by simp [h]
    have e : grF w = 0 := by unfold grF; rw [if_neg h]
    repeat' (first | (refine And.intro (by omega) ?_) | (refine callF_pure (isWidthC _ _) ?_) | (refine callQF_pure (isWidthC _ _) (by first | rfl | simp only [L95, hd, e, push_cast, ↓reduceIte, Nat.reduceEqDiff]) ?_) | simp -implicitDefEqProofs (disch := omega) only [L95, hd, e, dT_lt, dF_lt, dT_le, dF_le, dT_eq, dF_eq, push_cast, ↓reduceIte, Nat.reduceEqDiff, reduceCtorEq, Nat.reduceAdd, Nat.reduceSub, Nat.reduceMul, Nat.reduceLeDiff, Nat.reduceLT, Nat.reduceMod, Nat.reduceDiv, Int.reduceToNat, Int.reduceLT, Int.reduceLE, Int.reduceEq, Int.reduceAdd, Int.reduceSub, Int.reduceNeg, Int.reduceMul, Bool.and_self] | split)

def inI (w n : Int) : Prop := leF w ≤ n ∧ n ≤ grF w
instance (w n : Int) : Decidable (inI w n) := inferInstanceAs (Decidable (_ ∧ _))
theorem isIntC (w n : Int) (H : AHeap) : Comp' 50 [int w, int n] H (bool (decide (inI w n))) := by
  refine enter Try.func50 L50_ok (Nat.le_of_ble_eq_true rfl) ?_
  by_cases h1 : leF w ≤ n
  · by_cases h2 : n ≤ grF w
    · repeat' (first | (refine And.intro (by omega) ?_) | (refine callF_pure (leastC _ _) ?_) | (refine callF_pure (greatestC _ _) ?_) | (refine callQF_pure (leastC _ _) (by first | rfl | simp only [L50, push_cast, ↓reduceIte, Nat.reduceEqDiff]) ?_) | (refine callQF_pure (greatestC _ _) (by first | rfl | simp only [L50, push_cast, ↓reduceIte, Nat.reduceEqDiff]) ?_) | simp -implicitDefEqProofs (disch := omega) only [L50, dT_lt, dF_lt, dT_le, dF_le, dT_eq, dF_eq, push_cast, ↓reduceIte, Nat.reduceEqDiff, reduceCtorEq, Nat.reduceAdd, Nat.reduceSub, Nat.reduceMul, Nat.reduceLeDiff, Nat.reduceLT, Nat.reduceMod, Nat.reduceDiv, Int.reduceToNat, Int.reduceLT, Int.reduceLE, Int.reduceEq, Int.reduceAdd, Int.reduceSub, Int.reduceNeg, Int.reduceMul, Bool.and_self] | split)
      simp [inI, h1, h2]
    · repeat' (first | (refine And.intro (by omega) ?_) | (refine callF_pure (leastC _ _) ?_) | (refine callF_pure (greatestC _ _) ?_) | (refine callQF_pure (leastC _ _) (by first | rfl | simp only [L50, push_cast, ↓reduceIte, Nat.reduceEqDiff]) ?_) | (refine callQF_pure (greatestC _ _) (by first | rfl | simp only [L50, push_cast, ↓reduceIte, Nat.reduceEqDiff]) ?_) | simp -implicitDefEqProofs (disch := omega) only [L50, dT_lt, dF_lt, dT_le, dF_le, dT_eq, dF_eq, push_cast, ↓reduceIte, Nat.reduceEqDiff, reduceCtorEq, Nat.reduceAdd, Nat.reduceSub, Nat.reduceMul, Nat.reduceLeDiff, Nat.reduceLT, Nat.reduceMod, Nat.reduceDiv, Int.reduceToNat, Int.reduceLT, Int.reduceLE, Int.reduceEq, Int.reduceAdd, Int.reduceSub, Int.reduceNeg, Int.reduceMul, Bool.and_self] | split)
      simp [inI, h1, h2]
  · repeat' (first | (refine And.intro (by omega) ?_) | (refine callF_pure (leastC _ _) ?_) | (refine callF_pure (greatestC _ _) ?_) | (refine callQF_pure (leastC _ _) (by first | rfl | simp only [L50, push_cast, ↓reduceIte, Nat.reduceEqDiff]) ?_) | (refine callQF_pure (greatestC _ _) (by first | rfl | simp only [L50, push_cast, ↓reduceIte, Nat.reduceEqDiff]) ?_) | simp -implicitDefEqProofs (disch := omega) only [L50, dT_lt, dF_lt, dT_le, dF_le, dT_eq, dF_eq, push_cast, ↓reduceIte, Nat.reduceEqDiff, reduceCtorEq, Nat.reduceAdd, Nat.reduceSub, Nat.reduceMul, Nat.reduceLeDiff, Nat.reduceLT, Nat.reduceMod, Nat.reduceDiv, Int.reduceToNat, Int.reduceLT, Int.reduceLE, Int.reduceEq, Int.reduceAdd, Int.reduceSub, Int.reduceNeg, Int.reduceMul, Bool.and_self] | split)
    simp [inI, h1]
def isB (n : Int) : Prop := n = 0 ∨ n = 1
instance (n : Int) : Decidable (isB n) := inferInstanceAs (Decidable (_ ∨ _))
end Go.Proofs.Yteidffcimidinaa

/- Values, part 2: the functions of the operators, and their map. -/
namespace Go.Proofs.Yteidffcimidinaa
open Go Go.Ax
set_option maxRecDepth 100000
set_option linter.unusedSimpArgs false
set_option linter.unusedVariables false

theorem op_quo (a b : Int) (hb : b ≠ 0) (H : AHeap) : Comp' 112 [int a, int b] H (int (IntKind.i64.wrap (a.tdiv b))) := by
  refine enter Try.func112 L112_ok (Nat.le_of_ble_eq_true rfl) ?_
  repeat' (first | (refine And.intro (by omega) ?_) | simp -implicitDefEqProofs (disch := omega) only [L112, dT_lt, dF_lt, dT_le, dF_le, dT_eq, dF_eq, push_cast, ↓reduceIte, Nat.reduceEqDiff, reduceCtorEq, Nat.reduceAdd, Nat.reduceSub, Nat.reduceMul, Nat.reduceLeDiff, Nat.reduceLT, Nat.reduceMod, Nat.reduceDiv, Int.reduceToNat, Int.reduceLT, Int.reduceLE, Int.reduceEq, Int.reduceAdd, Int.reduceSub, Int.reduceNeg, Int.reduceMul, Bool.and_self] | split)
  exact hb
theorem op_rem (a b : Int) (hb : b ≠ 0) (H : AHeap) : Comp' 113 [int a, int b] H (int (a.tmod b)) := by
  refine enter Try.func113 L113_ok (Nat.le_of_ble_eq_true rfl) ?_
  repeat' (first | (refine And.intro (by omega) ?_) | simp -implicitDefEqProofs (disch := omega) only [L113, dT_lt, dF_lt, dT_le, dF_le, dT_eq, dF_eq, push_cast, ↓reduceIte, Nat.reduceEqDiff, reduceCtorEq, Nat.reduceAdd, Nat.reduceSub, Nat.reduceMul, Nat.reduceLeDiff, Nat.reduceLT, Nat.reduceMod, Nat.reduceDiv, Int.reduceToNat, Int.reduceLT, Int.reduceLE, Int.reduceEq, Int.reduceAdd, Int.reduceSub, Int.reduceNeg, Int.reduceMul, Bool.and_self] | split)
  exact hb
def opsK : List Value := [.string (mkS [43]), .string (mkS [45]), .string (mkS [42]), .string (mkS [47]), .string (mkS [37]), .string (mkS [61, 61]), .string (mkS [33, 61]), .string (mkS [60]), .string (mkS [60, 61]), .string (mkS [62]), .string (mkS [62, 61]), .string (mkS [97, 110, 100]), .string (mkS [111, 114])]
def opsX : List AV := [.fn (.func 109) [] [], .fn (.func 110) [] [], .fn (.func 111) [] [], .fn (.func 112) [] [], .fn (.func 113) [] [], .fn (.func 114) [] [], .fn (.func 116) [] [], .fn (.func 117) [] [], .fn (.func 118) [] [], .fn (.func 119) [] [], .fn (.func 120) [] [], .fn (.func 121) [] [], .fn (.func 122) [] []]
theorem operatorsC (H : AHeap) : Comp' 91 [] H (.mp opsK opsX) := by
  refine ACall.drop (R := fun x => x = .mp opsK opsX) ?_
  refine enter Try.func91 L91_ok (Nat.le_of_ble_eq_true rfl) ?_
  repeat' (first | (refine And.intro (by omega) ?_) | simp -implicitDefEqProofs (disch := omega) only [L91, dT_lt, dF_lt, dT_le, dF_le, dT_eq, dF_eq, push_cast, ↓reduceIte, Nat.reduceEqDiff, reduceCtorEq, Nat.reduceAdd, Nat.reduceSub, Nat.reduceMul, Nat.reduceLeDiff, Nat.reduceLT, Nat.reduceMod, Nat.reduceDiv, Int.reduceToNat, Int.reduceLT, Int.reduceLE, Int.reduceEq, Int.reduceAdd, Int.reduceSub, Int.reduceNeg, Int.reduceMul, Bool.and_self] | split)
  simp [kEq, opsK, opsX, bs, mkS]
theorem ops_cmp (o : List UInt8) : (∀ k' ∈ opsK, kCmp (.string (mkS o)) k' = true) = True := by simp [opsK, kCmp]
theorem ops_quo : mget (.string (mkS [47])) opsK opsX = some (.fn (.func 112) [] []) := rfl
theorem ops_rem : mget (.string (mkS [37])) opsK opsX = some (.fn (.func 113) [] []) := rfl
end Go.Proofs.Yteidffcimidinaa

/- Values, part 3: Binary. -/
namespace Go.Proofs.Yteidffcimidinaa
open Go Go.Ax
set_option maxRecDepth 100000
set_option linter.unusedSimpArgs false
set_option linter.unusedVariables false

abbrev andS : List UInt8 := [97, 110, 100]
abbrev orS : List UInt8 := [111, 114]
abbrev ariS : List UInt8 := [43, 45, 42, 47, 37]
def binA (n f e : Int) : AV := .tup [int n, int f, int e]

section
variable {w a b : Int} {o : List UInt8} {k : FuncId}
/-- An operator that is neither and nor or, of two ints: what its function says, wrapped where it is one of the first five. -/
theorem bin_go (hw : wOk w) (hget : mget (.string (mkS o)) opsK opsX = some (.fn (.func k) [] [])) (h1 : ¬ o = andS) (h2 : ¬ o = orS) (ha : inI w a) (hb : inI w b) (hz : b ≠ 0 ∨ (¬ o = [47] ∧ ¬ o = [37])) (f : Int)
    (hf : ∀ H, Comp' k [int a, int b] H (int f)) (hk : clL [int a, int b] = true) (hr : i64R f) (H : AHeap) :
    Comp' 45 [int w, str o, int a, int b] H (binA (if Lib.contains ariS o = true then wrF w f else f) 0 0) := by
  refine enter Try.func45 L45_ok (Nat.le_of_ble_eq_true rfl) ?_
  have hd : decide (wOk w) = true := by simp [hw]
  have e1 : decide (o = andS) = false := by simp [h1]
  have e2 : decide (o = orS) = false := by simp [h2]
  have e3 : decide (inI w a) = true := by simp [ha]
  have e4 : decide (inI w b) = true := by simp [hb]
  by_cases hb0 : b = 0
  · have h3 : ¬ o = [47] ∧ ¬ o = [37] := by simpa [hb0] using hz
    have e5 : decide (o = [47]) = false := by simp [h3.1]
    have e6 : decide (o = [37]) = false := by simp [h3.2]
    cases hc : Lib.contains ariS o
    · repeat' (first | (refine And.intro (by omega) ?_) | (refine callF_pure (isWidthC _ _) ?_) | (refine callF_pure (operatorsC _) ?_) | (refine callF_pure (isIntC _ _ _) ?_) | (refine callF_pure (hf _) ?_) | (refine callF_pure (containsC ariS o (by decide) _) ?_) | (refine callQF_pure (isWidthC _ _) (by first | rfl | simp only [L45, hd, ops_cmp, hget, e1, e2, e3, e4, e5, e6, hc, push_cast, ↓reduceIte, Nat.reduceEqDiff]) ?_) | (refine callQF_pure (operatorsC _) (by first | rfl | simp only [L45, hd, ops_cmp, hget, e1, e2, e3, e4, e5, e6, hc, push_cast, ↓reduceIte, Nat.reduceEqDiff]) ?_) | (refine callQF_pure (isIntC _ _ _) (by first | rfl | simp only [L45, hd, ops_cmp, hget, e1, e2, e3, e4, e5, e6, hc, push_cast, ↓reduceIte, Nat.reduceEqDiff]) ?_) | (refine callQF_pure (hf _) (by first | rfl | simp only [L45, hd, ops_cmp, hget, e1, e2, e3, e4, e5, e6, hc, push_cast, ↓reduceIte, Nat.reduceEqDiff]) ?_) | (refine callQF_pure (containsC ariS o (by decide) _) (by first | rfl | simp only [L45, hd, ops_cmp, hget, e1, e2, e3, e4, e5, e6, hc, push_cast, ↓reduceIte, Nat.reduceEqDiff]) ?_) | simp -implicitDefEqProofs (disch := omega) only [L45, hd, ops_cmp, hget, e1, e2, e3, e4, e5, e6, hc, dT_lt, dF_lt, dT_le, dF_le, dT_eq, dF_eq, push_cast, ↓reduceIte, Nat.reduceEqDiff, reduceCtorEq, Nat.reduceAdd, Nat.reduceSub, Nat.reduceMul, Nat.reduceLeDiff, Nat.reduceLT, Nat.reduceMod, Nat.reduceDiv, Int.reduceToNat, Int.reduceLT, Int.reduceLE, Int.reduceEq, Int.reduceAdd, Int.reduceSub, Int.reduceNeg, Int.reduceMul, Bool.and_self] | split)
      rfl
    · repeat' (first | (refine And.intro (by omega) ?_) | (refine callF_pure (isWidthC _ _) ?_) | (refine callF_pure (operatorsC _) ?_) | (refine callF_pure (isIntC _ _ _) ?_) | (refine callF_pure (hf _) ?_) | (refine callF_pure (containsC ariS o (by decide) _) ?_) | (refine callF_pure (wrapC w f hr _) ?_) | (refine callQF_pure (isWidthC _ _) (by first | rfl | simp only [L45, hd, ops_cmp, hget, e1, e2, e3, e4, e5, e6, hc, push_cast, ↓reduceIte, Nat.reduceEqDiff]) ?_) | (refine callQF_pure (operatorsC _) (by first | rfl | simp only [L45, hd, ops_cmp, hget, e1, e2, e3, e4, e5, e6, hc, push_cast, ↓reduceIte, Nat.reduceEqDiff]) ?_) | (refine callQF_pure (isIntC _ _ _) (by first | rfl | simp only [L45, hd, ops_cmp, hget, e1, e2, e3, e4, e5, e6, hc, push_cast, ↓reduceIte, Nat.reduceEqDiff]) ?_) | (refine callQF_pure (hf _) (by first | rfl | simp only [L45, hd, ops_cmp, hget, e1, e2, e3, e4, e5, e6, hc, push_cast, ↓reduceIte, Nat.reduceEqDiff]) ?_) | (refine callQF_pure (containsC ariS o (by decide) _) (by first | rfl | simp only [L45, hd, ops_cmp, hget, e1, e2, e3, e4, e5, e6, hc, push_cast, ↓reduceIte, Nat.reduceEqDiff]) ?_) | (refine callQF_pure (wrapC w f hr _) (by first | rfl | simp only [L45, hd, ops_cmp, hget, e1, e2, e3, e4, e5, e6, hc, push_cast, ↓reduceIte, Nat.reduceEqDiff]) ?_) | simp -implicitDefEqProofs (disch := omega) only [L45, hd, ops_cmp, hget, e1, e2, e3, e4, e5, e6, hc, dT_lt, dF_lt, dT_le, dF_le, dT_eq, dF_eq, push_cast, ↓reduceIte, Nat.reduceEqDiff, reduceCtorEq, Nat.reduceAdd, Nat.reduceSub, Nat.reduceMul, Nat.reduceLeDiff, Nat.reduceLT, Nat.reduceMod, Nat.reduceDiv, Int.reduceToNat, Int.reduceLT, Int.reduceLE, Int.reduceEq, Int.reduceAdd, Int.reduceSub, Int.reduceNeg, Int.reduceMul, Bool.and_self] | split)
      rfl
  · cases hc : Lib.contains ariS o
    · repeat' (first | (refine And.intro (by omega) ?_) | (refine callF_pure (isWidthC _ _) ?_) | (refine callF_pure (operatorsC _) ?_) | (refine callF_pure (isIntC _ _ _) ?_) | (refine callF_pure (hf _) ?_) | (refine callF_pure (containsC ariS o (by decide) _) ?_) | (refine callQF_pure (isWidthC _ _) (by first | rfl | simp only [L45, hd, ops_cmp, hget, e1, e2, e3, e4, hc, push_cast, ↓reduceIte, Nat.reduceEqDiff]) ?_) | (refine callQF_pure (operatorsC _) (by first | rfl | simp only [L45, hd, ops_cmp, hget, e1, e2, e3, e4, hc, push_cast, ↓reduceIte, Nat.reduceEqDiff]) ?_) | (refine callQF_pure (isIntC _ _ _) (by first | rfl | simp only [L45, hd, ops_cmp, hget, e1, e2, e3, e4, hc, push_cast, ↓reduceIte, Nat.reduceEqDiff]) ?_) | (refine callQF_pure (hf _) (by first | rfl | simp only [L45, hd, ops_cmp, hget, e1, e2, e3, e4, hc, push_cast, ↓reduceIte, Nat.reduceEqDiff]) ?_) | (refine callQF_pure (containsC ariS o (by decide) _) (by first | rfl | simp only [L45, hd, ops_cmp, hget, e1, e2, e3, e4, hc, push_cast, ↓reduceIte, Nat.reduceEqDiff]) ?_) | simp -implicitDefEqProofs (disch := omega) only [L45, hd, ops_cmp, hget, e1, e2, e3, e4, hc, dT_lt, dF_lt, dT_le, dF_le, dT_eq, dF_eq, push_cast, ↓reduceIte, Nat.reduceEqDiff, reduceCtorEq, Nat.reduceAdd, Nat.reduceSub, Nat.reduceMul, Nat.reduceLeDiff, Nat.reduceLT, Nat.reduceMod, Nat.reduceDiv, Int.reduceToNat, Int.reduceLT, Int.reduceLE, Int.reduceEq, Int.reduceAdd, Int.reduceSub, Int.reduceNeg, Int.reduceMul, Bool.and_self] | split)
      rfl
    · repeat' (first | (refine And.intro (by omega) ?_) | (refine callF_pure (isWidthC _ _) ?_) | (refine callF_pure (operatorsC _) ?_) | (refine callF_pure (isIntC _ _ _) ?_) | (refine callF_pure (hf _) ?_) | (refine callF_pure (containsC ariS o (by decide) _) ?_) | (refine callF_pure (wrapC w f hr _) ?_) | (refine callQF_pure (isWidthC _ _) (by first | rfl | simp only [L45, hd, ops_cmp, hget, e1, e2, e3, e4, hc, push_cast, ↓reduceIte, Nat.reduceEqDiff]) ?_) | (refine callQF_pure (operatorsC _) (by first | rfl | simp only [L45, hd, ops_cmp, hget, e1, e2, e3, e4, hc, push_cast, ↓reduceIte, Nat.reduceEqDiff]) ?_) | (refine callQF_pure (isIntC _ _ _) (by first | rfl | simp only [L45, hd, ops_cmp, hget, e1, e2, e3, e4, hc, push_cast, ↓reduceIte, Nat.reduceEqDiff]) ?_) | (refine callQF_pure (hf _) (by first | rfl | simp only [L45, hd, ops_cmp, hget, e1, e2, e3, e4, hc, push_cast, ↓reduceIte, Nat.reduceEqDiff]) ?_) | (refine callQF_pure (containsC ariS o (by decide) _) (by first | rfl | simp only [L45, hd, ops_cmp, hget, e1, e2, e3, e4, hc, push_cast, ↓reduceIte, Nat.reduceEqDiff]) ?_) | (refine callQF_pure (wrapC w f hr _) (by first | rfl | simp only [L45, hd, ops_cmp, hget, e1, e2, e3, e4, hc, push_cast, ↓reduceIte, Nat.reduceEqDiff]) ?_) | simp -implicitDefEqProofs (disch := omega) only [L45, hd, ops_cmp, hget, e1, e2, e3, e4, hc, dT_lt, dF_lt, dT_le, dF_le, dT_eq, dF_eq, push_cast, ↓reduceIte, Nat.reduceEqDiff, reduceCtorEq, Nat.reduceAdd, Nat.reduceSub, Nat.reduceMul, Nat.reduceLeDiff, Nat.reduceLT, Nat.reduceMod, Nat.reduceDiv, Int.reduceToNat, Int.reduceLT, Int.reduceLE, Int.reduceEq, Int.reduceAdd, Int.reduceSub, Int.reduceNeg, Int.reduceMul, Bool.and_self] | split)
      rfl

end
end Go.Proofs.Yteidffcimidinaa

/- Types, part 4: the reference's scalars, sizes, equal lists. -/
namespace Go.Proofs.Yteidffcimidinaa
open Go Go.Ax
set_option maxRecDepth 100000
set_option linter.unusedSimpArgs false
set_option linter.unusedVariables false

def sizeF (rs : List Rc) (t : Ty) : Nat := if validF t rs = true then (scal1 rs t).length else 0
theorem sizeF_no {rs : List Rc} {t : Ty} (h : validF t rs = false) : sizeF rs t = 0 := by unfold sizeF; rw [h]; rfl
theorem sizeF_yes {rs : List Rc} {t : Ty} (h : validF t rs = true) : sizeF rs t = (scal1 rs t).length := by unfold sizeF; rw [h]; rfl
theorem scalV_1 {rs : List Rc} {t : Ty} (h : validF t rs = true) : scalV rs [t] = .sl 3 ((scal1 rs t).map tyR) := by simp [scalV, h]
theorem scalV_0 {rs : List Rc} {t : Ty} (h : validF t rs = false) : scalV rs [t] = nilS := by simp [scalV, h]
theorem size (t : Ty) (rs : List Rc) (H : AHeap) (hf : Few rs) : Comp' 76 [.agg (tyR t), .sl 2 (rs.map rcR)] H (int (sizeF rs t)) := by
  refine ACall.drop (R := fun x => x = int (sizeF rs t)) ?_
  refine enter Try.func76 L76_ok (Nat.le_of_ble_eq_true rfl) ?_
  cases hv : validF t rs with
  | true =>
    repeat' (first | (refine And.intro (by omega) ?_) | (refine callF_pure (scalars rs [t] _ hf (by simp)) ?_) | (refine callQF_pure (scalars rs [t] _ hf (by simp)) (by first | rfl | simp only [L76, tyR, scalV_1 hv, sizeF_yes hv, push_cast, ↓reduceIte, Nat.reduceEqDiff]) ?_) | simp -implicitDefEqProofs (disch := omega) only [L76, tyR, scalV_1 hv, sizeF_yes hv, dT_lt, dF_lt, dT_le, dF_le, dT_eq, dF_eq, push_cast, ↓reduceIte, Nat.reduceEqDiff, reduceCtorEq, Nat.reduceAdd, Nat.reduceSub, Nat.reduceMul, Nat.reduceLeDiff, Nat.reduceLT, Nat.reduceMod, Nat.reduceDiv, Int.reduceToNat, Int.reduceLT, Int.reduceLE, Int.reduceEq, Int.reduceAdd, Int.reduceSub, Int.reduceNeg, Int.reduceMul, Bool.and_self] | split)
    exact ⟨_, rfl⟩
  | false =>
    repeat' (first | (refine And.intro (by omega) ?_) | (refine callF_pure (scalars rs [t] _ hf (by simp)) ?_) | (refine callQF_pure (scalars rs [t] _ hf (by simp)) (by first | rfl | simp only [L76, tyR, scalV_0 hv, sizeF_no hv, push_cast, ↓reduceIte, Nat.reduceEqDiff]) ?_) | simp -implicitDefEqProofs (disch := omega) only [L76, tyR, scalV_0 hv, sizeF_no hv, dT_lt, dF_lt, dT_le, dF_le, dT_eq, dF_eq, push_cast, ↓reduceIte, Nat.reduceEqDiff, reduceCtorEq, Nat.reduceAdd, Nat.reduceSub, Nat.reduceMul, Nat.reduceLeDiff, Nat.reduceLT, Nat.reduceMod, Nat.reduceDiv, Int.reduceToNat, Int.reduceLT, Int.reduceLE, Int.reduceEq, Int.reduceAdd, Int.reduceSub, Int.reduceNeg, Int.reduceMul, Bool.and_self] | split)
    exact ⟨_, rfl⟩
end Go.Proofs.Yteidffcimidinaa

/- Types, part 5: the text of a type. -/
namespace Go.Proofs.Yteidffcimidinaa
open Go Go.Ax
set_option maxRecDepth 100000
set_option linter.unusedSimpArgs false
set_option linter.unusedVariables false

/-- A number in decimal. -/
def decN : Nat → Nat → List UInt8
  | 0, _ => []
  | f + 1, n => if n < 10 then [UInt8.ofNat (48 + n)] else decN f (n / 10) ++ [UInt8.ofNat (48 + n % 10)]
def decF (n : Nat) : List UInt8 := decN (n + 1) n
theorem decN_fuel : ∀ (f g n : Nat), n < f → n < g → decN f n = decN g n
  | 0, _, _, h, _ => by omega
  | _, 0, _, _, h => by omega
  | f + 1, g + 1, n, h, h' => by
    unfold decN
    split
    · rfl
    · rw [decN_fuel f g (n / 10) (by omega) (by omega)]
theorem decF_small {n : Nat} (h : n < 10) : decF n = [UInt8.ofNat (48 + n)] := by unfold decF decN; rw [if_pos h]
theorem decF_big {n : Nat} (h : ¬ n < 10) : decF n = decF (n / 10) ++ [UInt8.ofNat (48 + n % 10)] := by
  have e : decF n = decN n (n / 10) ++ [UInt8.ofNat (48 + n % 10)] := by
    conv => lhs; unfold decF decN
    rw [if_neg h]
  rw [e, decN_fuel n (n / 10 + 1) (n / 10) (by omega) (by omega)]
  rfl
theorem decF_len : ∀ (k n : Nat), n < 10 ^ (k + 1) → (decF n).length ≤ k + 1
  | 0, n, h => by rw [decF_small (by simpa using h)]; simp
  | k + 1, n, h => by
    by_cases h10 : n < 10
    · rw [decF_small h10]; simp
    · rw [decF_big h10]
      have := decF_len k (n / 10) (by rw [Nat.pow_succ] at h; omega)
      simp; omega
theorem decF_19 {n : Nat} (h : n ≤ 9223372036854775807) : (decF n).length ≤ 19 := by
  have h2 : (10 : Nat) ^ (18 + 1) = 10000000000000000000 := by simp
  exact decF_len 18 n (by omega)
theorem utf8_digit {n : Nat} (h : n < 10) : Utf8.encode (48 + (n : Int)) = mkS [UInt8.ofNat (48 + n)] := by
  have hn : n = 0 ∨ n = 1 ∨ n = 2 ∨ n = 3 ∨ n = 4 ∨ n = 5 ∨ n = 6 ∨ n = 7 ∨ n = 8 ∨ n = 9 := by omega
  rcases hn with rfl | rfl | rfl | rfl | rfl | rfl | rfl | rfl | rfl | rfl <;> decide +kernel
theorem tdiv10 (n : Nat) : (n : Int).tdiv 10 = ((n / 10 : Nat) : Int) := rfl
theorem tmod10 (n : Nat) : (n : Int).tmod 10 = ((n % 10 : Nat) : Int) := rfl

end Go.Proofs.Yteidffcimidinaa

/- Values, part 4: Unary, the reference's equality of lists, decimals. -/
namespace Go.Proofs.Yteidffcimidinaa
open Go Go.Ax
set_option maxRecDepth 100000
set_option linter.unusedSimpArgs false
set_option linter.unusedVariables false

section
variable {w a : Int} {o : List UInt8}
theorem inI_lt (hw : wOk w) (h : inI w a) : -128 ≤ a ∧ a ≤ 127 := by
  unfold inI leF grF at h
  rw [if_pos hw, if_pos hw] at h
  rcases w_cases hw with rfl | rfl | rfl | rfl | rfl | rfl | rfl <;> simp [hf] at h <;> omega
end

/-- A number as a row. -/
def iR (n : Int) : List AV := [int n]
theorem intsC (l m : List Int) (hl : big l.length) (H : AHeap) : Comp' 23 [.sl 1 (l.map iR), .sl 1 (m.map iR)] H (bool (decide (l = m))) := by
  refine enter Try.func23 L23_ok (Nat.le_of_ble_eq_true rfl) ?_
  unfold big at hl
  by_cases hlen : l.length = m.length
  · repeat' (first | (refine And.intro (by omega) ?_) | simp -implicitDefEqProofs (disch := omega) only [L23, dT_lt, dF_lt, dT_le, dF_le, dT_eq, dF_eq, push_cast, ↓reduceIte, Nat.reduceEqDiff, reduceCtorEq, Nat.reduceAdd, Nat.reduceSub, Nat.reduceMul, Nat.reduceLeDiff, Nat.reduceLT, Nat.reduceMod, Nat.reduceDiv, Int.reduceToNat, Int.reduceLT, Int.reduceLE, Int.reduceEq, Int.reduceAdd, Int.reduceSub, Int.reduceNeg, Int.reduceMul, Bool.and_self] | split)
    refine rk_loopS (fun (j : Nat) e' H' => e' 0 = .sl 1 (l.map iR) ∧ e' 1 = .sl 1 (m.map iR) ∧ e' 5 = int j ∧ H = H' ∧ j ≤ l.length ∧ l.take j = m.take j) (fun j => l.length - j) 0 ?_ ?_
    · exact ⟨rfl, rfl, rfl, rfl, Nat.zero_le _, rfl⟩
    rintro j e' H' ⟨h0, h1, h5, rfl, hj, ht⟩
    by_cases hlt : j < l.length
    · by_cases he : l.getD j default = m.getD j default
      · repeat' (first | (refine And.intro (by omega) ?_) | simp -implicitDefEqProofs (disch := omega) only [h0, h1, h5, rows_getD, iR, he, dT_lt, dF_lt, dT_le, dF_le, dT_eq, dF_eq, push_cast, ↓reduceIte, Nat.reduceEqDiff, reduceCtorEq, Nat.reduceAdd, Nat.reduceSub, Nat.reduceMul, Nat.reduceLeDiff, Nat.reduceLT, Nat.reduceMod, Nat.reduceDiv, Int.reduceToNat, Int.reduceLT, Int.reduceLE, Int.reduceEq, Int.reduceAdd, Int.reduceSub, Int.reduceNeg, Int.reduceMul, Bool.and_self] | split)
        refine .mk (j + 1) ⟨h0, h1, rfl, rfl, hlt, ?_⟩ (by omega)
        rw [take_snoc hlt, take_snoc (by omega), ht, he]
      · have hd : decide (l = m) = false := by
          simp only [decide_eq_false_iff_not]
          intro h; exact he (by rw [h])
        repeat' (first | (refine And.intro (by omega) ?_) | simp -implicitDefEqProofs (disch := omega) only [h0, h1, h5, rows_getD, iR, dT_lt, dF_lt, dT_le, dF_le, dT_eq, dF_eq, push_cast, ↓reduceIte, Nat.reduceEqDiff, reduceCtorEq, Nat.reduceAdd, Nat.reduceSub, Nat.reduceMul, Nat.reduceLeDiff, Nat.reduceLT, Nat.reduceMod, Nat.reduceDiv, Int.reduceToNat, Int.reduceLT, Int.reduceLE, Int.reduceEq, Int.reduceAdd, Int.reduceSub, Int.reduceNeg, Int.reduceMul, Bool.and_self] | split)
        rw [hd]
    · have hd : decide (l = m) = true := by
        simp only [decide_eq_true_eq]
        have := ht
        rwa [List.take_of_length_le (by omega), List.take_of_length_le (by omega)] at this
      repeat' (first | (refine And.intro (by omega) ?_) | simp -implicitDefEqProofs (disch := omega) only [h0, h1, h5, dT_lt, dF_lt, dT_le, dF_le, dT_eq, dF_eq, push_cast, ↓reduceIte, Nat.reduceEqDiff, reduceCtorEq, Nat.reduceAdd, Nat.reduceSub, Nat.reduceMul, Nat.reduceLeDiff, Nat.reduceLT, Nat.reduceMod, Nat.reduceDiv, Int.reduceToNat, Int.reduceLT, Int.reduceLE, Int.reduceEq, Int.reduceAdd, Int.reduceSub, Int.reduceNeg, Int.reduceMul, Bool.and_self] | split)
      rw [hd]
  · have hd : decide (l = m) = false := by
      simp only [decide_eq_false_iff_not]
      intro h; exact hlen (by rw [h])
    repeat' (first | (refine And.intro (by omega) ?_) | simp -implicitDefEqProofs (disch := omega) only [L23, dT_lt, dF_lt, dT_le, dF_le, dT_eq, dF_eq, push_cast, ↓reduceIte, Nat.reduceEqDiff, reduceCtorEq, Nat.reduceAdd, Nat.reduceSub, Nat.reduceMul, Nat.reduceLeDiff, Nat.reduceLT, Nat.reduceMod, Nat.reduceDiv, Int.reduceToNat, Int.reduceLT, Int.reduceLE, Int.reduceEq, Int.reduceAdd, Int.reduceSub, Int.reduceNeg, Int.reduceMul, Bool.and_self] | split)
    rw [hd]
theorem wrapu64_of' (n : Int) (h : 0 ≤ n) (h' : n < 18446744073709551616) : IntKind.u64.wrap n = n := by
  simp [IntKind.wrap, IntKind.bits, IntKind.signed]
  omega
theorem wrap32_of' (n : Int) (h : 0 ≤ n) (h' : n < 2147483648) : IntKind.i32.wrap n = n := wrap32_of n (by omega) (by omega)
abbrev u64I (n : Int) : AV := .v (.int .u64 n)
theorem digitsV (n : Nat) (hn : n ≤ 9223372036854775808) (H : AHeap) : Comp' 96 [u64I n] H (str (decF n)) := by
  induction n using Nat.strongRecOn generalizing H with
  | _ n ih =>
    refine enter Try.func96 L96_ok (Nat.le_of_ble_eq_true rfl) ?_
    by_cases h : n < 10
    · have hw : IntKind.u64.wrap (48 + (n : Int)) = 48 + (n : Int) := wrapu64_of' _ (by omega) (by omega)
      have hv : IntKind.i32.wrap (48 + (n : Int)) = 48 + (n : Int) := wrap32_of' _ (by omega) (by omega)
      repeat' (first | (refine And.intro (by omega) ?_) | simp -implicitDefEqProofs (disch := omega) only [L96, hw, hv, utf8_digit h, decF_small h, dT_lt, dF_lt, dT_le, dF_le, dT_eq, dF_eq, push_cast, ↓reduceIte, Nat.reduceEqDiff, reduceCtorEq, Nat.reduceAdd, Nat.reduceSub, Nat.reduceMul, Nat.reduceLeDiff, Nat.reduceLT, Nat.reduceMod, Nat.reduceDiv, Int.reduceToNat, Int.reduceLT, Int.reduceLE, Int.reduceEq, Int.reduceAdd, Int.reduceSub, Int.reduceNeg, Int.reduceMul, Bool.and_self] | split)
    · have h1 := decF_19 (n := n / 10) (by omega)
      have h2 := decF_19 (n := n % 10) (by omega)
      have hw : IntKind.u64.wrap ((n / 10 : Nat) : Int) = ((n / 10 : Nat) : Int) := wrapu64_of' _ (by omega) (by omega)
      repeat' (first | (refine And.intro (by omega) ?_) | (refine callF_pure (ih (n / 10) (by omega) (by omega) _) ?_) | (refine callF_pure (ih (n % 10) (by omega) (by omega) _) ?_) | (refine callQF_pure (ih (n / 10) (by omega) (by omega) _) (by first | rfl | simp only [L96, tdiv10, tmod10, hw, decF_big h, push_cast, ↓reduceIte, Nat.reduceEqDiff]) ?_) | (refine callQF_pure (ih (n % 10) (by omega) (by omega) _) (by first | rfl | simp only [L96, tdiv10, tmod10, hw, decF_big h, push_cast, ↓reduceIte, Nat.reduceEqDiff]) ?_) | simp -implicitDefEqProofs (disch := omega) only [L96, tdiv10, tmod10, hw, decF_big h, dT_lt, dF_lt, dT_le, dF_le, dT_eq, dF_eq, push_cast, ↓reduceIte, Nat.reduceEqDiff, reduceCtorEq, Nat.reduceAdd, Nat.reduceSub, Nat.reduceMul, Nat.reduceLeDiff, Nat.reduceLT, Nat.reduceMod, Nat.reduceDiv, Int.reduceToNat, Int.reduceLT, Int.reduceLE, Int.reduceEq, Int.reduceAdd, Int.reduceSub, Int.reduceNeg, Int.reduceMul, Bool.and_self] | split)
      rw [decF_small (n := n % 10) (by omega)]

/-- A number in decimal. -/
def decZ (n : Int) : List UInt8 := if n < 0 then 45 :: decF n.natAbs else decF n.natAbs
theorem decF_20 {n : Nat} (h : n ≤ 9223372036854775808) : (decF n).length ≤ 20 := decF_len 19 n (by omega)
theorem decimalV (n : Int) (hn : i64R n) (H : AHeap) : Comp' 51 [int n] H (str (decZ n)) := by
  refine enter Try.func51 L51_ok (Nat.le_of_ble_eq_true rfl) ?_
  unfold i64R at hn
  by_cases h : n < 0
  · obtain ⟨m, hm⟩ : ∃ m : Nat, n = -(m : Int) := ⟨n.natAbs, by omega⟩
    have e : decZ n = 45 :: decF m := by unfold decZ; rw [if_pos h, show n.natAbs = m by omega]
    have e1 : 0 - (n + 1) + 1 = (m : Int) := by omega
    have hl := decF_20 (n := m) (by omega)
    repeat' (first | (refine And.intro (by omega) ?_) | (refine callF_pure (digitsV m (by omega) _) ?_) | (refine callQF_pure (digitsV m (by omega) _) (by first | rfl | simp only [L51, e1, e, push_cast, ↓reduceIte, Nat.reduceEqDiff]) ?_) | simp -implicitDefEqProofs (disch := omega) only [L51, e1, e, dT_lt, dF_lt, dT_le, dF_le, dT_eq, dF_eq, push_cast, ↓reduceIte, Nat.reduceEqDiff, reduceCtorEq, Nat.reduceAdd, Nat.reduceSub, Nat.reduceMul, Nat.reduceLeDiff, Nat.reduceLT, Nat.reduceMod, Nat.reduceDiv, Int.reduceToNat, Int.reduceLT, Int.reduceLE, Int.reduceEq, Int.reduceAdd, Int.reduceSub, Int.reduceNeg, Int.reduceMul, Bool.and_self] | split)
    omega
  · obtain ⟨m, hm⟩ : ∃ m : Nat, n = (m : Int) := ⟨n.natAbs, by omega⟩
    have e : decZ n = decF m := by unfold decZ; rw [if_neg h, show n.natAbs = m by omega]
    subst hm
    have e3 : IntKind.u64.wrap (m : Int) = (m : Int) := wrapu64_of' _ (by omega) (by omega)
    repeat' (first | (refine And.intro (by omega) ?_) | (refine callF_pure (digitsV m (by omega) _) ?_) | (refine callQF_pure (digitsV m (by omega) _) (by first | rfl | simp only [L51, e3, e, push_cast, ↓reduceIte, Nat.reduceEqDiff]) ?_) | simp -implicitDefEqProofs (disch := omega) only [L51, e3, e, dT_lt, dF_lt, dT_le, dF_le, dT_eq, dF_eq, push_cast, ↓reduceIte, Nat.reduceEqDiff, reduceCtorEq, Nat.reduceAdd, Nat.reduceSub, Nat.reduceMul, Nat.reduceLeDiff, Nat.reduceLT, Nat.reduceMod, Nat.reduceDiv, Int.reduceToNat, Int.reduceLT, Int.reduceLE, Int.reduceEq, Int.reduceAdd, Int.reduceSub, Int.reduceNeg, Int.reduceMul, Bool.and_self] | split)
end Go.Proofs.Yteidffcimidinaa

/- Values, part 5: Next. -/
namespace Go.Proofs.Yteidffcimidinaa
open Go Go.Ax
set_option maxRecDepth 100000
set_option linter.unusedSimpArgs false
set_option linter.unusedVariables false

def nxt (low high : List Int) : Nat → List Int → Option (List Int)
  | 0, out => none
  | k + 1, out => if out.getD k default < high.getD k default then some (out.set k (out.getD k default + 1)) else nxt low high k (out.set k (low.getD k default))
def within (low high l : List Int) : Prop := low.length = l.length ∧ high.length = l.length ∧ ∀ i, i < l.length → low.getD i default ≤ l.getD i default ∧ l.getD i default ≤ high.getD i default
instance (low high l : List Int) : Decidable (within low high l) := inferInstanceAs (Decidable (_ ∧ _ ∧ _))
def nextF (low high l : List Int) : Option (List Int) := if within low high l then nxt low high l.length l else none
def nextA : Option (List Int) → AV
  | some l => .tup [.sl 1 (l.map iR), bool true]
  | none => .tup [nilS, bool false]
def allR (l : List Int) : Prop := ∀ i, i < l.length → i64R (l.getD i default)

theorem nextC (low high l : List Int) (hl : l.length ≤ 1000) (h1 : allR low) (h2 : allR high) (h3 : allR l) (H : AHeap) : Comp' 15 [.sl 1 (low.map iR), .sl 1 (high.map iR), .sl 1 (l.map iR)] H (nextA (nextF low high l)) := by
  refine ACall.drop (R := fun x => x = nextA (nextF low high l)) ?_
  refine enter Try.func15 L15_ok (Nat.le_of_ble_eq_true rfl) ?_
  by_cases g1 : low.length = l.length
  · by_cases g2 : high.length = l.length
    · repeat' (first | (refine And.intro (by omega) ?_) | simp -implicitDefEqProofs (disch := omega) only [L15, dT_lt, dF_lt, dT_le, dF_le, dT_eq, dF_eq, push_cast, ↓reduceIte, Nat.reduceEqDiff, reduceCtorEq, Nat.reduceAdd, Nat.reduceSub, Nat.reduceMul, Nat.reduceLeDiff, Nat.reduceLT, Nat.reduceMod, Nat.reduceDiv, Int.reduceToNat, Int.reduceLT, Int.reduceLE, Int.reduceEq, Int.reduceAdd, Int.reduceSub, Int.reduceNeg, Int.reduceMul, Bool.and_self] | split)
      refine rk_loopS (fun (j : Nat) e' H' => e' 0 = .sl 1 (low.map iR) ∧ e' 1 = .sl 1 (high.map iR) ∧ e' 2 = .sl 1 (l.map iR) ∧ e' 24 = .sl 1 (l.map iR) ∧ e' 25 = int l.length ∧ e' 26 = int j ∧ H = H' ∧ j ≤ l.length ∧ ∀ i, i < j → low.getD i default ≤ l.getD i default ∧ l.getD i default ≤ high.getD i default) (fun j => l.length - j) 0 ?_ ?_
      · exact ⟨rfl, rfl, rfl, rfl, rfl, rfl, rfl, Nat.zero_le _, by simp⟩
      rintro j e' H' ⟨e0, e1, e2, e24, e25, e26, rfl, hj, hv⟩
      by_cases hlt : j < l.length
      · by_cases ga : low.getD j default ≤ l.getD j default
        · by_cases gb : l.getD j default ≤ high.getD j default
          · repeat' (first | (refine And.intro (by omega) ?_) | simp -implicitDefEqProofs (disch := omega) only [e0, e1, e2, e24, e25, e26, rows_getD, iR, dT_lt, dF_lt, dT_le, dF_le, dT_eq, dF_eq, push_cast, ↓reduceIte, Nat.reduceEqDiff, reduceCtorEq, Nat.reduceAdd, Nat.reduceSub, Nat.reduceMul, Nat.reduceLeDiff, Nat.reduceLT, Nat.reduceMod, Nat.reduceDiv, Int.reduceToNat, Int.reduceLT, Int.reduceLE, Int.reduceEq, Int.reduceAdd, Int.reduceSub, Int.reduceNeg, Int.reduceMul, Bool.and_self] | split)
            refine .mk (j + 1) ⟨e0, e1, e2, e24, e25, rfl, rfl, hlt, fun i hi => ?_⟩ (by omega)
            by_cases hij : i = j
            · subst hij; exact ⟨ga, gb⟩
            · exact hv i (by omega)
          · have e : nextF low high l = none := by unfold nextF; rw [if_neg (fun h => gb (h.2.2 j hlt).2)]
            rw [e]
            repeat' (first | (refine And.intro (by omega) ?_) | simp -implicitDefEqProofs (disch := omega) only [e0, e1, e2, e24, e25, e26, rows_getD, iR, dT_lt, dF_lt, dT_le, dF_le, dT_eq, dF_eq, push_cast, ↓reduceIte, Nat.reduceEqDiff, reduceCtorEq, Nat.reduceAdd, Nat.reduceSub, Nat.reduceMul, Nat.reduceLeDiff, Nat.reduceLT, Nat.reduceMod, Nat.reduceDiv, Int.reduceToNat, Int.reduceLT, Int.reduceLE, Int.reduceEq, Int.reduceAdd, Int.reduceSub, Int.reduceNeg, Int.reduceMul, Bool.and_self] | split)
            exact ⟨rfl, [], (List.append_nil _).symm⟩
        · have e : nextF low high l = none := by unfold nextF; rw [if_neg (fun h => ga (h.2.2 j hlt).1)]
          rw [e]
          repeat' (first | (refine And.intro (by omega) ?_) | simp -implicitDefEqProofs (disch := omega) only [e0, e1, e2, e24, e25, e26, rows_getD, iR, dT_lt, dF_lt, dT_le, dF_le, dT_eq, dF_eq, push_cast, ↓reduceIte, Nat.reduceEqDiff, reduceCtorEq, Nat.reduceAdd, Nat.reduceSub, Nat.reduceMul, Nat.reduceLeDiff, Nat.reduceLT, Nat.reduceMod, Nat.reduceDiv, Int.reduceToNat, Int.reduceLT, Int.reduceLE, Int.reduceEq, Int.reduceAdd, Int.reduceSub, Int.reduceNeg, Int.reduceMul, Bool.and_self] | split)
          exact ⟨rfl, [], (List.append_nil _).symm⟩
      · have hw : within low high l := ⟨g1, g2, fun i hi => hv i (by omega)⟩
        have e : nextF low high l = nxt low high l.length l := by unfold nextF; rw [if_pos hw]
        repeat' (first | (refine And.intro (by omega) ?_) | simp -implicitDefEqProofs (disch := omega) only [e0, e1, e2, e24, e25, e26, dT_lt, dF_lt, dT_le, dF_le, dT_eq, dF_eq, push_cast, ↓reduceIte, Nat.reduceEqDiff, reduceCtorEq, Nat.reduceAdd, Nat.reduceSub, Nat.reduceMul, Nat.reduceLeDiff, Nat.reduceLT, Nat.reduceMod, Nat.reduceDiv, Int.reduceToNat, Int.reduceLT, Int.reduceLE, Int.reduceEq, Int.reduceAdd, Int.reduceSub, Int.reduceNeg, Int.reduceMul, Bool.and_self] | split)
        rw [e]
        refine rk_loopS (fun (p : Nat × List Int) e' H' => e' 0 = .sl 1 (low.map iR) ∧ e' 1 = .sl 1 (high.map iR) ∧ e' 10 = .os H.length 1 0 l.length ∧ e' 11 = int ((p.1 : Int) - 1) ∧ H' = H ++ [.arr 1 1 (p.2.map iR)] ∧ p.1 ≤ l.length ∧ p.2.length = l.length ∧ (∀ i, i < p.1 → p.2.getD i default = l.getD i default) ∧ nxt low high l.length l = nxt low high p.1 p.2) (fun p => p.1) (l.length, l) ?_ ?_
        · exact ⟨e0, e1, by simp [up], rfl, rfl, Nat.le_refl _, rfl, fun i hi => rfl, rfl⟩
        rintro ⟨k, out⟩ e' H' ⟨e0, e1, e10, e11, rfl, hk, hlen, hsame, hn⟩
        simp only at e0 e1 e10 e11 hk hlen hsame hn
        rw [hn]
        cases k with
        | zero =>
          repeat' (first | (refine And.intro (by omega) ?_) | simp -implicitDefEqProofs (disch := omega) only [e0, e1, e10, e11, dT_lt, dF_lt, dT_le, dF_le, dT_eq, dF_eq, push_cast, ↓reduceIte, Nat.reduceEqDiff, reduceCtorEq, Nat.reduceAdd, Nat.reduceSub, Nat.reduceMul, Nat.reduceLeDiff, Nat.reduceLT, Nat.reduceMod, Nat.reduceDiv, Int.reduceToNat, Int.reduceLT, Int.reduceLE, Int.reduceEq, Int.reduceAdd, Int.reduceSub, Int.reduceNeg, Int.reduceMul, Bool.and_self] | split)
          exact ⟨rfl, _, rfl⟩
        | succ k =>
          have hk1 : (((k + 1 : Nat) : Int) - 1) = (k : Int) := by omega
          rw [hk1] at e11
          by_cases hc : out.getD k default < high.getD k default
          · have e : nxt low high (k + 1) out = some (out.set k (out.getD k default + 1)) := by rw [nxt, if_pos hc]
            rw [e]
            have hr := h2 k (by omega)
            have hr' := h3 k (by omega)
            rw [← hsame k (by omega)] at hr'
            unfold i64R at hr hr'
            have hw : IntKind.i64.wrap (out.getD k default + 1) = out.getD k default + 1 := wrap64_of _ (by omega) (by omega)
            repeat' (first | (refine And.intro (by omega) ?_) | simp -implicitDefEqProofs (disch := omega) only [e0, e1, e10, e11, rows_getD, iR, hw, Nat.zero_add, dT_lt, dF_lt, dT_le, dF_le, dT_eq, dF_eq, push_cast, ↓reduceIte, Nat.reduceEqDiff, reduceCtorEq, Nat.reduceAdd, Nat.reduceSub, Nat.reduceMul, Nat.reduceLeDiff, Nat.reduceLT, Nat.reduceMod, Nat.reduceDiv, Int.reduceToNat, Int.reduceLT, Int.reduceLE, Int.reduceEq, Int.reduceAdd, Int.reduceSub, Int.reduceNeg, Int.reduceMul, Bool.and_self] | split)
            exact ⟨by rw [List.take_of_length_le (by simp; omega), nextA, List.map_set]; rfl, _, rfl⟩
          · have e : nxt low high (k + 1) out = nxt low high k (out.set k (low.getD k default)) := by rw [nxt, if_neg hc]
            rw [e]
            repeat' (first | (refine And.intro (by omega) ?_) | simp -implicitDefEqProofs (disch := omega) only [e0, e1, e10, e11, rows_getD, iR, Nat.zero_add, dT_lt, dF_lt, dT_le, dF_le, dT_eq, dF_eq, push_cast, ↓reduceIte, Nat.reduceEqDiff, reduceCtorEq, Nat.reduceAdd, Nat.reduceSub, Nat.reduceMul, Nat.reduceLeDiff, Nat.reduceLT, Nat.reduceMod, Nat.reduceDiv, Int.reduceToNat, Int.reduceLT, Int.reduceLE, Int.reduceEq, Int.reduceAdd, Int.reduceSub, Int.reduceNeg, Int.reduceMul, Bool.and_self] | split)
            refine .mk (k, out.set k (low.getD k default)) ⟨e0, e1, e10, rfl, by rw [List.map_set]; rfl, by omega, by simpa using hlen, fun i hi => ?_, rfl⟩ (by simp)
            rw [← hsame i (by omega)]
            simp [List.getD, List.getElem?_set_ne (show k ≠ i by omega)]
    · have e : nextF low high l = none := by unfold nextF; rw [if_neg (fun h => g2 h.2.1)]
      rw [e]
      repeat' (first | (refine And.intro (by omega) ?_) | simp -implicitDefEqProofs (disch := omega) only [L15, dT_lt, dF_lt, dT_le, dF_le, dT_eq, dF_eq, push_cast, ↓reduceIte, Nat.reduceEqDiff, reduceCtorEq, Nat.reduceAdd, Nat.reduceSub, Nat.reduceMul, Nat.reduceLeDiff, Nat.reduceLT, Nat.reduceMod, Nat.reduceDiv, Int.reduceToNat, Int.reduceLT, Int.reduceLE, Int.reduceEq, Int.reduceAdd, Int.reduceSub, Int.reduceNeg, Int.reduceMul, Bool.and_self] | split)
      exact ⟨rfl, [], (List.append_nil _).symm⟩
  · have e : nextF low high l = none := by unfold nextF; rw [if_neg (fun h => g1 h.1)]
    rw [e]
    repeat' (first | (refine And.intro (by omega) ?_) | simp -implicitDefEqProofs (disch := omega) only [L15, dT_lt, dF_lt, dT_le, dF_le, dT_eq, dF_eq, push_cast, ↓reduceIte, Nat.reduceEqDiff, reduceCtorEq, Nat.reduceAdd, Nat.reduceSub, Nat.reduceMul, Nat.reduceLeDiff, Nat.reduceLT, Nat.reduceMod, Nat.reduceDiv, Int.reduceToNat, Int.reduceLT, Int.reduceLE, Int.reduceEq, Int.reduceAdd, Int.reduceSub, Int.reduceNeg, Int.reduceMul, Bool.and_self] | split)
    exact ⟨rfl, [], (List.append_nil _).symm⟩

end Go.Proofs.Yteidffcimidinaa

/- Values, part 6: Format. -/
namespace Go.Proofs.Yteidffcimidinaa
open Go Go.Ax
set_option maxRecDepth 100000
set_option linter.unusedSimpArgs false
set_option linter.unusedVariables false

abbrev trueS : List UInt8 := [116, 114, 117, 101]
abbrev falseS : List UInt8 := [102, 97, 108, 115, 101]
def wordF (s : Ty) (n : Int) : List UInt8 := if s.k = 2 then (if n = 0 then falseS else trueS) else decZ n
def wordsF (sc : List Ty) (l : List Int) : List (List UInt8) := List.zipWith wordF sc l
def closeF (t : Ty) (s : List UInt8) : List UInt8 := if t.k = 3 then [91] ++ s ++ [93] else if t.k = 4 then t.rc ++ [40] ++ s ++ [41] else s
def fmtF (t : Ty) (rs : List Rc) (l : List Int) : List UInt8 := if validF t rs = true ∧ (scal1 rs t).length = l.length then closeF t (Lib.join (wordsF (scal1 rs t) l) [44, 32]) else []
def sR (x : List UInt8) : List AV := [str x]

theorem decZ_len {n : Int} (h : i64R n) : (decZ n).length ≤ 20 := by
  unfold i64R at h
  unfold decZ
  split
  · simp only [List.length_cons]
    have := decF_len 18 n.natAbs (by omega)
    omega
  · have := decF_len 18 n.natAbs (by omega)
    omega
theorem wordF_len (s : Ty) {n : Int} (h : i64R n) : (wordF s n).length ≤ 20 := by
  unfold wordF
  split
  · split <;> simp
  · exact decZ_len h
theorem join_len (xs : List (List UInt8)) (sep : List UInt8) (k : Nat) (h : ∀ x ∈ xs, x.length ≤ k) : (Lib.join xs sep).length ≤ xs.length * (k + sep.length) := by
  cases xs with
  | nil => simp [Lib.join_nil]
  | cons x xs =>
    have hx := h x (by simp)
    rw [Lib.join_cons]
    have : (Lib.joinTail sep xs).length ≤ xs.length * (k + sep.length) := by
      unfold Lib.joinTail
      have hh : ∀ y ∈ xs, y.length ≤ k := fun y hy => h y (by simp [hy])
      clear h
      induction xs with
      | nil => simp
      | cons y ys ih =>
        have hy := hh y (by simp)
        have h2 := ih fun z hz => hh z (by simp [hz])
        simp only [List.map_cons, List.flatten_cons, List.length_append, List.length_cons, Nat.succ_mul] at h2 ⊢
        omega
    simp only [List.length_append, List.length_cons, Nat.succ_mul]
    omega
theorem words_len {sc : List Ty} {l : List Int} (h : sc.length = l.length) : (wordsF sc l).length = l.length := by simp [wordsF, h]
theorem words_get {sc : List Ty} {l : List Int} {j : Nat} (h : sc.length = l.length) (hj : j < l.length) : (wordsF sc l).getD j default = wordF (sc.getD j default) (l.getD j default) := by
  simp [wordsF, List.getD, List.getElem?_eq_getElem, hj, h]
theorem words_le {sc : List Ty} {l : List Int} (hr : allR l) : ∀ x ∈ wordsF sc l, x.length ≤ 20 := by
  intro x hx
  unfold wordsF at hx
  obtain ⟨i, hi, rfl⟩ := List.mem_iff_getElem.1 hx
  simp only [List.length_zipWith] at hi
  simp only [List.getElem_zipWith]
  refine wordF_len _ ?_
  have := hr i (by omega)
  rwa [show l.getD i default = l[i]'(by omega) by simp [List.getD, List.getElem?_eq_getElem (show i < l.length by omega)]] at this
theorem scalV_one {rs : List Rc} {t : Ty} (h : validF t rs = true) : scalV rs [t] = .sl 3 ((scal1 rs t).map tyR) := by
  simp [scalV, h]
theorem scalV_bad {rs : List Rc} {t : Ty} (h : validF t rs = false) : scalV rs [t] = nilS := by
  simp [scalV, h]

theorem fmtC (t : Ty) (rs : List Rc) (l : List Int) (hf : Few rs) (hrc : t.rc.length ≤ 1000000) (hr : allR l) (hl : big l.length) (H : AHeap) : Comp' 18 [.agg (tyR t), .sl 2 (rs.map rcR), .sl 1 (l.map iR)] H (str (fmtF t rs l)) := by
  refine ACall.drop (R := fun x => x = str (fmtF t rs l)) ?_
  refine enter Try.func18 L18_ok (Nat.le_of_ble_eq_true rfl) ?_
  have hrl := hf.len
  unfold big at hl
  have hs := fun H => scalars rs [t] H hf (by simp)
  have hva := fun H => valid t rs H (by omega)
  simp only [List.map_cons, List.map_nil, tyR] at hs hva
  cases hv : validF t rs <;> rw [hv] at hva
  · have e : fmtF t rs l = [] := by unfold fmtF; rw [hv]; rfl
    rw [e]
    rw [scalV_bad hv] at hs
    repeat' (first | (refine And.intro (by omega) ?_) | (refine callF_pure (hs _) ?_) | (refine callF_pure (hva _) ?_) | (refine callQF_pure (hs _) (by first | rfl | simp only [L18, hv, tyR, push_cast, ↓reduceIte, Nat.reduceEqDiff]) ?_) | (refine callQF_pure (hva _) (by first | rfl | simp only [L18, hv, tyR, push_cast, ↓reduceIte, Nat.reduceEqDiff]) ?_) | simp -implicitDefEqProofs (disch := omega) only [L18, hv, tyR, dT_lt, dF_lt, dT_le, dF_le, dT_eq, dF_eq, push_cast, ↓reduceIte, Nat.reduceEqDiff, reduceCtorEq, Nat.reduceAdd, Nat.reduceSub, Nat.reduceMul, Nat.reduceLeDiff, Nat.reduceLT, Nat.reduceMod, Nat.reduceDiv, Int.reduceToNat, Int.reduceLT, Int.reduceLE, Int.reduceEq, Int.reduceAdd, Int.reduceSub, Int.reduceNeg, Int.reduceMul, Bool.and_self] | split)
    exact ⟨_, rfl⟩
  · rw [scalV_one hv] at hs
    have hsl := scal1_len hf hv
    by_cases hlen : (scal1 rs t).length = l.length
    · have e : fmtF t rs l = closeF t (Lib.join (wordsF (scal1 rs t) l) [44, 32]) := by unfold fmtF; rw [if_pos ⟨hv, hlen⟩]
      rw [e]
      generalize scal1 rs t = sc at *
      repeat' (first | (refine And.intro (by omega) ?_) | (refine callF_pure (hs _) ?_) | (refine callF_pure (hva _) ?_) | (refine callQF_pure (hs _) (by first | rfl | simp only [L18, tyR, push_cast, ↓reduceIte, Nat.reduceEqDiff]) ?_) | (refine callQF_pure (hva _) (by first | rfl | simp only [L18, tyR, push_cast, ↓reduceIte, Nat.reduceEqDiff]) ?_) | simp -implicitDefEqProofs (disch := omega) only [L18, tyR, dT_lt, dF_lt, dT_le, dF_le, dT_eq, dF_eq, push_cast, ↓reduceIte, Nat.reduceEqDiff, reduceCtorEq, Nat.reduceAdd, Nat.reduceSub, Nat.reduceMul, Nat.reduceLeDiff, Nat.reduceLT, Nat.reduceMod, Nat.reduceDiv, Int.reduceToNat, Int.reduceLT, Int.reduceLE, Int.reduceEq, Int.reduceAdd, Int.reduceSub, Int.reduceNeg, Int.reduceMul, Bool.and_self] | split)
      refine rk_loopS (fun (p : Nat × Nat × List HO) e' H' => e' 3 = .ptr H.length 0 0 ∧ e' 7 = .sl 3 (sc.map tyR) ∧ e' 8 = .os (H.length + 1) p.2.1 0 p.1 ∧ e' 27 = .sl 1 (l.map iR) ∧ e' 28 = int l.length ∧ e' 29 = int p.1 ∧ H' = H ++ .box (tyR t) :: .arr p.2.1 1 (((wordsF sc l).take p.1).map sR) :: p.2.2 ∧ p.1 ≤ l.length) (fun p => l.length - p.1) (0, 0, []) ?_ ?_
      · exact ⟨rfl, rfl, rfl, rfl, rfl, rfl, rfl, Nat.zero_le _⟩
      rintro ⟨j, ver, rest⟩ e' H' ⟨h3, h7, h8, h27, h28, h29, rfl, hj⟩
      simp only at h3 h7 h8 h27 h28 h29 hj
      by_cases hlt : j < l.length
      · have hwl := words_len hlen
        have hg := words_get hlen hlt
        have hts := take_snoc (l := wordsF sc l) (j := j) (by omega)
        have htl : ((wordsF sc l).take j).length = j := by simp; omega
        have hfin : List.take j (((wordsF sc l).take j).map sR) ++ [sR ((wordsF sc l).getD j default)] = ((wordsF sc l).take (j + 1)).map sR := by
          rw [hts, List.map_append, List.take_of_length_le (by simp; omega)]; rfl
        rw [hg] at hfin
        by_cases hk : (sc.getD j default).k = 2
        · by_cases hn : l.getD j default = 0
          · have hw : wordF (sc.getD j default) (l.getD j default) = falseS := by unfold wordF; rw [if_pos hk, if_pos hn]
            rw [hw] at hfin
            generalize hte : sc.getD j default = te at *
            obtain ⟨k, len, rc⟩ := te
            simp only at hk
            repeat' (first | (refine And.intro (by omega) ?_) | simp -implicitDefEqProofs (disch := omega) only [h3, h7, h8, h27, h28, h29, rows_getD, tyR, iR, hte, dT_lt, dF_lt, dT_le, dF_le, dT_eq, dF_eq, push_cast, ↓reduceIte, Nat.reduceEqDiff, reduceCtorEq, Nat.reduceAdd, Nat.reduceSub, Nat.reduceMul, Nat.reduceLeDiff, Nat.reduceLT, Nat.reduceMod, Nat.reduceDiv, Int.reduceToNat, Int.reduceLT, Int.reduceLE, Int.reduceEq, Int.reduceAdd, Int.reduceSub, Int.reduceNeg, Int.reduceMul, Bool.and_self] | split)
            exact .mk (j + 1, ver + 1, rest) ⟨h3, h7, rfl, h27, h28, rfl, congrArg (fun z => H ++ HO.box (tyR t) :: HO.arr (ver + 1) 1 z :: rest) hfin, hlt⟩ (by simp only; omega)
          · have hw : wordF (sc.getD j default) (l.getD j default) = trueS := by unfold wordF; rw [if_pos hk, if_neg hn]
            rw [hw] at hfin
            generalize hte : sc.getD j default = te at *
            obtain ⟨k, len, rc⟩ := te
            simp only at hk
            repeat' (first | (refine And.intro (by omega) ?_) | simp -implicitDefEqProofs (disch := omega) only [h3, h7, h8, h27, h28, h29, rows_getD, tyR, iR, hte, dT_lt, dF_lt, dT_le, dF_le, dT_eq, dF_eq, push_cast, ↓reduceIte, Nat.reduceEqDiff, reduceCtorEq, Nat.reduceAdd, Nat.reduceSub, Nat.reduceMul, Nat.reduceLeDiff, Nat.reduceLT, Nat.reduceMod, Nat.reduceDiv, Int.reduceToNat, Int.reduceLT, Int.reduceLE, Int.reduceEq, Int.reduceAdd, Int.reduceSub, Int.reduceNeg, Int.reduceMul, Bool.and_self] | split)
            exact .mk (j + 1, ver + 1, rest) ⟨h3, h7, rfl, h27, h28, rfl, congrArg (fun z => H ++ HO.box (tyR t) :: HO.arr (ver + 1) 1 z :: rest) hfin, hlt⟩ (by simp only; omega)
        · have hdz := hr j hlt
          have hw : wordF (sc.getD j default) (l.getD j default) = decZ (l.getD j default) := by unfold wordF; rw [if_neg hk]
          rw [hw] at hfin
          generalize hte : sc.getD j default = te at *
          obtain ⟨k, len, rc⟩ := te
          simp only at hk
          repeat' (first | (refine And.intro (by omega) ?_) | (refine callF_pure (decimalV _ hdz _) ?_) | (refine callQF_pure (decimalV _ hdz _) (by first | rfl | simp only [h3, h7, h8, h27, h28, h29, rows_getD, tyR, iR, hte, push_cast, ↓reduceIte, Nat.reduceEqDiff]) ?_) | simp -implicitDefEqProofs (disch := omega) only [h3, h7, h8, h27, h28, h29, rows_getD, tyR, iR, hte, dT_lt, dF_lt, dT_le, dF_le, dT_eq, dF_eq, push_cast, ↓reduceIte, Nat.reduceEqDiff, reduceCtorEq, Nat.reduceAdd, Nat.reduceSub, Nat.reduceMul, Nat.reduceLeDiff, Nat.reduceLT, Nat.reduceMod, Nat.reduceDiv, Int.reduceToNat, Int.reduceLT, Int.reduceLE, Int.reduceEq, Int.reduceAdd, Int.reduceSub, Int.reduceNeg, Int.reduceMul, Bool.and_self] | split)
          exact .mk (j + 1, ver + 1, rest) ⟨h3, h7, rfl, h27, h28, rfl, congrArg (fun z => H ++ HO.box (tyR t) :: HO.arr (ver + 1) 1 z :: rest) hfin, hlt⟩ (by simp only; omega)
      · have hjl : j = l.length := by omega
        have hwl := words_len hlen
        have hall : List.take j (((wordsF sc l).take j).map sR) = (wordsF sc l).map sR := by
          rw [List.take_of_length_le (by simp; omega), List.take_of_length_le (by omega)]
        have htl : ((wordsF sc l).take j).length = j := by simp; omega
        have hjn := join_len (wordsF sc l) [44, 32] 20 (words_le hr)
        have hjj : (Lib.join (wordsF sc l) [44, 32]).length ≤ 440 := by simp at hjn; omega
        have hJ := fun H => joinC (wordsF sc l) [44, 32] (by omega) (by omega) H
        generalize Lib.join (wordsF sc l) [44, 32] = jn at *
        have hJ' : ∀ H, ACall Try.prog 21 [.sl 1 ((wordsF sc l).map sR), str [44, 32]] H fun x H' => x = str jn ∧ H' = H := hJ
        by_cases k3 : t.k = 3
        · have ec : closeF t jn = [91] ++ jn ++ [93] := by unfold closeF; rw [if_pos k3]
          rw [ec]
          repeat' (first | (refine And.intro (by omega) ?_) | (refine callF_pure (hJ' _) ?_) | (refine callQF_pure (hJ' _) (by first | rfl | simp only [h3, h7, h8, h27, h28, h29, hall, tyR, push_cast, ↓reduceIte, Nat.reduceEqDiff]) ?_) | simp -implicitDefEqProofs (disch := omega) only [h3, h7, h8, h27, h28, h29, hall, tyR, dT_lt, dF_lt, dT_le, dF_le, dT_eq, dF_eq, push_cast, ↓reduceIte, Nat.reduceEqDiff, reduceCtorEq, Nat.reduceAdd, Nat.reduceSub, Nat.reduceMul, Nat.reduceLeDiff, Nat.reduceLT, Nat.reduceMod, Nat.reduceDiv, Int.reduceToNat, Int.reduceLT, Int.reduceLE, Int.reduceEq, Int.reduceAdd, Int.reduceSub, Int.reduceNeg, Int.reduceMul, Bool.and_self] | split)
          exact ⟨_, rfl⟩
        · by_cases k4 : t.k = 4
          · have ec : closeF t jn = t.rc ++ [40] ++ jn ++ [41] := by unfold closeF; rw [if_neg k3, if_pos k4]
            rw [ec]
            repeat' (first | (refine And.intro (by omega) ?_) | (refine callF_pure (hJ' _) ?_) | (refine callQF_pure (hJ' _) (by first | rfl | simp only [h3, h7, h8, h27, h28, h29, hall, tyR, push_cast, ↓reduceIte, Nat.reduceEqDiff]) ?_) | simp -implicitDefEqProofs (disch := omega) only [h3, h7, h8, h27, h28, h29, hall, tyR, dT_lt, dF_lt, dT_le, dF_le, dT_eq, dF_eq, push_cast, ↓reduceIte, Nat.reduceEqDiff, reduceCtorEq, Nat.reduceAdd, Nat.reduceSub, Nat.reduceMul, Nat.reduceLeDiff, Nat.reduceLT, Nat.reduceMod, Nat.reduceDiv, Int.reduceToNat, Int.reduceLT, Int.reduceLE, Int.reduceEq, Int.reduceAdd, Int.reduceSub, Int.reduceNeg, Int.reduceMul, Bool.and_self] | split)
            exact ⟨_, rfl⟩
          · have ec : closeF t jn = jn := by unfold closeF; rw [if_neg k3, if_neg k4]
            rw [ec]
            repeat' (first | (refine And.intro (by omega) ?_) | (refine callF_pure (hJ' _) ?_) | (refine callQF_pure (hJ' _) (by first | rfl | simp only [h3, h7, h8, h27, h28, h29, hall, tyR, push_cast, ↓reduceIte, Nat.reduceEqDiff]) ?_) | simp -implicitDefEqProofs (disch := omega) only [h3, h7, h8, h27, h28, h29, hall, tyR, dT_lt, dF_lt, dT_le, dF_le, dT_eq, dF_eq, push_cast, ↓reduceIte, Nat.reduceEqDiff, reduceCtorEq, Nat.reduceAdd, Nat.reduceSub, Nat.reduceMul, Nat.reduceLeDiff, Nat.reduceLT, Nat.reduceMod, Nat.reduceDiv, Int.reduceToNat, Int.reduceLT, Int.reduceLE, Int.reduceEq, Int.reduceAdd, Int.reduceSub, Int.reduceNeg, Int.reduceMul, Bool.and_self] | split)
            exact ⟨_, rfl⟩
    · have e : fmtF t rs l = [] := by unfold fmtF; rw [if_neg fun h => hlen h.2]
      rw [e]
      repeat' (first | (refine And.intro (by omega) ?_) | (refine callF_pure (hs _) ?_) | (refine callF_pure (hva _) ?_) | (refine callQF_pure (hs _) (by first | rfl | simp only [L18, hv, tyR, push_cast, ↓reduceIte, Nat.reduceEqDiff]) ?_) | (refine callQF_pure (hva _) (by first | rfl | simp only [L18, hv, tyR, push_cast, ↓reduceIte, Nat.reduceEqDiff]) ?_) | simp -implicitDefEqProofs (disch := omega) only [L18, hv, tyR, dT_lt, dF_lt, dT_le, dF_le, dT_eq, dF_eq, push_cast, ↓reduceIte, Nat.reduceEqDiff, reduceCtorEq, Nat.reduceAdd, Nat.reduceSub, Nat.reduceMul, Nat.reduceLeDiff, Nat.reduceLT, Nat.reduceMod, Nat.reduceDiv, Int.reduceToNat, Int.reduceLT, Int.reduceLE, Int.reduceEq, Int.reduceAdd, Int.reduceSub, Int.reduceNeg, Int.reduceMul, Bool.and_self] | split)
      exact ⟨_, rfl⟩
end Go.Proofs.Yteidffcimidinaa
