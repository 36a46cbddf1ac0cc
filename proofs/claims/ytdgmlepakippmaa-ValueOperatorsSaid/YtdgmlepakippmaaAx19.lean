/- Operations one behind the other. -/
import Derived.Test.YtdgmlepakippmaaAx18
namespace Go.Ax
open Go Go.RowKit

section
variable {P : Program} {w w0 : World} {X : Nat → Prop} {ρ ρ0 : Nat → Loc} {H : AHeap} {e : Env} {a : Act} {n n0 : Nat}

/-- The state of a function: its slots, its objects, and what has become of the world since w0. -/
def St (X : Nat → Prop) (w0 : World) (ρ0 : Nat → Loc) (n0 n : Nat) (e : Env) (H : AHeap) (a : Act) (w : World) : Prop :=
  a.defers = [] ∧ a.tmps.size = n ∧ ∃ ρ, HRel w X ρ H ∧ ER w X ρ H n e a ∧ Fut w0 ρ0 n0 w ρ H.length

theorem put_get (a : Act) (d t : Nat) (u : Value) : (a.put (some d) u).tmps.getD t undef = if t = d ∧ d < a.tmps.size then u else a.tmps.getD t undef := by
  simp only [Act.put, Array.getD_eq_getD_getElem?]
  by_cases h : t = d
  · subst h
    by_cases h2 : t < a.tmps.size
    · simp [h2]
    · simp [h2]
  · rw [Array.getElem?_setIfInBounds_ne (fun e => h e.symm), if_neg (fun hh => h hh.1)]

/-- A slot is set. -/
theorem er_put {w' : World} {ρ' : Nat → Loc} {H' : AHeap} {d : Option Nat} {u : Value} {x : AV} (he : ER w X ρ H n e a) (hf : Fut w ρ H.length w' ρ' H'.length) (hx : Rep w' (Mut X ρ' H'.length) ρ' H'.length x u) (hn : a.tmps.size = n) :
    ER w' X ρ' H' n (ups e d x) (a.put d u) := by
  intro t ht
  cases d with
  | none => exact (he t ht).nextN hf
  | some d =>
    rw [put_get]
    simp only [ups, up]
    by_cases h : t = d
    · subst h
      rw [if_pos rfl, if_pos ⟨rfl, by omega⟩]
      exact hx
    · rw [if_neg h, if_neg (fun hh => h hh.1)]
      exact (he t ht).nextN hf

theorem put_size (a : Act) (d : Option Nat) (u : Value) : (a.put d u).tmps.size = a.tmps.size := by
  cases d <;> simp [Act.put]
theorem put_def (a : Act) (d : Option Nat) (u : Value) : (a.put d u).defers = a.defers := by
  cases d <;> rfl

theorem St.put {w' : World} {H' : AHeap} {ρ' : Nat → Loc} {d : Option Nat} {u : Value} {x : AV} (hs : a.defers = [] ∧ a.tmps.size = n) (he : ER w X ρ H n e a) (h0 : Fut w0 ρ0 n0 w ρ H.length) (g1 : HRel w' X ρ' H')
    (g2 : Rep w' (Mut X ρ' H'.length) ρ' H'.length x u) (g3 : Fut w ρ H.length w' ρ' H'.length) : St X w0 ρ0 n0 n (ups e d x) H' (a.put d u) w' :=
  ⟨by rw [put_def]; exact hs.1, by rw [put_size]; exact hs.2, ρ', g1, er_put he g3 g2 hs.2, h0.trans g3⟩

theorem up_eq {t : Nat} {x : AV} (h : e t = x) : up e t x = e := by
  funext u
  simp only [up]
  split
  · rename_i hu; rw [hu, h]
  · rfl

theorem ghost_inv {d : Option Nat} {op : LOp} (h : ghost d op = true) : ∃ t, d = some t ∧ (op = .frz (.t t) ∨ ∃ sz, op = .own sz (.t t)) := by
  cases op <;> simp [ghost] at h
  case frz x => cases x <;> simp at h; exact ⟨_, h, .inl rfl⟩
  case own sz x => cases x <;> simp at h; exact ⟨_, h, .inr ⟨sz, rfl⟩⟩

theorem ghosts_sound : ∀ (gs : List LO) {los : List LO} {e : Env} {H : AHeap} {K : Env → AHeap → Prop}, ghosts n gs = true → aops P (gs ++ los) e H K → St X w0 ρ0 n0 n e H a w → ∃ e' H', aops P los e' H' K ∧ St X w0 ρ0 n0 n e' H' a w
  | [], _, e, H, _, _, h, hst => ⟨e, H, h, hst⟩
  | g :: gs, los, e, H, K, hg, h, ⟨hd, hn, ρ, hrel, he, hf⟩ => by
    simp only [ghosts, List.all_cons, Bool.and_eq_true] at hg
    obtain ⟨⟨⟨g1, g2⟩, g3⟩, g4⟩ := hg
    obtain ⟨d, gg, op⟩ := g
    cases gg with
    | some _ => simp at g1
    | none =>
      obtain ⟨t, rfl, hop⟩ := ghost_inv g2
      have ht : t < n := by simpa using g3
      have hput : ∀ (w' : World) (ρ' : Nat → Loc) (H' : AHeap) (x : AV), Fut w ρ H.length w ρ' H'.length → HRel w X ρ' H' → Rep w (Mut X ρ' H'.length) ρ' H'.length x (a.tmps.getD t undef) → St X w0 ρ0 n0 n (up e t x) H' a w := by
        intro w' ρ' H' x f1 f2 f3
        refine ⟨hd, hn, ρ', f2, fun u hu => ?_, hf.trans f1⟩
        simp only [up]
        split
        · rename_i hut; rw [hut]; exact f3
        · exact (he u hu).nextN f1
      rcases hop with rfl | ⟨sz, rfl⟩
      · obtain ⟨h1, h2⟩ := h
        obtain ⟨ρ', f1, f2, f3⟩ := snd_frz hrel (he t ht) h1
        exact ghosts_sound gs g4 h2 (hput w ρ' _ _ f3 f1 f2)
      · obtain ⟨h1, h2⟩ := h
        obtain ⟨ρ', f1, f2, f3⟩ := snd_own hrel (he t ht) h1
        exact ghosts_sound gs g4 h2 (hput w ρ' _ _ f3 f1 f2)

/-- Is the operation wanted, as far as the environment says? -/
def wantA (g : Option (Nat × Bool)) (e : Env) : Option Bool :=
  match g with
  | none => some true
  | some (t, want) => match e t with
    | .v (.bool b) => some (b == want)
    | .v (.tuple _) => some false
    | _ => none

theorem want_ok {ops : Array Oper} {o : Oper} {g : Option (Nat × Bool)} {b : Bool} (hg : lowG ops n o.guard = some g) (he : ER w X ρ H n e a) (hn : a.tmps.size = n) (hw : wantA g e = some b) : Region.wanted o (yielded ops a.tmps) = b := by
  unfold lowG at hg
  cases hog : o.guard with
  | none =>
    rw [hog] at hg
    simp at hg
    subst hg
    simp [wantA] at hw
    subst hw
    simp [Region.wanted, hog]
  | some jw =>
    obtain ⟨j, want⟩ := jw
    rw [hog] at hg
    simp only at hg
    cases hd : (ops[j]?).bind (·.dst) with
    | none => simp [hd] at hg
    | some t =>
      simp only [hd] at hg
      by_cases ht : t < n
      · rw [if_pos ht] at hg
        simp only [Option.some.injEq] at hg
        subst hg
        simp only [wantA] at hw
        have hr := he t ht
        have hget : a.tmps[t]? = some (a.tmps.getD t undef) := by
          have : t < a.tmps.size := by rw [hn]; exact ht
          simp [this]
        simp only [Region.wanted, hog, yielded, hd, Option.bind_some, hget]
        cases het : e t with
        | v x =>
          rw [het] at hr hw
          have := rep_v hr
          rw [this]
          cases x <;> simp at hw
          case bool c => subst hw; cases c <;> cases want <;> rfl
          case tuple us => subst hw; rfl
        | _ => rw [het] at hw; simp at hw
      · rw [if_neg ht] at hg; cases hg

theorem aops_cons {o : LO} {l : List LO} {K : Env → AHeap → Prop} (h : aops P (o :: l) e H K) :
    (wantA o.g e = some true ∧ aop P o.op e H fun x H' => aops P l (ups e o.d x) H' K) ∨ (wantA o.g e = some false ∧ aops P l (ups e o.d undefA) H K) := by
  simp only [aops] at h
  cases hg : o.g with
  | none => rw [hg] at h; exact .inl ⟨rfl, h⟩
  | some tw =>
    obtain ⟨t, want⟩ := tw
    rw [hg] at h
    simp only at h
    cases het : e t with
    | v x =>
      rw [het] at h
      cases x <;> simp only at h <;> first | exact h.elim | skip
      case bool b =>
        have hu : up e t (bool b) = e := up_eq het
        cases b <;> cases want <;> simp only [hu, if_true, Bool.false_eq_true, if_false, wantA, het] at h ⊢ <;> first | exact .inl ⟨rfl, h⟩ | exact .inr ⟨rfl, h⟩
      case tuple us => exact .inr ⟨by simp [wantA, het], h⟩
    | _ => rw [het] at h; exact h.elim

theorem lowOne_inv {imm : Bool} {ops : Array Oper} {o : Oper} {lo : LO} (h : lowOne P n imm ops o = some lo) : lo.d = o.dst ∧ lowG ops n o.guard = some lo.g ∧ lo.op = lowOp P n imm o := by
  unfold lowOne at h
  cases hg : lowG ops n o.guard with
  | none => simp [hg] at h
  | some g =>
    simp only [hg] at h
    split at h
    · simp only [Option.some.injEq] at h
      subst h
      exact ⟨rfl, rfl, rfl⟩
    · cases h

/-- One operation, and what follows. -/
theorem op_step {imm : Bool} {ops : Array Oper} {o : Oper} {lo : LO} {l : List LO} {K : Env → AHeap → Prop} (hl : lowOne P n imm ops o = some lo) (h : aops P (lo :: l) e H K) (hst : St X w0 ρ0 n0 n e H a w) {next : Act → World → Prop} {Q : Exit → Act → World → Prop}
    (hn : ∀ e' H' a' w', aops P l e' H' K → St X w0 ρ0 n0 n e' H' a' w' → next a' w') :
    if Region.wanted o (yielded ops a.tmps) then o.wp P a w next Q else next (a.put o.dst undef) w := by
  obtain ⟨hd, hg, hop⟩ := lowOne_inv hl
  obtain ⟨h1, h2, ρ, hrel, he, hf⟩ := hst
  rcases aops_cons h with ⟨hw, h⟩ | ⟨hw, h⟩
  · rw [want_ok hg he h2 hw, if_pos rfl]
    rw [hop] at h
    refine aop_sound h hrel he fun u x H' ρ' w' hK g1 g2 g3 => hn _ _ _ _ hK ?_
    rw [hd]
    exact St.put ⟨h1, h2⟩ he hf g1 g2 g3
  · rw [want_ok hg he h2 hw, if_neg (by simp)]
    refine hn _ _ _ _ h ?_
    rw [hd]
    exact St.put ⟨h1, h2⟩ he hf hrel (.v _ _) (Fut.refl _ _ _)

theorem ops_sound {hs : List Hn} {reg : Nat} {ops : Array Oper} {K : Env → AHeap → Prop} {Q : Exit → Act → World → Prop} (hQ : ∀ e' H' a' w', K e' H' → St X w0 ρ0 n0 n e' H' a' w' → Q .normal a' w') :
    ∀ (l : List Oper) (i : Nat) (los : List LO) (e : Env) (H : AHeap) (a : Act) (w : World), lowOps P n hs reg ops i l = some los → aops P los e H K → St X w0 ρ0 n0 n e H a w → wpList P ops Q l a w
  | [], i, los, e, H, a, w, hl, h, hst => by
    unfold lowOps at hl
    split at hl
    · rename_i hg
      simp only [Option.some.injEq] at hl
      subst hl
      obtain ⟨e', H', h', hst'⟩ := ghosts_sound (presAt hs reg i) (los := []) hg (by simpa using h) hst
      exact hQ _ _ _ _ h' hst'
    · cases hl
  | o :: l, i, los, e, H, a, w, hl, h, hst => by
    unfold lowOps at hl
    cases h1 : lowOne P n (hasImm hs reg i) ops o with
    | none => simp [h1] at hl
    | some lo =>
      cases h2 : lowOps P n hs reg ops (i + 1) l with
      | none => simp [h1, h2] at hl
      | some m =>
        simp only [h1, h2] at hl
        split at hl
        · rename_i hg
          simp only [Option.some.injEq] at hl
          subst hl
          obtain ⟨e', H', h', hst'⟩ := ghosts_sound (presAt hs reg i) hg h hst
          have := op_step h1 h' hst' (next := wpList P ops Q l) (Q := Q) fun e'' H'' a'' w'' hK hs'' => ops_sound hQ l (i + 1) m e'' H'' a'' w'' h2 hK hs''
          unfold wpList
          split
          · rename_i hw; rw [if_pos hw] at this; exact .inl this
          · rename_i hw; rw [if_neg hw] at this; exact this
        · cases hl
end
end Go.Ax
