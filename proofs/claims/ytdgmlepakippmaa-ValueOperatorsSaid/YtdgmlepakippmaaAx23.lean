/- More rules for proofs by steps: a loop whose state is named, a cut, parts of code. -/
import Derived.Test.YtdgmlepakippmaaAx3
import Derived.Test.YtdgmlepakippmaaAx22
namespace Go.Ax
open Go Go.RowKit
set_option linter.unusedSimpArgs false
set_option linter.unusedVariables false

section
variable {P : Program} {k : List Item} {Q : Out → Env → AHeap → Prop} {e : Env} {H : AHeap}

theorem aops_mono : ∀ {l : List LO} {e : Env} {H : AHeap} {K K' : Env → AHeap → Prop}, aops P l e H K → (∀ e H, K e H → K' e H) → aops P l e H K'
  | [], _, _, _, _, h, hK => hK _ _ h
  | o :: l, _, _, _, _, h, hK => by
    refine aops_of ?_
    rcases aops_cons h with ⟨h1, h2⟩ | ⟨h1, h2⟩
    · exact .inl ⟨h1, aop_mono h2 fun x H' hh => aops_mono hh hK⟩
    · exact .inr ⟨h1, aops_mono h2 hK⟩

theorem aopq_mono {op : LOp} {K K' : AV → Prop} (h : aopq P op e H K) (hK : ∀ x, K x → K' x) : aopq P op e H K' := by
  cases op <;> simp only [aopq] at h ⊢ <;> first | exact ⟨h.1, h.2.1, hK _ h.2.2⟩ | exact h.elim | skip
  case call f args =>
    split at h
    · obtain ⟨x, h1, h2, h3⟩ := h; exact ⟨x, h1, h2, hK _ h3⟩
    · exact h.elim
  case pick c a b =>
    split at h
    · split at h
      · rename_i hb; rw [if_pos hb]; exact hK _ h
      · rename_i hb; rw [if_neg hb]; exact hK _ h
    · exact h.elim

theorem aopsq_mono : ∀ {l : List LO} {e : Env} {K K' : Env → Prop}, aopsq P l e H K → (∀ e, K e → K' e) → aopsq P l e H K'
  | [], _, _, _, h, hK => hK _ h
  | o :: l, e, _, _, h, hK => by
    simp only [aopsq] at h ⊢
    split at h
    · exact aopq_mono h fun x hh => aopsq_mono hh hK
    · rename_i t want hg
      split at h
      · rename_i b hb
        cases b <;> cases want <;> simp only [if_true, Bool.false_eq_true, if_false] at h ⊢ <;> first | exact aopsq_mono h hK | exact aopq_mono h fun x hh => aopsq_mono hh hK
      · exact aopsq_mono h hK
      · exact h.elim

theorem awp_mono : ∀ {c : LCode} {e : Env} {H : AHeap} {K K' : Out → Env → AHeap → Prop}, awp P c e H K → (∀ o e H, K o e H → K' o e H) → awp P c e H K' := by
  intro c
  induction c with
  | skip => intro e H K K' h hK; exact hK _ _ _ h
  | ops l => intro e H K K' h hK; exact aops_mono h fun e H hh => hK _ _ _ hh
  | draw hd tl => intro e H K K' h hK; exact aopsq_mono h fun e hh => aops_mono hh fun e H hh => hK _ _ _ hh
  | seq a b iha ihb =>
    intro e H K K' h hK
    refine iha h fun o e' H' hh => ?_
    cases o with
    | normal => exact ihb hh hK
    | exit id => exact hK _ _ _ hh
    | ret => exact hK _ _ _ hh
  | cond x a b iha ihb =>
    intro e H K K' h hK
    simp only [awp] at h ⊢
    split at h
    · rename_i t ht
      cases t with
      | true => rw [if_pos rfl] at h ⊢; exact iha h hK
      | false => rw [if_neg (by simp)] at h ⊢; exact ihb h hK
    · exact h.elim
  | block id c ih =>
    intro e H K K' h hK
    refine ih h fun o e' H' hh => ?_
    cases o with
    | normal => exact hK _ _ _ hh
    | exit j =>
      simp only at hh ⊢
      split
      · rename_i hj; rw [if_pos hj] at hh; exact hK _ _ _ hh
      · rename_i hj; rw [if_neg hj] at hh; exact hK _ _ _ hh
    | ret => exact hK _ _ _ hh
  | loop c ih =>
    intro e H K K' h hK
    obtain ⟨I, μ, h1, h2⟩ := h
    refine ⟨I, μ, h1, fun e H hI => ih (h2 e H hI) fun o e' H' hh => ?_⟩
    cases o with
    | normal => exact hh
    | exit id => exact hK _ _ _ hh
    | ret => exact hK _ _ _ hh
  | exit id => intro e H K K' h hK; exact hK _ _ _ h
  | ret => intro e H K K' h hK; exact hK _ _ _ h

theorem least {p : Nat → Prop} (h : ∃ n, p n) : ∃ n, p n ∧ ∀ m, p m → n ≤ m := by
  obtain ⟨n, hn⟩ := h
  induction n using Nat.strongRecOn with
  | _ n ih =>
    by_cases hh : ∃ m, m < n ∧ p m
    · obtain ⟨m, hm, hp⟩ := hh; exact ih m hm hp
    · exact ⟨n, hn, fun m hm => Nat.le_of_not_lt fun hlt => hh ⟨m, hlt, hm⟩⟩

/-- The next state of a loop. -/
inductive Nx {σ : Type} (I : σ → Env → AHeap → Prop) (μ : σ → Nat) (s : σ) (e : Env) (H : AHeap) : Prop where
  | mk (s' : σ) (h : I s' e H) (hm : μ s' < μ s)

open Classical in
/-- A loop whose state is s. -/
theorem rk_loopS {σ : Type} {c : LCode} (I : σ → Env → AHeap → Prop) (μ : σ → Nat) (s : σ) (h0 : I s e H)
    (h : ∀ s e H, I s e H → runK P (.code c :: .lp (Nx I μ s) :: k) Q .normal e H) : runK P (.code (.loop c) :: k) Q .normal e H := by
  have hex : ∀ e H, (∃ s, I s e H) → ∃ n, (∃ s, I s e H ∧ μ s = n) ∧ ∀ m, (∃ s, I s e H ∧ μ s = m) → n ≤ m := fun e H ⟨s, hs⟩ => least ⟨_, s, hs, rfl⟩
  refine rk_loop (fun e H => ∃ s, I s e H) (fun e H => if hx : ∃ s, I s e H then Classical.choose (hex e H hx) else 0) ⟨s, h0⟩ ?_
  intro e H hs
  obtain ⟨⟨s, hI, hm⟩, _⟩ := Classical.choose_spec (hex e H hs)
  refine awp_mono (h s e H hI) fun o e' H' hh => ?_
  cases o with
  | normal =>
    obtain ⟨s', hI', hlt⟩ := hh
    refine ⟨⟨s', hI'⟩, ?_⟩
    rw [dif_pos ⟨s', hI'⟩, dif_pos hs]
    have := (Classical.choose_spec (hex e' H' ⟨s', hI'⟩)).2 _ ⟨s', hI', rfl⟩
    omega
  | exit id => exact hh
  | ret => exact hh

/-- A cut: what holds behind A is enough for B. -/
theorem rk_cut {a b : LCode} (J : Env → AHeap → Prop) (h1 : runK P (.code a :: .lp J :: k) Q .normal e H) (h2 : ∀ e H, J e H → runK P (.code b :: k) Q .normal e H) : runK P (.code (.seq a b) :: k) Q .normal e H := by
  rw [rk_seq]
  refine awp_mono (h1 : awp P a e H (runK P (.lp J :: k) Q)) fun o e' H' hh => ?_
  cases o with
  | normal => exact h2 _ _ hh
  | exit id => exact hh
  | ret => exact hh
end

@[push_cast] theorem toNat_add1 (i : Nat) : ((i : Int) + 1).toNat = i + 1 := by omega
@[push_cast] theorem toNat_add2 (i : Nat) : ((i : Int) + 2).toNat = i + 2 := by omega
@[push_cast] theorem toNat_add3 (i : Nat) : ((i : Int) + 3).toNat = i + 3 := by omega
@[push_cast] theorem toNat_add4 (i : Nat) : ((i : Int) + 4).toNat = i + 4 := by omega
@[push_cast] theorem toNat_add5 (i : Nat) : ((i : Int) + 5).toNat = i + 5 := by omega
@[push_cast] theorem toNat_addC (i j : Nat) : ((i : Int) + (j : Int)).toNat = i + j := by omega

attribute [push_cast] Nat.add_sub_cancel_left
@[push_cast] theorem take_map_len {α β : Type} (f : α → β) (l : List α) : (l.map f).take l.length = l.map f := by
  rw [List.take_of_length_le (by simp)]
@[push_cast] theorem take_map_len0 {α β : Type} (f : α → β) (l : List α) : ((l.map f).drop 0).take l.length = l.map f := by
  rw [List.drop_zero, List.take_of_length_le (by simp)]
/-- The part of code at a place. -/
def LCode.sub : List Nat → LCode → LCode
  | [], c => c
  | 0 :: l, .seq a _ => a.sub l
  | 1 :: l, .seq _ b => b.sub l
  | 0 :: l, .cond _ a _ => a.sub l
  | 1 :: l, .cond _ _ b => b.sub l
  | _ :: l, .block _ c => c.sub l
  | _ :: l, .loop c => c.sub l
  | _, c => c
end Go.Ax
