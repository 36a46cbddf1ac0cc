/- The last step of a row: from the abstract call to the statement. -/
import Derived.Test.YtdgmlepakippmaaAx22
import Derived.Below
import Derived.ChangeSame
namespace Go.Ax
open Go Go.RowKit Go.WideShapes Go.ChangeShapes
set_option linter.unusedSimpArgs false
set_option linter.unusedVariables false

/-- Nothing is owned. -/
abbrev X0 : Nat → Prop := fun _ => False

theorem hrel_nil (w : World) (ρ : Nat → Loc) (hg : ∀ g ∈ glbs, ∃ m, w.cell? ⟨g, 0, none⟩ = some (.int .i64 m)) : HRel w X0 ρ [] where
  objs := fun r o h => by simp at h
  inj := fun r _ _ _ _ _ h => by simp at h
  lt := fun r _ _ h => by simp at h
  xlt := fun b h => h.elim
  gl := fun g h => ⟨fun ⟨r, o, hr, _⟩ => by simp at hr, hg g h⟩

/-- What a call from nothing leaves alone. -/
theorem Fut.below {w w' : World} {ρ ρ' : Nat → Loc} {n' : Nat} (h : Fut w ρ 0 w' ρ' n') : Below w.heap.size w w' :=
  ⟨h.os, h.tape, h.output, h.size, fun k hk => h.keep k hk fun ⟨r, o, hr, _⟩ => by omega⟩

/-- A call of values that name no object. -/
theorem ACall.top {P : Program} {k : FuncId} {args : List AV} {R : AV → AHeap → Prop} (h : ACall P k args [] R) {w : World} {vs : Array Value} (hargs : RepL w X0 (fun _ => {}) 0 args vs) (hg : ∀ g ∈ glbs, ∃ m, w.cell? ⟨g, 0, none⟩ = some (.int .i64 m)) :
    Calls P k vs w fun e w' => ∃ v x H' ρ', e = .returned v ∧ R x H' ∧ Rep w' (Mut X0 ρ' H'.length) ρ' H'.length x v ∧ Below w.heap.size w w' := by
  have hm : Mut X0 (fun _ => ({} : Loc)) 0 = X0 := by
    funext b
    simp [Mut, Own, X0]
  refine (h.2 X0 (fun _ => {}) w vs (hrel_nil _ _ hg) ?_).mono ?_
  · simpa [hm] using hargs
  · rintro e w' ⟨v, x, H', ρ', he, hR, _, hx, hf⟩
    exact ⟨v, x, H', ρ', he, hR, hx, hf.below⟩

section
variable {H : Type} {enc : TypeId × Value → H} {P : Program}
/-- A law's post: true is handed back, the arguments read as they did. -/
theorem post_law {f : Func} {s : ChangeSpec} {apart fresh handsOn again : Bool} {W W' : World} {args : Array Value} {ds : List (DataW H)} {before : List MemPlace} {tb : TypeId}
    (hW : DataW.Whole enc P f.params.toList s.vars apart W args.toList ds [] before) (hv : s.vars = [])
    (hf : f.resultTypes = #[tb]) (htb : P.underlying tb = some .bool) (hs : s.fn H ds = ⟨[.lit (.bool true)], ds, []⟩)
    (hargs : ∀ sp : Nat → Bool, (∀ p ∈ before, sp p.block = true) → DataW.TrodAll enc P W' 0 sp true f.params.toList args.toList ds before)
    (hb : Below W.heap.size W W') : s.post enc P f apart fresh handsOn again W args (.bool true) W' := by
  have hlt : ∀ p ∈ before, p.block < W.heap.size := fun p hp => hW.lt p hp
  have hold : ∀ p ∈ before, (fun b => decide (b < W.heap.size)) p.block = true := fun p hp => by simpa using hlt p hp
  have hs' : s.fn H (ds ++ []) = ⟨[.lit (.bool true)], ds, []⟩ := by rw [List.append_nil]; exact hs
  have hres : ∀ (b : Nat) (sp : Nat → Bool) (hd : Bool), DataW.TrodAll enc P W' b sp hd f.resultTypes.toList ((Value.bool true).resultList f.resultTypes.size) (s.fn H (ds ++ [])).results [] := by
    intro b sp hd
    rw [hs', hf]
    exact trodAll_mk1 (shut_bool htb true)
  have hvars : ∀ sp : Nat → Bool, DataW.TrodVars enc P W' sp s.vars (s.fn H (ds ++ [])).vars [] := by
    intro sp; rw [hs', hv]; rfl
  have hk : W.keptBut W' (· ∈ before) := hb.frame _
  refine ⟨ds, [], before, [], before, [], hW, hres _ _ _, ?_, hvars _, World.keptBut_mono (fun p hp => ⟨hp, .inr (.inl hp)⟩) hk, fun _ => ?_⟩
  · rw [hs']; exact hargs _ hold
  · obtain ⟨_, _, _, _, _, hz, hn⟩ := hW
    refine ⟨?_, _, _, ([] ++ before) ++ [], ⟨[] ++ before, [], trodAll_append (hargs _ fun _ _ => rfl) (hres 0 (fun _ => true) true), hvars _, rfl, ?_, ?_⟩, ?_⟩
    · intro j t r h1 h2
      rw [hf] at h1 h2
      cases j with
      | zero => simp [Value.resultList] at h1 h2; subst h1; subst h2; exact okWide_bool_mk htb true
      | succ j => simp at h1
    · intro b off hp
      have hin : MemPlace.cell b off ∈ before := by simpa using hp
      rw [hb.frozen (hlt _ hin)]
      exact hz b off (by simpa using hin)
    · intro ha
      simpa using hn ha
    · intro p hp _
      simpa using hp
end
end Go.Ax
