/-
  The program's Keyword, Name, Number and Space agree with those of the reference for any two strings, and the chapter's examples hold.
  Conditions: none; every pair of strings.
-/
import Derived.Test.YtdibceakkjmpgaaRows
import Derived.Test.YtdibceakkjmpgaaLx7
import Derived.Test.YtdibceakkjmpgaaAx24
import Derived.ProofKit
namespace Go.Proofs.Ytdibceakkjmpgaa
open Go Go.Ax Go.ChangeShapes Go.WideShapes Go.ChangeAt Go.RowKit

theorem own_knob : ownKnob Try.prog.godebug = none := by kernel_rfl

theorem repL_two (w : World) (a b : ByteArray) : RepL w X0 (fun _ => {}) 0 [str (bs a), str (bs b)] #[.string a, .string b] := by
  refine ⟨rfl, fun i x u hx hu => ?_⟩
  match i with
  | 0 => simp at hx hu; subst hx; subst hu; show Rep w X0 _ 0 (.v (.string (mkS (bs a)))) _; rw [mkS_bs]; exact .v _ _
  | 1 => simp at hx hu; subst hx; subst hu; show Rep w X0 _ 0 (.v (.string (mkS (bs b)))) _; rw [mkS_bs]; exact .v _ _
  | i + 2 => simp at hx
set_option maxRecDepth 100000 in
theorem lexerForms_lifted (os : Os) (started : os.Started) (H : Type) (enc : TypeId × Value → H) :
    ReturnsInHanded {} Try.checked os 3 .any (Rows.lexerFormsSpec.pre6 enc Try.prog Try.f3 Rows.lexerFormsRow.domain false) (Rows.lexerFormsSpec.post enc Try.prog Try.f3 false true false false) := by
  refine returnsInHanded_of_change (C := Try.checked) own_knob started (by kernel_rfl) Try.func3
    (ChangeSpec.witness6 (enc := enc) (C := Try.checked) false ⟨#[], #[.string (mkS []), .string (mkS [])], []⟩ 8 (by kernel_rfl) (by kernel_rfl) (by kernel_rfl) (by kernel_rfl)) ?_
  intro W base args ds gs before hval0 hW hcnd _
  have hval : ∀ (j : Nat) t v, Try.f3.params[j]? = some t → args[j]? = some v → Value.okWide Try.prog W .any base t v := hval0
  have hW' := hW
  obtain ⟨p, q, hA0, hV, rfl, hfz, hnd⟩ := hW
  have hA : DataW.TrodAll enc Try.prog W 0 (fun _ => true) true Try.f3.params.toList args.toList ds p := hA0
  rw [Try.params3] at hA hval
  obtain ⟨v0, v1, d0, d1, p0, p1, rfl, rfl, rfl, h0, h1⟩ := trodAll_two hA
  obtain ⟨rfl, rfl⟩ := trodVars_none hV
  obtain ⟨a, rfl, rfl, rfl, la⟩ := Go.ChangeMaps.open_string Try.underlying9 (hval 0 9 v0 rfl rfl) h0
  obtain ⟨b, rfl, rfl, rfl, lb⟩ := Go.ChangeMaps.open_string Try.underlying9 (hval 1 9 v1 rfl rfl) h1
  refine (((lexerForms (bs a) (bs b) []).top (repL_two W a b))).mono fun e W' ⟨v, x, H', ρ', he, hx, hr, hb⟩ => ?_
  obtain ⟨rfl, rfl⟩ := hx
  have hv := rep_v hr
  subst hv
  subst he
  refine ⟨_, rfl, post_law (tb := 4) hW' rfl rfl Try.underlying4 rfl (fun sp _ => ?_) hb⟩
  exact trodAll_mk2 (Go.ChangeMaps.shut_string Try.underlying9 la) (Go.ChangeMaps.shut_string Try.underlying9 lb)

theorem lexerForms_holds : Rows.LexerFormsSaid :=
  OpenClaim.holds_of_wide 3 Try.f3 rfl rfl rfl rfl rfl rfl rfl ⟨rfl, rfl, rfl, rfl, rfl⟩ rfl rfl rfl rfl rfl (by kernel_rfl) Try.func3 (by kernel_rfl)
    (of_decide_eq_true (by kernel_rfl)) (by unfold Func.isWrapper; first | (rw [if_pos (by decide +kernel)]; kernel_rfl) | (rw [if_neg (by decide +kernel)]; exact ⟨rfl, rfl⟩))
    (fun os started H enc _ => lexerForms_lifted os started H enc)
#print axioms lexerForms_holds
end Go.Proofs.Ytdibceakkjmpgaa
