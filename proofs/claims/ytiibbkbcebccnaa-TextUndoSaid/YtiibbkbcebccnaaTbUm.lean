/-
  The inverted replacements fit the text after the replacements and restore the text, and inverting them again gives the replacements, for any text and replacements; and the chapter's examples hold.
  Conditions: none; every input.
-/
import Derived.Test.YtiibbkbcebccnaaM4
import Derived.Test.YtiibbkbcebccnaaRows
import Derived.ProofKit
namespace Go.Proofs.Ytiibbkbcebccnaa
open Go Go.Ax Go.ChangeShapes Go.WideShapes Go.ChangeAt Go.RowKit
set_option linter.unusedSimpArgs false
set_option linter.unusedVariables false

theorem textUndo_law : ∀ l, ValAll Try.prog Try.f6.params.toList l → ∃ R : AHeap → Prop, ACall Try.prog 6 (topAll Try.prog Try.f6.params.toList l) [] fun x H' => x = bool true ∧ R H' := by
  intro l h
  rw [Try.params6] at h ⊢
  match l, h with
  | [xs, ys], h =>
    obtain ⟨h1, h2, _⟩ := h
    obtain ⟨a, rfl, a1⟩ := val_str Try.underlying9 h1
    obtain ⟨rows, rfl, hl, hr⟩ := val_sl Try.underlying30 c_re h2
    obtain ⟨rs, rfl, hrs⟩ := val_rows hr fun x => open_re
    simp only [topAll, topV, Try.underlying9, Try.underlying30, List.headD_cons]
    exact ⟨_, textUndo a rs (by simpa using hl) []⟩

set_option maxRecDepth 100000 in
theorem textUndo_lifted (os : Os) (started : os.Started) (H : Type) (enc : TypeId × Value → H) :
    ReturnsInHanded {} Try.checked os 6 .any (Rows.textUndoSpec.pre6 enc Try.prog Try.f6 Rows.textUndoRow.domain false) (Rows.textUndoSpec.post enc Try.prog Try.f6 false true false false) :=
  law_lifted (C := Try.checked) (S := [3, 4, 9, 30, 24]) (tb := 4) (by kernel_rfl) started (by kernel_rfl) Try.func6
    (ChangeSpec.witness6 (enc := enc) (C := Try.checked) false ⟨#[], #[.string (mkS []), .slice none 0 0], []⟩ 8 (by kernel_rfl) (by kernel_rfl) (by kernel_rfl) (by kernel_rfl))
    rfl rfl rfl Try.underlying4 (fun ds h => by
      match ds, h with
      | [a, b], _ => rfl
      ) (by kernel_rfl) (by kernel_rfl) (by kernel_rfl) (by kernel_rfl) textUndo_law

theorem textUndo_holds : Rows.TextUndoSaid :=
  OpenClaim.holds_of_wide 6 Try.f6 rfl rfl rfl rfl rfl rfl rfl ⟨rfl, rfl, rfl, rfl, rfl⟩ rfl rfl rfl rfl rfl (by kernel_rfl) Try.func6 (by kernel_rfl)
    (of_decide_eq_true (by kernel_rfl)) (by unfold Func.isWrapper; first | (rw [if_pos (by decide +kernel)]; kernel_rfl) | (rw [if_neg (by decide +kernel)]; exact ⟨rfl, rfl⟩))
    (fun os started H enc _ => textUndo_lifted os started H enc)
#print axioms textUndo_holds
end Go.Proofs.Ytiibbkbcebccnaa
