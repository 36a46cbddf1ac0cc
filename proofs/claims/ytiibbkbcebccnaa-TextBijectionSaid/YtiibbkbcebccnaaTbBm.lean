/-
  Every offset has a position, which has this offset alone, and the lines with their ends are the text, for any text without carriage returns; and the chapter's examples hold.
  Conditions: none; every input.
-/
import Derived.Test.YtiibbkbcebccnaaM5
import Derived.Test.YtiibbkbcebccnaaRows
import Derived.ProofKit
namespace Go.Proofs.Ytiibbkbcebccnaa
open Go Go.Ax Go.ChangeShapes Go.WideShapes Go.ChangeAt Go.RowKit
set_option linter.unusedSimpArgs false
set_option linter.unusedVariables false

theorem textBijection_law : ∀ l, ValAll Try.prog Try.f8.params.toList l → ∃ R : AHeap → Prop, ACall Try.prog 8 (topAll Try.prog Try.f8.params.toList l) [] fun x H' => x = bool true ∧ R H' := by
  intro l h
  rw [Try.params8] at h ⊢
  match l, h with
  | [xs], h =>
    obtain ⟨h1, _⟩ := h
    obtain ⟨a, rfl, a1⟩ := val_str Try.underlying9 h1
    simp only [topAll, topV, Try.underlying9, List.headD_cons]
    exact ⟨_, textBijection a []⟩

set_option maxRecDepth 100000 in
theorem textBijection_lifted (os : Os) (started : os.Started) (H : Type) (enc : TypeId × Value → H) :
    ReturnsInHanded {} Try.checked os 8 .any (Rows.textBijectionSpec.pre6 enc Try.prog Try.f8 Rows.textBijectionRow.domain false) (Rows.textBijectionSpec.post enc Try.prog Try.f8 false true false false) :=
  law_lifted (C := Try.checked) (S := [3, 4, 9]) (tb := 4) (by kernel_rfl) started (by kernel_rfl) Try.func8
    (ChangeSpec.witness6 (enc := enc) (C := Try.checked) false ⟨#[], #[.string (mkS [])], []⟩ 8 (by kernel_rfl) (by kernel_rfl) (by kernel_rfl) (by kernel_rfl))
    rfl rfl rfl Try.underlying4 (fun ds h => by
      match ds, h with
      | [a], _ => rfl
      ) (by kernel_rfl) (by kernel_rfl) (by kernel_rfl) (by kernel_rfl) textBijection_law

theorem textBijection_holds : Rows.TextBijectionSaid :=
  OpenClaim.holds_of_wide 8 Try.f8 rfl rfl rfl rfl rfl rfl rfl ⟨rfl, rfl, rfl, rfl, rfl⟩ rfl rfl rfl rfl rfl (by kernel_rfl) Try.func8 (by kernel_rfl)
    (of_decide_eq_true (by kernel_rfl)) (by unfold Func.isWrapper; first | (rw [if_pos (by decide +kernel)]; kernel_rfl) | (rw [if_neg (by decide +kernel)]; exact ⟨rfl, rfl⟩))
    (fun os started H enc _ => textBijection_lifted os started H enc)
#print axioms textBijection_holds
end Go.Proofs.Ytiibbkbcebccnaa
