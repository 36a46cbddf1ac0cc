/-
  Difference agrees with the reference, and Apply with it turns the first text into the second one, for any two strings; and the chapter's examples hold.
  Conditions: none; every input.
-/
import Derived.Test.YtiibbkbcebccnaaM3
import Derived.Test.YtiibbkbcebccnaaRows
import Derived.ProofKit
namespace Go.Proofs.Ytiibbkbcebccnaa
open Go Go.Ax Go.ChangeShapes Go.WideShapes Go.ChangeAt Go.RowKit
set_option linter.unusedSimpArgs false
set_option linter.unusedVariables false

theorem textTurns_law : ∀ l, ValAll Try.prog Try.f3.params.toList l → ∃ R : AHeap → Prop, ACall Try.prog 3 (topAll Try.prog Try.f3.params.toList l) [] fun x H' => x = bool true ∧ R H' := by
  intro l h
  rw [Try.params3] at h ⊢
  match l, h with
  | [xs, ys], h =>
    obtain ⟨h1, h2, _⟩ := h
    obtain ⟨a, rfl, a1⟩ := val_str Try.underlying9 h1
    obtain ⟨b, rfl, b1⟩ := val_str Try.underlying9 h2
    simp only [topAll, topV, Try.underlying9, List.headD_cons]
    exact ⟨_, textTurns a b []⟩

set_option maxRecDepth 100000 in
theorem textTurns_lifted (os : Os) (started : os.Started) (H : Type) (enc : TypeId × Value → H) :
    ReturnsInHanded {} Try.checked os 3 .any (Rows.textTurnsSpec.pre6 enc Try.prog Try.f3 Rows.textTurnsRow.domain false) (Rows.textTurnsSpec.post enc Try.prog Try.f3 false true false false) :=
  law_lifted (C := Try.checked) (S := [3, 4, 9]) (tb := 4) (by kernel_rfl) started (by kernel_rfl) Try.func3
    (ChangeSpec.witness6 (enc := enc) (C := Try.checked) false ⟨#[], #[.string (mkS []), .string (mkS [])], []⟩ 8 (by kernel_rfl) (by kernel_rfl) (by kernel_rfl) (by kernel_rfl))
    rfl rfl rfl Try.underlying4 (fun ds h => by
      match ds, h with
      | [a, b], _ => rfl
      ) (by kernel_rfl) (by kernel_rfl) (by kernel_rfl) (by kernel_rfl) textTurns_law

theorem textTurns_holds : Rows.TextTurnsSaid :=
  OpenClaim.holds_of_wide 3 Try.f3 rfl rfl rfl rfl rfl rfl rfl ⟨rfl, rfl, rfl, rfl, rfl⟩ rfl rfl rfl rfl rfl (by kernel_rfl) Try.func3 (by kernel_rfl)
    (of_decide_eq_true (by kernel_rfl)) (by unfold Func.isWrapper; first | (rw [if_pos (by decide +kernel)]; kernel_rfl) | (rw [if_neg (by decide +kernel)]; exact ⟨rfl, rfl⟩))
    (fun os started H enc _ => textTurns_lifted os started H enc)
#print axioms textTurns_holds
end Go.Proofs.Ytiibbkbcebccnaa
