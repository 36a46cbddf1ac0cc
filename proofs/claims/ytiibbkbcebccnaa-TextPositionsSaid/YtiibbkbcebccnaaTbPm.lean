/-
  Lines, Position, Offset and Line agree with the reference, for any text and numbers; and the chapter's examples hold.
  Conditions: none; every input.
-/
import Derived.Test.YtiibbkbcebccnaaM4
import Derived.Test.YtiibbkbcebccnaaRows
import Derived.ProofKit
namespace Go.Proofs.Ytiibbkbcebccnaa
open Go Go.Ax Go.ChangeShapes Go.WideShapes Go.ChangeAt Go.RowKit
set_option linter.unusedSimpArgs false
set_option linter.unusedVariables false

theorem textPositions_law : ∀ l, ValAll Try.prog Try.f7.params.toList l → ∃ R : AHeap → Prop, ACall Try.prog 7 (topAll Try.prog Try.f7.params.toList l) [] fun x H' => x = bool true ∧ R H' := by
  intro l h
  rw [Try.params7] at h ⊢
  match l, h with
  | [xs, ys, us, ws], h =>
    obtain ⟨h1, h2, h3, h4, _⟩ := h
    obtain ⟨a, rfl, a1⟩ := val_str Try.underlying9 h1
    obtain ⟨t, rfl, t1⟩ := val_int Try.underlying3 h2
    obtain ⟨k, rfl, k1⟩ := val_int Try.underlying3 h3
    obtain ⟨c, rfl, c1⟩ := val_int Try.underlying3 h4
    simp only [topAll, topV, Try.underlying9, Try.underlying3, List.headD_cons]
    exact ⟨_, textPositions a t k c a1 []⟩

set_option maxRecDepth 100000 in
theorem textPositions_lifted (os : Os) (started : os.Started) (H : Type) (enc : TypeId × Value → H) :
    ReturnsInHanded {} Try.checked os 7 .any (Rows.textPositionsSpec.pre6 enc Try.prog Try.f7 Rows.textPositionsRow.domain false) (Rows.textPositionsSpec.post enc Try.prog Try.f7 false true false false) :=
  law_lifted (C := Try.checked) (S := [3, 4, 9]) (tb := 4) (by kernel_rfl) started (by kernel_rfl) Try.func7
    (ChangeSpec.witness6 (enc := enc) (C := Try.checked) false ⟨#[], #[.string (mkS []), .int .i64 0, .int .i64 0, .int .i64 0], []⟩ 8 (by kernel_rfl) (by kernel_rfl) (by kernel_rfl) (by kernel_rfl))
    rfl rfl rfl Try.underlying4 (fun ds h => by
      match ds, h with
      | [a, b, c, d], _ => rfl
      ) (by kernel_rfl) (by kernel_rfl) (by kernel_rfl) (by kernel_rfl) textPositions_law

theorem textPositions_holds : Rows.TextPositionsSaid :=
  OpenClaim.holds_of_wide 7 Try.f7 rfl rfl rfl rfl rfl rfl rfl ⟨rfl, rfl, rfl, rfl, rfl⟩ rfl rfl rfl rfl rfl (by kernel_rfl) Try.func7 (by kernel_rfl)
    (of_decide_eq_true (by kernel_rfl)) (by unfold Func.isWrapper; first | (rw [if_pos (by decide +kernel)]; kernel_rfl) | (rw [if_neg (by decide +kernel)]; exact ⟨rfl, rfl⟩))
    (fun os started H enc _ => textPositions_lifted os started H enc)
#print axioms textPositions_holds
end Go.Proofs.Ytiibbkbcebccnaa
