/-
  Apply, Invert and Move agree with the reference, for any text, replacements and offset; and the chapter's examples hold.
  Conditions: none; every input.
-/
import Derived.Test.YtiibbkbcebccnaaM4
import Derived.Test.YtiibbkbcebccnaaRows
import Derived.ProofKit
namespace Go.Proofs.Ytiibbkbcebccnaa
open Go Go.Ax Go.ChangeShapes Go.WideShapes Go.ChangeAt Go.RowKit
set_option linter.unusedSimpArgs false
set_option linter.unusedVariables false

theorem textReplaces_law : ∀ l, ValAll Try.prog Try.f5.params.toList l → ∃ R : AHeap → Prop, ACall Try.prog 5 (topAll Try.prog Try.f5.params.toList l) [] fun x H' => x = bool true ∧ R H' := by
  intro l h
  rw [Try.params5] at h ⊢
  match l, h with
  | [xs, ys, us], h =>
    obtain ⟨h1, h2, h3, _⟩ := h
    obtain ⟨a, rfl, a1⟩ := val_str Try.underlying9 h1
    obtain ⟨rows, rfl, hl, hr⟩ := val_sl Try.underlying30 c_re h2
    obtain ⟨rs, rfl, hrs⟩ := val_rows hr fun x => open_re
    obtain ⟨t, rfl, t1⟩ := val_int Try.underlying3 h3
    simp only [topAll, topV, Try.underlying9, Try.underlying3, Try.underlying30, List.headD_cons]
    exact ⟨_, textReplaces a rs t (by simpa using hl) []⟩

set_option maxRecDepth 100000 in
theorem textReplaces_lifted (os : Os) (started : os.Started) (H : Type) (enc : TypeId × Value → H) :
    ReturnsInHanded {} Try.checked os 5 .any (Rows.textReplacesSpec.pre6 enc Try.prog Try.f5 Rows.textReplacesRow.domain false) (Rows.textReplacesSpec.post enc Try.prog Try.f5 false true false false) :=
  law_lifted (C := Try.checked) (S := [3, 4, 9, 30, 24]) (tb := 4) (by kernel_rfl) started (by kernel_rfl) Try.func5
    (ChangeSpec.witness6 (enc := enc) (C := Try.checked) false ⟨#[], #[.string (mkS []), .slice none 0 0, .int .i64 0], []⟩ 8 (by kernel_rfl) (by kernel_rfl) (by kernel_rfl) (by kernel_rfl))
    rfl rfl rfl Try.underlying4 (fun ds h => by
      match ds, h with
      | [a, b, c], _ => rfl
      ) (by kernel_rfl) (by kernel_rfl) (by kernel_rfl) (by kernel_rfl) textReplaces_law

theorem textReplaces_holds : Rows.TextReplacesSaid :=
  OpenClaim.holds_of_wide 5 Try.f5 rfl rfl rfl rfl rfl rfl rfl ⟨rfl, rfl, rfl, rfl, rfl⟩ rfl rfl rfl rfl rfl (by kernel_rfl) Try.func5 (by kernel_rfl)
    (of_decide_eq_true (by kernel_rfl)) (by unfold Func.isWrapper; first | (rw [if_pos (by decide +kernel)]; kernel_rfl) | (rw [if_neg (by decide +kernel)]; exact ⟨rfl, rfl⟩))
    (fun os started H enc _ => textReplaces_lifted os started H enc)
#print axioms textReplaces_holds
end Go.Proofs.Ytiibbkbcebccnaa
