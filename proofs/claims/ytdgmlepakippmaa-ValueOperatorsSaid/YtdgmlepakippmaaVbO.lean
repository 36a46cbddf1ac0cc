/-
  For any width, operator and numbers the law ValueOperators returns true, and the arguments read afterwards as they did.
  Conditions: none; every input.
-/
import Derived.Test.YtdgmlepakippmaaRows
import Derived.Test.YtdgmlepakippmaaVb9
import Derived.Test.YtdgmlepakippmaaAx25
import Derived.ProofKit
namespace Go.Proofs.Ytdgmlepakippmaa
open Go Go.Ax Go.ChangeShapes Go.WideShapes Go.ChangeAt Go.RowKit
set_option linter.unusedSimpArgs false
set_option linter.unusedVariables false

theorem valueOperators_law : ∀ l, ValAll Try.prog Try.f5.params.toList l → ∃ R : AHeap → Prop, ACall Try.prog 5 (topAll Try.prog Try.f5.params.toList l) [] fun x H' => x = bool true ∧ R H' := by
  intro l h
  rw [Try.params5] at h ⊢
  match l, h with
  | [xs, ys, us, vs], h =>
    obtain ⟨h1, h2, h3, h4, _⟩ := h
    obtain ⟨a, rfl, a1⟩ := val_int Try.underlying3 h1
    obtain ⟨b, rfl, b1⟩ := val_str Try.underlying9 h2
    obtain ⟨c, rfl, c1⟩ := val_int Try.underlying3 h3
    obtain ⟨d, rfl, d1⟩ := val_int Try.underlying3 h4
    simp only [topAll, topV, Try.underlying3, Try.underlying9, List.headD_cons]
    exact ⟨_, valueOperators a c d b c1 []⟩

set_option maxRecDepth 100000 in
theorem valueOperators_lifted (os : Os) (started : os.Started) (H : Type) (enc : TypeId × Value → H) :
    ReturnsInHanded {} Try.checked os 5 .any (Rows.valueOperatorsSpec.pre6 enc Try.prog Try.f5 Rows.valueOperatorsRow.domain false) (Rows.valueOperatorsSpec.post enc Try.prog Try.f5 false true false false) :=
  law_lifted (C := Try.checked) (S := [3, 4, 9]) (tb := 4) (by kernel_rfl) started (by kernel_rfl) Try.func5
    (ChangeSpec.witness6 (enc := enc) (C := Try.checked) false ⟨#[], #[.int .i64 0, .string ⟨#[]⟩, .int .i64 0, .int .i64 0], []⟩ 8 (by kernel_rfl) (by kernel_rfl) (by kernel_rfl) (by kernel_rfl))
    rfl rfl rfl Try.underlying4 (fun ds h => by
      match ds, h with
      | [a, b, c, d], _ => rfl
      ) (by kernel_rfl) (by kernel_rfl) (by kernel_rfl) (by kernel_rfl) valueOperators_law

theorem valueOperators_holds : Rows.ValueOperatorsSaid :=
  OpenClaim.holds_of_wide 5 Try.f5 rfl rfl rfl rfl rfl rfl rfl ⟨rfl, rfl, rfl, rfl, rfl⟩ rfl rfl rfl rfl rfl (by kernel_rfl) Try.func5 (by kernel_rfl)
    (of_decide_eq_true (by kernel_rfl)) (by unfold Func.isWrapper; first | (rw [if_pos (by decide +kernel)]; kernel_rfl) | (rw [if_neg (by decide +kernel)]; exact ⟨rfl, rfl⟩))
    (fun os started H enc _ => valueOperators_lifted os started H enc)
#print axioms valueOperators_holds
end Go.Proofs.Ytdgmlepakippmaa
