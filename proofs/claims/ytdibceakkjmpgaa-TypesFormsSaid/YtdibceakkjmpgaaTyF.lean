/-
  The program's Valid, Format, Size and Scalars agree with those of the reference for any types and records, and the chapter's examples hold.
  Conditions: none; every input.
-/
import Derived.Test.YtdibceakkjmpgaaRows
import Derived.Test.YtdibceakkjmpgaaTy8
import Derived.Test.YtdibceakkjmpgaaAx25
import Derived.ProofKit
namespace Go.Proofs.Ytdibceakkjmpgaa
open Go Go.Ax Go.ChangeShapes Go.WideShapes Go.ChangeAt Go.RowKit
set_option linter.unusedSimpArgs false
set_option linter.unusedVariables false

theorem typesForms_law : ∀ l, ValAll Try.prog Try.f4.params.toList l → ∃ R : AHeap → Prop, ACall Try.prog 4 (topAll Try.prog Try.f4.params.toList l) [] fun x H' => x = bool true ∧ R H' := by
  intro l h
  rw [Try.params4] at h ⊢
  match l, h with
  | [xs, ys], h =>
    obtain ⟨h1, h2, _⟩ := h
    obtain ⟨rows, rfl, hl, hr⟩ := val_sl Try.underlying28 c_rc h1
    obtain ⟨rs, rfl, hrs⟩ := val_rows hr fun x => open_rc
    obtain ⟨rows, rfl, hl2, hr2⟩ := val_sl Try.underlying29 c_ty h2
    obtain ⟨ts, rfl, hts⟩ := val_rows hr2 fun x => open_ty
    simp only [topAll, topV, Try.underlying28, Try.underlying29, List.headD_cons]
    exact ⟨_, typesForms rs ts (by simpa using hl) (by simpa using hl2) hts []⟩

set_option maxRecDepth 100000 in
theorem typesForms_lifted (os : Os) (started : os.Started) (H : Type) (enc : TypeId × Value → H) :
    ReturnsInHanded {} Try.checked os 4 .any (Rows.typesFormsSpec.pre6 enc Try.prog Try.f4 Rows.typesFormsRow.domain false) (Rows.typesFormsSpec.post enc Try.prog Try.f4 false true false false) :=
  law_lifted (C := Try.checked) (S := [3, 4, 9, 28, 29, 40, 76, 32, 78, 91, 44]) (tb := 4) (by kernel_rfl) started (by kernel_rfl) Try.func4
    (ChangeSpec.witness6 (enc := enc) (C := Try.checked) false ⟨#[], #[.slice none 0 0, .slice none 0 0], []⟩ 8 (by kernel_rfl) (by kernel_rfl) (by kernel_rfl) (by kernel_rfl))
    rfl rfl rfl Try.underlying4 (fun ds h => by
      match ds, h with
      | [a, b], _ => rfl
      ) (by kernel_rfl) (by kernel_rfl) (by kernel_rfl) typesForms_law

theorem typesForms_holds : Rows.TypesFormsSaid :=
  OpenClaim.holds_of_wide 4 Try.f4 rfl rfl rfl rfl rfl rfl rfl ⟨rfl, rfl, rfl, rfl, rfl⟩ rfl rfl rfl rfl rfl (by kernel_rfl) Try.func4 (by kernel_rfl)
    (of_decide_eq_true (by kernel_rfl)) (by unfold Func.isWrapper; first | (rw [if_pos (by decide +kernel)]; kernel_rfl) | (rw [if_neg (by decide +kernel)]; exact ⟨rfl, rfl⟩))
    (fun os started H enc _ => typesForms_lifted os started H enc)
#print axioms typesForms_holds
end Go.Proofs.Ytdibceakkjmpgaa
