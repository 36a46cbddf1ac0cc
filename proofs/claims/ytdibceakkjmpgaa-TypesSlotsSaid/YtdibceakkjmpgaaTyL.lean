/-
  The slots of variables that the program's Layout gives lie one behind the other, without gaps, there are as many as all scalars, and the chapter's examples hold.
  Conditions: none; every input.
-/
import Derived.Test.YtdibceakkjmpgaaRows
import Derived.Test.YtdibceakkjmpgaaTy9
import Derived.Test.YtdibceakkjmpgaaAx25
import Derived.ProofKit
namespace Go.Proofs.Ytdibceakkjmpgaa
open Go Go.Ax Go.ChangeShapes Go.WideShapes Go.ChangeAt Go.RowKit
set_option linter.unusedSimpArgs false
set_option linter.unusedVariables false

theorem typesSlots_law : ∀ l, ValAll Try.prog Try.f5.params.toList l → ∃ R : AHeap → Prop, ACall Try.prog 5 (topAll Try.prog Try.f5.params.toList l) [] fun x H' => x = bool true ∧ R H' := by
  intro l h
  rw [Try.params5] at h ⊢
  match l, h with
  | [xs, ys], h =>
    obtain ⟨h1, h2, _⟩ := h
    obtain ⟨rows, rfl, hl, hr⟩ := val_sl Try.underlying28 c_rc h1
    obtain ⟨rs, rfl, hrs⟩ := val_rows hr fun x => open_rc
    obtain ⟨rows, rfl, hl2, hr2⟩ := val_sl Try.underlying40 c_vr h2
    obtain ⟨vs, rfl, hvs⟩ := val_rows hr2 fun x => open_vr
    simp only [topAll, topV, Try.underlying28, Try.underlying40, List.headD_cons]
    exact ⟨_, typesSlots rs vs (by simpa using hl) []⟩

set_option maxRecDepth 100000 in
theorem typesSlots_lifted (os : Os) (started : os.Started) (H : Type) (enc : TypeId × Value → H) :
    ReturnsInHanded {} Try.checked os 5 .any (Rows.typesSlotsSpec.pre6 enc Try.prog Try.f5 Rows.typesSlotsRow.domain false) (Rows.typesSlotsSpec.post enc Try.prog Try.f5 false true false false) :=
  law_lifted (C := Try.checked) (S := [3, 4, 9, 28, 29, 40, 76, 32, 78, 91, 44]) (tb := 4) (by kernel_rfl) started (by kernel_rfl) Try.func5
    (ChangeSpec.witness6 (enc := enc) (C := Try.checked) false ⟨#[], #[.slice none 0 0, .slice none 0 0], []⟩ 8 (by kernel_rfl) (by kernel_rfl) (by kernel_rfl) (by kernel_rfl))
    rfl rfl rfl Try.underlying4 (fun ds h => by
      match ds, h with
      | [a, b], _ => rfl
      ) (by kernel_rfl) (by kernel_rfl) (by kernel_rfl) typesSlots_law

theorem typesSlots_holds : Rows.TypesSlotsSaid :=
  OpenClaim.holds_of_wide 5 Try.f5 rfl rfl rfl rfl rfl rfl rfl ⟨rfl, rfl, rfl, rfl, rfl⟩ rfl rfl rfl rfl rfl (by kernel_rfl) Try.func5 (by kernel_rfl)
    (of_decide_eq_true (by kernel_rfl)) (by unfold Func.isWrapper; first | (rw [if_pos (by decide +kernel)]; kernel_rfl) | (rw [if_neg (by decide +kernel)]; exact ⟨rfl, rfl⟩))
    (fun os started H enc _ => typesSlots_lifted os started H enc)
#print axioms typesSlots_holds
end Go.Proofs.Ytdibceakkjmpgaa
