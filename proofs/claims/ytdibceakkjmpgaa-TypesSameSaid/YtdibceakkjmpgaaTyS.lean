/-
  The program's Same is symmetric, holds for each type that exists and itself, and types that are the same have the same scalars; and the chapter's examples hold.
  Conditions: none; every input.
-/
import Derived.Test.YtdibceakkjmpgaaRows
import Derived.Test.YtdibceakkjmpgaaTy8
import Derived.Test.YtdibceakkjmpgaaAx25
import Derived.ProofKit
namespace Go.Proofs.Ytdibceakkjmpgaa
open Go Go.Ax Go.ChangeShapes Go.WideShapes Go.ChangeAt Go.RowKit
set_option linter.unusedSimpArgs false
set_option linter.unusedVariables false

theorem typesSame_law : ∀ l, ValAll Try.prog Try.f6.params.toList l → ∃ R : AHeap → Prop, ACall Try.prog 6 (topAll Try.prog Try.f6.params.toList l) [] fun x H' => x = bool true ∧ R H' := by
  intro l h
  rw [Try.params6] at h ⊢
  match l, h with
  | [xs, ys, us, vs], h =>
    obtain ⟨h1, h2, h3, h4, _⟩ := h
    obtain ⟨rows, rfl, hl, hr⟩ := val_sl Try.underlying28 c_rc h1
    obtain ⟨rs, rfl, hrs⟩ := val_rows hr fun x => open_rc
    obtain ⟨rows, rfl, hl2, hr2⟩ := val_sl Try.underlying28 c_rc h2
    obtain ⟨ss, rfl, hss⟩ := val_rows hr2 fun x => open_rc
    obtain ⟨a, rfl, ha⟩ := open_ty h3
    obtain ⟨b, rfl, hb⟩ := open_ty h4
    simp only [topAll, topV, Try.underlying28, Try.underlying32, List.headD_cons]
    exact ⟨_, typesSame a b rs ss (by simpa using hl) (by simpa using hl2) []⟩

set_option maxRecDepth 100000 in
theorem typesSame_lifted (os : Os) (started : os.Started) (H : Type) (enc : TypeId × Value → H) :
    ReturnsInHanded {} Try.checked os 6 .any (Rows.typesSameSpec.pre6 enc Try.prog Try.f6 Rows.typesSameRow.domain false) (Rows.typesSameSpec.post enc Try.prog Try.f6 false true false false) :=
  law_lifted (C := Try.checked) (S := [3, 4, 9, 28, 29, 40, 76, 32, 78, 91, 44]) (tb := 4) (by kernel_rfl) started (by kernel_rfl) Try.func6
    (ChangeSpec.witness6 (enc := enc) (C := Try.checked) false ⟨#[], #[.slice none 0 0, .slice none 0 0, .agg #[.int .i64 0, .int .i64 0, .string (mkS [])], .agg #[.int .i64 0, .int .i64 0, .string (mkS [])]], []⟩ 8 (by kernel_rfl) (by kernel_rfl) (by kernel_rfl) (by kernel_rfl))
    rfl rfl rfl Try.underlying4 (fun ds h => by
      match ds, h with
      | [a, b, c, d], _ => rfl
      ) (by kernel_rfl) (by kernel_rfl) (by kernel_rfl) typesSame_law

theorem typesSame_holds : Rows.TypesSameSaid :=
  OpenClaim.holds_of_wide 6 Try.f6 rfl rfl rfl rfl rfl rfl rfl ⟨rfl, rfl, rfl, rfl, rfl⟩ rfl rfl rfl rfl rfl (by kernel_rfl) Try.func6 (by kernel_rfl)
    (of_decide_eq_true (by kernel_rfl)) (by unfold Func.isWrapper; first | (rw [if_pos (by decide +kernel)]; kernel_rfl) | (rw [if_neg (by decide +kernel)]; exact ⟨rfl, rfl⟩))
    (fun os started H enc _ => typesSame_lifted os started H enc)
#print axioms typesSame_holds
end Go.Proofs.Ytdibceakkjmpgaa
