/-
  For any three ints the law ValueRing returns true, and the arguments read afterwards as they did.
  Conditions: none; every input.
-/
import Derived.Test.YtdgmlepakippmaaRows
import Derived.Test.YtdgmlepakippmaaVb4
import Derived.Test.YtdgmlepakippmaaAx25
import Derived.ProofKit
namespace Go.Proofs.Ytdgmlepakippmaa
open Go Go.Ax Go.ChangeShapes Go.WideShapes Go.ChangeAt Go.RowKit
set_option linter.unusedSimpArgs false
set_option linter.unusedVariables false

theorem valueRing_law : ∀ l, ValAll Try.prog Try.f6.params.toList l → ∃ R : AHeap → Prop, ACall Try.prog 6 (topAll Try.prog Try.f6.params.toList l) [] fun x H' => x = bool true ∧ R H' := by
  intro l h
  rw [Try.params6] at h ⊢
  match l, h with
  | [xs, ys, us], h =>
    obtain ⟨h1, h2, h3, _⟩ := h
    obtain ⟨a, rfl, a1⟩ := val_int Try.underlying3 h1
    obtain ⟨b, rfl, b1⟩ := val_int Try.underlying3 h2
    obtain ⟨c, rfl, c1⟩ := val_int Try.underlying3 h3
    simp only [topAll, topV, Try.underlying3, List.headD_cons]
    exact ⟨_, valueRing a b c b1 c1 []⟩

set_option maxRecDepth 100000 in
theorem valueRing_lifted (os : Os) (started : os.Started) (H : Type) (enc : TypeId × Value → H) :
    ReturnsInHanded {} Try.checked os 6 .any (Rows.valueRingSpec.pre6 enc Try.prog Try.f6 Rows.valueRingRow.domain false) (Rows.valueRingSpec.post enc Try.prog Try.f6 false true false false) :=
  law_lifted (C := Try.checked) (S := [3, 4, 9]) (tb := 4) (by kernel_rfl) started (by kernel_rfl) Try.func6
    (ChangeSpec.witness6 (enc := enc) (C := Try.checked) false ⟨#[], #[.int .i64 0, .int .i64 0, .int .i64 0], []⟩ 8 (by kernel_rfl) (by kernel_rfl) (by kernel_rfl) (by kernel_rfl))
    rfl rfl rfl Try.underlying4 (fun ds h => by
      match ds, h with
      | [a, b, c], _ => rfl
      ) (by kernel_rfl) (by kernel_rfl) (by kernel_rfl) (by kernel_rfl) valueRing_law

theorem valueRing_holds : Rows.ValueRingSaid :=
  OpenClaim.holds_of_wide 6 Try.f6 rfl rfl rfl rfl rfl rfl rfl ⟨rfl, rfl, rfl, rfl, rfl⟩ rfl rfl rfl rfl rfl (by kernel_rfl) Try.func6 (by kernel_rfl)
    (of_decide_eq_true (by kernel_rfl)) (by unfold Func.isWrapper; first | (rw [if_pos (by decide +kernel)]; kernel_rfl) | (rw [if_neg (by decide +kernel)]; exact ⟨rfl, rfl⟩))
    (fun os started H enc _ => valueRing_lifted os started H enc)
#print axioms valueRing_holds
end Go.Proofs.Ytdgmlepakippmaa
