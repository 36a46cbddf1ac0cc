/-
  From the least list on, Next goes through all lists in increasing order, each once, and the chapter's examples hold.
  Conditions: none; every input.
-/
import Derived.Test.YteidffcimidinaaM4
import Derived.Test.YteidffcimidinaaRows
import Derived.ProofKit
namespace Go.Proofs.Yteidffcimidinaa
open Go Go.Ax Go.ChangeShapes Go.WideShapes Go.ChangeAt Go.RowKit
set_option linter.unusedSimpArgs false
set_option linter.unusedVariables false

theorem valueCounts_law : ∀ l, ValAll Try.prog Try.f4.params.toList l → ∃ R : AHeap → Prop, ACall Try.prog 4 (topAll Try.prog Try.f4.params.toList l) [] fun x H' => x = bool true ∧ R H' := by
  intro l h
  rw [Try.params4] at h ⊢
  match l, h with
  | [xs, ys], h =>
    obtain ⟨h1, h2, _⟩ := h
    obtain ⟨a, rfl, a1, a2⟩ := open_ints h1
    obtain ⟨b, rfl, b1, b2⟩ := open_ints h2
    simp only [topAll, topV, Try.underlying39, List.headD_cons]
    exact ⟨_, valueCounts a b a1 b1 a2 b2 []⟩

set_option maxRecDepth 100000 in
theorem valueCounts_lifted (os : Os) (started : os.Started) (H : Type) (enc : TypeId × Value → H) :
    ReturnsInHanded {} Try.checked os 4 .any (Rows.valueCountsSpec.pre6 enc Try.prog Try.f4 Rows.valueCountsRow.domain false) (Rows.valueCountsSpec.post enc Try.prog Try.f4 false true false false) :=
  law_lifted (C := Try.checked) (S := [3, 4, 9, 39]) (tb := 4) (by kernel_rfl) started (by kernel_rfl) Try.func4
    (ChangeSpec.witness6 (enc := enc) (C := Try.checked) false ⟨#[], #[.slice none 0 0, .slice none 0 0], []⟩ 8 (by kernel_rfl) (by kernel_rfl) (by kernel_rfl) (by kernel_rfl))
    rfl rfl rfl Try.underlying4 (fun ds h => by
      match ds, h with
      | [a, b], _ => rfl
      ) (by kernel_rfl) (by kernel_rfl) (by kernel_rfl) (by kernel_rfl) valueCounts_law

theorem valueCounts_holds : Rows.ValueCountsSaid :=
  OpenClaim.holds_of_wide 4 Try.f4 rfl rfl rfl rfl rfl rfl rfl ⟨rfl, rfl, rfl, rfl, rfl⟩ rfl rfl rfl rfl rfl (by kernel_rfl) Try.func4 (by kernel_rfl)
    (of_decide_eq_true (by kernel_rfl)) (by unfold Func.isWrapper; first | (rw [if_pos (by decide +kernel)]; kernel_rfl) | (rw [if_neg (by decide +kernel)]; exact ⟨rfl, rfl⟩))
    (fun os started H enc _ => valueCounts_lifted os started H enc)
#print axioms valueCounts_holds
end Go.Proofs.Yteidffcimidinaa
