/-
  For any three lists of ints the law ValueNext returns true, and the lists read afterwards as they did.
  Conditions: none; every input.
-/
import Derived.Test.YtdgmlepakippmaaRows
import Derived.Test.YtdgmlepakippmaaVb1
import Derived.Test.YtdgmlepakippmaaAx25
import Derived.ProofKit
namespace Go.Proofs.Ytdgmlepakippmaa
open Go Go.Ax Go.ChangeShapes Go.WideShapes Go.ChangeAt Go.RowKit
set_option linter.unusedSimpArgs false
set_option linter.unusedVariables false

theorem valueNext_law : ∀ l, ValAll Try.prog Try.f3.params.toList l → ∃ R : AHeap → Prop, ACall Try.prog 3 (topAll Try.prog Try.f3.params.toList l) [] fun x H' => x = bool true ∧ R H' := by
  intro l h
  rw [Try.params3] at h ⊢
  match l, h with
  | [xs, ys, us], h =>
    obtain ⟨h1, h2, h3, _⟩ := h
    obtain ⟨a, rfl, a1, a2⟩ := open_ints h1
    obtain ⟨b, rfl, b1, b2⟩ := open_ints h2
    obtain ⟨c, rfl, c1, c2⟩ := open_ints h3
    simp only [topAll, topV, Try.underlying22, List.headD_cons]
    exact ⟨_, valueNext a b c a1 b1 c1 a2 b2 c2 []⟩

set_option maxRecDepth 100000 in
theorem valueNext_lifted (os : Os) (started : os.Started) (H : Type) (enc : TypeId × Value → H) :
    ReturnsInHanded {} Try.checked os 3 .any (Rows.valueNextSpec.pre6 enc Try.prog Try.f3 Rows.valueNextRow.domain false) (Rows.valueNextSpec.post enc Try.prog Try.f3 false true false false) :=
  law_lifted (C := Try.checked) (S := [3, 4, 9, 22]) (tb := 4) (by kernel_rfl) started (by kernel_rfl) Try.func3
    (ChangeSpec.witness6 (enc := enc) (C := Try.checked) false ⟨#[], #[.slice none 0 0, .slice none 0 0, .slice none 0 0], []⟩ 8 (by kernel_rfl) (by kernel_rfl) (by kernel_rfl) (by kernel_rfl))
    rfl rfl rfl Try.underlying4 (fun ds h => by
      match ds, h with
      | [a, b, c], _ => rfl
      ) (by kernel_rfl) (by kernel_rfl) (by kernel_rfl) (by kernel_rfl) valueNext_law

theorem valueNext_holds : Rows.ValueNextSaid :=
  OpenClaim.holds_of_wide 3 Try.f3 rfl rfl rfl rfl rfl rfl rfl ⟨rfl, rfl, rfl, rfl, rfl⟩ rfl rfl rfl rfl rfl (by kernel_rfl) Try.func3 (by kernel_rfl)
    (of_decide_eq_true (by kernel_rfl)) (by unfold Func.isWrapper; first | (rw [if_pos (by decide +kernel)]; kernel_rfl) | (rw [if_neg (by decide +kernel)]; exact ⟨rfl, rfl⟩))
    (fun os started H enc _ => valueNext_lifted os started H enc)
#print axioms valueNext_holds
end Go.Proofs.Ytdgmlepakippmaa
