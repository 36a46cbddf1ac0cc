/-
  For any width, operation and stack the program's Apply agrees with the reference's, and the chapter's example holds.
  Conditions: none; every input.
-/
import Derived.Test.YtaipgalanpcgoaaGreatM6
import Derived.Test.YtaipgalanpcgoaaGreatRows
import Derived.ProofKit
namespace Go.Proofs.YtaipgalanpcgoaaGreat
open Go Go.Ax Go.ChangeShapes Go.WideShapes Go.ChangeAt Go.RowKit
set_option linter.unusedSimpArgs false
set_option linter.unusedVariables false

theorem machineApplies_law : ∀ l, ValAll Tryz.prog Tryz.f3.params.toList l → ∃ R : zB → Prop, ACall Tryz.prog 3 (zCF Tryz.prog Tryz.f3.params.toList l) [] fun x H' => x = bool true ∧ R H' := by
  intro l h
  rw [Tryz.params3] at h ⊢
  match l, h with
  | [xs, ys, zs], h =>
    obtain ⟨h1, h2, h3, _⟩ := h
    obtain ⟨w, rfl, hw⟩ := val_int Tryz.underlying3 h1
    obtain ⟨o, rfl, ho⟩ := val_int Tryz.underlying3 h2
    obtain ⟨rows, rfl, hl, hr⟩ := val_sl Tryz.underlying22 c_intC h3
    obtain ⟨p, rfl, hp⟩ := val_rows (enc := iR) hr fun x hx => val_int Tryz.underlying3 hx
    simp only [zCF, topV, Tryz.underlying3, Tryz.underlying22, List.headD_cons]
    exact ⟨_, machineApplies w o p hp []⟩

set_option maxRecDepth 100000 in
theorem machineApplies_lifted (os : Os) (started : os.Started) (H : Type) (enc : TypeId × Value → H) :
    ReturnsInHanded {} Tryz.checked os 3 .any (Rows.machineAppliesSpec.pre6 enc Tryz.prog Tryz.f3 Rows.machineAppliesRow.domain false) (Rows.machineAppliesSpec.post enc Tryz.prog Tryz.f3 false true false false) :=
  law_lifted (C := Tryz.checked) (S := [3, 4, 22]) (tb := 4) (by kernel_rfl) started (by kernel_rfl) Tryz.func3
    (ChangeSpec.witness6 (enc := enc) (C := Tryz.checked) false ⟨#[], #[.int .i64 0, .int .i64 0, .slice none 0 0], []⟩ 8 (by kernel_rfl) (by kernel_rfl) (by kernel_rfl) (by kernel_rfl))
    rfl rfl rfl Tryz.underlying4 (fun ds h => by
      match ds, h with
      | [a, b, c], _ => rfl
      ) (by kernel_rfl) (by kernel_rfl) (by kernel_rfl) (by kernel_rfl) machineApplies_law

theorem machineApplies_holds : Rows.MachineAppliesSaid :=
  OpenClaim.holds_of_wide 3 Tryz.f3 rfl rfl rfl rfl rfl rfl rfl ⟨rfl, rfl, rfl, rfl, rfl⟩ rfl rfl rfl rfl rfl (by kernel_rfl) Tryz.func3 (by kernel_rfl)
    (of_decide_eq_true (by kernel_rfl)) (by unfold Func.isWrapper; first | (rw [if_pos (by decide +kernel)]; kernel_rfl) | (rw [if_neg (by decide +kernel)]; exact ⟨rfl, rfl⟩))
    (fun os started H enc _ => machineApplies_lifted os started H enc)
#print axioms machineApplies_holds
end Go.Proofs.YtaipgalanpcgoaaGreat
