/-
  For any width, operation, scalars below and last two scalars the machine's operation gives the result of the operator of the language, and leaves those below.
  Conditions: none; every input.
-/
import Derived.Test.YtaipgalanpcgoaaGreatM6
import Derived.Test.YtaipgalanpcgoaaGreatRows
import Derived.ProofKit
namespace Go.Proofs.YtaipgalanpcgoaaGreat
open Go Go.Ax Go.ChangeShapes Go.WideShapes Go.ChangeAt Go.RowKit
set_option linter.unusedSimpArgs false
set_option linter.unusedVariables false

theorem machineOperators_law : ∀ l, ValAll Tryz.prog Tryz.f5.params.toList l → ∃ R : zB → Prop, ACall Tryz.prog 5 (zCF Tryz.prog Tryz.f5.params.toList l) [] fun x H' => x = bool true ∧ R H' := by
  intro l h
  rw [Tryz.params5] at h ⊢
  match l, h with
  | [xs, ys, zs, us, vs], h =>
    obtain ⟨h1, h2, h3, h4, h5, _⟩ := h
    obtain ⟨w, rfl, hw⟩ := val_int Tryz.underlying3 h1
    obtain ⟨o, rfl, ho⟩ := val_int Tryz.underlying3 h2
    obtain ⟨rows, rfl, hl, hr⟩ := val_sl Tryz.underlying22 c_intC h3
    obtain ⟨p, rfl, hp⟩ := val_rows (enc := iR) hr fun x hx => val_int Tryz.underlying3 hx
    obtain ⟨a, rfl, ha⟩ := val_int Tryz.underlying3 h4
    obtain ⟨b, rfl, hb⟩ := val_int Tryz.underlying3 h5
    simp only [zCF, topV, Tryz.underlying3, Tryz.underlying22, List.headD_cons]
    exact ⟨_, machineOperators w o a b p []⟩

set_option maxRecDepth 100000 in
theorem machineOperators_lifted (os : Os) (started : os.Started) (H : Type) (enc : TypeId × Value → H) :
    ReturnsInHanded {} Tryz.checked os 5 .any (Rows.machineOperatorsSpec.pre6 enc Tryz.prog Tryz.f5 Rows.machineOperatorsRow.domain false) (Rows.machineOperatorsSpec.post enc Tryz.prog Tryz.f5 false true false false) :=
  law_lifted (C := Tryz.checked) (S := [3, 4, 22]) (tb := 4) (by kernel_rfl) started (by kernel_rfl) Tryz.func5
    (ChangeSpec.witness6 (enc := enc) (C := Tryz.checked) false ⟨#[], #[.int .i64 0, .int .i64 0, .slice none 0 0, .int .i64 0, .int .i64 0], []⟩ 8 (by kernel_rfl) (by kernel_rfl) (by kernel_rfl) (by kernel_rfl))
    rfl rfl rfl Tryz.underlying4 (fun ds h => by
      match ds, h with
      | [a, b, c, d, e], _ => rfl
      ) (by kernel_rfl) (by kernel_rfl) (by kernel_rfl) (by kernel_rfl) machineOperators_law

theorem machineOperators_holds : Rows.MachineOperatorsSaid :=
  OpenClaim.holds_of_wide 5 Tryz.f5 rfl rfl rfl rfl rfl rfl rfl ⟨rfl, rfl, rfl, rfl, rfl⟩ rfl rfl rfl rfl rfl (by kernel_rfl) Tryz.func5 (by kernel_rfl)
    (of_decide_eq_true (by kernel_rfl)) (by unfold Func.isWrapper; first | (rw [if_pos (by decide +kernel)]; kernel_rfl) | (rw [if_neg (by decide +kernel)]; exact ⟨rfl, rfl⟩))
    (fun os started H enc _ => machineOperators_lifted os started H enc)
#print axioms machineOperators_holds
end Go.Proofs.YtaipgalanpcgoaaGreat
