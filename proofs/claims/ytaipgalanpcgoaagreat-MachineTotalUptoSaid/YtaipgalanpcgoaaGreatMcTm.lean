/-
  A run of well-formed code whose arguments are right has no error; its outcome has a known fault, or as many scalars of the width as the procedure has outputs, for any code, bounds and input; the chapter's example holds.
  Conditions: what comes in holds at most 1048576 values and letters.
-/
import Derived.Test.YtaipgalanpcgoaaGreatM6
import Derived.Test.YtaipgalanpcgoaaGreatRows
import Derived.JoinedCond
import Derived.ProofKit
namespace Go.Proofs.YtaipgalanpcgoaaGreat
open Go Go.Ax Go.ChangeShapes Go.WideShapes Go.ChangeAt Go.RowKit
set_option linter.unusedSimpArgs false
set_option linter.unusedVariables false

theorem machineTotal_law : ∀ l, ValAll Tryz.prog Tryz.f4.params.toList l → zA7 l ≤ 1048576 → ∃ R : zC → Prop, ACall Tryz.prog 4 (zCY Tryz.prog Tryz.f4.params.toList l) [] fun x H' => x = bool true ∧ R H' := by
  intro l h hb
  rw [Tryz.params4] at h ⊢
  match l, h with
  | [xs, ys, zs, us], h =>
    obtain ⟨h1, h2, h3, h4, _⟩ := h
    simp only [zA7] at hb
    obtain ⟨ps, rfl, hps⟩ := open_code h1
    obtain ⟨p, rfl, hp⟩ := zB0 Tryz.underlying3 h2
    obtain ⟨w, L, rfl⟩ := open_bounds h3
    obtain ⟨rows, rfl, hl, hr⟩ := val_sl Tryz.underlying22 c_intC h4
    obtain ⟨inp, rfl, hi⟩ := val_rows (enc := iR) hr fun x hx => zB0 Tryz.underlying3 hx
    simp only [zCY, topV, Tryz.underlying31, Tryz.underlying3, Tryz.underlying33, Tryz.underlying22, List.headD_cons]
    simp only [zBB, bulkC_sl] at hb
    exact ⟨_, machineTotal ps (codeSml ps (Nat.le_refl _) (by omega)) p w L hp inp hi []⟩

set_option maxRecDepth 100000 in
theorem machineTotal_lifted (os : Os) (started : os.Started) (H : Type) (enc : TypeId × Value → H) (F : Stop.Interp) :
    ReturnsInHanded {} Tryz.checked os 4 .any ((Rows.OpenSpec.upto Rows.machineTotalSpec).pre6 enc Tryz.prog Tryz.f4 Rows.machineTotalUptoRow.domain false) (((Rows.OpenSpec.upto Rows.machineTotalSpec).at F).post enc Tryz.prog Tryz.f4 false true false false) :=
  law_lifted_upto (C := Tryz.checked) (S := [3, 4, 22, 9, 31, 33, 39, 114, 29, 37]) (tb := 4) (by kernel_rfl) started (by kernel_rfl) Tryz.func4
    (OpenSpec.witness (enc := enc) (C := Tryz.checked) (s := Rows.OpenSpec.upto Rows.machineTotalSpec) (k := Rows.uptoSmall) rfl false ⟨#[], #[.agg #[.slice none 0 0], .int .i64 0, .agg #[.int .i64 0, .int .i64 0], .slice none 0 0], []⟩ 8 (by kernel_rfl) (by kernel_rfl) (by kernel_rfl)
      (x := ([.agg [.nil], .lit (.int .i64 0), .agg [.lit (.int .i64 0), .lit (.int .i64 0)], .nil], [], [])) (by kernel_rfl) rfl (by kernel_rfl))
    rfl rfl rfl Tryz.underlying4 (fun ds h => by
      match ds, h with
      | [a, b, c, d], _ => rfl
      ) (by kernel_rfl) (by kernel_rfl) (by kernel_rfl) (by kernel_rfl) machineTotal_law

theorem machineTotal_holds : Rows.MachineTotalUptoSaid :=
  OpenClaim.holds_of_cond 4 Tryz.f4 rfl rfl rfl rfl rfl rfl rfl ⟨rfl, rfl, rfl, rfl, rfl⟩ rfl rfl rfl rfl rfl (by kernel_rfl) Tryz.func4 (by kernel_rfl)
    (of_decide_eq_true (by kernel_rfl)) (by unfold Func.isWrapper; first | (rw [if_pos (by decide +kernel)]; kernel_rfl) | (rw [if_neg (by decide +kernel)]; exact ⟨rfl, rfl⟩))
    (fun os started H enc _ F => machineTotal_lifted os started H enc F)
#print axioms machineTotal_holds
end Go.Proofs.YtaipgalanpcgoaaGreat
