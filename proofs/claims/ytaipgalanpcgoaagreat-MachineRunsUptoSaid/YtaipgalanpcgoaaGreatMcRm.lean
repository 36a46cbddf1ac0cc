/-
  The machine's Run and Count agree with the reference's for any code, bounds and input, and the chapter's example holds.
  Conditions: what comes in holds at most 1048576 values and letters.
-/
import Derived.Test.YtaipgalanpcgoaaGreatM6
import Derived.Test.YtaipgalanpcgoaaGreatRows
import Derived.JoinedCond
import Derived.ProofKit
namespace Go.Proofs.YtaipgalanpcgoaaGreat
open Go Go.Ax Go.ChangeShapes Go.WideShapes Go.ChangeAt Go.RowKit
set_option linter.unusedSimpArgs false
set_option linter.unusedVariables false

theorem machineRuns_law : ∀ l, zKp Tryz.prog Tryz.f6.params.toList l → zBd l ≤ 1048576 → ∃ R : zC → Prop, ACall Tryz.prog 6 (zDn Tryz.prog Tryz.f6.params.toList l) [] fun x H' => x = bool true ∧ R H' := by
  intro l h hb
  rw [Tryz.params6] at h ⊢
  match l, h with
  | [xs, ys, zs, us], h =>
    obtain ⟨h1, h2, h3, h4, _⟩ := h
    simp only [zBd] at hb
    obtain ⟨ps, rfl, hps⟩ := zL1 h1
    obtain ⟨p, rfl, hp⟩ := zCt Tryz.underlying3 h2
    obtain ⟨w, L, rfl⟩ := zJa h3
    obtain ⟨rows, rfl, hl, hr⟩ := zGm Tryz.underlying22 zEb h4
    obtain ⟨inp, rfl, hi⟩ := zG2 (enc := iR) hr fun x hx => zCt Tryz.underlying3 hx
    simp only [zDn, zOV, Tryz.underlying31, Tryz.underlying3, Tryz.underlying33, Tryz.underlying22, List.headD_cons]
    simp only [zBG, zFs] at hb
    exact ⟨_, zJd ps (zRG ps (Nat.le_refl _) (by omega)) p w L hp inp hi []⟩

set_option maxRecDepth 100000 in
theorem machineRuns_lifted (os : Os) (started : os.Started) (H : Type) (enc : TypeId × Value → H) (F : Stop.Interp) :
    ReturnsInHanded {} Tryz.checked os 6 .any ((Rows.OpenSpec.upto Rows.machineRunsSpec).pre6 enc Tryz.prog Tryz.f6 Rows.machineRunsUptoRow.domain false) (((Rows.OpenSpec.upto Rows.machineRunsSpec).at F).post enc Tryz.prog Tryz.f6 false true false false) :=
  zFW (C := Tryz.checked) (S := [3, 4, 22, 9, 31, 33, 39, 114, 29, 37]) (tb := 4) (by kernel_rfl) started (by kernel_rfl) Tryz.func6
    (OpenSpec.witness (enc := enc) (C := Tryz.checked) (s := Rows.OpenSpec.upto Rows.machineRunsSpec) (k := Rows.uptoSmall) rfl false ⟨#[], #[.agg #[.slice none 0 0], .int .i64 0, .agg #[.int .i64 0, .int .i64 0], .slice none 0 0], []⟩ 8 (by kernel_rfl) (by kernel_rfl) (by kernel_rfl)
      (x := ([.agg [.nil], .lit (.int .i64 0), .agg [.lit (.int .i64 0), .lit (.int .i64 0)], .nil], [], [])) (by kernel_rfl) rfl (by kernel_rfl))
    rfl rfl rfl Tryz.underlying4 (fun ds h => by
      match ds, h with
      | [a, b, c, d], _ => rfl
      ) (by kernel_rfl) (by kernel_rfl) (by kernel_rfl) (by kernel_rfl) machineRuns_law

theorem machineRuns_holds : Rows.MachineRunsUptoSaid :=
  OpenClaim.holds_of_cond 6 Tryz.f6 rfl rfl rfl rfl rfl rfl rfl ⟨rfl, rfl, rfl, rfl, rfl⟩ rfl rfl rfl rfl rfl (by kernel_rfl) Tryz.func6 (by kernel_rfl)
    (of_decide_eq_true (by kernel_rfl)) (by unfold Func.isWrapper; first | (rw [if_pos (by decide +kernel)]; kernel_rfl) | (rw [if_neg (by decide +kernel)]; exact ⟨rfl, rfl⟩))
    (fun os started H enc _ F => machineRuns_lifted os started H enc F)
#print axioms machineRuns_holds
end Go.Proofs.YtaipgalanpcgoaaGreat
