/-
  Each number below Count has a path, which has this number; no other number has one; the longest path is as long as there are levels; the chapter's examples hold.
  Conditions: what comes in holds at most 1048576 values and letters.
-/
import Derived.Test.YtnbdogodcjhfiaaM6
import Derived.Test.YtnbdogodcjhfiaaRows
import Derived.JoinedCond
import Derived.ProofKit
namespace Go.Proofs.Ytnbdogodcjhfiaa
open Go Go.Ax Go.ChangeShapes Go.WideShapes Go.ChangeAt Go.RowKit
set_option linter.unusedSimpArgs false
set_option linter.unusedVariables false

theorem treePaths_law : ∀ l, ValAll Try.prog Try.f6.params.toList l → bulkRR l ≤ 1048576 → ∃ R : AHeap → Prop, ACall Try.prog 6 (topAll Try.prog Try.f6.params.toList l) [] fun x H' => x = bool true ∧ R H' := by
  intro l h hb
  rw [Try.params6] at h ⊢
  match l, h with
  | [xs], h =>
    obtain ⟨h1, _⟩ := h
    simp only [bulkRR] at hb
    obtain ⟨n, rfl, hn⟩ := open_nd _ (Nat.le_refl _) h1
    simp only [topAll, topV, Try.underlying24, Try.underlying3, List.headD_cons]
    exact ⟨_, treePaths n (by unfold Sml; omega) []⟩

set_option maxRecDepth 100000 in
theorem treePaths_lifted (os : Os) (started : os.Started) (H : Type) (enc : TypeId × Value → H) (F : Stop.Interp) :
    ReturnsInHanded {} Try.checked os 6 .any ((Rows.OpenSpec.upto Rows.treePathsSpec).pre6 enc Try.prog Try.f6 Rows.treePathsUptoRow.domain false) (((Rows.OpenSpec.upto Rows.treePathsSpec).at F).post enc Try.prog Try.f6 false true false false) :=
  law_lifted_upto (C := Try.checked) (S := [3, 9, 24, 22]) (tb := 4) (by kernel_rfl) started (by kernel_rfl) Try.func6
    (OpenSpec.witness (enc := enc) (C := Try.checked) (s := Rows.OpenSpec.upto Rows.treePathsSpec) (k := Rows.uptoSmall) rfl false ⟨#[], #[.agg #[.int .i64 0, .string .empty, .int .i64 0, .int .i64 0, .slice none 0 0]], []⟩ 8 (by kernel_rfl) (by kernel_rfl) (by kernel_rfl)
      (x := ([.agg [.lit (.int .i64 0), .lit (.string []), .lit (.int .i64 0), .lit (.int .i64 0), .nil]], [], [])) (by kernel_rfl) rfl (by kernel_rfl))
    rfl rfl rfl Try.underlying4 (fun ds h => by
      match ds, h with
      | [a], _ => rfl
      ) (by kernel_rfl) (by kernel_rfl) (by kernel_rfl) (by kernel_rfl) treePaths_law

theorem treePaths_holds : Rows.TreePathsUptoSaid :=
  OpenClaim.holds_of_cond 6 Try.f6 rfl rfl rfl rfl rfl rfl rfl ⟨rfl, rfl, rfl, rfl, rfl⟩ rfl rfl rfl rfl rfl (by kernel_rfl) Try.func6 (by kernel_rfl)
    (of_decide_eq_true (by kernel_rfl)) (by unfold Func.isWrapper; first | (rw [if_pos (by decide +kernel)]; kernel_rfl) | (rw [if_neg (by decide +kernel)]; exact ⟨rfl, rfl⟩))
    (fun os started H enc _ F => treePaths_lifted os started H enc F)
#print axioms treePaths_holds
end Go.Proofs.Ytnbdogodcjhfiaa
