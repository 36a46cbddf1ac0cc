/-
  The node that is found at an offset contains it, and none of its kids does; nothing is found exactly outside of the root; the chapter's examples hold.
  Conditions: what comes in holds at most 1048576 values and letters.
-/
import Derived.Test.YtnbdogodcjhfiaaM6
import Derived.Test.YtnbdogodcjhfiaaRows
import Derived.JoinedCond
import Derived.ProofKit
namespace Go.Proofs.Ytnbdogodcjhfiaa
open Go Go.Ax Go.ChangeShapes Go.WideShapes Go.ChangeAt Go.RowKit
set_option linter.unusedSimpArgs false
set_option linter.unusedVariables false

theorem treeFinds_law : ∀ l, ValAll Try.prog Try.f7.params.toList l → bulkRR l ≤ 1048576 → ∃ R : AHeap → Prop, ACall Try.prog 7 (topAll Try.prog Try.f7.params.toList l) [] fun x H' => x = bool true ∧ R H' := by
  intro l h hb
  rw [Try.params7] at h ⊢
  match l, h with
  | [xs, ys], h =>
    obtain ⟨h1, h2, _⟩ := h
    simp only [bulkRR] at hb
    obtain ⟨n, rfl, hn⟩ := open_nd _ (Nat.le_refl _) h1
    obtain ⟨k, rfl, hk⟩ := val_int Try.underlying3 h2
    simp only [topAll, topV, Try.underlying24, Try.underlying3, List.headD_cons]
    exact ⟨_, treeFinds n k (by unfold Sml; omega) []⟩

set_option maxRecDepth 100000 in
theorem treeFinds_lifted (os : Os) (started : os.Started) (H : Type) (enc : TypeId × Value → H) (F : Stop.Interp) :
    ReturnsInHanded {} Try.checked os 7 .any ((Rows.OpenSpec.upto Rows.treeFindsSpec).pre6 enc Try.prog Try.f7 Rows.treeFindsUptoRow.domain false) (((Rows.OpenSpec.upto Rows.treeFindsSpec).at F).post enc Try.prog Try.f7 false true false false) :=
  law_lifted_upto (C := Try.checked) (S := [3, 9, 24, 22]) (tb := 4) (by kernel_rfl) started (by kernel_rfl) Try.func7
    (OpenSpec.witness (enc := enc) (C := Try.checked) (s := Rows.OpenSpec.upto Rows.treeFindsSpec) (k := Rows.uptoSmall) rfl false ⟨#[], #[.agg #[.int .i64 0, .string .empty, .int .i64 0, .int .i64 0, .slice none 0 0], .int .i64 0], []⟩ 8 (by kernel_rfl) (by kernel_rfl) (by kernel_rfl)
      (x := ([.agg [.lit (.int .i64 0), .lit (.string []), .lit (.int .i64 0), .lit (.int .i64 0), .nil], .lit (.int .i64 0)], [], [])) (by kernel_rfl) rfl (by kernel_rfl))
    rfl rfl rfl Try.underlying4 (fun ds h => by
      match ds, h with
      | [a, b], _ => rfl
      ) (by kernel_rfl) (by kernel_rfl) (by kernel_rfl) (by kernel_rfl) treeFinds_law

theorem treeFinds_holds : Rows.TreeFindsUptoSaid :=
  OpenClaim.holds_of_cond 7 Try.f7 rfl rfl rfl rfl rfl rfl rfl ⟨rfl, rfl, rfl, rfl, rfl⟩ rfl rfl rfl rfl rfl (by kernel_rfl) Try.func7 (by kernel_rfl)
    (of_decide_eq_true (by kernel_rfl)) (by unfold Func.isWrapper; first | (rw [if_pos (by decide +kernel)]; kernel_rfl) | (rw [if_neg (by decide +kernel)]; exact ⟨rfl, rfl⟩))
    (fun os started H enc _ F => treeFinds_lifted os started H enc F)
#print axioms treeFinds_holds
end Go.Proofs.Ytnbdogodcjhfiaa
