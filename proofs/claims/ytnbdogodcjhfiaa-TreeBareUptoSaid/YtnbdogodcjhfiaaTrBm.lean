/-
  Bare gives a tree that is the same, with all places 0, and whose shape is that of the tree; the chapter's examples hold.
  Conditions: what comes in holds at most 1048576 values and letters.
-/
import Derived.Test.YtnbdogodcjhfiaaM6
import Derived.Test.YtnbdogodcjhfiaaRows
import Derived.JoinedCond
import Derived.ProofKit
namespace Go.Proofs.Ytnbdogodcjhfiaa
open Go Go.Ax Go.ChangeShapes Go.WideShapes Go.ChangeAt Go.RowKit
set_option linter.unusedSimpArgs false
set_option linter.unusedVariables false

theorem treeBare_law : ∀ l, ValAll Try.prog Try.f4.params.toList l → bulkRR l ≤ 1048576 → ∃ R : AHeap → Prop, ACall Try.prog 4 (topAll Try.prog Try.f4.params.toList l) [] fun x H' => x = bool true ∧ R H' := by
  intro l h hb
  rw [Try.params4] at h ⊢
  match l, h with
  | [xs], h =>
    obtain ⟨h1, _⟩ := h
    simp only [bulkRR] at hb
    obtain ⟨n, rfl, hn⟩ := open_nd _ (Nat.le_refl _) h1
    simp only [topAll, topV, Try.underlying24, Try.underlying3, List.headD_cons]
    exact ⟨_, treeBare n (by unfold Sml; omega) []⟩

set_option maxRecDepth 100000 in
theorem treeBare_lifted (os : Os) (started : os.Started) (H : Type) (enc : TypeId × Value → H) (F : Stop.Interp) :
    ReturnsInHanded {} Try.checked os 4 .any ((Rows.OpenSpec.upto Rows.treeBareSpec).pre6 enc Try.prog Try.f4 Rows.treeBareUptoRow.domain false) (((Rows.OpenSpec.upto Rows.treeBareSpec).at F).post enc Try.prog Try.f4 false true false false) :=
  law_lifted_upto (C := Try.checked) (S := [3, 9, 24, 22]) (tb := 4) (by kernel_rfl) started (by kernel_rfl) Try.func4
    (OpenSpec.witness (enc := enc) (C := Try.checked) (s := Rows.OpenSpec.upto Rows.treeBareSpec) (k := Rows.uptoSmall) rfl false ⟨#[], #[.agg #[.int .i64 0, .string .empty, .int .i64 0, .int .i64 0, .slice none 0 0]], []⟩ 8 (by kernel_rfl) (by kernel_rfl) (by kernel_rfl)
      (x := ([.agg [.lit (.int .i64 0), .lit (.string []), .lit (.int .i64 0), .lit (.int .i64 0), .nil]], [], [])) (by kernel_rfl) rfl (by kernel_rfl))
    rfl rfl rfl Try.underlying4 (fun ds h => by
      match ds, h with
      | [a], _ => rfl
      ) (by kernel_rfl) (by kernel_rfl) (by kernel_rfl) (by kernel_rfl) treeBare_law

theorem treeBare_holds : Rows.TreeBareUptoSaid :=
  OpenClaim.holds_of_cond 4 Try.f4 rfl rfl rfl rfl rfl rfl rfl ⟨rfl, rfl, rfl, rfl, rfl⟩ rfl rfl rfl rfl rfl (by kernel_rfl) Try.func4 (by kernel_rfl)
    (of_decide_eq_true (by kernel_rfl)) (by unfold Func.isWrapper; first | (rw [if_pos (by decide +kernel)]; kernel_rfl) | (rw [if_neg (by decide +kernel)]; exact ⟨rfl, rfl⟩))
    (fun os started H enc _ F => treeBare_lifted os started H enc F)
#print axioms treeBare_holds
end Go.Proofs.Ytnbdogodcjhfiaa
