/-
  The program's Count, Levels, Get, Path, Number and Find agree with those of the reference for any tree, and the chapter's examples hold.
  Conditions: what comes in holds at most 1048576 values and letters.
-/
import Derived.Test.YtnbdogodcjhfiaaM6
import Derived.Test.YtnbdogodcjhfiaaRows
import Derived.JoinedCond
import Derived.ProofKit
namespace Go.Proofs.Ytnbdogodcjhfiaa
open Go Go.Ax Go.ChangeShapes Go.WideShapes Go.ChangeAt Go.RowKit
set_option linter.unusedSimpArgs false
set_option linter.unusedVariables false

theorem treeNumbers_law : ∀ l, ValAll Try.prog Try.f5.params.toList l → bulkRR l ≤ 1048576 → ∃ R : AHeap → Prop, ACall Try.prog 5 (topAll Try.prog Try.f5.params.toList l) [] fun x H' => x = bool true ∧ R H' := by
  intro l h hb
  rw [Try.params5] at h ⊢
  match l, h with
  | [xs, ys, zs, us], h =>
    obtain ⟨h1, h2, h3, h4, _⟩ := h
    simp only [bulkRR] at hb
    obtain ⟨n, rfl, hn⟩ := open_nd _ (Nat.le_refl _) h1
    obtain ⟨rows, rfl, hl, hr⟩ := val_sl Try.underlying33 c_int h2
    obtain ⟨p, rfl, hp⟩ := val_rows (enc := iR) hr fun x hx => val_int Try.underlying3 hx
    obtain ⟨k, rfl, hk⟩ := val_int Try.underlying3 h3
    obtain ⟨t, rfl, ht⟩ := val_int Try.underlying3 h4
    simp only [topAll, topV, Try.underlying24, Try.underlying3, Try.underlying33, List.headD_cons]
    have hp2 : p.length ≤ 1048576 := by
      have := bulkRR_ints p
      simp only [bulkR, bulk_sl] at hb
      omega
    exact ⟨_, treeNumbers n p k t (by unfold Sml; omega) hp2 []⟩

set_option maxRecDepth 100000 in
theorem treeNumbers_lifted (os : Os) (started : os.Started) (H : Type) (enc : TypeId × Value → H) (F : Stop.Interp) :
    ReturnsInHanded {} Try.checked os 5 .any ((Rows.OpenSpec.upto Rows.treeNumbersSpec).pre6 enc Try.prog Try.f5 Rows.treeNumbersUptoRow.domain false) (((Rows.OpenSpec.upto Rows.treeNumbersSpec).at F).post enc Try.prog Try.f5 false true false false) :=
  law_lifted_upto (C := Try.checked) (S := [3, 9, 24, 22, 33]) (tb := 4) (by kernel_rfl) started (by kernel_rfl) Try.func5
    (OpenSpec.witness (enc := enc) (C := Try.checked) (s := Rows.OpenSpec.upto Rows.treeNumbersSpec) (k := Rows.uptoSmall) rfl false ⟨#[], #[.agg #[.int .i64 0, .string .empty, .int .i64 0, .int .i64 0, .slice none 0 0], .slice none 0 0, .int .i64 0, .int .i64 0], []⟩ 8 (by kernel_rfl) (by kernel_rfl) (by kernel_rfl)
      (x := ([.agg [.lit (.int .i64 0), .lit (.string []), .lit (.int .i64 0), .lit (.int .i64 0), .nil], .nil, .lit (.int .i64 0), .lit (.int .i64 0)], [], [])) (by kernel_rfl) rfl (by kernel_rfl))
    rfl rfl rfl Try.underlying4 (fun ds h => by
      match ds, h with
      | [a, b, c, d], _ => rfl
      ) (by kernel_rfl) (by kernel_rfl) (by kernel_rfl) (by kernel_rfl) treeNumbers_law

theorem treeNumbers_holds : Rows.TreeNumbersUptoSaid :=
  OpenClaim.holds_of_cond 5 Try.f5 rfl rfl rfl rfl rfl rfl rfl ⟨rfl, rfl, rfl, rfl, rfl⟩ rfl rfl rfl rfl rfl (by kernel_rfl) Try.func5 (by kernel_rfl)
    (of_decide_eq_true (by kernel_rfl)) (by unfold Func.isWrapper; first | (rw [if_pos (by decide +kernel)]; kernel_rfl) | (rw [if_neg (by decide +kernel)]; exact ⟨rfl, rfl⟩))
    (fun os started H enc _ F => treeNumbers_lifted os started H enc F)
#print axioms treeNumbers_holds
end Go.Proofs.Ytnbdogodcjhfiaa
