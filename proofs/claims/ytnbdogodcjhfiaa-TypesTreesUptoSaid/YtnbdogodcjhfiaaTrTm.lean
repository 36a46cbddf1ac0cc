/-
  The program's Records and Written agree with those of the reference for any tree and records, and the chapter's examples hold.
  Conditions: what comes in holds at most 1048576 values and letters.
-/
import Derived.Test.YtnbdogodcjhfiaaM5
import Derived.Test.YtnbdogodcjhfiaaRows
import Derived.JoinedCond
import Derived.ProofKit
namespace Go.Proofs.Ytnbdogodcjhfiaa
open Go Go.Ax Go.ChangeShapes Go.WideShapes Go.ChangeAt Go.RowKit
set_option linter.unusedSimpArgs false
set_option linter.unusedVariables false

theorem typesTrees_law : ∀ l, ValAll Try.prog Try.f10.params.toList l → bulkRR l ≤ 1048576 → ∃ R : AHeap → Prop, ACall Try.prog 10 (topAll Try.prog Try.f10.params.toList l) [] fun x H' => x = bool true ∧ R H' := by
  intro l h hb
  rw [Try.params10] at h ⊢
  match l, h with
  | [xs, ys], h =>
    obtain ⟨h1, h2, _⟩ := h
    simp only [bulkRR] at hb
    obtain ⟨n, rfl, hn⟩ := open_nd _ (Nat.le_refl _) h1
    obtain ⟨rows, rfl, hl, hr⟩ := val_sl Try.underlying51 c_rc h2
    obtain ⟨rs, rfl, hrs⟩ := val_rows hr fun x => open_rc
    simp only [topAll, topV, Try.underlying24, Try.underlying51, List.headD_cons]
    exact ⟨_, typesTrees n rs (by unfold Sml; omega) (by simpa using hl) []⟩

set_option maxRecDepth 100000 in
theorem typesTrees_lifted (os : Os) (started : os.Started) (H : Type) (enc : TypeId × Value → H) (F : Stop.Interp) :
    ReturnsInHanded {} Try.checked os 10 .any ((Rows.OpenSpec.upto Rows.typesTreesSpec).pre6 enc Try.prog Try.f10 Rows.typesTreesUptoRow.domain false) (((Rows.OpenSpec.upto Rows.typesTreesSpec).at F).post enc Try.prog Try.f10 false true false false) :=
  law_lifted_upto (C := Try.checked) (S := [3, 9, 24, 22, 74, 51, 91, 72, 54]) (tb := 4) (by kernel_rfl) started (by kernel_rfl) Try.func10
    (OpenSpec.witness (enc := enc) (C := Try.checked) (s := Rows.OpenSpec.upto Rows.typesTreesSpec) (k := Rows.uptoSmall) rfl false ⟨#[], #[.agg #[.int .i64 0, .string .empty, .int .i64 0, .int .i64 0, .slice none 0 0], .slice none 0 0], []⟩ 8 (by kernel_rfl) (by kernel_rfl) (by kernel_rfl)
      (x := ([.agg [.lit (.int .i64 0), .lit (.string []), .lit (.int .i64 0), .lit (.int .i64 0), .nil], .nil], [], [])) (by kernel_rfl) rfl (by kernel_rfl))
    rfl rfl rfl Try.underlying4 (fun ds h => by
      match ds, h with
      | [a, b], _ => rfl
      ) (by kernel_rfl) (by kernel_rfl) (by kernel_rfl) (by kernel_rfl) typesTrees_law

theorem typesTrees_holds : Rows.TypesTreesUptoSaid :=
  OpenClaim.holds_of_cond 10 Try.f10 rfl rfl rfl rfl rfl rfl rfl ⟨rfl, rfl, rfl, rfl, rfl⟩ rfl rfl rfl rfl rfl (by kernel_rfl) Try.func10 (by kernel_rfl)
    (of_decide_eq_true (by kernel_rfl)) (by unfold Func.isWrapper; first | (rw [if_pos (by decide +kernel)]; kernel_rfl) | (rw [if_neg (by decide +kernel)]; exact ⟨rfl, rfl⟩))
    (fun os started H enc _ F => typesTrees_lifted os started H enc F)
#print axioms typesTrees_holds
end Go.Proofs.Ytnbdogodcjhfiaa
