/-
  The program's Replace, Same and Bare agree with those of the reference for any trees, and the chapter's examples hold.
  Conditions: what comes in holds at most 1048576 values and letters.
-/
import Derived.Test.YtnbdogodcjhfiaaM6
import Derived.Test.YtnbdogodcjhfiaaRows
import Derived.JoinedCond
import Derived.ProofKit
namespace Go.Proofs.Ytnbdogodcjhfiaa
open Go Go.Ax Go.ChangeShapes Go.WideShapes Go.ChangeAt Go.RowKit
set_option linter.unusedSimpArgs false
set_option linter.unusedVariables false

theorem treeEdits_law : ∀ l, ValAll Try.prog Try.f8.params.toList l → bulkRR l ≤ 1048576 → ∃ R : AHeap → Prop, ACall Try.prog 8 (topAll Try.prog Try.f8.params.toList l) [] fun x H' => x = bool true ∧ R H' := by
  intro l h hb
  rw [Try.params8] at h ⊢
  match l, h with
  | [xs, ws, ys, zs, us, vs], h =>
    obtain ⟨h1, h0, h2, h3, h4, h5, _⟩ := h
    simp only [bulkRR] at hb
    obtain ⟨n, rfl, hn⟩ := open_nd _ (Nat.le_refl _) h1
    obtain ⟨m, rfl, hm⟩ := open_nd _ (Nat.le_refl _) h0
    obtain ⟨rows, rfl, hl, hr⟩ := val_sl Try.underlying33 c_int h2
    obtain ⟨p, rfl, hp⟩ := val_rows (enc := iR) hr fun x hx => val_int Try.underlying3 hx
    obtain ⟨f, rfl, hf⟩ := val_int Try.underlying3 h3
    obtain ⟨t, rfl, ht⟩ := val_int Try.underlying3 h4
    obtain ⟨rows, rfl, hl2, hr2⟩ := val_sl Try.underlying22 c_nd h5
    obtain ⟨l, rfl, hls⟩ := val_rows (enc := ndR) hr2 fun x hx => open_nd _ (Nat.le_refl _) hx
    simp only [topAll, topV, Try.underlying24, Try.underlying3, Try.underlying33, Try.underlying22, List.headD_cons]
    simp only [bulkR, bulk_sl] at hb
    have h6 := bulkRR_ints p
    have h7 := cnts_bulk l
    have h8 := cnts_len l
    exact ⟨_, treeEdits n m p f t l (by unfold Sml; omega) (by unfold Sml; omega) (by omega) (by omega) (by omega) []⟩

set_option maxRecDepth 100000 in
theorem treeEdits_lifted (os : Os) (started : os.Started) (H : Type) (enc : TypeId × Value → H) (F : Stop.Interp) :
    ReturnsInHanded {} Try.checked os 8 .any ((Rows.OpenSpec.upto Rows.treeEditsSpec).pre6 enc Try.prog Try.f8 Rows.treeEditsUptoRow.domain false) (((Rows.OpenSpec.upto Rows.treeEditsSpec).at F).post enc Try.prog Try.f8 false true false false) :=
  law_lifted_upto (C := Try.checked) (S := [3, 9, 24, 22, 33]) (tb := 4) (by kernel_rfl) started (by kernel_rfl) Try.func8
    (OpenSpec.witness (enc := enc) (C := Try.checked) (s := Rows.OpenSpec.upto Rows.treeEditsSpec) (k := Rows.uptoSmall) rfl false ⟨#[], #[.agg #[.int .i64 0, .string .empty, .int .i64 0, .int .i64 0, .slice none 0 0], .agg #[.int .i64 0, .string .empty, .int .i64 0, .int .i64 0, .slice none 0 0], .slice none 0 0, .int .i64 0, .int .i64 0, .slice none 0 0], []⟩ 8 (by kernel_rfl) (by kernel_rfl) (by kernel_rfl)
      (x := ([.agg [.lit (.int .i64 0), .lit (.string []), .lit (.int .i64 0), .lit (.int .i64 0), .nil], .agg [.lit (.int .i64 0), .lit (.string []), .lit (.int .i64 0), .lit (.int .i64 0), .nil], .nil, .lit (.int .i64 0), .lit (.int .i64 0), .nil], [], [])) (by kernel_rfl) rfl (by kernel_rfl))
    rfl rfl rfl Try.underlying4 (fun ds h => by
      match ds, h with
      | [a, b, c, d, e, f], _ => rfl
      ) (by kernel_rfl) (by kernel_rfl) (by kernel_rfl) (by kernel_rfl) treeEdits_law

theorem treeEdits_holds : Rows.TreeEditsUptoSaid :=
  OpenClaim.holds_of_cond 8 Try.f8 rfl rfl rfl rfl rfl rfl rfl ⟨rfl, rfl, rfl, rfl, rfl⟩ rfl rfl rfl rfl rfl (by kernel_rfl) Try.func8 (by kernel_rfl)
    (of_decide_eq_true (by kernel_rfl)) (by unfold Func.isWrapper; first | (rw [if_pos (by decide +kernel)]; kernel_rfl) | (rw [if_neg (by decide +kernel)]; exact ⟨rfl, rfl⟩))
    (fun os started H enc _ F => treeEdits_lifted os started H enc F)
#print axioms treeEdits_holds
end Go.Proofs.Ytnbdogodcjhfiaa
