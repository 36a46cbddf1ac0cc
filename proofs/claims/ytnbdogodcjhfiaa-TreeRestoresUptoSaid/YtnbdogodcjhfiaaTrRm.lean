/-
  After kids are replaced, replacing them back gives the tree, and the number of nodes changes by those that were put in and taken out; the chapter's examples hold.
  Conditions: what comes in holds at most 1048576 values and letters.
-/
import Derived.Test.YtnbdogodcjhfiaaM6
import Derived.Test.YtnbdogodcjhfiaaRows
import Derived.JoinedCond
import Derived.ProofKit
namespace Go.Proofs.Ytnbdogodcjhfiaa
open Go Go.Ax Go.ChangeShapes Go.WideShapes Go.ChangeAt Go.RowKit
set_option linter.unusedSimpArgs false
set_option linter.unusedVariables false

theorem treeRestores_law : ∀ l, ValAll Try.prog Try.f9.params.toList l → bulkRR l ≤ 1048576 → ∃ R : AHeap → Prop, ACall Try.prog 9 (topAll Try.prog Try.f9.params.toList l) [] fun x H' => x = bool true ∧ R H' := by
  intro l h hb
  rw [Try.params9] at h ⊢
  match l, h with
  | [xs, ys, zs, us, vs], h =>
    obtain ⟨h1, h2, h3, h4, h5, _⟩ := h
    simp only [bulkRR] at hb
    obtain ⟨n, rfl, hn⟩ := open_nd _ (Nat.le_refl _) h1
    obtain ⟨rows, rfl, hl, hr⟩ := val_sl Try.underlying33 c_int h2
    obtain ⟨p, rfl, hp⟩ := val_rows (enc := iR) hr fun x hx => val_int Try.underlying3 hx
    obtain ⟨f, rfl, hf⟩ := val_int Try.underlying3 h3
    obtain ⟨t, rfl, ht⟩ := val_int Try.underlying3 h4
    obtain ⟨rows, rfl, hl2, hr2⟩ := val_sl Try.underlying22 c_nd h5
    obtain ⟨l, rfl, hls⟩ := val_rows (enc := ndR) hr2 fun x hx => open_nd _ (Nat.le_refl _) hx
    simp only [topAll, topV, Try.underlying24, Try.underlying3, Try.underlying33, Try.underlying22, List.headD_cons]
    simp only [bulkR, bulk_sl] at hb
    have h6 := bulkRR_ints p
    have h7 := cnts_bulk l
    have h8 := cnts_len l
    exact ⟨_, treeRestores n p f t l (by unfold Sml; omega) (by omega) (by omega) (by omega) []⟩

set_option maxRecDepth 100000 in
theorem treeRestores_lifted (os : Os) (started : os.Started) (H : Type) (enc : TypeId × Value → H) (F : Stop.Interp) :
    ReturnsInHanded {} Try.checked os 9 .any ((Rows.OpenSpec.upto Rows.treeRestoresSpec).pre6 enc Try.prog Try.f9 Rows.treeRestoresUptoRow.domain false) (((Rows.OpenSpec.upto Rows.treeRestoresSpec).at F).post enc Try.prog Try.f9 false true false false) :=
  law_lifted_upto (C := Try.checked) (S := [3, 9, 24, 22, 33]) (tb := 4) (by kernel_rfl) started (by kernel_rfl) Try.func9
    (OpenSpec.witness (enc := enc) (C := Try.checked) (s := Rows.OpenSpec.upto Rows.treeRestoresSpec) (k := Rows.uptoSmall) rfl false ⟨#[], #[.agg #[.int .i64 0, .string .empty, .int .i64 0, .int .i64 0, .slice none 0 0], .slice none 0 0, .int .i64 0, .int .i64 0, .slice none 0 0], []⟩ 8 (by kernel_rfl) (by kernel_rfl) (by kernel_rfl)
      (x := ([.agg [.lit (.int .i64 0), .lit (.string []), .lit (.int .i64 0), .lit (.int .i64 0), .nil], .nil, .lit (.int .i64 0), .lit (.int .i64 0), .nil], [], [])) (by kernel_rfl) rfl (by kernel_rfl))
    rfl rfl rfl Try.underlying4 (fun ds h => by
      match ds, h with
      | [a, b, c, d, e], _ => rfl
      ) (by kernel_rfl) (by kernel_rfl) (by kernel_rfl) (by kernel_rfl) treeRestores_law

theorem treeRestores_holds : Rows.TreeRestoresUptoSaid :=
  OpenClaim.holds_of_cond 9 Try.f9 rfl rfl rfl rfl rfl rfl rfl ⟨rfl, rfl, rfl, rfl, rfl⟩ rfl rfl rfl rfl rfl (by kernel_rfl) Try.func9 (by kernel_rfl)
    (of_decide_eq_true (by kernel_rfl)) (by unfold Func.isWrapper; first | (rw [if_pos (by decide +kernel)]; kernel_rfl) | (rw [if_neg (by decide +kernel)]; exact ⟨rfl, rfl⟩))
    (fun os started H enc _ F => treeRestores_lifted os started H enc F)
#print axioms treeRestores_holds
end Go.Proofs.Ytnbdogodcjhfiaa
