/-
  Reading the text of a value gives the value, whatever white space stands between its words, and the chapter's examples hold.
  Conditions: none; every input.
-/
import Derived.Test.YteidffcimidinaaM4
import Derived.Test.YteidffcimidinaaRows
import Derived.ProofKit
namespace Go.Proofs.Yteidffcimidinaa
open Go Go.Ax Go.ChangeShapes Go.WideShapes Go.ChangeAt Go.RowKit
set_option linter.unusedSimpArgs false
set_option linter.unusedVariables false

theorem valueReads_law : ∀ l, ValAll Try.prog Try.f5.params.toList l → ∃ R : AHeap → Prop, ACall Try.prog 5 (topAll Try.prog Try.f5.params.toList l) [] fun x H' => x = bool true ∧ R H' := by
  intro l h
  rw [Try.params5] at h ⊢
  match l, h with
  | [ws, ts, rs, ls], h =>
    obtain ⟨h1, h2, h3, h4, _⟩ := h
    obtain ⟨w, rfl, hw⟩ := val_int Try.underlying3 h1
    obtain ⟨t, rfl, ht⟩ := open_ty h2
    obtain ⟨rows, rfl, hl, hr⟩ := val_sl Try.underlying24 c_rc h3
    obtain ⟨rs, rfl, hrs⟩ := val_rows hr fun x => open_rc
    obtain ⟨l, rfl, hl2, hl3⟩ := open_ints h4
    simp only [topAll, topV, Try.underlying3, Try.underlying39, Try.underlying24, Try.underlying23, List.headD_cons]
    exact ⟨_, valueReads w t rs l (by simpa using hl) hl2 ht.rc []⟩

set_option maxRecDepth 100000 in
theorem valueReads_lifted (os : Os) (started : os.Started) (H : Type) (enc : TypeId × Value → H) :
    ReturnsInHanded {} Try.checked os 5 .any (Rows.valueReadsSpec.pre6 enc Try.prog Try.f5 Rows.valueReadsRow.domain false) (Rows.valueReadsSpec.post enc Try.prog Try.f5 false true false false) :=
  law_lifted (C := Try.checked) (S := [3, 4, 9, 39, 24, 56, 77, 23, 58, 97]) (tb := 4) (by kernel_rfl) started (by kernel_rfl) Try.func5
    (ChangeSpec.witness6 (enc := enc) (C := Try.checked) false ⟨#[], #[.int .i64 0, .agg #[.int .i64 0, .int .i64 0, .string (mkS [])], .slice none 0 0, .slice none 0 0], []⟩ 8 (by kernel_rfl) (by kernel_rfl) (by kernel_rfl) (by kernel_rfl))
    rfl rfl rfl Try.underlying4 (fun ds h => by
      match ds, h with
      | [a, b, c, d], _ => rfl
      ) (by kernel_rfl) (by kernel_rfl) (by kernel_rfl) (by kernel_rfl) valueReads_law

theorem valueReads_holds : Rows.ValueReadsSaid :=
  OpenClaim.holds_of_wide 5 Try.f5 rfl rfl rfl rfl rfl rfl rfl ⟨rfl, rfl, rfl, rfl, rfl⟩ rfl rfl rfl rfl rfl (by kernel_rfl) Try.func5 (by kernel_rfl)
    (of_decide_eq_true (by kernel_rfl)) (by unfold Func.isWrapper; first | (rw [if_pos (by decide +kernel)]; kernel_rfl) | (rw [if_neg (by decide +kernel)]; exact ⟨rfl, rfl⟩))
    (fun os started H enc _ => valueReads_lifted os started H enc)
#print axioms valueReads_holds
end Go.Proofs.Yteidffcimidinaa
