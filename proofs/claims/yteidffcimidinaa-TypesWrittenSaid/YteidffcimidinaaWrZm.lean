/-
  The text of a type that exists, read as a type, writes this type, and the chapter's examples hold.
  Conditions: none; every input.
-/
import Derived.Test.YteidffcimidinaaM5
import Derived.Test.YteidffcimidinaaRows
import Derived.ProofKit
namespace Go.Proofs.Yteidffcimidinaa
open Go Go.Ax Go.ChangeShapes Go.WideShapes Go.ChangeAt Go.RowKit
set_option linter.unusedSimpArgs false
set_option linter.unusedVariables false

theorem typesWritten_law : ∀ l, ValAll Try.prog Try.f3.params.toList l → ∃ R : AHeap → Prop, ACall Try.prog 3 (topAll Try.prog Try.f3.params.toList l) [] fun x H' => x = bool true ∧ R H' := by
  intro l h
  rw [Try.params3] at h ⊢
  match l, h with
  | [ts, rs], h =>
    obtain ⟨h1, h2, _⟩ := h
    obtain ⟨t, rfl, ht⟩ := open_ty h1
    obtain ⟨rows, rfl, hl, hr⟩ := val_sl Try.underlying24 c_rc h2
    obtain ⟨rs, rfl, hrs⟩ := val_rows hr fun x => open_rc
    simp only [topAll, topV, Try.underlying24, Try.underlying23, List.headD_cons]
    exact ⟨_, typesWritten t rs (by simpa using hl) ht.rc []⟩

set_option maxRecDepth 100000 in
theorem typesWritten_lifted (os : Os) (started : os.Started) (H : Type) (enc : TypeId × Value → H) :
    ReturnsInHanded {} Try.checked os 3 .any (Rows.typesWrittenSpec.pre6 enc Try.prog Try.f3 Rows.typesWrittenRow.domain false) (Rows.typesWrittenSpec.post enc Try.prog Try.f3 false true false false) :=
  law_lifted (C := Try.checked) (S := [3, 4, 9, 24, 77, 68, 56, 23, 58, 97, 73]) (tb := 4) (by kernel_rfl) started (by kernel_rfl) Try.func3
    (ChangeSpec.witness6 (enc := enc) (C := Try.checked) false ⟨#[], #[.agg #[.int .i64 0, .int .i64 0, .string (mkS [])], .slice none 0 0], []⟩ 8 (by kernel_rfl) (by kernel_rfl) (by kernel_rfl) (by kernel_rfl))
    rfl rfl rfl Try.underlying4 (fun ds h => by
      match ds, h with
      | [a, b], _ => rfl
      ) (by kernel_rfl) (by kernel_rfl) (by kernel_rfl) (by kernel_rfl) typesWritten_law

theorem typesWritten_holds : Rows.TypesWrittenSaid :=
  OpenClaim.holds_of_wide 3 Try.f3 rfl rfl rfl rfl rfl rfl rfl ⟨rfl, rfl, rfl, rfl, rfl⟩ rfl rfl rfl rfl rfl (by kernel_rfl) Try.func3 (by kernel_rfl)
    (of_decide_eq_true (by kernel_rfl)) (by unfold Func.isWrapper; first | (rw [if_pos (by decide +kernel)]; kernel_rfl) | (rw [if_neg (by decide +kernel)]; exact ⟨rfl, rfl⟩))
    (fun os started H enc _ => typesWritten_lifted os started H enc)
#print axioms typesWritten_holds
end Go.Proofs.Yteidffcimidinaa
