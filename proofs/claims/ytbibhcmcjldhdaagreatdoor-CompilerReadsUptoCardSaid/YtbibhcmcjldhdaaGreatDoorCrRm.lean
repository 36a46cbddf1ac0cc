import Derived.Test.YtbibhcmcjldhdaaGreatDoorM6
import Derived.Test.YtbibhcmcjldhdaaGreatDoorRows
import Derived.Test.YtbibhcmcjldhdaaGreatDoorCards
import Derived.Test.YtbibhcmcjldhdaaGreatDoorTie
import Derived.JoinedCond
import Derived.ProofKit
namespace Go.Proofs.YtbibhcmcjldhdaaGreatDoor
open Go Go.Ax Go.ChangeShapes Go.WideShapes Go.ChangeAt Go.RowKit
set_option linter.unusedSimpArgs false
set_option linter.unusedVariables false
set_option maxHeartbeats 8000000 in
theorem compilerReads_upto : Rows.CompilerReadsUptoSaid :=
 OpenClaim.holds_of_cond 5 Tryz.f5 rfl rfl rfl rfl rfl rfl rfl ⟨rfl,rfl,rfl,rfl,rfl⟩ rfl rfl rfl rfl rfl (by as_aux_lemma => kernel_rfl) Tryz.func5 (by as_aux_lemma => kernel_rfl)
  (by as_aux_lemma => exact of_decide_eq_true (by kernel_rfl)) (by as_aux_lemma => (unfold Func.isWrapper; first | (rw [if_pos (by decide +kernel)]; kernel_rfl) | (rw [if_neg (by decide +kernel)]; exact ⟨rfl,rfl⟩)))
  (fun os started H enc _ F => by rw [OpenClaim.pre_eq_preRow]; exact zD6 os started H enc F)
theorem compilerReads_plain (f : FuncId) (fn : Func) (hf : Tryz.pinned.checked.prog.funcNamed "assessor/assessorlaw14.CompilerReads" = some f) (hfn : Tryz.pinned.checked.prog.funcs[f]? = some fn) :
  true = Tryz.pinned.checked.prog.looks [] ∧ ∀ (j : Nat) t,fn.params[j]? = some t → Tryz.pinned.checked.prog.wantsStandIn t = false := by
 obtain rfl : f = 5 := Option.some.inj ((show Tryz.prog.funcNamed "assessor/assessorlaw14.CompilerReads" = some 5 by kernel_rfl).symm.trans hf) |>.symm
 obtain rfl : fn = Tryz.f5 := (Option.some.inj (Tryz.func5.symm.trans hfn)).symm
 refine ⟨by kernel_rfl,fun j t ht => ?_⟩
 have hm : t ∈ Tryz.f5.params.toList := by simpa using Array.mem_of_getElem? ht
 have hall : (Tryz.f5.params.toList.all fun u => !Tryz.prog.wantsStandIn u) = true := by kernel_rfl
 exact (show Tryz.prog.wantsStandIn t = false by simpa using List.all_eq_true.1 hall t hm)
theorem compilerReads_holds : Rows.CompilerReadsUptoCardSaid :=
 Claim7.holds_tied_plain_at .later [] _ _ _ _ compilerReads_upto (fun _ h => by cases h) (by kernel_rfl) (fun _ h => by cases h) compilerReadsUpto_row_tie rfl ⟨rfl,rfl⟩ (by kernel_rfl) rfl compilerReads_plain (by kernel_rfl)
end Go.Proofs.YtbibhcmcjldhdaaGreatDoor
