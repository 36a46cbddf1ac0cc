import Derived.Test.YtbibhcmcjldhdaaGreatDoorM6
import Derived.Test.YtbibhcmcjldhdaaGreatDoorRows
import Derived.Test.YtbibhcmcjldhdaaGreatDoorCards
import Derived.Test.YtbibhcmcjldhdaaGreatDoorTie
import Derived.JoinedCond
import Derived.ProofKit
namespace Go.Proofs.YtbibhcmcjldhdaaGreatDoor
open Go Go.Ax Go.ChangeShapes Go.WideShapes Go.ChangeAt Go.RowKit
set_option linter.unusedSimpArgs false
set_option linter.unusedVariables false
theorem compilerParses_law : ∀ l, zKQ Tryz.prog Tryz.f4.params.toList l->∃ R : zB->Prop, ACall Tryz.prog 4 (zDC Tryz.prog Tryz.f4.params.toList l) [] fun x H' => x = bool true/\R H' := by
 intro l h
 rw [Tryz.params4] at h ⊢
 match l, h with
 | [xs], h =>
  obtain ⟨h1, _⟩ := h
  obtain ⟨s, rfl, a1⟩ := zQ2 Tryz.underlying9 h1
  simp only [zDC, zQd, Tryz.underlying9, List.headD_cons]
  exact ⟨_, zGw s []⟩
noncomputable def compilerParses_world (os : Os) : World := zU4 Tryz.prog Rows.compilerParsesRow.laid (World.holding Tryz.prog os ⟨#[], #[], []⟩)
set_option maxRecDepth 100000 in
theorem compilerParses_met (os : Os) : laidMet Tryz.prog Rows.compilerParsesRow.laid ((compilerParses_world os).forCall (fun _ _ => 0) ⟨#[], #[.string (mkS [])], []⟩).memory :=
 laidMet_of_run' 8 (by kernel_rfl) (by kernel_rfl)
set_option maxRecDepth 100000 in
theorem compilerParses_reads (os : Os) {H : Type} (enc : TypeId × Value->H) : ∃ places, DataW.whole enc Tryz.prog ((compilerParses_world os).forCall (fun _ _ => 0) ⟨#[], #[.string (mkS [])], []⟩).memory Tryz.f4.params.toList (OpenSpec.ofChange Rows.compilerParsesSpec).vars false (#[.string (mkS [])] : Array Value).toList 8 = some ([.lit (.string [])], [], places) :=
 ⟨[], by kernel_rfl⟩
set_option maxRecDepth 100000 in
theorem compilerParses_lifted (os : Os) (started : os.Started) (H : Type) (enc : TypeId × Value->H) (F : Stop.Interp) :
  ReturnsInHanded {} Tryz.checked os 4 .any ((OpenSpec.ofChange Rows.compilerParsesSpec).preRow enc Tryz.prog Tryz.f4 Rows.compilerParsesRow.domain false Rows.compilerParsesRow.laid) (((OpenSpec.ofChange Rows.compilerParsesSpec).at F).post enc Tryz.prog Tryz.f4 false true false false) := by
 obtain ⟨places, hx⟩ := compilerParses_reads os enc
 exact zPB (C := Tryz.checked) (S := [3, 4, 9]) (tb := 4) (by kernel_rfl) started (by kernel_rfl) Tryz.func4
  (witness_row_at (enc := enc) (C := Tryz.checked) (s := OpenSpec.ofChange Rows.compilerParsesSpec) false (compilerParses_world os) #[.string (mkS [])] rfl (by kernel_rfl) (by kernel_rfl) (by kernel_rfl)
   (OpenSpec.preRow_of_cond 8 hx (by kernel_rfl) (fun k hk => by cases hk <;> kernel_rfl) (by kernel_rfl) (compilerParses_met os)))
  rfl rfl rfl Tryz.underlying4 (fun ds h => by
   match ds, h with
   | [a], _ => rfl
   ) (by kernel_rfl) (by kernel_rfl) (by kernel_rfl) (by kernel_rfl) compilerParses_law
theorem compilerParses_said : Rows.CompilerParsesSaid :=
 OpenClaim.holds_of_cond 4 Tryz.f4 rfl rfl rfl rfl rfl rfl rfl ⟨rfl, rfl, rfl, rfl, rfl⟩ rfl rfl rfl rfl rfl (by kernel_rfl) Tryz.func4 (by kernel_rfl)
  (of_decide_eq_true (by kernel_rfl)) (by unfold Func.isWrapper; first | (rw [if_pos (by decide +kernel)]; kernel_rfl) | (rw [if_neg (by decide +kernel)]; exact ⟨rfl, rfl⟩))
  (fun os started H enc _ F => by rw [OpenClaim.pre_eq_preRow]; exact compilerParses_lifted os started H enc F)
theorem compilerParses_plain (f : FuncId) (fn : Func) (hf : Tryz.pinned.checked.prog.funcNamed "assessor/assessorlaw14.CompilerParses" = some f) (hfn : Tryz.pinned.checked.prog.funcs[f]? = some fn) :
  true = Tryz.pinned.checked.prog.looks []/\∀ (j : Nat) t, fn.params[j]? = some t->Tryz.pinned.checked.prog.wantsStandIn t = false := by
 obtain rfl : f = 4 := Option.some.inj ((show Tryz.prog.funcNamed "assessor/assessorlaw14.CompilerParses" = some 4 by kernel_rfl).symm.trans hf) |>.symm
 obtain rfl : fn = Tryz.f4 := (Option.some.inj (Tryz.func4.symm.trans hfn)).symm
 refine ⟨by kernel_rfl, fun j t ht => ?_⟩
 have hm : t ∈ Tryz.f4.params.toList := by simpa using Array.mem_of_getElem? ht
 have hall : (Tryz.f4.params.toList.all fun u => !Tryz.prog.wantsStandIn u) = true := by kernel_rfl
 exact (show Tryz.prog.wantsStandIn t = false by simpa using List.all_eq_true.1 hall t hm)
theorem compilerParses_holds : Rows.CompilerParsesCardSaid :=
 Claim7.holds_tied_plain_at .later [] _ _ _ _ compilerParses_said (fun _ h => by cases h) (by kernel_rfl) (fun _ h => by cases h) compilerParses_row_tie rfl ⟨rfl, rfl⟩ (by kernel_rfl) rfl compilerParses_plain (by kernel_rfl)
end Go.Proofs.YtbibhcmcjldhdaaGreatDoor
