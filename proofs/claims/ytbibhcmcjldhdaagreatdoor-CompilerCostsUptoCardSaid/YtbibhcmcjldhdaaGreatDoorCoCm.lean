import Derived.Test.YtbibhcmcjldhdaaGreatDoorM6
import Derived.Test.YtbibhcmcjldhdaaGreatDoorRows
import Derived.Test.YtbibhcmcjldhdaaGreatDoorCards
import Derived.Test.YtbibhcmcjldhdaaGreatDoorTie
import Derived.JoinedCond
import Derived.ProofKit
namespace Go.Proofs.YtbibhcmcjldhdaaGreatDoor
open Go Go.Ax Go.ChangeShapes Go.WideShapes Go.ChangeAt Go.RowKit
set_option linter.unusedSimpArgs false
set_option linter.unusedVariables false
theorem compilerCosts_law : ∀ l, ValAll Tryz.prog Tryz.f3.params.toList l → zAY l ≤ 1048576 → ∃ R : zC → Prop, ACall Tryz.prog 3 (topAll Tryz.prog Tryz.f3.params.toList l) [] fun x H' => x = bool true ∧ R H' := by
 intro l h hb
 rw [Tryz.params3] at h ⊢
 match l, h with
 | [xs, ys, zs], h =>
  obtain ⟨h1, h2, h3, _⟩ := h
  simp only [zAY] at hb
  obtain ⟨ps, rfl, hps⟩ := open_code h1
  obtain ⟨p, rfl, hp⟩ := zC1 Tryz.underlying3 h2
  obtain ⟨L, rfl, hL⟩ := zC1 Tryz.underlying3 h3
  simp only [topAll, topV, Tryz.underlying24, Tryz.underlying3, List.headD_cons]
  simp only [zBy, bulkC_sl] at hb
  exact ⟨_, compilerCosts ps (codeSml ps (Nat.le_refl _) (by omega)) p L []⟩
noncomputable def compilerCosts_world (os : Os) : World := layIn Tryz.prog Rows.compilerCostsUptoRow.laid (World.holding Tryz.prog os ⟨#[], #[], []⟩)
set_option maxRecDepth 100000 in
theorem compilerCosts_met (os : Os) : laidMet Tryz.prog Rows.compilerCostsUptoRow.laid ((compilerCosts_world os).forCall (fun _ _ => 0) ⟨#[], #[.agg #[.slice none 0 0], .int .i64 0, .int .i64 0], []⟩).memory :=
 laidMet_of_run' 8 (by kernel_rfl) (by kernel_rfl)
set_option maxRecDepth 100000 in
theorem compilerCosts_reads (os : Os) {H : Type} (enc : TypeId × Value → H) : ∃ places, DataW.whole enc Tryz.prog ((compilerCosts_world os).forCall (fun _ _ => 0) ⟨#[], #[.agg #[.slice none 0 0], .int .i64 0, .int .i64 0], []⟩).memory Tryz.f3.params.toList (Rows.OpenSpec.upto Rows.compilerCostsSpec).vars false (#[.agg #[.slice none 0 0], .int .i64 0, .int .i64 0] : Array Value).toList 8 = some ([.agg [.nil], .lit (.int .i64 0), .lit (.int .i64 0)], [], places) :=
 ⟨[], by kernel_rfl⟩
set_option maxRecDepth 100000 in
theorem compilerCosts_lifted (os : Os) (started : os.Started) (H : Type) (enc : TypeId × Value → H) (F : Stop.Interp) :
  ReturnsInHanded {} Tryz.checked os 3 .any ((Rows.OpenSpec.upto Rows.compilerCostsSpec).preRow enc Tryz.prog Tryz.f3 Rows.compilerCostsUptoRow.domain false Rows.compilerCostsUptoRow.laid) (((Rows.OpenSpec.upto Rows.compilerCostsSpec).at F).post enc Tryz.prog Tryz.f3 false true false false) := by
 obtain ⟨places, hx⟩ := compilerCosts_reads os enc
 exact law_laid_upto (C := Tryz.checked) (S := [3, 4, 30, 9, 24, 33, 92, 22, 31]) (tb := 4) (by kernel_rfl) started (by kernel_rfl) Tryz.func3
  (witness_row_at (enc := enc) (C := Tryz.checked) (s := Rows.OpenSpec.upto Rows.compilerCostsSpec) false (compilerCosts_world os) #[.agg #[.slice none 0 0], .int .i64 0, .int .i64 0] rfl (by kernel_rfl) (by kernel_rfl) (by kernel_rfl)
   (OpenSpec.preRow_of_cond 8 hx (by kernel_rfl) (fun k hk => by cases hk; kernel_rfl) (by kernel_rfl) (compilerCosts_met os)))
  rfl rfl rfl Tryz.underlying4 (fun ds h => by
   match ds, h with
   | [a, b, c], _ => rfl
   ) (by kernel_rfl) (by kernel_rfl) (by kernel_rfl) (by kernel_rfl) compilerCosts_law
theorem compilerCosts_upto : Rows.CompilerCostsUptoSaid :=
 OpenClaim.holds_of_cond 3 Tryz.f3 rfl rfl rfl rfl rfl rfl rfl ⟨rfl, rfl, rfl, rfl, rfl⟩ rfl rfl rfl rfl rfl (by kernel_rfl) Tryz.func3 (by kernel_rfl)
  (of_decide_eq_true (by kernel_rfl)) (by unfold Func.isWrapper; first | (rw [if_pos (by decide +kernel)]; kernel_rfl) | (rw [if_neg (by decide +kernel)]; exact ⟨rfl, rfl⟩))
  (fun os started H enc _ F => by rw [OpenClaim.pre_eq_preRow]; exact compilerCosts_lifted os started H enc F)
theorem compilerCosts_plain (f : FuncId) (fn : Func) (hf : Tryz.pinned.checked.prog.funcNamed "assessor/assessorlaw14.CompilerCosts" = some f) (hfn : Tryz.pinned.checked.prog.funcs[f]? = some fn) :
  true = Tryz.pinned.checked.prog.looks [] ∧ ∀ (j : Nat) t, fn.params[j]? = some t → Tryz.pinned.checked.prog.wantsStandIn t = false := by
 obtain rfl : f = 3 := Option.some.inj ((show Tryz.prog.funcNamed "assessor/assessorlaw14.CompilerCosts" = some 3 by kernel_rfl).symm.trans hf) |>.symm
 obtain rfl : fn = Tryz.f3 := (Option.some.inj (Tryz.func3.symm.trans hfn)).symm
 refine ⟨by kernel_rfl, fun j t ht => ?_⟩
 have hm : t ∈ Tryz.f3.params.toList := by simpa using Array.mem_of_getElem? ht
 have hall : (Tryz.f3.params.toList.all fun u => !Tryz.prog.wantsStandIn u) = true := by kernel_rfl
 exact (show Tryz.prog.wantsStandIn t = false by simpa using List.all_eq_true.1 hall t hm)
theorem compilerCosts_holds : Rows.CompilerCostsUptoCardSaid :=
 Claim7.holds_tied_plain_at .later [] _ _ _ _ compilerCosts_upto (fun _ h => by cases h) (by kernel_rfl) (fun _ h => by cases h) compilerCostsUpto_row_tie rfl ⟨rfl, rfl⟩ (by kernel_rfl) rfl compilerCosts_plain (by kernel_rfl)
end Go.Proofs.YtbibhcmcjldhdaaGreatDoor
