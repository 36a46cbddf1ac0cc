/-
  NARROWER THAN 'FOR EVERY INPUT', by the rows' own cells (each row's printed sentence says how): MachineTotal: loops · MachineRuns: loops · MachineCosts: loops.
  DERIVED. THE GIVEN ROWS OF THIS SEAT. 5 by the template 'for every input the law returns true; each argument reads behind the call as it read before'; 0 by the template 'total and deterministic' (their statements: YtaipgalanpcgoaaGreatTotals.lean).
  GIVEN WITH THE SEED: the statements are not yours to turn. If you find one false, say at which input.
  Laid BY PROGRAM, IN A SANDBOX (cutbox-rows.mjs): the forced cells as the released guide's own fill.sh prints them over the translation fc24a8568410f71c… (all of the seat's roots in one cut). By AI agents, Wed Nov 11 2026. No macro, syntax, notation, axiom, sorry.
-/
import Derived.Test.YtaipgalanpcgoaaGreatChecked
import GoSem.Claim
import GoSem.ClaimJoined
import GoSem.ClaimMapViews
import Derived.JoinedTies
import Derived.KernelRfl
namespace Go.Proofs.YtaipgalanpcgoaaGreat
/- THE CELL 'sum', in the pinned program and in every row, IS THE sha256 OF THE DUMP (.gsa) THAT YtaipgalanpcgoaaGreatProg.lean LOADS. Nothing in Lean hashes anything: it is a label: what it is worth is what the hold of that sum in a sandbox is worth. -/
noncomputable def Tryz.pinned : Pinned := { name := "ytaipgalanpcgoaagreat", sum := "fc24a8568410f71c2cdd647ddcb5b89c5a798f7134f8a7004652f7367044f47e", checked := Tryz.checked }
namespace Rows
def none {H : Type} : Left H := { results := [], args := [] }

/-- 'assessorlaw15.MachineApplies': WHATEVER THE INPUT: true; the input reads as it did. -/
def machineAppliesSpec : ChangeSpec := { name := "machineApplies", fn := fun _ => fun
  | [d1, d2, d3] => { results := [.lit (.bool true)], args := [d1, d2, d3] }
  | _ => none }
def machineAppliesRow : OpenClaim := { program := "ytaipgalanpcgoaagreat", sum := "fc24a8568410f71c2cdd647ddcb5b89c5a798f7134f8a7004652f7367044f47e", func := "assessor/assessorlaw15.MachineApplies", spec := "machineApplies", inPlace := ["internal/bytealg.IndexByteString", "internal/bytealg.IndexString"], unfollowed := true, recurses := true, named := ["internal/bytealg.MaxLen"], apart := false }
def MachineAppliesSaid : Prop := machineAppliesRow.holds Tryz.pinned (OpenSpec.ofChange machineAppliesSpec)

/-- ITS FALSE NEIGHBOUR: 'it returns false'. Refute it at one input. -/
def machineAppliesWrong : ChangeSpec := { name := "machineApplies", fn := fun _ => fun
  | [d1, d2, d3] => { results := [.lit (.bool false)], args := [d1, d2, d3] }
  | _ => none }
def MachineAppliesWrongFalsely : Prop := machineAppliesRow.holds Tryz.pinned (OpenSpec.ofChange machineAppliesWrong)

/-- 'assessorlaw15.MachineTotal': WHATEVER THE INPUT: true; the input reads as it did. -/
def machineTotalSpec : ChangeSpec := { name := "machineTotal", fn := fun _ => fun
  | [d1, d2, d3, d4] => { results := [.lit (.bool true)], args := [d1, d2, d3, d4] }
  | _ => none }
def machineTotalRow : OpenClaim := { program := "ytaipgalanpcgoaagreat", sum := "fc24a8568410f71c2cdd647ddcb5b89c5a798f7134f8a7004652f7367044f47e", func := "assessor/assessorlaw15.MachineTotal", spec := "machineTotal", inPlace := ["internal/bytealg.IndexByteString", "internal/bytealg.IndexString"], unfollowed := true, recurses := true, named := ["internal/bytealg.MaxLen"], loops := true, apart := false }
def MachineTotalSaid : Prop := machineTotalRow.holds Tryz.pinned (OpenSpec.ofChange machineTotalSpec)

/-- ITS FALSE NEIGHBOUR: 'it returns false'. Refute it at one input. -/
def machineTotalWrong : ChangeSpec := { name := "machineTotal", fn := fun _ => fun
  | [d1, d2, d3, d4] => { results := [.lit (.bool false)], args := [d1, d2, d3, d4] }
  | _ => none }
def MachineTotalWrongFalsely : Prop := machineTotalRow.holds Tryz.pinned (OpenSpec.ofChange machineTotalWrong)

/-- 'assessorlaw15.MachineOperators': WHATEVER THE INPUT: true; the input reads as it did. -/
def machineOperatorsSpec : ChangeSpec := { name := "machineOperators", fn := fun _ => fun
  | [d1, d2, d3, d4, d5] => { results := [.lit (.bool true)], args := [d1, d2, d3, d4, d5] }
  | _ => none }
def machineOperatorsRow : OpenClaim := { program := "ytaipgalanpcgoaagreat", sum := "fc24a8568410f71c2cdd647ddcb5b89c5a798f7134f8a7004652f7367044f47e", func := "assessor/assessorlaw15.MachineOperators", spec := "machineOperators", inPlace := ["internal/bytealg.IndexByteString", "internal/bytealg.IndexString"], unfollowed := true, recurses := true, named := ["internal/bytealg.MaxLen"], apart := false }
def MachineOperatorsSaid : Prop := machineOperatorsRow.holds Tryz.pinned (OpenSpec.ofChange machineOperatorsSpec)

/-- ITS FALSE NEIGHBOUR: 'it returns false'. Refute it at one input. -/
def machineOperatorsWrong : ChangeSpec := { name := "machineOperators", fn := fun _ => fun
  | [d1, d2, d3, d4, d5] => { results := [.lit (.bool false)], args := [d1, d2, d3, d4, d5] }
  | _ => none }
def MachineOperatorsWrongFalsely : Prop := machineOperatorsRow.holds Tryz.pinned (OpenSpec.ofChange machineOperatorsWrong)

/-- 'assessorlaw15.MachineRuns': WHATEVER THE INPUT: true; the input reads as it did. -/
def machineRunsSpec : ChangeSpec := { name := "machineRuns", fn := fun _ => fun
  | [d1, d2, d3, d4] => { results := [.lit (.bool true)], args := [d1, d2, d3, d4] }
  | _ => none }
def machineRunsRow : OpenClaim := { program := "ytaipgalanpcgoaagreat", sum := "fc24a8568410f71c2cdd647ddcb5b89c5a798f7134f8a7004652f7367044f47e", func := "assessor/assessorlaw15.MachineRuns", spec := "machineRuns", inPlace := ["internal/bytealg.IndexByteString", "internal/bytealg.IndexString"], unfollowed := true, recurses := true, named := ["internal/bytealg.MaxLen"], loops := true, apart := false }
def MachineRunsSaid : Prop := machineRunsRow.holds Tryz.pinned (OpenSpec.ofChange machineRunsSpec)

/-- ITS FALSE NEIGHBOUR: 'it returns false'. Refute it at one input. -/
def machineRunsWrong : ChangeSpec := { name := "machineRuns", fn := fun _ => fun
  | [d1, d2, d3, d4] => { results := [.lit (.bool false)], args := [d1, d2, d3, d4] }
  | _ => none }
def MachineRunsWrongFalsely : Prop := machineRunsRow.holds Tryz.pinned (OpenSpec.ofChange machineRunsWrong)

/-- 'assessorlaw15.MachineCosts': WHATEVER THE INPUT: true; the input reads as it did. -/
def machineCostsSpec : ChangeSpec := { name := "machineCosts", fn := fun _ => fun
  | [d1, d2, d3, d4] => { results := [.lit (.bool true)], args := [d1, d2, d3, d4] }
  | _ => none }
def machineCostsRow : OpenClaim := { program := "ytaipgalanpcgoaagreat", sum := "fc24a8568410f71c2cdd647ddcb5b89c5a798f7134f8a7004652f7367044f47e", func := "assessor/assessorlaw15.MachineCosts", spec := "machineCosts", inPlace := ["internal/bytealg.IndexByteString", "internal/bytealg.IndexString"], unfollowed := true, recurses := true, named := ["internal/bytealg.MaxLen"], loops := true, apart := false }
def MachineCostsSaid : Prop := machineCostsRow.holds Tryz.pinned (OpenSpec.ofChange machineCostsSpec)

/-- ITS FALSE NEIGHBOUR: 'it returns false'. Refute it at one input. -/
def machineCostsWrong : ChangeSpec := { name := "machineCosts", fn := fun _ => fun
  | [d1, d2, d3, d4] => { results := [.lit (.bool false)], args := [d1, d2, d3, d4] }
  | _ => none }
def MachineCostsWrongFalsely : Prop := machineCostsRow.holds Tryz.pinned (OpenSpec.ofChange machineCostsWrong)

/- THE SECOND FORM. 'bulk': how many values and letters a reading holds, each counted each time it is reached (what is shared counts as often as it is met; a slice's spare places count too). A statement '..UptoSaid' is the law's where the arguments, and the package variables that the reading takes, are together of bulk at most 1048576: NARROWER than '..Said'. Prove '..Said' where nothing that the law and all that it calls make is longer than what came in: it says more and counts as full. Else prove '..UptoSaid'. A law counts once. -/
mutual
def uptoBulk {H : Type} : DataW H → Nat
  | .lit (.string bytes) => bytes.length + 1
  | .lit _ => 1
  | .nil => 1
  | .ptr d => uptoBulk d + 1
  | .slice elems spare => uptoBulkAll elems + uptoBulkAll spare + 1
  | .agg parts => uptoBulkAll parts + 1
  | .iface _ d => uptoBulk d + 1
  | .map entries => uptoBulkEntries entries + 1
  | .held _ => 1
def uptoBulkAll {H : Type} : List (DataW H) → Nat
  | [] => 0
  | d :: r => uptoBulk d + uptoBulkAll r
def uptoBulkEntries {H : Type} : List (Lit × DataW H) → Nat
  | [] => 0
  | x :: r => uptoBulkEntry x + uptoBulkEntries r
def uptoBulkEntry {H : Type} : Lit × DataW H → Nat
  | (.string bytes, d) => bytes.length + uptoBulk d + 1
  | (_, d) => uptoBulk d + 1
 end
def uptoSmall : (H : Type) → List (DataW H) → Bool := fun _ ds => decide (uptoBulkAll ds ≤ 1048576)
def OpenSpec.upto (s : _root_.Go.ChangeSpec) : _root_.Go.OpenSpec := { _root_.Go.OpenSpec.ofChange s with cond := some uptoSmall }

/-- 'assessorlaw15.MachineApplies', WHERE WHAT IT READS IS OF BULK AT MOST 1048576: true; the input reads as it did. -/
def machineAppliesUptoRow : OpenClaim := { program := "ytaipgalanpcgoaagreat", sum := "fc24a8568410f71c2cdd647ddcb5b89c5a798f7134f8a7004652f7367044f47e", func := "assessor/assessorlaw15.MachineApplies", spec := "machineApplies", inPlace := ["internal/bytealg.IndexByteString", "internal/bytealg.IndexString"], unfollowed := true, recurses := true, named := ["internal/bytealg.MaxLen"], apart := false, narrowed := true }
def MachineAppliesUptoSaid : Prop := machineAppliesUptoRow.holds Tryz.pinned (OpenSpec.upto machineAppliesSpec)

/-- 'assessorlaw15.MachineTotal', WHERE WHAT IT READS IS OF BULK AT MOST 1048576: true; the input reads as it did. -/
def machineTotalUptoRow : OpenClaim := { program := "ytaipgalanpcgoaagreat", sum := "fc24a8568410f71c2cdd647ddcb5b89c5a798f7134f8a7004652f7367044f47e", func := "assessor/assessorlaw15.MachineTotal", spec := "machineTotal", inPlace := ["internal/bytealg.IndexByteString", "internal/bytealg.IndexString"], unfollowed := true, recurses := true, named := ["internal/bytealg.MaxLen"], loops := true, apart := false, narrowed := true }
def MachineTotalUptoSaid : Prop := machineTotalUptoRow.holds Tryz.pinned (OpenSpec.upto machineTotalSpec)

/-- 'assessorlaw15.MachineOperators', WHERE WHAT IT READS IS OF BULK AT MOST 1048576: true; the input reads as it did. -/
def machineOperatorsUptoRow : OpenClaim := { program := "ytaipgalanpcgoaagreat", sum := "fc24a8568410f71c2cdd647ddcb5b89c5a798f7134f8a7004652f7367044f47e", func := "assessor/assessorlaw15.MachineOperators", spec := "machineOperators", inPlace := ["internal/bytealg.IndexByteString", "internal/bytealg.IndexString"], unfollowed := true, recurses := true, named := ["internal/bytealg.MaxLen"], apart := false, narrowed := true }
def MachineOperatorsUptoSaid : Prop := machineOperatorsUptoRow.holds Tryz.pinned (OpenSpec.upto machineOperatorsSpec)

/-- 'assessorlaw15.MachineRuns', WHERE WHAT IT READS IS OF BULK AT MOST 1048576: true; the input reads as it did. -/
def machineRunsUptoRow : OpenClaim := { program := "ytaipgalanpcgoaagreat", sum := "fc24a8568410f71c2cdd647ddcb5b89c5a798f7134f8a7004652f7367044f47e", func := "assessor/assessorlaw15.MachineRuns", spec := "machineRuns", inPlace := ["internal/bytealg.IndexByteString", "internal/bytealg.IndexString"], unfollowed := true, recurses := true, named := ["internal/bytealg.MaxLen"], loops := true, apart := false, narrowed := true }
def MachineRunsUptoSaid : Prop := machineRunsUptoRow.holds Tryz.pinned (OpenSpec.upto machineRunsSpec)

/-- 'assessorlaw15.MachineCosts', WHERE WHAT IT READS IS OF BULK AT MOST 1048576: true; the input reads as it did. -/
def machineCostsUptoRow : OpenClaim := { program := "ytaipgalanpcgoaagreat", sum := "fc24a8568410f71c2cdd647ddcb5b89c5a798f7134f8a7004652f7367044f47e", func := "assessor/assessorlaw15.MachineCosts", spec := "machineCosts", inPlace := ["internal/bytealg.IndexByteString", "internal/bytealg.IndexString"], unfollowed := true, recurses := true, named := ["internal/bytealg.MaxLen"], loops := true, apart := false, narrowed := true }
def MachineCostsUptoSaid : Prop := machineCostsUptoRow.holds Tryz.pinned (OpenSpec.upto machineCostsSpec)

end Rows
end Go.Proofs.YtaipgalanpcgoaaGreat
