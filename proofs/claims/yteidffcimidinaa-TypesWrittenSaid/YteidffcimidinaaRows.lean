/-
  No cell of these rows narrows 'for every input' (looked for: loops, veiled, ifaces, maps, wideKeys, modest, calm, conditions, laid).
  DERIVED. THE GIVEN ROWS OF THIS SEAT. 3 by the template 'for every input the law returns true; each argument reads behind the call as it read before'; 0 by the template 'total and deterministic' (their statements: YteidffcimidinaaTotals.lean).
  GIVEN WITH THE SEED: the statements are not yours to turn. If you find one false, say at which input.
  Laid BY PROGRAM, IN A SANDBOX (cutbox-rows.mjs): the forced cells as the released guide's own fill.sh prints them over the translation 14ac7bd4f3d45beb… (all of the seat's roots in one cut). By AI agents, Wed Nov 11 2026. No macro, syntax, notation, axiom, sorry.
-/
import Derived.Test.YteidffcimidinaaChecked
import GoSem.Claim
import GoSem.ClaimJoined
import GoSem.ClaimMapViews
import Derived.JoinedTies
import Derived.KernelRfl
namespace Go.Proofs.Yteidffcimidinaa
/- THE CELL 'sum', in the pinned program and in every row, IS THE sha256 OF THE DUMP (.gsa) THAT YteidffcimidinaaProg.lean LOADS. Nothing in Lean hashes anything: it is a label: what it is worth is what the hold of that sum in a sandbox is worth. -/
noncomputable def Try.pinned : Pinned := { name := "yteidffcimidinaa", sum := "14ac7bd4f3d45beb57af52dbfd638180c9b0884bbd4d6fe253ebef8b52530c51", checked := Try.checked }
namespace Rows
def none {H : Type} : Left H := { results := [], args := [] }

/-- 'assessorlaw08.TypesWritten': WHATEVER THE INPUT: true; the input reads as it did. -/
def typesWrittenSpec : ChangeSpec := { name := "typesWritten", fn := fun _ => fun
  | [d1, d2] => { results := [.lit (.bool true)], args := [d1, d2] }
  | _ => none }
def typesWrittenRow : OpenClaim := { program := "yteidffcimidinaa", sum := "14ac7bd4f3d45beb57af52dbfd638180c9b0884bbd4d6fe253ebef8b52530c51", func := "assessor/assessorlaw08.TypesWritten", spec := "typesWritten", unfollowed := true, recurses := true, apart := false }
def TypesWrittenSaid : Prop := typesWrittenRow.holds Try.pinned (OpenSpec.ofChange typesWrittenSpec)

/-- ITS FALSE NEIGHBOUR: 'it returns false'. Refute it at one input. -/
def typesWrittenWrong : ChangeSpec := { name := "typesWritten", fn := fun _ => fun
  | [d1, d2] => { results := [.lit (.bool false)], args := [d1, d2] }
  | _ => none }
def TypesWrittenWrongFalsely : Prop := typesWrittenRow.holds Try.pinned (OpenSpec.ofChange typesWrittenWrong)

/-- 'assessorlaw11.ValueCounts': WHATEVER THE INPUT: true; the input reads as it did. -/
def valueCountsSpec : ChangeSpec := { name := "valueCounts", fn := fun _ => fun
  | [d1, d2] => { results := [.lit (.bool true)], args := [d1, d2] }
  | _ => none }
def valueCountsRow : OpenClaim := { program := "yteidffcimidinaa", sum := "14ac7bd4f3d45beb57af52dbfd638180c9b0884bbd4d6fe253ebef8b52530c51", func := "assessor/assessorlaw11.ValueCounts", spec := "valueCounts", inPlace := ["internal/bytealg.IndexByteString", "internal/bytealg.IndexString", "internal/abi.NoEscape", "internal/bytealg.MakeNoZero"], unfollowed := true, recurses := true, named := ["internal/bytealg.MaxLen"], apart := false }
def ValueCountsSaid : Prop := valueCountsRow.holds Try.pinned (OpenSpec.ofChange valueCountsSpec)

/-- ITS FALSE NEIGHBOUR: 'it returns false'. Refute it at one input. -/
def valueCountsWrong : ChangeSpec := { name := "valueCounts", fn := fun _ => fun
  | [d1, d2] => { results := [.lit (.bool false)], args := [d1, d2] }
  | _ => none }
def ValueCountsWrongFalsely : Prop := valueCountsRow.holds Try.pinned (OpenSpec.ofChange valueCountsWrong)

/-- 'assessorlaw11.ValueReads': WHATEVER THE INPUT: true; the input reads as it did. -/
def valueReadsSpec : ChangeSpec := { name := "valueReads", fn := fun _ => fun
  | [d1, d2, d3, d4] => { results := [.lit (.bool true)], args := [d1, d2, d3, d4] }
  | _ => none }
def valueReadsRow : OpenClaim := { program := "yteidffcimidinaa", sum := "14ac7bd4f3d45beb57af52dbfd638180c9b0884bbd4d6fe253ebef8b52530c51", func := "assessor/assessorlaw11.ValueReads", spec := "valueReads", inPlace := ["internal/bytealg.IndexByteString", "internal/bytealg.IndexString", "internal/abi.NoEscape", "internal/bytealg.MakeNoZero"], unfollowed := true, recurses := true, named := ["internal/bytealg.MaxLen"], apart := false }
def ValueReadsSaid : Prop := valueReadsRow.holds Try.pinned (OpenSpec.ofChange valueReadsSpec)

/-- ITS FALSE NEIGHBOUR: 'it returns false'. Refute it at one input. -/
def valueReadsWrong : ChangeSpec := { name := "valueReads", fn := fun _ => fun
  | [d1, d2, d3, d4] => { results := [.lit (.bool false)], args := [d1, d2, d3, d4] }
  | _ => none }
def ValueReadsWrongFalsely : Prop := valueReadsRow.holds Try.pinned (OpenSpec.ofChange valueReadsWrong)

/- THE SECOND FORM. 'bulk': how many values and letters a reading holds, each counted each time it is reached (what is shared counts as often as it is met; a slice's spare places count too). A statement '..UptoSaid' is the law's where the arguments, and the package variables that the reading takes, are together of bulk at most 1048576: NARROWER than '..Said'. Prove '..Said' where nothing that the law and all that it calls make is longer than what came in: it says more and counts as full. Else prove '..UptoSaid'. A law counts once. -/
mutual
def uptoBulk {H : Type} : DataW H → Nat
  | .lit (.string bytes) => bytes.length + 1
  | .lit _ => 1
  | .nil => 1
  | .ptr d => uptoBulk d + 1
  | .slice elems spare => uptoBulkAll elems + uptoBulkAll spare + 1
  | .agg parts => uptoBulkAll parts + 1
  | .iface _ d => uptoBulk d + 1
  | .map entries => uptoBulkEntries entries + 1
  | .held _ => 1
def uptoBulkAll {H : Type} : List (DataW H) → Nat
  | [] => 0
  | d :: r => uptoBulk d + uptoBulkAll r
def uptoBulkEntries {H : Type} : List (Lit × DataW H) → Nat
  | [] => 0
  | x :: r => uptoBulkEntry x + uptoBulkEntries r
def uptoBulkEntry {H : Type} : Lit × DataW H → Nat
  | (.string bytes, d) => bytes.length + uptoBulk d + 1
  | (_, d) => uptoBulk d + 1
 end
def uptoSmall : (H : Type) → List (DataW H) → Bool := fun _ ds => decide (uptoBulkAll ds ≤ 1048576)
def OpenSpec.upto (s : _root_.Go.ChangeSpec) : _root_.Go.OpenSpec := { _root_.Go.OpenSpec.ofChange s with cond := some uptoSmall }

/-- 'assessorlaw08.TypesWritten', WHERE WHAT IT READS IS OF BULK AT MOST 1048576: true; the input reads as it did. -/
def typesWrittenUptoRow : OpenClaim := { program := "yteidffcimidinaa", sum := "14ac7bd4f3d45beb57af52dbfd638180c9b0884bbd4d6fe253ebef8b52530c51", func := "assessor/assessorlaw08.TypesWritten", spec := "typesWritten", unfollowed := true, recurses := true, apart := false, narrowed := true }
def TypesWrittenUptoSaid : Prop := typesWrittenUptoRow.holds Try.pinned (OpenSpec.upto typesWrittenSpec)

/-- 'assessorlaw11.ValueCounts', WHERE WHAT IT READS IS OF BULK AT MOST 1048576: true; the input reads as it did. -/
def valueCountsUptoRow : OpenClaim := { program := "yteidffcimidinaa", sum := "14ac7bd4f3d45beb57af52dbfd638180c9b0884bbd4d6fe253ebef8b52530c51", func := "assessor/assessorlaw11.ValueCounts", spec := "valueCounts", inPlace := ["internal/bytealg.IndexByteString", "internal/bytealg.IndexString", "internal/abi.NoEscape", "internal/bytealg.MakeNoZero"], unfollowed := true, recurses := true, named := ["internal/bytealg.MaxLen"], apart := false, narrowed := true }
def ValueCountsUptoSaid : Prop := valueCountsUptoRow.holds Try.pinned (OpenSpec.upto valueCountsSpec)

/-- 'assessorlaw11.ValueReads', WHERE WHAT IT READS IS OF BULK AT MOST 1048576: true; the input reads as it did. -/
def valueReadsUptoRow : OpenClaim := { program := "yteidffcimidinaa", sum := "14ac7bd4f3d45beb57af52dbfd638180c9b0884bbd4d6fe253ebef8b52530c51", func := "assessor/assessorlaw11.ValueReads", spec := "valueReads", inPlace := ["internal/bytealg.IndexByteString", "internal/bytealg.IndexString", "internal/abi.NoEscape", "internal/bytealg.MakeNoZero"], unfollowed := true, recurses := true, named := ["internal/bytealg.MaxLen"], apart := false, narrowed := true }
def ValueReadsUptoSaid : Prop := valueReadsUptoRow.holds Try.pinned (OpenSpec.upto valueReadsSpec)

end Rows
end Go.Proofs.Yteidffcimidinaa
