/-
  NARROWER THAN 'FOR EVERY INPUT', by the rows' own cells (each row's printed sentence says how): TreeShapes: loops · TreeBare: loops · TreeNumbers: loops · TreePaths: loops · TreeFinds: loops · TreeEdits: loops · TreeRestores: loops · TypesTrees: loops.
  DERIVED. THE GIVEN ROWS OF THIS SEAT. 8 by the template 'for every input the law returns true; each argument reads behind the call as it read before'; 0 by the template 'total and deterministic' (their statements: YtnbdogodcjhfiaaTotals.lean).
  GIVEN WITH THE SEED: the statements are not yours to turn. If you find one false, say at which input.
  Laid BY PROGRAM, IN A SANDBOX (cutbox-rows.mjs): the forced cells as the released guide's own fill.sh prints them over the translation 18a92d383759b907… (all of the seat's roots in one cut). By AI agents, Wed Nov 11 2026. No macro, syntax, notation, axiom, sorry.
-/
import Derived.Test.YtnbdogodcjhfiaaChecked
import GoSem.Claim
import GoSem.ClaimJoined
import GoSem.ClaimMapViews
import Derived.JoinedTies
import Derived.KernelRfl
namespace Go.Proofs.Ytnbdogodcjhfiaa
/- THE CELL 'sum', in the pinned program and in every row, IS THE sha256 OF THE DUMP (.gsa) THAT YtnbdogodcjhfiaaProg.lean LOADS. Nothing in Lean hashes anything: it is a label: what it is worth is what the hold of that sum in a sandbox is worth. -/
noncomputable def Try.pinned : Pinned := { name := "ytnbdogodcjhfiaa", sum := "18a92d383759b907b1b70cd4cc3f5a0dfe948fc098bb705488fd3f1a4c862eda", checked := Try.checked }
namespace Rows
def none {H : Type} : Left H := { results := [], args := [] }

/-- 'assessorlaw03.TreeShapes': WHATEVER THE INPUT: true; the input reads as it did. -/
def treeShapesSpec : ChangeSpec := { name := "treeShapes", fn := fun _ => fun
  | [d1, d2] => { results := [.lit (.bool true)], args := [d1, d2] }
  | _ => none }
def treeShapesRow : OpenClaim := { program := "ytnbdogodcjhfiaa", sum := "18a92d383759b907b1b70cd4cc3f5a0dfe948fc098bb705488fd3f1a4c862eda", func := "assessor/assessorlaw03.TreeShapes", spec := "treeShapes", unfollowed := true, recurses := true, loops := true, apart := false }
def TreeShapesSaid : Prop := treeShapesRow.holds Try.pinned (OpenSpec.ofChange treeShapesSpec)

/-- ITS FALSE NEIGHBOUR: 'it returns false'. Refute it at one input. -/
def treeShapesWrong : ChangeSpec := { name := "treeShapes", fn := fun _ => fun
  | [d1, d2] => { results := [.lit (.bool false)], args := [d1, d2] }
  | _ => none }
def TreeShapesWrongFalsely : Prop := treeShapesRow.holds Try.pinned (OpenSpec.ofChange treeShapesWrong)

/-- 'assessorlaw03.TreeBare': WHATEVER THE INPUT: true; the input reads as it did. -/
def treeBareSpec : ChangeSpec := { name := "treeBare", fn := fun _ => fun
  | [d] => { results := [.lit (.bool true)], args := [d] }
  | _ => none }
def treeBareRow : OpenClaim := { program := "ytnbdogodcjhfiaa", sum := "18a92d383759b907b1b70cd4cc3f5a0dfe948fc098bb705488fd3f1a4c862eda", func := "assessor/assessorlaw03.TreeBare", spec := "treeBare", unfollowed := true, recurses := true, loops := true, apart := false }
def TreeBareSaid : Prop := treeBareRow.holds Try.pinned (OpenSpec.ofChange treeBareSpec)

/-- ITS FALSE NEIGHBOUR: 'it returns false'. Refute it at one input. -/
def treeBareWrong : ChangeSpec := { name := "treeBare", fn := fun _ => fun
  | [d] => { results := [.lit (.bool false)], args := [d] }
  | _ => none }
def TreeBareWrongFalsely : Prop := treeBareRow.holds Try.pinned (OpenSpec.ofChange treeBareWrong)

/-- 'assessorlaw03.TreeNumbers': WHATEVER THE INPUT: true; the input reads as it did. -/
def treeNumbersSpec : ChangeSpec := { name := "treeNumbers", fn := fun _ => fun
  | [d1, d2, d3, d4] => { results := [.lit (.bool true)], args := [d1, d2, d3, d4] }
  | _ => none }
def treeNumbersRow : OpenClaim := { program := "ytnbdogodcjhfiaa", sum := "18a92d383759b907b1b70cd4cc3f5a0dfe948fc098bb705488fd3f1a4c862eda", func := "assessor/assessorlaw03.TreeNumbers", spec := "treeNumbers", unfollowed := true, recurses := true, loops := true, apart := false }
def TreeNumbersSaid : Prop := treeNumbersRow.holds Try.pinned (OpenSpec.ofChange treeNumbersSpec)

/-- ITS FALSE NEIGHBOUR: 'it returns false'. Refute it at one input. -/
def treeNumbersWrong : ChangeSpec := { name := "treeNumbers", fn := fun _ => fun
  | [d1, d2, d3, d4] => { results := [.lit (.bool false)], args := [d1, d2, d3, d4] }
  | _ => none }
def TreeNumbersWrongFalsely : Prop := treeNumbersRow.holds Try.pinned (OpenSpec.ofChange treeNumbersWrong)

/-- 'assessorlaw03.TreePaths': WHATEVER THE INPUT: true; the input reads as it did. -/
def treePathsSpec : ChangeSpec := { name := "treePaths", fn := fun _ => fun
  | [d] => { results := [.lit (.bool true)], args := [d] }
  | _ => none }
def treePathsRow : OpenClaim := { program := "ytnbdogodcjhfiaa", sum := "18a92d383759b907b1b70cd4cc3f5a0dfe948fc098bb705488fd3f1a4c862eda", func := "assessor/assessorlaw03.TreePaths", spec := "treePaths", unfollowed := true, recurses := true, loops := true, apart := false }
def TreePathsSaid : Prop := treePathsRow.holds Try.pinned (OpenSpec.ofChange treePathsSpec)

/-- ITS FALSE NEIGHBOUR: 'it returns false'. Refute it at one input. -/
def treePathsWrong : ChangeSpec := { name := "treePaths", fn := fun _ => fun
  | [d] => { results := [.lit (.bool false)], args := [d] }
  | _ => none }
def TreePathsWrongFalsely : Prop := treePathsRow.holds Try.pinned (OpenSpec.ofChange treePathsWrong)

/-- 'assessorlaw03.TreeFinds': WHATEVER THE INPUT: true; the input reads as it did. -/
def treeFindsSpec : ChangeSpec := { name := "treeFinds", fn := fun _ => fun
  | [d1, d2] => { results := [.lit (.bool true)], args := [d1, d2] }
  | _ => none }
def treeFindsRow : OpenClaim := { program := "ytnbdogodcjhfiaa", sum := "18a92d383759b907b1b70cd4cc3f5a0dfe948fc098bb705488fd3f1a4c862eda", func := "assessor/assessorlaw03.TreeFinds", spec := "treeFinds", unfollowed := true, recurses := true, loops := true, apart := false }
def TreeFindsSaid : Prop := treeFindsRow.holds Try.pinned (OpenSpec.ofChange treeFindsSpec)

/-- ITS FALSE NEIGHBOUR: 'it returns false'. Refute it at one input. -/
def treeFindsWrong : ChangeSpec := { name := "treeFinds", fn := fun _ => fun
  | [d1, d2] => { results := [.lit (.bool false)], args := [d1, d2] }
  | _ => none }
def TreeFindsWrongFalsely : Prop := treeFindsRow.holds Try.pinned (OpenSpec.ofChange treeFindsWrong)

/-- 'assessorlaw03.TreeEdits': WHATEVER THE INPUT: true; the input reads as it did. -/
def treeEditsSpec : ChangeSpec := { name := "treeEdits", fn := fun _ => fun
  | [d1, d2, d3, d4, d5, d6] => { results := [.lit (.bool true)], args := [d1, d2, d3, d4, d5, d6] }
  | _ => none }
def treeEditsRow : OpenClaim := { program := "ytnbdogodcjhfiaa", sum := "18a92d383759b907b1b70cd4cc3f5a0dfe948fc098bb705488fd3f1a4c862eda", func := "assessor/assessorlaw03.TreeEdits", spec := "treeEdits", unfollowed := true, recurses := true, loops := true, apart := false }
def TreeEditsSaid : Prop := treeEditsRow.holds Try.pinned (OpenSpec.ofChange treeEditsSpec)

/-- ITS FALSE NEIGHBOUR: 'it returns false'. Refute it at one input. -/
def treeEditsWrong : ChangeSpec := { name := "treeEdits", fn := fun _ => fun
  | [d1, d2, d3, d4, d5, d6] => { results := [.lit (.bool false)], args := [d1, d2, d3, d4, d5, d6] }
  | _ => none }
def TreeEditsWrongFalsely : Prop := treeEditsRow.holds Try.pinned (OpenSpec.ofChange treeEditsWrong)

/-- 'assessorlaw03.TreeRestores': WHATEVER THE INPUT: true; the input reads as it did. -/
def treeRestoresSpec : ChangeSpec := { name := "treeRestores", fn := fun _ => fun
  | [d1, d2, d3, d4, d5] => { results := [.lit (.bool true)], args := [d1, d2, d3, d4, d5] }
  | _ => none }
def treeRestoresRow : OpenClaim := { program := "ytnbdogodcjhfiaa", sum := "18a92d383759b907b1b70cd4cc3f5a0dfe948fc098bb705488fd3f1a4c862eda", func := "assessor/assessorlaw03.TreeRestores", spec := "treeRestores", unfollowed := true, recurses := true, loops := true, apart := false }
def TreeRestoresSaid : Prop := treeRestoresRow.holds Try.pinned (OpenSpec.ofChange treeRestoresSpec)

/-- ITS FALSE NEIGHBOUR: 'it returns false'. Refute it at one input. -/
def treeRestoresWrong : ChangeSpec := { name := "treeRestores", fn := fun _ => fun
  | [d1, d2, d3, d4, d5] => { results := [.lit (.bool false)], args := [d1, d2, d3, d4, d5] }
  | _ => none }
def TreeRestoresWrongFalsely : Prop := treeRestoresRow.holds Try.pinned (OpenSpec.ofChange treeRestoresWrong)

/-- 'assessorlaw08.TypesTrees': WHATEVER THE INPUT: true; the input reads as it did. -/
def typesTreesSpec : ChangeSpec := { name := "typesTrees", fn := fun _ => fun
  | [d1, d2] => { results := [.lit (.bool true)], args := [d1, d2] }
  | _ => none }
def typesTreesRow : OpenClaim := { program := "ytnbdogodcjhfiaa", sum := "18a92d383759b907b1b70cd4cc3f5a0dfe948fc098bb705488fd3f1a4c862eda", func := "assessor/assessorlaw08.TypesTrees", spec := "typesTrees", unfollowed := true, recurses := true, loops := true, apart := false }
def TypesTreesSaid : Prop := typesTreesRow.holds Try.pinned (OpenSpec.ofChange typesTreesSpec)

/-- ITS FALSE NEIGHBOUR: 'it returns false'. Refute it at one input. -/
def typesTreesWrong : ChangeSpec := { name := "typesTrees", fn := fun _ => fun
  | [d1, d2] => { results := [.lit (.bool false)], args := [d1, d2] }
  | _ => none }
def TypesTreesWrongFalsely : Prop := typesTreesRow.holds Try.pinned (OpenSpec.ofChange typesTreesWrong)

/- THE SECOND FORM. 'bulk': how many values and letters a reading holds, each counted each time it is reached (what is shared counts as often as it is met; a slice's spare places count too). A statement '..UptoSaid' is the law's where the arguments, and the package variables that the reading takes, are together of bulk at most 1048576: NARROWER than '..Said'. Prove '..Said' where nothing that the law and all that it calls make is longer than what came in: it says more and counts as full. Else prove '..UptoSaid'. A law counts once. -/
mutual
def uptoBulk {H : Type} : DataW H → Nat
  | .lit (.string bytes) => bytes.length + 1
  | .lit _ => 1
  | .nil => 1
  | .ptr d => uptoBulk d + 1
  | .slice elems spare => uptoBulkAll elems + uptoBulkAll spare + 1
  | .agg parts => uptoBulkAll parts + 1
  | .iface _ d => uptoBulk d + 1
  | .map entries => uptoBulkEntries entries + 1
  | .held _ => 1
def uptoBulkAll {H : Type} : List (DataW H) → Nat
  | [] => 0
  | d :: r => uptoBulk d + uptoBulkAll r
def uptoBulkEntries {H : Type} : List (Lit × DataW H) → Nat
  | [] => 0
  | x :: r => uptoBulkEntry x + uptoBulkEntries r
def uptoBulkEntry {H : Type} : Lit × DataW H → Nat
  | (.string bytes, d) => bytes.length + uptoBulk d + 1
  | (_, d) => uptoBulk d + 1
 end
def uptoSmall : (H : Type) → List (DataW H) → Bool := fun _ ds => decide (uptoBulkAll ds ≤ 1048576)
def OpenSpec.upto (s : _root_.Go.ChangeSpec) : _root_.Go.OpenSpec := { _root_.Go.OpenSpec.ofChange s with cond := some uptoSmall }

/-- 'assessorlaw03.TreeShapes', WHERE WHAT IT READS IS OF BULK AT MOST 1048576: true; the input reads as it did. -/
def treeShapesUptoRow : OpenClaim := { program := "ytnbdogodcjhfiaa", sum := "18a92d383759b907b1b70cd4cc3f5a0dfe948fc098bb705488fd3f1a4c862eda", func := "assessor/assessorlaw03.TreeShapes", spec := "treeShapes", unfollowed := true, recurses := true, loops := true, apart := false, narrowed := true }
def TreeShapesUptoSaid : Prop := treeShapesUptoRow.holds Try.pinned (OpenSpec.upto treeShapesSpec)

/-- 'assessorlaw03.TreeBare', WHERE WHAT IT READS IS OF BULK AT MOST 1048576: true; the input reads as it did. -/
def treeBareUptoRow : OpenClaim := { program := "ytnbdogodcjhfiaa", sum := "18a92d383759b907b1b70cd4cc3f5a0dfe948fc098bb705488fd3f1a4c862eda", func := "assessor/assessorlaw03.TreeBare", spec := "treeBare", unfollowed := true, recurses := true, loops := true, apart := false, narrowed := true }
def TreeBareUptoSaid : Prop := treeBareUptoRow.holds Try.pinned (OpenSpec.upto treeBareSpec)

/-- 'assessorlaw03.TreeNumbers', WHERE WHAT IT READS IS OF BULK AT MOST 1048576: true; the input reads as it did. -/
def treeNumbersUptoRow : OpenClaim := { program := "ytnbdogodcjhfiaa", sum := "18a92d383759b907b1b70cd4cc3f5a0dfe948fc098bb705488fd3f1a4c862eda", func := "assessor/assessorlaw03.TreeNumbers", spec := "treeNumbers", unfollowed := true, recurses := true, loops := true, apart := false, narrowed := true }
def TreeNumbersUptoSaid : Prop := treeNumbersUptoRow.holds Try.pinned (OpenSpec.upto treeNumbersSpec)

/-- 'assessorlaw03.TreePaths', WHERE WHAT IT READS IS OF BULK AT MOST 1048576: true; the input reads as it did. -/
def treePathsUptoRow : OpenClaim := { program := "ytnbdogodcjhfiaa", sum := "18a92d383759b907b1b70cd4cc3f5a0dfe948fc098bb705488fd3f1a4c862eda", func := "assessor/assessorlaw03.TreePaths", spec := "treePaths", unfollowed := true, recurses := true, loops := true, apart := false, narrowed := true }
def TreePathsUptoSaid : Prop := treePathsUptoRow.holds Try.pinned (OpenSpec.upto treePathsSpec)

/-- 'assessorlaw03.TreeFinds', WHERE WHAT IT READS IS OF BULK AT MOST 1048576: true; the input reads as it did. -/
def treeFindsUptoRow : OpenClaim := { program := "ytnbdogodcjhfiaa", sum := "18a92d383759b907b1b70cd4cc3f5a0dfe948fc098bb705488fd3f1a4c862eda", func := "assessor/assessorlaw03.TreeFinds", spec := "treeFinds", unfollowed := true, recurses := true, loops := true, apart := false, narrowed := true }
def TreeFindsUptoSaid : Prop := treeFindsUptoRow.holds Try.pinned (OpenSpec.upto treeFindsSpec)

/-- 'assessorlaw03.TreeEdits', WHERE WHAT IT READS IS OF BULK AT MOST 1048576: true; the input reads as it did. -/
def treeEditsUptoRow : OpenClaim := { program := "ytnbdogodcjhfiaa", sum := "18a92d383759b907b1b70cd4cc3f5a0dfe948fc098bb705488fd3f1a4c862eda", func := "assessor/assessorlaw03.TreeEdits", spec := "treeEdits", unfollowed := true, recurses := true, loops := true, apart := false, narrowed := true }
def TreeEditsUptoSaid : Prop := treeEditsUptoRow.holds Try.pinned (OpenSpec.upto treeEditsSpec)

/-- 'assessorlaw03.TreeRestores', WHERE WHAT IT READS IS OF BULK AT MOST 1048576: true; the input reads as it did. -/
def treeRestoresUptoRow : OpenClaim := { program := "ytnbdogodcjhfiaa", sum := "18a92d383759b907b1b70cd4cc3f5a0dfe948fc098bb705488fd3f1a4c862eda", func := "assessor/assessorlaw03.TreeRestores", spec := "treeRestores", unfollowed := true, recurses := true, loops := true, apart := false, narrowed := true }
def TreeRestoresUptoSaid : Prop := treeRestoresUptoRow.holds Try.pinned (OpenSpec.upto treeRestoresSpec)

/-- 'assessorlaw08.TypesTrees', WHERE WHAT IT READS IS OF BULK AT MOST 1048576: true; the input reads as it did. -/
def typesTreesUptoRow : OpenClaim := { program := "ytnbdogodcjhfiaa", sum := "18a92d383759b907b1b70cd4cc3f5a0dfe948fc098bb705488fd3f1a4c862eda", func := "assessor/assessorlaw08.TypesTrees", spec := "typesTrees", unfollowed := true, recurses := true, loops := true, apart := false, narrowed := true }
def TypesTreesUptoSaid : Prop := typesTreesUptoRow.holds Try.pinned (OpenSpec.upto typesTreesSpec)

end Rows
end Go.Proofs.Ytnbdogodcjhfiaa
