/-
  No cell of these rows narrows 'for every input' (looked for: loops, veiled, ifaces, maps, wideKeys, modest, calm, conditions, laid).
  DERIVED. THE GIVEN ROWS OF THIS SEAT. 6 by the template 'for every input the law returns true; each argument reads behind the call as it read before'; 0 by the template 'total and deterministic' (their statements: YtiibbkbcebccnaaTotals.lean).
  GIVEN WITH THE SEED: the statements are not yours to turn. If you find one false, say at which input.
  Laid BY PROGRAM, IN A SANDBOX (cutbox-rows.mjs): the forced cells as the released guide's own fill.sh prints them over the translation 7dd4b0f72e04c2df… (all of the seat's roots in one cut). By AI agents, Wed Nov 11 2026. No macro, syntax, notation, axiom, sorry.
-/
import Derived.Test.YtiibbkbcebccnaaChecked
import GoSem.Claim
import GoSem.ClaimJoined
import GoSem.ClaimMapViews
import Derived.JoinedTies
import Derived.KernelRfl
namespace Go.Proofs.Ytiibbkbcebccnaa
/- THE CELL 'sum', in the pinned program and in every row, IS THE sha256 OF THE DUMP (.gsa) THAT YtiibbkbcebccnaaProg.lean LOADS. Nothing in Lean hashes anything: it is a label: what it is worth is what the hold of that sum in a sandbox is worth. -/
noncomputable def Try.pinned : Pinned := { name := "ytiibbkbcebccnaa", sum := "7dd4b0f72e04c2dff90df109b961df848075c77159f5178e2fc09cdf31aeb7a2", checked := Try.checked }
namespace Rows
def none {H : Type} : Left H := { results := [], args := [] }

/-- 'assessorlaw01.TextTurns': WHATEVER THE INPUT: true; the input reads as it did. -/
def textTurnsSpec : ChangeSpec := { name := "textTurns", fn := fun _ => fun
  | [d1, d2] => { results := [.lit (.bool true)], args := [d1, d2] }
  | _ => none }
def textTurnsRow : OpenClaim := { program := "ytiibbkbcebccnaa", sum := "7dd4b0f72e04c2dff90df109b961df848075c77159f5178e2fc09cdf31aeb7a2", func := "assessor/assessorlaw01.TextTurns", spec := "textTurns", inPlace := ["internal/bytealg.CountString", "internal/bytealg.IndexByteString", "internal/bytealg.IndexString", "internal/abi.NoEscape"], unfollowed := true, recurses := true, named := ["internal/bytealg.MaxLen"], plainKeys := false, apart := false }
def TextTurnsSaid : Prop := textTurnsRow.holds Try.pinned (OpenSpec.ofChange textTurnsSpec)

/-- ITS FALSE NEIGHBOUR: 'it returns false'. Refute it at one input. -/
def textTurnsWrong : ChangeSpec := { name := "textTurns", fn := fun _ => fun
  | [d1, d2] => { results := [.lit (.bool false)], args := [d1, d2] }
  | _ => none }
def TextTurnsWrongFalsely : Prop := textTurnsRow.holds Try.pinned (OpenSpec.ofChange textTurnsWrong)

/-- 'assessorlaw01.TextMoves': WHATEVER THE INPUT: true; the input reads as it did. -/
def textMovesSpec : ChangeSpec := { name := "textMoves", fn := fun _ => fun
  | [d1, d2] => { results := [.lit (.bool true)], args := [d1, d2] }
  | _ => none }
def textMovesRow : OpenClaim := { program := "ytiibbkbcebccnaa", sum := "7dd4b0f72e04c2dff90df109b961df848075c77159f5178e2fc09cdf31aeb7a2", func := "assessor/assessorlaw01.TextMoves", spec := "textMoves", inPlace := ["internal/bytealg.CountString", "internal/bytealg.IndexByteString", "internal/bytealg.IndexString", "internal/abi.NoEscape"], unfollowed := true, recurses := true, named := ["internal/bytealg.MaxLen"], plainKeys := false, apart := false }
def TextMovesSaid : Prop := textMovesRow.holds Try.pinned (OpenSpec.ofChange textMovesSpec)

/-- ITS FALSE NEIGHBOUR: 'it returns false'. Refute it at one input. -/
def textMovesWrong : ChangeSpec := { name := "textMoves", fn := fun _ => fun
  | [d1, d2] => { results := [.lit (.bool false)], args := [d1, d2] }
  | _ => none }
def TextMovesWrongFalsely : Prop := textMovesRow.holds Try.pinned (OpenSpec.ofChange textMovesWrong)

/-- 'assessorlaw01.TextReplaces': WHATEVER THE INPUT: true; the input reads as it did. -/
def textReplacesSpec : ChangeSpec := { name := "textReplaces", fn := fun _ => fun
  | [d1, d2, d3] => { results := [.lit (.bool true)], args := [d1, d2, d3] }
  | _ => none }
def textReplacesRow : OpenClaim := { program := "ytiibbkbcebccnaa", sum := "7dd4b0f72e04c2dff90df109b961df848075c77159f5178e2fc09cdf31aeb7a2", func := "assessor/assessorlaw01.TextReplaces", spec := "textReplaces", inPlace := ["internal/bytealg.CountString", "internal/bytealg.IndexByteString", "internal/bytealg.IndexString", "internal/abi.NoEscape"], unfollowed := true, recurses := true, named := ["internal/bytealg.MaxLen"], plainKeys := false, apart := false }
def TextReplacesSaid : Prop := textReplacesRow.holds Try.pinned (OpenSpec.ofChange textReplacesSpec)

/-- ITS FALSE NEIGHBOUR: 'it returns false'. Refute it at one input. -/
def textReplacesWrong : ChangeSpec := { name := "textReplaces", fn := fun _ => fun
  | [d1, d2, d3] => { results := [.lit (.bool false)], args := [d1, d2, d3] }
  | _ => none }
def TextReplacesWrongFalsely : Prop := textReplacesRow.holds Try.pinned (OpenSpec.ofChange textReplacesWrong)

/-- 'assessorlaw01.TextUndo': WHATEVER THE INPUT: true; the input reads as it did. -/
def textUndoSpec : ChangeSpec := { name := "textUndo", fn := fun _ => fun
  | [d1, d2] => { results := [.lit (.bool true)], args := [d1, d2] }
  | _ => none }
def textUndoRow : OpenClaim := { program := "ytiibbkbcebccnaa", sum := "7dd4b0f72e04c2dff90df109b961df848075c77159f5178e2fc09cdf31aeb7a2", func := "assessor/assessorlaw01.TextUndo", spec := "textUndo", inPlace := ["internal/bytealg.CountString", "internal/bytealg.IndexByteString", "internal/bytealg.IndexString", "internal/abi.NoEscape"], unfollowed := true, recurses := true, named := ["internal/bytealg.MaxLen"], plainKeys := false, apart := false }
def TextUndoSaid : Prop := textUndoRow.holds Try.pinned (OpenSpec.ofChange textUndoSpec)

/-- ITS FALSE NEIGHBOUR: 'it returns false'. Refute it at one input. -/
def textUndoWrong : ChangeSpec := { name := "textUndo", fn := fun _ => fun
  | [d1, d2] => { results := [.lit (.bool false)], args := [d1, d2] }
  | _ => none }
def TextUndoWrongFalsely : Prop := textUndoRow.holds Try.pinned (OpenSpec.ofChange textUndoWrong)

/-- 'assessorlaw01.TextPositions': WHATEVER THE INPUT: true; the input reads as it did. -/
def textPositionsSpec : ChangeSpec := { name := "textPositions", fn := fun _ => fun
  | [d1, d2, d3, d4] => { results := [.lit (.bool true)], args := [d1, d2, d3, d4] }
  | _ => none }
def textPositionsRow : OpenClaim := { program := "ytiibbkbcebccnaa", sum := "7dd4b0f72e04c2dff90df109b961df848075c77159f5178e2fc09cdf31aeb7a2", func := "assessor/assessorlaw01.TextPositions", spec := "textPositions", inPlace := ["internal/bytealg.CountString", "internal/bytealg.IndexByteString", "internal/bytealg.IndexString", "internal/abi.NoEscape"], unfollowed := true, recurses := true, named := ["internal/bytealg.MaxLen"], plainKeys := false, apart := false }
def TextPositionsSaid : Prop := textPositionsRow.holds Try.pinned (OpenSpec.ofChange textPositionsSpec)

/-- ITS FALSE NEIGHBOUR: 'it returns false'. Refute it at one input. -/
def textPositionsWrong : ChangeSpec := { name := "textPositions", fn := fun _ => fun
  | [d1, d2, d3, d4] => { results := [.lit (.bool false)], args := [d1, d2, d3, d4] }
  | _ => none }
def TextPositionsWrongFalsely : Prop := textPositionsRow.holds Try.pinned (OpenSpec.ofChange textPositionsWrong)

/-- 'assessorlaw01.TextBijection': WHATEVER THE INPUT: true; the input reads as it did. -/
def textBijectionSpec : ChangeSpec := { name := "textBijection", fn := fun _ => fun
  | [d] => { results := [.lit (.bool true)], args := [d] }
  | _ => none }
def textBijectionRow : OpenClaim := { program := "ytiibbkbcebccnaa", sum := "7dd4b0f72e04c2dff90df109b961df848075c77159f5178e2fc09cdf31aeb7a2", func := "assessor/assessorlaw01.TextBijection", spec := "textBijection", inPlace := ["internal/bytealg.IndexByteString", "internal/bytealg.IndexString", "internal/bytealg.CountString", "internal/abi.NoEscape", "internal/bytealg.MakeNoZero"], unfollowed := true, recurses := true, named := ["internal/bytealg.MaxLen"], plainKeys := false, apart := false }
def TextBijectionSaid : Prop := textBijectionRow.holds Try.pinned (OpenSpec.ofChange textBijectionSpec)

/-- ITS FALSE NEIGHBOUR: 'it returns false'. Refute it at one input. -/
def textBijectionWrong : ChangeSpec := { name := "textBijection", fn := fun _ => fun
  | [d] => { results := [.lit (.bool false)], args := [d] }
  | _ => none }
def TextBijectionWrongFalsely : Prop := textBijectionRow.holds Try.pinned (OpenSpec.ofChange textBijectionWrong)

/- THE SECOND FORM. 'bulk': how many values and letters a reading holds, each counted each time it is reached (what is shared counts as often as it is met; a slice's spare places count too). A statement '..UptoSaid' is the law's where the arguments, and the package variables that the reading takes, are together of bulk at most 1048576: NARROWER than '..Said'. Prove '..Said' where nothing that the law and all that it calls make is longer than what came in: it says more and counts as full. Else prove '..UptoSaid'. A law counts once. -/
mutual
def uptoBulk {H : Type} : DataW H → Nat
  | .lit (.string bytes) => bytes.length + 1
  | .lit _ => 1
  | .nil => 1
  | .ptr d => uptoBulk d + 1
  | .slice elems spare => uptoBulkAll elems + uptoBulkAll spare + 1
  | .agg parts => uptoBulkAll parts + 1
  | .iface _ d => uptoBulk d + 1
  | .map entries => uptoBulkEntries entries + 1
  | .held _ => 1
def uptoBulkAll {H : Type} : List (DataW H) → Nat
  | [] => 0
  | d :: r => uptoBulk d + uptoBulkAll r
def uptoBulkEntries {H : Type} : List (Lit × DataW H) → Nat
  | [] => 0
  | x :: r => uptoBulkEntry x + uptoBulkEntries r
def uptoBulkEntry {H : Type} : Lit × DataW H → Nat
  | (.string bytes, d) => bytes.length + uptoBulk d + 1
  | (_, d) => uptoBulk d + 1
 end
def uptoSmall : (H : Type) → List (DataW H) → Bool := fun _ ds => decide (uptoBulkAll ds ≤ 1048576)
def OpenSpec.upto (s : _root_.Go.ChangeSpec) : _root_.Go.OpenSpec := { _root_.Go.OpenSpec.ofChange s with cond := some uptoSmall }

/-- 'assessorlaw01.TextTurns', WHERE WHAT IT READS IS OF BULK AT MOST 1048576: true; the input reads as it did. -/
def textTurnsUptoRow : OpenClaim := { program := "ytiibbkbcebccnaa", sum := "7dd4b0f72e04c2dff90df109b961df848075c77159f5178e2fc09cdf31aeb7a2", func := "assessor/assessorlaw01.TextTurns", spec := "textTurns", inPlace := ["internal/bytealg.CountString", "internal/bytealg.IndexByteString", "internal/bytealg.IndexString", "internal/abi.NoEscape"], unfollowed := true, recurses := true, named := ["internal/bytealg.MaxLen"], plainKeys := false, apart := false, narrowed := true }
def TextTurnsUptoSaid : Prop := textTurnsUptoRow.holds Try.pinned (OpenSpec.upto textTurnsSpec)

/-- 'assessorlaw01.TextMoves', WHERE WHAT IT READS IS OF BULK AT MOST 1048576: true; the input reads as it did. -/
def textMovesUptoRow : OpenClaim := { program := "ytiibbkbcebccnaa", sum := "7dd4b0f72e04c2dff90df109b961df848075c77159f5178e2fc09cdf31aeb7a2", func := "assessor/assessorlaw01.TextMoves", spec := "textMoves", inPlace := ["internal/bytealg.CountString", "internal/bytealg.IndexByteString", "internal/bytealg.IndexString", "internal/abi.NoEscape"], unfollowed := true, recurses := true, named := ["internal/bytealg.MaxLen"], plainKeys := false, apart := false, narrowed := true }
def TextMovesUptoSaid : Prop := textMovesUptoRow.holds Try.pinned (OpenSpec.upto textMovesSpec)

/-- 'assessorlaw01.TextReplaces', WHERE WHAT IT READS IS OF BULK AT MOST 1048576: true; the input reads as it did. -/
def textReplacesUptoRow : OpenClaim := { program := "ytiibbkbcebccnaa", sum := "7dd4b0f72e04c2dff90df109b961df848075c77159f5178e2fc09cdf31aeb7a2", func := "assessor/assessorlaw01.TextReplaces", spec := "textReplaces", inPlace := ["internal/bytealg.CountString", "internal/bytealg.IndexByteString", "internal/bytealg.IndexString", "internal/abi.NoEscape"], unfollowed := true, recurses := true, named := ["internal/bytealg.MaxLen"], plainKeys := false, apart := false, narrowed := true }
def TextReplacesUptoSaid : Prop := textReplacesUptoRow.holds Try.pinned (OpenSpec.upto textReplacesSpec)

/-- 'assessorlaw01.TextUndo', WHERE WHAT IT READS IS OF BULK AT MOST 1048576: true; the input reads as it did. -/
def textUndoUptoRow : OpenClaim := { program := "ytiibbkbcebccnaa", sum := "7dd4b0f72e04c2dff90df109b961df848075c77159f5178e2fc09cdf31aeb7a2", func := "assessor/assessorlaw01.TextUndo", spec := "textUndo", inPlace := ["internal/bytealg.CountString", "internal/bytealg.IndexByteString", "internal/bytealg.IndexString", "internal/abi.NoEscape"], unfollowed := true, recurses := true, named := ["internal/bytealg.MaxLen"], plainKeys := false, apart := false, narrowed := true }
def TextUndoUptoSaid : Prop := textUndoUptoRow.holds Try.pinned (OpenSpec.upto textUndoSpec)

/-- 'assessorlaw01.TextPositions', WHERE WHAT IT READS IS OF BULK AT MOST 1048576: true; the input reads as it did. -/
def textPositionsUptoRow : OpenClaim := { program := "ytiibbkbcebccnaa", sum := "7dd4b0f72e04c2dff90df109b961df848075c77159f5178e2fc09cdf31aeb7a2", func := "assessor/assessorlaw01.TextPositions", spec := "textPositions", inPlace := ["internal/bytealg.CountString", "internal/bytealg.IndexByteString", "internal/bytealg.IndexString", "internal/abi.NoEscape"], unfollowed := true, recurses := true, named := ["internal/bytealg.MaxLen"], plainKeys := false, apart := false, narrowed := true }
def TextPositionsUptoSaid : Prop := textPositionsUptoRow.holds Try.pinned (OpenSpec.upto textPositionsSpec)

/-- 'assessorlaw01.TextBijection', WHERE WHAT IT READS IS OF BULK AT MOST 1048576: true; the input reads as it did. -/
def textBijectionUptoRow : OpenClaim := { program := "ytiibbkbcebccnaa", sum := "7dd4b0f72e04c2dff90df109b961df848075c77159f5178e2fc09cdf31aeb7a2", func := "assessor/assessorlaw01.TextBijection", spec := "textBijection", inPlace := ["internal/bytealg.IndexByteString", "internal/bytealg.IndexString", "internal/bytealg.CountString", "internal/abi.NoEscape", "internal/bytealg.MakeNoZero"], unfollowed := true, recurses := true, named := ["internal/bytealg.MaxLen"], plainKeys := false, apart := false, narrowed := true }
def TextBijectionUptoSaid : Prop := textBijectionUptoRow.holds Try.pinned (OpenSpec.upto textBijectionSpec)

end Rows
end Go.Proofs.Ytiibbkbcebccnaa
