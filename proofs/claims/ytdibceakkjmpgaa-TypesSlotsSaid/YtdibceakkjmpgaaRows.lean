/-
  No cell of these rows narrows 'for every input' (looked for: loops, veiled, ifaces, maps, wideKeys, modest, calm, conditions, laid).
  DERIVED. THE GIVEN ROWS OF THIS SEAT. 5 by the template 'for every input the law returns true; each argument reads behind the call as it read before'; 0 by the template 'total and deterministic' (their statements: YtdibceakkjmpgaaTotals.lean).
  GIVEN WITH THE SEED: the statements are not yours to turn. If you find one false, say at which input.
  Laid BY PROGRAM, IN A SANDBOX (cutbox-rows.mjs): the forced cells as the released guide's own fill.sh prints them over the translation fb4a8884ccea01aa… (all of the seat's roots in one cut). By AI agents, Wed Nov 11 2026. No macro, syntax, notation, axiom, sorry.
-/
import Derived.Test.YtdibceakkjmpgaaChecked
import GoSem.Claim
import GoSem.ClaimJoined
import GoSem.ClaimMapViews
import Derived.JoinedTies
import Derived.KernelRfl
namespace Go.Proofs.Ytdibceakkjmpgaa
/- THE CELL 'sum', in the pinned program and in every row, IS THE sha256 OF THE DUMP (.gsa) THAT YtdibceakkjmpgaaProg.lean LOADS. Nothing in Lean hashes anything: it is a label: what it is worth is what the hold of that sum in a sandbox is worth. -/
noncomputable def Try.pinned : Pinned := { name := "ytdibceakkjmpgaa", sum := "fb4a8884ccea01aa2d57888f4638d3a7ee6d26adee70f5c02a0f319b50d177c8", checked := Try.checked }
namespace Rows
def none {H : Type} : Left H := { results := [], args := [] }

/-- 'assessorlaw02.LexerForms': WHATEVER THE INPUT: true; the input reads as it did. -/
def lexerFormsSpec : ChangeSpec := { name := "lexerForms", fn := fun _ => fun
  | [d1, d2] => { results := [.lit (.bool true)], args := [d1, d2] }
  | _ => none }
def lexerFormsRow : OpenClaim := { program := "ytdibceakkjmpgaa", sum := "fb4a8884ccea01aa2d57888f4638d3a7ee6d26adee70f5c02a0f319b50d177c8", func := "assessor/assessorlaw02.LexerForms", spec := "lexerForms", unfollowed := true, recurses := true, apart := false }
def LexerFormsSaid : Prop := lexerFormsRow.holds Try.pinned (OpenSpec.ofChange lexerFormsSpec)

/-- ITS FALSE NEIGHBOUR: 'it returns false'. Refute it at one input. -/
def lexerFormsWrong : ChangeSpec := { name := "lexerForms", fn := fun _ => fun
  | [d1, d2] => { results := [.lit (.bool false)], args := [d1, d2] }
  | _ => none }
def LexerFormsWrongFalsely : Prop := lexerFormsRow.holds Try.pinned (OpenSpec.ofChange lexerFormsWrong)

/-- 'assessorlaw08.TypesForms': WHATEVER THE INPUT: true; the input reads as it did. -/
def typesFormsSpec : ChangeSpec := { name := "typesForms", fn := fun _ => fun
  | [d1, d2] => { results := [.lit (.bool true)], args := [d1, d2] }
  | _ => none }
def typesFormsRow : OpenClaim := { program := "ytdibceakkjmpgaa", sum := "fb4a8884ccea01aa2d57888f4638d3a7ee6d26adee70f5c02a0f319b50d177c8", func := "assessor/assessorlaw08.TypesForms", spec := "typesForms", unfollowed := true, recurses := true, apart := false }
def TypesFormsSaid : Prop := typesFormsRow.holds Try.pinned (OpenSpec.ofChange typesFormsSpec)

/-- ITS FALSE NEIGHBOUR: 'it returns false'. Refute it at one input. -/
def typesFormsWrong : ChangeSpec := { name := "typesForms", fn := fun _ => fun
  | [d1, d2] => { results := [.lit (.bool false)], args := [d1, d2] }
  | _ => none }
def TypesFormsWrongFalsely : Prop := typesFormsRow.holds Try.pinned (OpenSpec.ofChange typesFormsWrong)

/-- 'assessorlaw08.TypesSlots': WHATEVER THE INPUT: true; the input reads as it did. -/
def typesSlotsSpec : ChangeSpec := { name := "typesSlots", fn := fun _ => fun
  | [d1, d2] => { results := [.lit (.bool true)], args := [d1, d2] }
  | _ => none }
def typesSlotsRow : OpenClaim := { program := "ytdibceakkjmpgaa", sum := "fb4a8884ccea01aa2d57888f4638d3a7ee6d26adee70f5c02a0f319b50d177c8", func := "assessor/assessorlaw08.TypesSlots", spec := "typesSlots", unfollowed := true, recurses := true, apart := false }
def TypesSlotsSaid : Prop := typesSlotsRow.holds Try.pinned (OpenSpec.ofChange typesSlotsSpec)

/-- ITS FALSE NEIGHBOUR: 'it returns false'. Refute it at one input. -/
def typesSlotsWrong : ChangeSpec := { name := "typesSlots", fn := fun _ => fun
  | [d1, d2] => { results := [.lit (.bool false)], args := [d1, d2] }
  | _ => none }
def TypesSlotsWrongFalsely : Prop := typesSlotsRow.holds Try.pinned (OpenSpec.ofChange typesSlotsWrong)

/-- 'assessorlaw08.TypesSame': WHATEVER THE INPUT: true; the input reads as it did. -/
def typesSameSpec : ChangeSpec := { name := "typesSame", fn := fun _ => fun
  | [d1, d2, d3, d4] => { results := [.lit (.bool true)], args := [d1, d2, d3, d4] }
  | _ => none }
def typesSameRow : OpenClaim := { program := "ytdibceakkjmpgaa", sum := "fb4a8884ccea01aa2d57888f4638d3a7ee6d26adee70f5c02a0f319b50d177c8", func := "assessor/assessorlaw08.TypesSame", spec := "typesSame", unfollowed := true, recurses := true, apart := false }
def TypesSameSaid : Prop := typesSameRow.holds Try.pinned (OpenSpec.ofChange typesSameSpec)

/-- ITS FALSE NEIGHBOUR: 'it returns false'. Refute it at one input. -/
def typesSameWrong : ChangeSpec := { name := "typesSame", fn := fun _ => fun
  | [d1, d2, d3, d4] => { results := [.lit (.bool false)], args := [d1, d2, d3, d4] }
  | _ => none }
def TypesSameWrongFalsely : Prop := typesSameRow.holds Try.pinned (OpenSpec.ofChange typesSameWrong)

/-- 'assessorlaw08.TypesWritten': WHATEVER THE INPUT: true; the input reads as it did. -/
def typesWrittenSpec : ChangeSpec := { name := "typesWritten", fn := fun _ => fun
  | [d1, d2] => { results := [.lit (.bool true)], args := [d1, d2] }
  | _ => none }
def typesWrittenRow : OpenClaim := { program := "ytdibceakkjmpgaa", sum := "fb4a8884ccea01aa2d57888f4638d3a7ee6d26adee70f5c02a0f319b50d177c8", func := "assessor/assessorlaw08.TypesWritten", spec := "typesWritten", unfollowed := true, recurses := true, apart := false }
def TypesWrittenSaid : Prop := typesWrittenRow.holds Try.pinned (OpenSpec.ofChange typesWrittenSpec)

/-- ITS FALSE NEIGHBOUR: 'it returns false'. Refute it at one input. -/
def typesWrittenWrong : ChangeSpec := { name := "typesWritten", fn := fun _ => fun
  | [d1, d2] => { results := [.lit (.bool false)], args := [d1, d2] }
  | _ => none }
def TypesWrittenWrongFalsely : Prop := typesWrittenRow.holds Try.pinned (OpenSpec.ofChange typesWrittenWrong)

/- THE SECOND FORM. 'bulk': how many values and letters a reading holds, each counted each time it is reached (what is shared counts as often as it is met; a slice's spare places count too). A statement '..UptoSaid' is the law's where the arguments, and the package variables that the reading takes, are together of bulk at most 1048576: NARROWER than '..Said'. Prove '..Said' where nothing that the law and all that it calls make is longer than what came in: it says more and counts as full. Else prove '..UptoSaid'. A law counts once. -/
mutual
def uptoBulk {H : Type} : DataW H → Nat
  | .lit (.string bytes) => bytes.length + 1
  | .lit _ => 1
  | .nil => 1
  | .ptr d => uptoBulk d + 1
  | .slice elems spare => uptoBulkAll elems + uptoBulkAll spare + 1
  | .agg parts => uptoBulkAll parts + 1
  | .iface _ d => uptoBulk d + 1
  | .map entries => uptoBulkEntries entries + 1
  | .held _ => 1
def uptoBulkAll {H : Type} : List (DataW H) → Nat
  | [] => 0
  | d :: r => uptoBulk d + uptoBulkAll r
def uptoBulkEntries {H : Type} : List (Lit × DataW H) → Nat
  | [] => 0
  | x :: r => uptoBulkEntry x + uptoBulkEntries r
def uptoBulkEntry {H : Type} : Lit × DataW H → Nat
  | (.string bytes, d) => bytes.length + uptoBulk d + 1
  | (_, d) => uptoBulk d + 1
 end
def uptoSmall : (H : Type) → List (DataW H) → Bool := fun _ ds => decide (uptoBulkAll ds ≤ 1048576)
def OpenSpec.upto (s : _root_.Go.ChangeSpec) : _root_.Go.OpenSpec := { _root_.Go.OpenSpec.ofChange s with cond := some uptoSmall }

/-- 'assessorlaw02.LexerForms', WHERE WHAT IT READS IS OF BULK AT MOST 1048576: true; the input reads as it did. -/
def lexerFormsUptoRow : OpenClaim := { program := "ytdibceakkjmpgaa", sum := "fb4a8884ccea01aa2d57888f4638d3a7ee6d26adee70f5c02a0f319b50d177c8", func := "assessor/assessorlaw02.LexerForms", spec := "lexerForms", unfollowed := true, recurses := true, apart := false, narrowed := true }
def LexerFormsUptoSaid : Prop := lexerFormsUptoRow.holds Try.pinned (OpenSpec.upto lexerFormsSpec)

/-- 'assessorlaw08.TypesForms', WHERE WHAT IT READS IS OF BULK AT MOST 1048576: true; the input reads as it did. -/
def typesFormsUptoRow : OpenClaim := { program := "ytdibceakkjmpgaa", sum := "fb4a8884ccea01aa2d57888f4638d3a7ee6d26adee70f5c02a0f319b50d177c8", func := "assessor/assessorlaw08.TypesForms", spec := "typesForms", unfollowed := true, recurses := true, apart := false, narrowed := true }
def TypesFormsUptoSaid : Prop := typesFormsUptoRow.holds Try.pinned (OpenSpec.upto typesFormsSpec)

/-- 'assessorlaw08.TypesSlots', WHERE WHAT IT READS IS OF BULK AT MOST 1048576: true; the input reads as it did. -/
def typesSlotsUptoRow : OpenClaim := { program := "ytdibceakkjmpgaa", sum := "fb4a8884ccea01aa2d57888f4638d3a7ee6d26adee70f5c02a0f319b50d177c8", func := "assessor/assessorlaw08.TypesSlots", spec := "typesSlots", unfollowed := true, recurses := true, apart := false, narrowed := true }
def TypesSlotsUptoSaid : Prop := typesSlotsUptoRow.holds Try.pinned (OpenSpec.upto typesSlotsSpec)

/-- 'assessorlaw08.TypesSame', WHERE WHAT IT READS IS OF BULK AT MOST 1048576: true; the input reads as it did. -/
def typesSameUptoRow : OpenClaim := { program := "ytdibceakkjmpgaa", sum := "fb4a8884ccea01aa2d57888f4638d3a7ee6d26adee70f5c02a0f319b50d177c8", func := "assessor/assessorlaw08.TypesSame", spec := "typesSame", unfollowed := true, recurses := true, apart := false, narrowed := true }
def TypesSameUptoSaid : Prop := typesSameUptoRow.holds Try.pinned (OpenSpec.upto typesSameSpec)

/-- 'assessorlaw08.TypesWritten', WHERE WHAT IT READS IS OF BULK AT MOST 1048576: true; the input reads as it did. -/
def typesWrittenUptoRow : OpenClaim := { program := "ytdibceakkjmpgaa", sum := "fb4a8884ccea01aa2d57888f4638d3a7ee6d26adee70f5c02a0f319b50d177c8", func := "assessor/assessorlaw08.TypesWritten", spec := "typesWritten", unfollowed := true, recurses := true, apart := false, narrowed := true }
def TypesWrittenUptoSaid : Prop := typesWrittenUptoRow.holds Try.pinned (OpenSpec.upto typesWrittenSpec)

end Rows
end Go.Proofs.Ytdibceakkjmpgaa
