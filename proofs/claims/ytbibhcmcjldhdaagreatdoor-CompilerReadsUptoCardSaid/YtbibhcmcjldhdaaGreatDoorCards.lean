/-
  DERIVED. GIVEN WITH THE SEED: THE CARDS: each row of YtbibhcmcjldhdaaGreatDoorRows.lean that lists a variable, with what it lists TIED to the program's text (the seventh form; the later family's looks); each row that meets fmt, with fmt's text TOLD by the authors' own Lean function (tested against real Go, not proved from fmt's source: count such statements apart). THE CARD IS WHAT COUNTS. Prove the row's statement (the work); the ties are given (YtbibhcmcjldhdaaGreatDoorTie.lean); close each card by the builder's one call (the guide's Derived/Test/ToyasCard.lean, 'card_holds'). Laid BY PROGRAM, IN A SANDBOX (cutbox-door.mjs). By AI agents, Wed Nov 11 2026. No macro, syntax, notation, axiom, sorry.
-/
import Derived.Test.YtbibhcmcjldhdaaGreatDoorRows
import GoSem.ClaimSeven
namespace Go.Proofs.YtbibhcmcjldhdaaGreatDoor
namespace Rows

/-- THE TIED CARD OF 'assessorlaw14.CompilerCosts'. -/
def compilerCostsCard : Claim7 := { stood := { row := compilerCostsRow, standIns := [], harness := (true, "8271c58bbf87d7c288808d539b5a6e77da1b4138b5b4b3df20c624c39563205c"), looks := true }, kinds := [], alts := [], laidByText := true, laidKinds := [.data, .data, .data], laidTests := true, laidLooks := .later }
def CompilerCostsCardSaid : Prop := Claim7.holds Tryz.pinned (.plain (OpenSpec.ofChange compilerCostsSpec)) compilerCostsCard

/-- THE TIED CARD OF 'assessorlaw14.CompilerParses'. -/
def compilerParsesCard : Claim7 := { stood := { row := compilerParsesRow, standIns := [], harness := (true, "8271c58bbf87d7c288808d539b5a6e77da1b4138b5b4b3df20c624c39563205c"), looks := true }, kinds := [], alts := [], laidByText := true, laidKinds := [.data, .data, .data, .data, .pinned], laidTests := true, laidLooks := .later }
def CompilerParsesCardSaid : Prop := Claim7.holds Tryz.pinned (.plain (OpenSpec.ofChange compilerParsesSpec)) compilerParsesCard

/-- THE TIED CARD OF 'assessorlaw14.CompilerReads'. -/
def compilerReadsCard : Claim7 := { stood := { row := compilerReadsRow, standIns := [], harness := (true, "8271c58bbf87d7c288808d539b5a6e77da1b4138b5b4b3df20c624c39563205c"), looks := true }, kinds := [], alts := [], laidByText := true, laidKinds := [.data, .data, .data, .data, .pinned], laidTests := true, laidLooks := .later }
def CompilerReadsCardSaid : Prop := Claim7.holds Tryz.pinned (.plain (OpenSpec.ofChange compilerReadsSpec)) compilerReadsCard

/-- THE SECOND FORM's CARD OF 'assessorlaw14.CompilerCosts'. -/
def compilerCostsUptoCard : Claim7 := { stood := { row := compilerCostsUptoRow, standIns := [], harness := (true, "8271c58bbf87d7c288808d539b5a6e77da1b4138b5b4b3df20c624c39563205c"), looks := true }, kinds := [], alts := [], laidByText := true, laidKinds := [.data, .data, .data], laidTests := true, laidLooks := .later }
def CompilerCostsUptoCardSaid : Prop := Claim7.holds Tryz.pinned (.plain (OpenSpec.upto compilerCostsSpec)) compilerCostsUptoCard

/-- THE SECOND FORM's CARD OF 'assessorlaw14.CompilerParses'. -/
def compilerParsesUptoCard : Claim7 := { stood := { row := compilerParsesUptoRow, standIns := [], harness := (true, "8271c58bbf87d7c288808d539b5a6e77da1b4138b5b4b3df20c624c39563205c"), looks := true }, kinds := [], alts := [], laidByText := true, laidKinds := [.data, .data, .data, .data, .pinned], laidTests := true, laidLooks := .later }
def CompilerParsesUptoCardSaid : Prop := Claim7.holds Tryz.pinned (.plain (OpenSpec.upto compilerParsesSpec)) compilerParsesUptoCard

/-- THE SECOND FORM's CARD OF 'assessorlaw14.CompilerReads'. -/
def compilerReadsUptoCard : Claim7 := { stood := { row := compilerReadsUptoRow, standIns := [], harness := (true, "8271c58bbf87d7c288808d539b5a6e77da1b4138b5b4b3df20c624c39563205c"), looks := true }, kinds := [], alts := [], laidByText := true, laidKinds := [.data, .data, .data, .data, .pinned], laidTests := true, laidLooks := .later }
def CompilerReadsUptoCardSaid : Prop := Claim7.holds Tryz.pinned (.plain (OpenSpec.upto compilerReadsSpec)) compilerReadsUptoCard
end Rows
end Go.Proofs.YtbibhcmcjldhdaaGreatDoor
