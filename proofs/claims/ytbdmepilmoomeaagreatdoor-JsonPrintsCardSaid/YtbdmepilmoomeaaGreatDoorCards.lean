/-
  DERIVED. GIVEN WITH THE SEED: THE CARDS: each row of YtbdmepilmoomeaaGreatDoorRows.lean that lists a variable, with what it lists TIED to the program's text (the seventh form; the later family's looks); each row that meets fmt, with fmt's text TOLD by the authors' own Lean function (tested against real Go, not proved from fmt's source: count such statements apart). THE CARD IS WHAT COUNTS. Prove the row's statement (the work); the ties are given (YtbdmepilmoomeaaGreatDoorTie.lean); close each card by the builder's one call (the guide's Derived/Test/ToyasCard.lean, 'card_holds'). Laid BY PROGRAM, IN A SANDBOX (cutbox-door.mjs). By AI agents, Wed Nov 11 2026. No macro, syntax, notation, axiom, sorry.
-/
import Derived.Test.YtbdmepilmoomeaaGreatDoorRows
import GoSem.ClaimSeven
namespace Go.Proofs.YtbdmepilmoomeaaGreatDoor
namespace Rows

/-- THE TIED CARD OF 'codexlaw19.JsonReads'. -/
def jsonReadsCard : Claim7 := { stood := { row := jsonReadsRow, standIns := [], harness := (true, "a46396e81b660a4e0f6a001ef1d7989e552e367c858a4fff0a604ca09a4ffc21"), looks := true }, kinds := [], alts := [], laidByText := true, laidKinds := [.data, .data, .data, .data, .sentinel, .sentinel, .pinned], laidTests := true, laidLooks := .later }
def JsonReadsCardSaid : Prop := Claim7.holds Tryz.pinned (.plain (OpenSpec.ofChange jsonReadsSpec)) jsonReadsCard

/-- THE TIED CARD OF 'codexlaw19.JsonInts'. -/
def jsonIntsCard : Claim7 := { stood := { row := jsonIntsRow, standIns := [], harness := (true, "a46396e81b660a4e0f6a001ef1d7989e552e367c858a4fff0a604ca09a4ffc21"), looks := true }, kinds := [], alts := [], laidByText := true, laidKinds := [.data, .data, .data, .data, .sentinel, .sentinel, .pinned], laidTests := true, laidLooks := .later }
def JsonIntsCardSaid : Prop := Claim7.holds Tryz.pinned (.plain (OpenSpec.ofChange jsonIntsSpec)) jsonIntsCard

/-- THE TIED CARD OF 'codexlaw19.JsonPrints'. -/
def jsonPrintsCard : Claim7 := { stood := { row := jsonPrintsRow, standIns := [], harness := (true, "a46396e81b660a4e0f6a001ef1d7989e552e367c858a4fff0a604ca09a4ffc21"), looks := true }, kinds := [], alts := [], laidByText := true, laidKinds := [.data, .data, .data, .data, .sentinel, .sentinel, .pinned], laidTests := true, laidLooks := .later }
def JsonPrintsCardSaid : Prop := Claim7.holds Tryz.pinned (.plain (OpenSpec.ofChange jsonPrintsSpec)) jsonPrintsCard

/-- THE SECOND FORM's CARD OF 'codexlaw19.JsonReads'. -/
def jsonReadsUptoCard : Claim7 := { stood := { row := jsonReadsUptoRow, standIns := [], harness := (true, "a46396e81b660a4e0f6a001ef1d7989e552e367c858a4fff0a604ca09a4ffc21"), looks := true }, kinds := [], alts := [], laidByText := true, laidKinds := [.data, .data, .data, .data, .sentinel, .sentinel, .pinned], laidTests := true, laidLooks := .later }
def JsonReadsUptoCardSaid : Prop := Claim7.holds Tryz.pinned (.plain (OpenSpec.upto jsonReadsSpec)) jsonReadsUptoCard

/-- THE SECOND FORM's CARD OF 'codexlaw19.JsonInts'. -/
def jsonIntsUptoCard : Claim7 := { stood := { row := jsonIntsUptoRow, standIns := [], harness := (true, "a46396e81b660a4e0f6a001ef1d7989e552e367c858a4fff0a604ca09a4ffc21"), looks := true }, kinds := [], alts := [], laidByText := true, laidKinds := [.data, .data, .data, .data, .sentinel, .sentinel, .pinned], laidTests := true, laidLooks := .later }
def JsonIntsUptoCardSaid : Prop := Claim7.holds Tryz.pinned (.plain (OpenSpec.upto jsonIntsSpec)) jsonIntsUptoCard

/-- THE SECOND FORM's CARD OF 'codexlaw19.JsonPrints'. -/
def jsonPrintsUptoCard : Claim7 := { stood := { row := jsonPrintsUptoRow, standIns := [], harness := (true, "a46396e81b660a4e0f6a001ef1d7989e552e367c858a4fff0a604ca09a4ffc21"), looks := true }, kinds := [], alts := [], laidByText := true, laidKinds := [.data, .data, .data, .data, .sentinel, .sentinel, .pinned], laidTests := true, laidLooks := .later }
def JsonPrintsUptoCardSaid : Prop := Claim7.holds Tryz.pinned (.plain (OpenSpec.upto jsonPrintsSpec)) jsonPrintsUptoCard
end Rows
end Go.Proofs.YtbdmepilmoomeaaGreatDoor
