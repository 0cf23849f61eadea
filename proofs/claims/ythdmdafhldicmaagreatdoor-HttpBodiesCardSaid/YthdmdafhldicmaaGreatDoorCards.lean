/-
  DERIVED. GIVEN WITH THE SEED: THE CARDS: each row of YthdmdafhldicmaaGreatDoorRows.lean that lists a variable, with what it lists TIED to the program's text (the seventh form; the later family's looks); each row that meets fmt, with fmt's text TOLD by the authors' own Lean function (tested against real Go, not proved from fmt's source: count such statements apart). THE CARD IS WHAT COUNTS. Prove the row's statement (the work); the ties are given (YthdmdafhldicmaaGreatDoorTie.lean); close each card by the builder's one call (the guide's Derived/Test/ToyasCard.lean, 'card_holds'). Laid BY PROGRAM, IN A SANDBOX (cutbox-door.mjs). By AI agents, Wed Nov 11 2026. No macro, syntax, notation, axiom, sorry.
-/
import Derived.Test.YthdmdafhldicmaaGreatDoorRows
import GoSem.ClaimSeven
namespace Go.Proofs.YthdmdafhldicmaaGreatDoor
namespace Rows

/-- THE TIED CARD OF 'codexlaw20.HttpGoesOn'. -/
def httpGoesOnCard : Claim7 := { stood := { row := httpGoesOnRow, standIns := [], harness := (true, "2d6139bfe2a6542c1b2ffedae58a8d105f50a481a2f68583e40b71bdbc774a64"), looks := true }, kinds := [], alts := [], laidByText := true, laidKinds := [.data, .data, .data, .data, .sentinel, .sentinel, .pinned], laidTests := true, laidLooks := .later }
def HttpGoesOnCardSaid : Prop := Claim7.holds Tryz.pinned (.plain (OpenSpec.ofChange httpGoesOnSpec)) httpGoesOnCard

/-- THE TIED CARD OF 'codexlaw20.HttpBodies'. -/
def httpBodiesCard : Claim7 := { stood := { row := httpBodiesRow, standIns := [], harness := (true, "2d6139bfe2a6542c1b2ffedae58a8d105f50a481a2f68583e40b71bdbc774a64"), looks := true }, kinds := [], alts := [], laidByText := true, laidKinds := [.data, .data, .data, .data, .sentinel, .sentinel, .pinned], laidTests := true, laidLooks := .later }
def HttpBodiesCardSaid : Prop := Claim7.holds Tryz.pinned (.plain (OpenSpec.ofChange httpBodiesSpec)) httpBodiesCard

/-- THE TIED CARD OF 'codexlaw20.HttpRows'. -/
def httpRowsCard : Claim7 := { stood := { row := httpRowsRow, standIns := [], harness := (true, "2d6139bfe2a6542c1b2ffedae58a8d105f50a481a2f68583e40b71bdbc774a64"), looks := true }, kinds := [], alts := [], laidByText := true, laidKinds := [.data, .data, .data, .data, .sentinel, .sentinel, .pinned], laidTests := true, laidLooks := .later }
def HttpRowsCardSaid : Prop := Claim7.holds Tryz.pinned (.plain (OpenSpec.ofChange httpRowsSpec)) httpRowsCard

/-- THE TIED CARD OF 'codexlaw20.HttpNames'. -/
def httpNamesCard : Claim7 := { stood := { row := httpNamesRow, standIns := [], harness := (true, "2d6139bfe2a6542c1b2ffedae58a8d105f50a481a2f68583e40b71bdbc774a64"), looks := true }, kinds := [], alts := [], laidByText := true, laidKinds := [.data, .data, .data, .data, .sentinel, .sentinel, .pinned], laidTests := true, laidLooks := .later }
def HttpNamesCardSaid : Prop := Claim7.holds Tryz.pinned (.plain (OpenSpec.ofChange httpNamesSpec)) httpNamesCard

/-- THE TIED CARD OF 'codexlaw20.HttpLengths'. -/
def httpLengthsCard : Claim7 := { stood := { row := httpLengthsRow, standIns := [], harness := (true, "2d6139bfe2a6542c1b2ffedae58a8d105f50a481a2f68583e40b71bdbc774a64"), looks := true }, kinds := [], alts := [], laidByText := true, laidKinds := [.data, .data, .data, .data, .sentinel, .sentinel, .pinned], laidTests := true, laidLooks := .later }
def HttpLengthsCardSaid : Prop := Claim7.holds Tryz.pinned (.plain (OpenSpec.ofChange httpLengthsSpec)) httpLengthsCard

/-- THE TIED CARD OF 'codexlaw20.HttpWrites'. -/
def httpWritesCard : Claim7 := { stood := { row := httpWritesRow, standIns := [], harness := (true, "2d6139bfe2a6542c1b2ffedae58a8d105f50a481a2f68583e40b71bdbc774a64"), looks := true }, kinds := [], alts := [], laidByText := true, laidKinds := [.data, .data, .data, .data, .sentinel, .sentinel, .pinned], laidTests := true, laidLooks := .later }
def HttpWritesCardSaid : Prop := Claim7.holds Tryz.pinned (.plain (OpenSpec.ofChange httpWritesSpec)) httpWritesCard

/-- THE TIED CARD OF 'codexlaw20.HttpDecodes'. -/
def httpDecodesCard : Claim7 := { stood := { row := httpDecodesRow, standIns := [], harness := (true, "2d6139bfe2a6542c1b2ffedae58a8d105f50a481a2f68583e40b71bdbc774a64"), looks := true }, kinds := [], alts := [], laidByText := true, laidKinds := [.data, .data, .data, .data, .sentinel, .sentinel, .pinned], laidTests := true, laidLooks := .later }
def HttpDecodesCardSaid : Prop := Claim7.holds Tryz.pinned (.plain (OpenSpec.ofChange httpDecodesSpec)) httpDecodesCard

/-- THE SECOND FORM's CARD OF 'codexlaw20.HttpGoesOn'. -/
def httpGoesOnUptoCard : Claim7 := { stood := { row := httpGoesOnUptoRow, standIns := [], harness := (true, "2d6139bfe2a6542c1b2ffedae58a8d105f50a481a2f68583e40b71bdbc774a64"), looks := true }, kinds := [], alts := [], laidByText := true, laidKinds := [.data, .data, .data, .data, .sentinel, .sentinel, .pinned], laidTests := true, laidLooks := .later }
def HttpGoesOnUptoCardSaid : Prop := Claim7.holds Tryz.pinned (.plain (OpenSpec.upto httpGoesOnSpec)) httpGoesOnUptoCard

/-- THE SECOND FORM's CARD OF 'codexlaw20.HttpBodies'. -/
def httpBodiesUptoCard : Claim7 := { stood := { row := httpBodiesUptoRow, standIns := [], harness := (true, "2d6139bfe2a6542c1b2ffedae58a8d105f50a481a2f68583e40b71bdbc774a64"), looks := true }, kinds := [], alts := [], laidByText := true, laidKinds := [.data, .data, .data, .data, .sentinel, .sentinel, .pinned], laidTests := true, laidLooks := .later }
def HttpBodiesUptoCardSaid : Prop := Claim7.holds Tryz.pinned (.plain (OpenSpec.upto httpBodiesSpec)) httpBodiesUptoCard

/-- THE SECOND FORM's CARD OF 'codexlaw20.HttpRows'. -/
def httpRowsUptoCard : Claim7 := { stood := { row := httpRowsUptoRow, standIns := [], harness := (true, "2d6139bfe2a6542c1b2ffedae58a8d105f50a481a2f68583e40b71bdbc774a64"), looks := true }, kinds := [], alts := [], laidByText := true, laidKinds := [.data, .data, .data, .data, .sentinel, .sentinel, .pinned], laidTests := true, laidLooks := .later }
def HttpRowsUptoCardSaid : Prop := Claim7.holds Tryz.pinned (.plain (OpenSpec.upto httpRowsSpec)) httpRowsUptoCard

/-- THE SECOND FORM's CARD OF 'codexlaw20.HttpNames'. -/
def httpNamesUptoCard : Claim7 := { stood := { row := httpNamesUptoRow, standIns := [], harness := (true, "2d6139bfe2a6542c1b2ffedae58a8d105f50a481a2f68583e40b71bdbc774a64"), looks := true }, kinds := [], alts := [], laidByText := true, laidKinds := [.data, .data, .data, .data, .sentinel, .sentinel, .pinned], laidTests := true, laidLooks := .later }
def HttpNamesUptoCardSaid : Prop := Claim7.holds Tryz.pinned (.plain (OpenSpec.upto httpNamesSpec)) httpNamesUptoCard

/-- THE SECOND FORM's CARD OF 'codexlaw20.HttpLengths'. -/
def httpLengthsUptoCard : Claim7 := { stood := { row := httpLengthsUptoRow, standIns := [], harness := (true, "2d6139bfe2a6542c1b2ffedae58a8d105f50a481a2f68583e40b71bdbc774a64"), looks := true }, kinds := [], alts := [], laidByText := true, laidKinds := [.data, .data, .data, .data, .sentinel, .sentinel, .pinned], laidTests := true, laidLooks := .later }
def HttpLengthsUptoCardSaid : Prop := Claim7.holds Tryz.pinned (.plain (OpenSpec.upto httpLengthsSpec)) httpLengthsUptoCard

/-- THE SECOND FORM's CARD OF 'codexlaw20.HttpWrites'. -/
def httpWritesUptoCard : Claim7 := { stood := { row := httpWritesUptoRow, standIns := [], harness := (true, "2d6139bfe2a6542c1b2ffedae58a8d105f50a481a2f68583e40b71bdbc774a64"), looks := true }, kinds := [], alts := [], laidByText := true, laidKinds := [.data, .data, .data, .data, .sentinel, .sentinel, .pinned], laidTests := true, laidLooks := .later }
def HttpWritesUptoCardSaid : Prop := Claim7.holds Tryz.pinned (.plain (OpenSpec.upto httpWritesSpec)) httpWritesUptoCard

/-- THE SECOND FORM's CARD OF 'codexlaw20.HttpDecodes'. -/
def httpDecodesUptoCard : Claim7 := { stood := { row := httpDecodesUptoRow, standIns := [], harness := (true, "2d6139bfe2a6542c1b2ffedae58a8d105f50a481a2f68583e40b71bdbc774a64"), looks := true }, kinds := [], alts := [], laidByText := true, laidKinds := [.data, .data, .data, .data, .sentinel, .sentinel, .pinned], laidTests := true, laidLooks := .later }
def HttpDecodesUptoCardSaid : Prop := Claim7.holds Tryz.pinned (.plain (OpenSpec.upto httpDecodesSpec)) httpDecodesUptoCard
end Rows
end Go.Proofs.YthdmdafhldicmaaGreatDoor
