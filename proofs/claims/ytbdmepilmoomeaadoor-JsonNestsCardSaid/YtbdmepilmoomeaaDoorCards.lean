/-
  DERIVED. GIVEN WITH THE SEED: THE CARDS: each row of YtbdmepilmoomeaaDoorRows.lean that lists a variable, with what it lists TIED to the program's text (the seventh form; the later family's looks); each row that meets fmt, with fmt's text TOLD by the authors' own Lean function (tested against real Go, not proved from fmt's source: count such statements apart). THE CARD IS WHAT COUNTS. Prove the row's statement (the work); the ties are given (YtbdmepilmoomeaaDoorTie.lean); close each card by the builder's one call (the guide's Derived/Test/ToyasCard.lean, 'card_holds'). Laid BY PROGRAM, IN A SANDBOX (cutbox-door.mjs). By AI agents, Wed Nov 11 2026. No macro, syntax, notation, axiom, sorry.
-/
import Derived.Test.YtbdmepilmoomeaaDoorRows
import GoSem.ClaimSeven
namespace Go.Proofs.YtbdmepilmoomeaaDoor
namespace Rows

/-- THE TIED CARD OF 'codexlaw19.JsonBack'. -/
def jsonBackCard : Claim7 := { stood := { row := jsonBackRow, standIns := [], harness := (true, "1663f2c153fe179fb0e40560c18585b913da083eeec2c6229e76dc18e9f27992"), looks := true }, kinds := [], alts := [], laidByText := true, laidKinds := [.data, .data, .data, .data, .sentinel, .sentinel, .pinned], laidTests := true, laidLooks := .later }
def JsonBackCardSaid : Prop := Claim7.holds Tryd.pinned (.plain (OpenSpec.ofChange jsonBackSpec)) jsonBackCard

/-- THE TIED CARD OF 'codexlaw19.JsonBlanks'. -/
def jsonBlanksCard : Claim7 := { stood := { row := jsonBlanksRow, standIns := [], harness := (true, "1663f2c153fe179fb0e40560c18585b913da083eeec2c6229e76dc18e9f27992"), looks := true }, kinds := [], alts := [], laidByText := true, laidKinds := [.data, .data, .data, .data, .sentinel, .sentinel, .pinned], laidTests := true, laidLooks := .later }
def JsonBlanksCardSaid : Prop := Claim7.holds Tryd.pinned (.plain (OpenSpec.ofChange jsonBlanksSpec)) jsonBlanksCard

/-- THE TIED CARD OF 'codexlaw19.JsonTexts'. -/
def jsonTextsCard : Claim7 := { stood := { row := jsonTextsRow, standIns := [], harness := (true, "1663f2c153fe179fb0e40560c18585b913da083eeec2c6229e76dc18e9f27992"), looks := true }, kinds := [], alts := [], laidByText := true, laidKinds := [.data, .data, .data, .data, .sentinel, .sentinel, .pinned], laidTests := true, laidLooks := .later }
def JsonTextsCardSaid : Prop := Claim7.holds Tryd.pinned (.plain (OpenSpec.ofChange jsonTextsSpec)) jsonTextsCard

/-- THE TIED CARD OF 'codexlaw19.JsonPrefixes'. -/
def jsonPrefixesCard : Claim7 := { stood := { row := jsonPrefixesRow, standIns := [], harness := (true, "1663f2c153fe179fb0e40560c18585b913da083eeec2c6229e76dc18e9f27992"), looks := true }, kinds := [], alts := [], laidByText := true, laidKinds := [.data, .data, .data, .data, .sentinel, .sentinel, .pinned], laidTests := true, laidLooks := .later }
def JsonPrefixesCardSaid : Prop := Claim7.holds Tryd.pinned (.plain (OpenSpec.ofChange jsonPrefixesSpec)) jsonPrefixesCard

/-- THE TIED CARD OF 'codexlaw19.JsonNests'. -/
def jsonNestsCard : Claim7 := { stood := { row := jsonNestsRow, standIns := [], harness := (true, "1663f2c153fe179fb0e40560c18585b913da083eeec2c6229e76dc18e9f27992"), looks := true }, kinds := [], alts := [], laidByText := true, laidKinds := [.data, .data, .data, .data, .sentinel, .sentinel, .pinned], laidTests := true, laidLooks := .later }
def JsonNestsCardSaid : Prop := Claim7.holds Tryd.pinned (.plain (OpenSpec.ofChange jsonNestsSpec)) jsonNestsCard

/-- THE SECOND FORM's CARD OF 'codexlaw19.JsonBack'. -/
def jsonBackUptoCard : Claim7 := { stood := { row := jsonBackUptoRow, standIns := [], harness := (true, "1663f2c153fe179fb0e40560c18585b913da083eeec2c6229e76dc18e9f27992"), looks := true }, kinds := [], alts := [], laidByText := true, laidKinds := [.data, .data, .data, .data, .sentinel, .sentinel, .pinned], laidTests := true, laidLooks := .later }
def JsonBackUptoCardSaid : Prop := Claim7.holds Tryd.pinned (.plain (OpenSpec.upto jsonBackSpec)) jsonBackUptoCard

/-- THE SECOND FORM's CARD OF 'codexlaw19.JsonBlanks'. -/
def jsonBlanksUptoCard : Claim7 := { stood := { row := jsonBlanksUptoRow, standIns := [], harness := (true, "1663f2c153fe179fb0e40560c18585b913da083eeec2c6229e76dc18e9f27992"), looks := true }, kinds := [], alts := [], laidByText := true, laidKinds := [.data, .data, .data, .data, .sentinel, .sentinel, .pinned], laidTests := true, laidLooks := .later }
def JsonBlanksUptoCardSaid : Prop := Claim7.holds Tryd.pinned (.plain (OpenSpec.upto jsonBlanksSpec)) jsonBlanksUptoCard

/-- THE SECOND FORM's CARD OF 'codexlaw19.JsonTexts'. -/
def jsonTextsUptoCard : Claim7 := { stood := { row := jsonTextsUptoRow, standIns := [], harness := (true, "1663f2c153fe179fb0e40560c18585b913da083eeec2c6229e76dc18e9f27992"), looks := true }, kinds := [], alts := [], laidByText := true, laidKinds := [.data, .data, .data, .data, .sentinel, .sentinel, .pinned], laidTests := true, laidLooks := .later }
def JsonTextsUptoCardSaid : Prop := Claim7.holds Tryd.pinned (.plain (OpenSpec.upto jsonTextsSpec)) jsonTextsUptoCard

/-- THE SECOND FORM's CARD OF 'codexlaw19.JsonPrefixes'. -/
def jsonPrefixesUptoCard : Claim7 := { stood := { row := jsonPrefixesUptoRow, standIns := [], harness := (true, "1663f2c153fe179fb0e40560c18585b913da083eeec2c6229e76dc18e9f27992"), looks := true }, kinds := [], alts := [], laidByText := true, laidKinds := [.data, .data, .data, .data, .sentinel, .sentinel, .pinned], laidTests := true, laidLooks := .later }
def JsonPrefixesUptoCardSaid : Prop := Claim7.holds Tryd.pinned (.plain (OpenSpec.upto jsonPrefixesSpec)) jsonPrefixesUptoCard

/-- THE SECOND FORM's CARD OF 'codexlaw19.JsonNests'. -/
def jsonNestsUptoCard : Claim7 := { stood := { row := jsonNestsUptoRow, standIns := [], harness := (true, "1663f2c153fe179fb0e40560c18585b913da083eeec2c6229e76dc18e9f27992"), looks := true }, kinds := [], alts := [], laidByText := true, laidKinds := [.data, .data, .data, .data, .sentinel, .sentinel, .pinned], laidTests := true, laidLooks := .later }
def JsonNestsUptoCardSaid : Prop := Claim7.holds Tryd.pinned (.plain (OpenSpec.upto jsonNestsSpec)) jsonNestsUptoCard
end Rows
end Go.Proofs.YtbdmepilmoomeaaDoor
