/-
  DERIVED. GIVEN WITH THE SEED: THE CARDS: each row of YtejlddimokmgjaaGreatDoorRows.lean that lists a variable, with what it lists TIED to the program's text (the seventh form; the later family's looks); each row that meets fmt, with fmt's text TOLD by the authors' own Lean function (tested against real Go, not proved from fmt's source: count such statements apart). THE CARD IS WHAT COUNTS. Prove the row's statement (the work); the ties are given (YtejlddimokmgjaaGreatDoorTie.lean); close each card by the builder's one call (the guide's Derived/Test/ToyasCard.lean, 'card_holds'). Laid BY PROGRAM, IN A SANDBOX (cutbox-door.mjs). By AI agents, Wed Nov 11 2026. No macro, syntax, notation, axiom, sorry.
-/
import Derived.Test.YtejlddimokmgjaaGreatDoorRows
import GoSem.ClaimSeven
namespace Go.Proofs.YtejlddimokmgjaaGreatDoor
namespace Rows

/-- THE TIED CARD OF 'codexlaw21.DslPages'. -/
def dslPagesCard : Claim7 := { stood := { row := dslPagesRow, standIns := [], harness := (true, "4afa5710ba18129d67bc44db0c8aaa31d4f1dd09cf42bf1d481ea1458a9f238f"), looks := true }, kinds := [], alts := [], laidByText := true, laidKinds := [.data, .data, .data, .data, .sentinel, .sentinel, .pinned], laidTests := true, laidLooks := .later }
def DslPagesCardSaid : Prop := Claim7.holds Tryz.pinned (.plain (OpenSpec.ofChange dslPagesSpec)) dslPagesCard

/-- THE TIED CARD OF 'codexlaw21.DslLines'. -/
def dslLinesCard : Claim7 := { stood := { row := dslLinesRow, standIns := [], harness := (true, "4afa5710ba18129d67bc44db0c8aaa31d4f1dd09cf42bf1d481ea1458a9f238f"), looks := true }, kinds := [], alts := [], laidByText := true, laidKinds := [.data, .data, .data, .data, .sentinel, .sentinel, .pinned], laidTests := true, laidLooks := .later }
def DslLinesCardSaid : Prop := Claim7.holds Tryz.pinned (.plain (OpenSpec.ofChange dslLinesSpec)) dslLinesCard

/-- THE TIED CARD OF 'codexlaw21.DslReads'. -/
def dslReadsCard : Claim7 := { stood := { row := dslReadsRow, standIns := [], harness := (true, "4afa5710ba18129d67bc44db0c8aaa31d4f1dd09cf42bf1d481ea1458a9f238f"), looks := true }, kinds := [], alts := [], laidByText := true, laidKinds := [.data, .data, .data, .data, .sentinel, .sentinel, .pinned], laidTests := true, laidLooks := .later }
def DslReadsCardSaid : Prop := Claim7.holds Tryz.pinned (.plain (OpenSpec.ofChange dslReadsSpec)) dslReadsCard

/-- THE TIED CARD OF 'codexlaw21.DslAnswers'. -/
def dslAnswersCard : Claim7 := { stood := { row := dslAnswersRow, standIns := [], harness := (true, "4afa5710ba18129d67bc44db0c8aaa31d4f1dd09cf42bf1d481ea1458a9f238f"), looks := true }, kinds := [], alts := [], laidByText := true, laidKinds := [.data, .data, .data, .data, .sentinel, .sentinel, .pinned], laidTests := true, laidLooks := .later }
def DslAnswersCardSaid : Prop := Claim7.holds Tryz.pinned (.plain (OpenSpec.ofChange dslAnswersSpec)) dslAnswersCard

/-- THE TIED CARD OF 'codexlaw21.DslBlanks'. -/
def dslBlanksCard : Claim7 := { stood := { row := dslBlanksRow, standIns := [], harness := (true, "4afa5710ba18129d67bc44db0c8aaa31d4f1dd09cf42bf1d481ea1458a9f238f"), looks := true }, kinds := [], alts := [], laidByText := true, laidKinds := [.data, .data, .data, .data, .sentinel, .sentinel, .pinned], laidTests := true, laidLooks := .later }
def DslBlanksCardSaid : Prop := Claim7.holds Tryz.pinned (.plain (OpenSpec.ofChange dslBlanksSpec)) dslBlanksCard

/-- THE TIED CARD OF 'codexlaw21.DslBack'. -/
def dslBackCard : Claim7 := { stood := { row := dslBackRow, standIns := [], harness := (true, "4afa5710ba18129d67bc44db0c8aaa31d4f1dd09cf42bf1d481ea1458a9f238f"), looks := true }, kinds := [], alts := [], laidByText := true, laidKinds := [.data, .data, .data, .data, .sentinel, .sentinel, .pinned], laidTests := true, laidLooks := .later }
def DslBackCardSaid : Prop := Claim7.holds Tryz.pinned (.plain (OpenSpec.ofChange dslBackSpec)) dslBackCard

/-- THE SECOND FORM's CARD OF 'codexlaw21.DslPages'. -/
def dslPagesUptoCard : Claim7 := { stood := { row := dslPagesUptoRow, standIns := [], harness := (true, "4afa5710ba18129d67bc44db0c8aaa31d4f1dd09cf42bf1d481ea1458a9f238f"), looks := true }, kinds := [], alts := [], laidByText := true, laidKinds := [.data, .data, .data, .data, .sentinel, .sentinel, .pinned], laidTests := true, laidLooks := .later }
def DslPagesUptoCardSaid : Prop := Claim7.holds Tryz.pinned (.plain (OpenSpec.upto dslPagesSpec)) dslPagesUptoCard

/-- THE SECOND FORM's CARD OF 'codexlaw21.DslLines'. -/
def dslLinesUptoCard : Claim7 := { stood := { row := dslLinesUptoRow, standIns := [], harness := (true, "4afa5710ba18129d67bc44db0c8aaa31d4f1dd09cf42bf1d481ea1458a9f238f"), looks := true }, kinds := [], alts := [], laidByText := true, laidKinds := [.data, .data, .data, .data, .sentinel, .sentinel, .pinned], laidTests := true, laidLooks := .later }
def DslLinesUptoCardSaid : Prop := Claim7.holds Tryz.pinned (.plain (OpenSpec.upto dslLinesSpec)) dslLinesUptoCard

/-- THE SECOND FORM's CARD OF 'codexlaw21.DslReads'. -/
def dslReadsUptoCard : Claim7 := { stood := { row := dslReadsUptoRow, standIns := [], harness := (true, "4afa5710ba18129d67bc44db0c8aaa31d4f1dd09cf42bf1d481ea1458a9f238f"), looks := true }, kinds := [], alts := [], laidByText := true, laidKinds := [.data, .data, .data, .data, .sentinel, .sentinel, .pinned], laidTests := true, laidLooks := .later }
def DslReadsUptoCardSaid : Prop := Claim7.holds Tryz.pinned (.plain (OpenSpec.upto dslReadsSpec)) dslReadsUptoCard

/-- THE SECOND FORM's CARD OF 'codexlaw21.DslAnswers'. -/
def dslAnswersUptoCard : Claim7 := { stood := { row := dslAnswersUptoRow, standIns := [], harness := (true, "4afa5710ba18129d67bc44db0c8aaa31d4f1dd09cf42bf1d481ea1458a9f238f"), looks := true }, kinds := [], alts := [], laidByText := true, laidKinds := [.data, .data, .data, .data, .sentinel, .sentinel, .pinned], laidTests := true, laidLooks := .later }
def DslAnswersUptoCardSaid : Prop := Claim7.holds Tryz.pinned (.plain (OpenSpec.upto dslAnswersSpec)) dslAnswersUptoCard

/-- THE SECOND FORM's CARD OF 'codexlaw21.DslBlanks'. -/
def dslBlanksUptoCard : Claim7 := { stood := { row := dslBlanksUptoRow, standIns := [], harness := (true, "4afa5710ba18129d67bc44db0c8aaa31d4f1dd09cf42bf1d481ea1458a9f238f"), looks := true }, kinds := [], alts := [], laidByText := true, laidKinds := [.data, .data, .data, .data, .sentinel, .sentinel, .pinned], laidTests := true, laidLooks := .later }
def DslBlanksUptoCardSaid : Prop := Claim7.holds Tryz.pinned (.plain (OpenSpec.upto dslBlanksSpec)) dslBlanksUptoCard

/-- THE SECOND FORM's CARD OF 'codexlaw21.DslBack'. -/
def dslBackUptoCard : Claim7 := { stood := { row := dslBackUptoRow, standIns := [], harness := (true, "4afa5710ba18129d67bc44db0c8aaa31d4f1dd09cf42bf1d481ea1458a9f238f"), looks := true }, kinds := [], alts := [], laidByText := true, laidKinds := [.data, .data, .data, .data, .sentinel, .sentinel, .pinned], laidTests := true, laidLooks := .later }
def DslBackUptoCardSaid : Prop := Claim7.holds Tryz.pinned (.plain (OpenSpec.upto dslBackSpec)) dslBackUptoCard
end Rows
end Go.Proofs.YtejlddimokmgjaaGreatDoor
