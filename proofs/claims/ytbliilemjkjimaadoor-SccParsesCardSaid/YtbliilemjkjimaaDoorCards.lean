/-
  DERIVED. GIVEN WITH THE SEED: THE CARDS: each row of YtbliilemjkjimaaDoorRows.lean that lists a variable, with what it lists TIED to the program's text (the seventh form; the later family's looks); each row that meets fmt, with fmt's text TOLD by the authors' own Lean function (tested against real Go, not proved from fmt's source: count such statements apart). THE CARD IS WHAT COUNTS. Prove the row's statement (the work); the ties are given (YtbliilemjkjimaaDoorTie.lean); close each card by the builder's one call (the guide's Derived/Test/ToyasCard.lean, 'card_holds'). Laid BY PROGRAM, IN A SANDBOX (cutbox-door.mjs). By AI agents, Wed Nov 11 2026. No macro, syntax, notation, axiom, sorry.
-/
import Derived.Test.YtbliilemjkjimaaDoorRows
import GoSem.ClaimSeven
namespace Go.Proofs.YtbliilemjkjimaaDoor
namespace Rows

/-- THE TIED CARD OF 'captionerlaw31.SccNorms'. -/
def sccNormsCard : Claim7 := { stood := { row := sccNormsRow, standIns := [], harness := (true, "857ab2471b78c419c7642858c663d65054d708d89fb96fab26f902b86a495ffe"), looks := false }, kinds := [], alts := [], laidByText := true, laidKinds := [.data, .pinned], laidTests := true, laidLooks := .later }
def SccNormsCardSaid : Prop := Claim7.holds Tryd.pinned (.plain (OpenSpec.ofChange sccNormsSpec)) sccNormsCard

/-- THE TIED CARD OF 'captionerlaw31.SccPrints'. -/
def sccPrintsCard : Claim7 := { stood := { row := sccPrintsRow, standIns := [], harness := (true, "857ab2471b78c419c7642858c663d65054d708d89fb96fab26f902b86a495ffe"), looks := false }, kinds := [], alts := [], laidByText := true, laidKinds := [.data, .pinned], laidTests := true, laidLooks := .later }
def SccPrintsCardSaid : Prop := Claim7.holds Tryd.pinned (.plain (OpenSpec.ofChange sccPrintsSpec)) sccPrintsCard

/-- THE TIED CARD OF 'captionerlaw31.SccParses'. -/
def sccParsesCard : Claim7 := { stood := { row := sccParsesRow, standIns := [], harness := (true, "857ab2471b78c419c7642858c663d65054d708d89fb96fab26f902b86a495ffe"), looks := false }, kinds := [], alts := [], laidByText := true, laidKinds := [.data, .pinned], laidTests := true, laidLooks := .later }
def SccParsesCardSaid : Prop := Claim7.holds Tryd.pinned (.plain (OpenSpec.ofChange sccParsesSpec)) sccParsesCard

/-- THE TIED CARD OF 'captionerlaw31.SccBack'. -/
def sccBackCard : Claim7 := { stood := { row := sccBackRow, standIns := [], harness := (true, "857ab2471b78c419c7642858c663d65054d708d89fb96fab26f902b86a495ffe"), looks := false }, kinds := [], alts := [], laidByText := true, laidKinds := [.data, .pinned], laidTests := true, laidLooks := .later }
def SccBackCardSaid : Prop := Claim7.holds Tryd.pinned (.plain (OpenSpec.ofChange sccBackSpec)) sccBackCard

/-- THE TIED CARD OF 'captionerlaw31.SccAgain'. -/
def sccAgainCard : Claim7 := { stood := { row := sccAgainRow, standIns := [], harness := (true, "857ab2471b78c419c7642858c663d65054d708d89fb96fab26f902b86a495ffe"), looks := false }, kinds := [], alts := [], laidByText := true, laidKinds := [.data, .pinned], laidTests := true, laidLooks := .later }
def SccAgainCardSaid : Prop := Claim7.holds Tryd.pinned (.plain (OpenSpec.ofChange sccAgainSpec)) sccAgainCard

/-- THE TIED CARD OF 'captionerlaw31.SccNulls'. -/
def sccNullsCard : Claim7 := { stood := { row := sccNullsRow, standIns := [], harness := (true, "857ab2471b78c419c7642858c663d65054d708d89fb96fab26f902b86a495ffe"), looks := false }, kinds := [], alts := [], laidByText := true, laidKinds := [.data, .pinned], laidTests := true, laidLooks := .later }
def SccNullsCardSaid : Prop := Claim7.holds Tryd.pinned (.plain (OpenSpec.ofChange sccNullsSpec)) sccNullsCard

/-- THE TIED CARD OF 'captionerlaw31.SccLines'. -/
def sccLinesCard : Claim7 := { stood := { row := sccLinesRow, standIns := [], harness := (true, "857ab2471b78c419c7642858c663d65054d708d89fb96fab26f902b86a495ffe"), looks := false }, kinds := [], alts := [], laidByText := true, laidKinds := [.data, .pinned], laidTests := true, laidLooks := .later }
def SccLinesCardSaid : Prop := Claim7.holds Tryd.pinned (.plain (OpenSpec.ofChange sccLinesSpec)) sccLinesCard

/-- THE SECOND FORM's CARD OF 'captionerlaw31.SccNorms'. -/
def sccNormsUptoCard : Claim7 := { stood := { row := sccNormsUptoRow, standIns := [], harness := (true, "857ab2471b78c419c7642858c663d65054d708d89fb96fab26f902b86a495ffe"), looks := false }, kinds := [], alts := [], laidByText := true, laidKinds := [.data, .pinned], laidTests := true, laidLooks := .later }
def SccNormsUptoCardSaid : Prop := Claim7.holds Tryd.pinned (.plain (OpenSpec.upto sccNormsSpec)) sccNormsUptoCard

/-- THE SECOND FORM's CARD OF 'captionerlaw31.SccPrints'. -/
def sccPrintsUptoCard : Claim7 := { stood := { row := sccPrintsUptoRow, standIns := [], harness := (true, "857ab2471b78c419c7642858c663d65054d708d89fb96fab26f902b86a495ffe"), looks := false }, kinds := [], alts := [], laidByText := true, laidKinds := [.data, .pinned], laidTests := true, laidLooks := .later }
def SccPrintsUptoCardSaid : Prop := Claim7.holds Tryd.pinned (.plain (OpenSpec.upto sccPrintsSpec)) sccPrintsUptoCard

/-- THE SECOND FORM's CARD OF 'captionerlaw31.SccParses'. -/
def sccParsesUptoCard : Claim7 := { stood := { row := sccParsesUptoRow, standIns := [], harness := (true, "857ab2471b78c419c7642858c663d65054d708d89fb96fab26f902b86a495ffe"), looks := false }, kinds := [], alts := [], laidByText := true, laidKinds := [.data, .pinned], laidTests := true, laidLooks := .later }
def SccParsesUptoCardSaid : Prop := Claim7.holds Tryd.pinned (.plain (OpenSpec.upto sccParsesSpec)) sccParsesUptoCard

/-- THE SECOND FORM's CARD OF 'captionerlaw31.SccBack'. -/
def sccBackUptoCard : Claim7 := { stood := { row := sccBackUptoRow, standIns := [], harness := (true, "857ab2471b78c419c7642858c663d65054d708d89fb96fab26f902b86a495ffe"), looks := false }, kinds := [], alts := [], laidByText := true, laidKinds := [.data, .pinned], laidTests := true, laidLooks := .later }
def SccBackUptoCardSaid : Prop := Claim7.holds Tryd.pinned (.plain (OpenSpec.upto sccBackSpec)) sccBackUptoCard

/-- THE SECOND FORM's CARD OF 'captionerlaw31.SccAgain'. -/
def sccAgainUptoCard : Claim7 := { stood := { row := sccAgainUptoRow, standIns := [], harness := (true, "857ab2471b78c419c7642858c663d65054d708d89fb96fab26f902b86a495ffe"), looks := false }, kinds := [], alts := [], laidByText := true, laidKinds := [.data, .pinned], laidTests := true, laidLooks := .later }
def SccAgainUptoCardSaid : Prop := Claim7.holds Tryd.pinned (.plain (OpenSpec.upto sccAgainSpec)) sccAgainUptoCard

/-- THE SECOND FORM's CARD OF 'captionerlaw31.SccNulls'. -/
def sccNullsUptoCard : Claim7 := { stood := { row := sccNullsUptoRow, standIns := [], harness := (true, "857ab2471b78c419c7642858c663d65054d708d89fb96fab26f902b86a495ffe"), looks := false }, kinds := [], alts := [], laidByText := true, laidKinds := [.data, .pinned], laidTests := true, laidLooks := .later }
def SccNullsUptoCardSaid : Prop := Claim7.holds Tryd.pinned (.plain (OpenSpec.upto sccNullsSpec)) sccNullsUptoCard

/-- THE SECOND FORM's CARD OF 'captionerlaw31.SccLines'. -/
def sccLinesUptoCard : Claim7 := { stood := { row := sccLinesUptoRow, standIns := [], harness := (true, "857ab2471b78c419c7642858c663d65054d708d89fb96fab26f902b86a495ffe"), looks := false }, kinds := [], alts := [], laidByText := true, laidKinds := [.data, .pinned], laidTests := true, laidLooks := .later }
def SccLinesUptoCardSaid : Prop := Claim7.holds Tryd.pinned (.plain (OpenSpec.upto sccLinesSpec)) sccLinesUptoCard
end Rows
end Go.Proofs.YtbliilemjkjimaaDoor
