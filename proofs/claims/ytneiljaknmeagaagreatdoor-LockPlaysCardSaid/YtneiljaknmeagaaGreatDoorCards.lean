/-
  DERIVED. GIVEN WITH THE SEED: THE CARDS: each row of YtneiljaknmeagaaGreatDoorRows.lean that lists a variable, with what it lists TIED to the program's text (the seventh form; the later family's looks); each row that meets fmt, with fmt's text TOLD by the authors' own Lean function (tested against real Go, not proved from fmt's source: count such statements apart). THE CARD IS WHAT COUNTS. Prove the row's statement (the work); the ties are given (YtneiljaknmeagaaGreatDoorTie.lean); close each card by the builder's one call (the guide's Derived/Test/ToyasCard.lean, 'card_holds'). Laid BY PROGRAM, IN A SANDBOX (cutbox-door.mjs). By AI agents, Wed Nov 11 2026. No macro, syntax, notation, axiom, sorry.
-/
import Derived.Test.YtneiljaknmeagaaGreatDoorRows
import GoSem.ClaimSeven
namespace Go.Proofs.YtneiljaknmeagaaGreatDoor
namespace Rows

/-- THE TIED CARD OF 'captionerlaw56.LockParses'. -/
def lockParsesCard : Claim7 := { stood := { row := lockParsesRow, standIns := [], harness := (true, "8831f21ee98326cb4a5a567250b7012310531ee5dca8b6bd4bd412db912c16a5"), looks := true }, kinds := [], alts := [], laidByText := true, laidKinds := [.data, .data, .data, .data, .sentinel, .sentinel, .pinned], laidTests := true, laidLooks := .later }
def LockParsesCardSaid : Prop := Claim7.holds Tryz.pinned (.plain (OpenSpec.ofChange lockParsesSpec)) lockParsesCard

/-- THE TIED CARD OF 'captionerlaw56.LockPlays'. -/
def lockPlaysCard : Claim7 := { stood := { row := lockPlaysRow, standIns := [], harness := (true, "8831f21ee98326cb4a5a567250b7012310531ee5dca8b6bd4bd412db912c16a5"), looks := true }, kinds := [], alts := [], laidByText := true, laidKinds := [.data, .data, .data, .data, .sentinel, .sentinel, .pinned], laidTests := true, laidLooks := .later }
def LockPlaysCardSaid : Prop := Claim7.holds Tryz.pinned (.plain (OpenSpec.ofChange lockPlaysSpec)) lockPlaysCard

/-- THE SECOND FORM's CARD OF 'captionerlaw56.LockParses'. -/
def lockParsesUptoCard : Claim7 := { stood := { row := lockParsesUptoRow, standIns := [], harness := (true, "8831f21ee98326cb4a5a567250b7012310531ee5dca8b6bd4bd412db912c16a5"), looks := true }, kinds := [], alts := [], laidByText := true, laidKinds := [.data, .data, .data, .data, .sentinel, .sentinel, .pinned], laidTests := true, laidLooks := .later }
def LockParsesUptoCardSaid : Prop := Claim7.holds Tryz.pinned (.plain (OpenSpec.upto lockParsesSpec)) lockParsesUptoCard

/-- THE SECOND FORM's CARD OF 'captionerlaw56.LockPlays'. -/
def lockPlaysUptoCard : Claim7 := { stood := { row := lockPlaysUptoRow, standIns := [], harness := (true, "8831f21ee98326cb4a5a567250b7012310531ee5dca8b6bd4bd412db912c16a5"), looks := true }, kinds := [], alts := [], laidByText := true, laidKinds := [.data, .data, .data, .data, .sentinel, .sentinel, .pinned], laidTests := true, laidLooks := .later }
def LockPlaysUptoCardSaid : Prop := Claim7.holds Tryz.pinned (.plain (OpenSpec.upto lockPlaysSpec)) lockPlaysUptoCard
end Rows
end Go.Proofs.YtneiljaknmeagaaGreatDoor
