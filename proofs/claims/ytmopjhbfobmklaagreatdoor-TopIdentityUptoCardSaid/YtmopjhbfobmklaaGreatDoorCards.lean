/-
  DERIVED. GIVEN WITH THE SEED: THE CARDS: each row of YtmopjhbfobmklaaGreatDoorRows.lean that lists a variable, with what it lists TIED to the program's text (the seventh form; the later family's looks); each row that meets fmt, with fmt's text TOLD by the authors' own Lean function (tested against real Go, not proved from fmt's source: count such statements apart). THE CARD IS WHAT COUNTS. Prove the row's statement (the work); the ties are given (YtmopjhbfobmklaaGreatDoorTie.lean); close each card by the builder's one call (the guide's Derived/Test/ToyasCard.lean, 'card_holds'). Laid BY PROGRAM, IN A SANDBOX (cutbox-door.mjs). By AI agents, Wed Nov 11 2026. No macro, syntax, notation, axiom, sorry.
-/
import Derived.Test.YtmopjhbfobmklaaGreatDoorRows
import GoSem.ClaimSeven
namespace Go.Proofs.YtmopjhbfobmklaaGreatDoor
namespace Rows

/-- THE TIED CARD OF 'captionertop.TopFates'. -/
def topFatesCard : Claim7 := { stood := { row := topFatesRow, standIns := [], harness := (true, "2dd18843098ad8fa1b89576a8153aa089b7332b624e709d3a033587aae4acc55"), looks := false }, kinds := [], alts := [], laidByText := true, laidKinds := [.data, .pinned], laidTests := true, laidLooks := .later }
def TopFatesCardSaid : Prop := Claim7.holds Tryz.pinned (.plain (OpenSpec.ofChange topFatesSpec)) topFatesCard

/-- THE TIED CARD OF 'captionertop.TopConform'. -/
def topConformCard : Claim7 := { stood := { row := topConformRow, standIns := [], harness := (true, "2dd18843098ad8fa1b89576a8153aa089b7332b624e709d3a033587aae4acc55"), looks := false }, kinds := [], alts := [], laidByText := true, laidKinds := [.data, .pinned], laidTests := true, laidLooks := .later }
def TopConformCardSaid : Prop := Claim7.holds Tryz.pinned (.plain (OpenSpec.ofChange topConformSpec)) topConformCard

/-- THE TIED CARD OF 'captionertop.TopIdentity'. -/
def topIdentityCard : Claim7 := { stood := { row := topIdentityRow, standIns := [], harness := (true, "2dd18843098ad8fa1b89576a8153aa089b7332b624e709d3a033587aae4acc55"), looks := false }, kinds := [], alts := [], laidByText := true, laidKinds := [.data, .pinned], laidTests := true, laidLooks := .later }
def TopIdentityCardSaid : Prop := Claim7.holds Tryz.pinned (.plain (OpenSpec.ofChange topIdentitySpec)) topIdentityCard

/-- THE SECOND FORM's CARD OF 'captionertop.TopFates'. -/
def topFatesUptoCard : Claim7 := { stood := { row := topFatesUptoRow, standIns := [], harness := (true, "2dd18843098ad8fa1b89576a8153aa089b7332b624e709d3a033587aae4acc55"), looks := false }, kinds := [], alts := [], laidByText := true, laidKinds := [.data, .pinned], laidTests := true, laidLooks := .later }
def TopFatesUptoCardSaid : Prop := Claim7.holds Tryz.pinned (.plain (OpenSpec.upto topFatesSpec)) topFatesUptoCard

/-- THE SECOND FORM's CARD OF 'captionertop.TopConform'. -/
def topConformUptoCard : Claim7 := { stood := { row := topConformUptoRow, standIns := [], harness := (true, "2dd18843098ad8fa1b89576a8153aa089b7332b624e709d3a033587aae4acc55"), looks := false }, kinds := [], alts := [], laidByText := true, laidKinds := [.data, .pinned], laidTests := true, laidLooks := .later }
def TopConformUptoCardSaid : Prop := Claim7.holds Tryz.pinned (.plain (OpenSpec.upto topConformSpec)) topConformUptoCard

/-- THE SECOND FORM's CARD OF 'captionertop.TopIdentity'. -/
def topIdentityUptoCard : Claim7 := { stood := { row := topIdentityUptoRow, standIns := [], harness := (true, "2dd18843098ad8fa1b89576a8153aa089b7332b624e709d3a033587aae4acc55"), looks := false }, kinds := [], alts := [], laidByText := true, laidKinds := [.data, .pinned], laidTests := true, laidLooks := .later }
def TopIdentityUptoCardSaid : Prop := Claim7.holds Tryz.pinned (.plain (OpenSpec.upto topIdentitySpec)) topIdentityUptoCard
end Rows
end Go.Proofs.YtmopjhbfobmklaaGreatDoor
