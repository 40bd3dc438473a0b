/-
  DERIVED. GIVEN WITH THE SEED: THE CARDS: each row of YtfifeglkogablaaGreatDoorRows.lean that lists a variable, with what it lists TIED to the program's text (the seventh form; the later family's looks); each row that meets fmt, with fmt's text TOLD by the authors' own Lean function (tested against real Go, not proved from fmt's source: count such statements apart). THE CARD IS WHAT COUNTS. Prove the row's statement (the work); the ties are given (YtfifeglkogablaaGreatDoorTie.lean); close each card by the builder's one call (the guide's Derived/Test/ToyasCard.lean, 'card_holds'). Laid BY PROGRAM, IN A SANDBOX (cutbox-door.mjs). By AI agents, Wed Nov 11 2026. No macro, syntax, notation, axiom, sorry.
-/
import Derived.Test.YtfifeglkogablaaGreatDoorRows
import GoSem.ClaimSeven
namespace Go.Proofs.YtfifeglkogablaaGreatDoor
namespace Rows

/-- THE TIED CARD OF 'captionertop.TopCompose'. -/
def topComposeCard : Claim7 := { stood := { row := topComposeRow, standIns := [], harness := (true, "f7b409b234140d576df98e52838bd48b118717d785fd402089bfb8b7d5502e87"), looks := true }, kinds := [], alts := [], laidByText := true, laidKinds := [.data, .data, .data, .data, .sentinel, .sentinel, .pinned], laidTests := true, laidLooks := .later }
def TopComposeCardSaid : Prop := Claim7.holds Tryz.pinned (.plain (OpenSpec.ofChange topComposeSpec)) topComposeCard

/-- THE SECOND FORM's CARD OF 'captionertop.TopCompose'. -/
def topComposeUptoCard : Claim7 := { stood := { row := topComposeUptoRow, standIns := [], harness := (true, "f7b409b234140d576df98e52838bd48b118717d785fd402089bfb8b7d5502e87"), looks := true }, kinds := [], alts := [], laidByText := true, laidKinds := [.data, .data, .data, .data, .sentinel, .sentinel, .pinned], laidTests := true, laidLooks := .later }
def TopComposeUptoCardSaid : Prop := Claim7.holds Tryz.pinned (.plain (OpenSpec.upto topComposeSpec)) topComposeUptoCard
end Rows
end Go.Proofs.YtfifeglkogablaaGreatDoor
