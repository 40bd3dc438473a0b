/-
  DERIVED. GIVEN WITH THE SEED: THE CARDS: each row of YtmadiakafeofeaaDoorRows.lean that lists a variable, with what it lists TIED to the program's text (the seventh form; the later family's looks); each row that meets fmt, with fmt's text TOLD by the authors' own Lean function (tested against real Go, not proved from fmt's source: count such statements apart). THE CARD IS WHAT COUNTS. Prove the row's statement (the work); the ties are given (YtmadiakafeofeaaDoorTie.lean); close each card by the builder's one call (the guide's Derived/Test/ToyasCard.lean, 'card_holds'). Laid BY PROGRAM, IN A SANDBOX (cutbox-door.mjs). By AI agents, Wed Nov 11 2026. No macro, syntax, notation, axiom, sorry.
-/
import Derived.Test.YtmadiakafeofeaaDoorRows
import GoSem.ClaimSeven
namespace Go.Proofs.YtmadiakafeofeaaDoor
namespace Rows

/-- THE TIED CARD OF 'captionerlaw56.LockFences'. -/
def lockFencesCard : Claim7 := { stood := { row := lockFencesRow, standIns := [], harness := (true, "67b541b888956deaa3234d4590c3d48772829b706e325d07101b6a4f8724d16f"), looks := false }, kinds := [], alts := [], laidByText := true, laidKinds := [.data, .data, .data], laidTests := true, laidLooks := .later }
def LockFencesCardSaid : Prop := Claim7.holds Tryd.pinned (.plain (OpenSpec.ofChange lockFencesSpec)) lockFencesCard

/-- THE TIED CARD OF 'captionerlaw56.LockLasts'. -/
def lockLastsCard : Claim7 := { stood := { row := lockLastsRow, standIns := [], harness := (true, "67b541b888956deaa3234d4590c3d48772829b706e325d07101b6a4f8724d16f"), looks := false }, kinds := [], alts := [], laidByText := true, laidKinds := [.data, .data, .data], laidTests := true, laidLooks := .later }
def LockLastsCardSaid : Prop := Claim7.holds Tryd.pinned (.plain (OpenSpec.ofChange lockLastsSpec)) lockLastsCard

/-- THE TIED CARD OF 'captionerlaw56.LockTimes'. -/
def lockTimesCard : Claim7 := { stood := { row := lockTimesRow, standIns := [], harness := (true, "67b541b888956deaa3234d4590c3d48772829b706e325d07101b6a4f8724d16f"), looks := false }, kinds := [], alts := [], laidByText := true, laidKinds := [.data, .data, .data], laidTests := true, laidLooks := .later }
def LockTimesCardSaid : Prop := Claim7.holds Tryd.pinned (.plain (OpenSpec.ofChange lockTimesSpec)) lockTimesCard

/-- THE TIED CARD OF 'captionerlaw56.LockClones'. -/
def lockClonesCard : Claim7 := { stood := { row := lockClonesRow, standIns := [], harness := (true, "67b541b888956deaa3234d4590c3d48772829b706e325d07101b6a4f8724d16f"), looks := false }, kinds := [], alts := [], laidByText := true, laidKinds := [.data, .data, .data], laidTests := true, laidLooks := .later }
def LockClonesCardSaid : Prop := Claim7.holds Tryd.pinned (.plain (OpenSpec.ofChange lockClonesSpec)) lockClonesCard

/-- THE SECOND FORM's CARD OF 'captionerlaw56.LockFences'. -/
def lockFencesUptoCard : Claim7 := { stood := { row := lockFencesUptoRow, standIns := [], harness := (true, "67b541b888956deaa3234d4590c3d48772829b706e325d07101b6a4f8724d16f"), looks := false }, kinds := [], alts := [], laidByText := true, laidKinds := [.data, .data, .data], laidTests := true, laidLooks := .later }
def LockFencesUptoCardSaid : Prop := Claim7.holds Tryd.pinned (.plain (OpenSpec.upto lockFencesSpec)) lockFencesUptoCard

/-- THE SECOND FORM's CARD OF 'captionerlaw56.LockLasts'. -/
def lockLastsUptoCard : Claim7 := { stood := { row := lockLastsUptoRow, standIns := [], harness := (true, "67b541b888956deaa3234d4590c3d48772829b706e325d07101b6a4f8724d16f"), looks := false }, kinds := [], alts := [], laidByText := true, laidKinds := [.data, .data, .data], laidTests := true, laidLooks := .later }
def LockLastsUptoCardSaid : Prop := Claim7.holds Tryd.pinned (.plain (OpenSpec.upto lockLastsSpec)) lockLastsUptoCard

/-- THE SECOND FORM's CARD OF 'captionerlaw56.LockTimes'. -/
def lockTimesUptoCard : Claim7 := { stood := { row := lockTimesUptoRow, standIns := [], harness := (true, "67b541b888956deaa3234d4590c3d48772829b706e325d07101b6a4f8724d16f"), looks := false }, kinds := [], alts := [], laidByText := true, laidKinds := [.data, .data, .data], laidTests := true, laidLooks := .later }
def LockTimesUptoCardSaid : Prop := Claim7.holds Tryd.pinned (.plain (OpenSpec.upto lockTimesSpec)) lockTimesUptoCard

/-- THE SECOND FORM's CARD OF 'captionerlaw56.LockClones'. -/
def lockClonesUptoCard : Claim7 := { stood := { row := lockClonesUptoRow, standIns := [], harness := (true, "67b541b888956deaa3234d4590c3d48772829b706e325d07101b6a4f8724d16f"), looks := false }, kinds := [], alts := [], laidByText := true, laidKinds := [.data, .data, .data], laidTests := true, laidLooks := .later }
def LockClonesUptoCardSaid : Prop := Claim7.holds Tryd.pinned (.plain (OpenSpec.upto lockClonesSpec)) lockClonesUptoCard
end Rows
end Go.Proofs.YtmadiakafeofeaaDoor
