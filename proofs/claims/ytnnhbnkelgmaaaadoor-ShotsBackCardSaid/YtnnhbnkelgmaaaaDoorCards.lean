/-
  DERIVED. GIVEN WITH THE SEED: THE CARDS: each row of YtnnhbnkelgmaaaaDoorRows.lean that lists a variable, with what it lists TIED to the program's text (the seventh form; the later family's looks); each row that meets fmt, with fmt's text TOLD by the authors' own Lean function (tested against real Go, not proved from fmt's source: count such statements apart). THE CARD IS WHAT COUNTS. Prove the row's statement (the work); the ties are given (YtnnhbnkelgmaaaaDoorTie.lean); close each card by the builder's one call (the guide's Derived/Test/ToyasCard.lean, 'card_holds'). Laid BY PROGRAM, IN A SANDBOX (cutbox-door.mjs). By AI agents, Wed Nov 11 2026. No macro, syntax, notation, axiom, sorry.
-/
import Derived.Test.YtnnhbnkelgmaaaaDoorRows
import GoSem.ClaimSeven
namespace Go.Proofs.YtnnhbnkelgmaaaaDoor
namespace Rows

/-- THE TIED CARD OF 'captionerlaw37.ShotsChecks'. -/
def shotsChecksCard : Claim7 := { stood := { row := shotsChecksRow, standIns := [], harness := (true, "ddf2826fb92199c5783a6f6e304a9367aed88053f78760fb4f1006c967355253"), looks := false }, kinds := [], alts := [], laidByText := true, laidKinds := [.data, .data, .data], laidTests := true, laidLooks := .later }
def ShotsChecksCardSaid : Prop := Claim7.holds Tryd.pinned (.plain (OpenSpec.ofChange shotsChecksSpec)) shotsChecksCard

/-- THE TIED CARD OF 'captionerlaw37.ShotsClose'. -/
def shotsCloseCard : Claim7 := { stood := { row := shotsCloseRow, standIns := [], harness := (true, "ddf2826fb92199c5783a6f6e304a9367aed88053f78760fb4f1006c967355253"), looks := false }, kinds := [], alts := [], laidByText := true, laidKinds := [.data, .data, .data], laidTests := true, laidLooks := .later }
def ShotsCloseCardSaid : Prop := Claim7.holds Tryd.pinned (.plain (OpenSpec.ofChange shotsCloseSpec)) shotsCloseCard

/-- THE TIED CARD OF 'captionerlaw37.ShotsSnaps'. -/
def shotsSnapsCard : Claim7 := { stood := { row := shotsSnapsRow, standIns := [], harness := (true, "ddf2826fb92199c5783a6f6e304a9367aed88053f78760fb4f1006c967355253"), looks := false }, kinds := [], alts := [], laidByText := true, laidKinds := [.data, .data, .data], laidTests := true, laidLooks := .later }
def ShotsSnapsCardSaid : Prop := Claim7.holds Tryd.pinned (.plain (OpenSpec.ofChange shotsSnapsSpec)) shotsSnapsCard

/-- THE TIED CARD OF 'captionerlaw37.ShotsInside'. -/
def shotsInsideCard : Claim7 := { stood := { row := shotsInsideRow, standIns := [], harness := (true, "ddf2826fb92199c5783a6f6e304a9367aed88053f78760fb4f1006c967355253"), looks := false }, kinds := [], alts := [], laidByText := true, laidKinds := [.data, .data, .data], laidTests := true, laidLooks := .later }
def ShotsInsideCardSaid : Prop := Claim7.holds Tryd.pinned (.plain (OpenSpec.ofChange shotsInsideSpec)) shotsInsideCard

/-- THE TIED CARD OF 'captionerlaw37.ShotsTile'. -/
def shotsTileCard : Claim7 := { stood := { row := shotsTileRow, standIns := [], harness := (true, "ddf2826fb92199c5783a6f6e304a9367aed88053f78760fb4f1006c967355253"), looks := false }, kinds := [], alts := [], laidByText := true, laidKinds := [.data, .data, .data], laidTests := true, laidLooks := .later }
def ShotsTileCardSaid : Prop := Claim7.holds Tryd.pinned (.plain (OpenSpec.ofChange shotsTileSpec)) shotsTileCard

/-- THE TIED CARD OF 'captionerlaw37.ShotsTexts'. -/
def shotsTextsCard : Claim7 := { stood := { row := shotsTextsRow, standIns := [], harness := (true, "ddf2826fb92199c5783a6f6e304a9367aed88053f78760fb4f1006c967355253"), looks := false }, kinds := [], alts := [], laidByText := true, laidKinds := [.data, .data, .data, .data, .pinned], laidTests := true, laidLooks := .later }
def ShotsTextsCardSaid : Prop := Claim7.holds Tryd.pinned (.plain (OpenSpec.ofChange shotsTextsSpec)) shotsTextsCard

/-- THE TIED CARD OF 'captionerlaw37.ShotsBack'. -/
def shotsBackCard : Claim7 := { stood := { row := shotsBackRow, standIns := [], harness := (true, "ddf2826fb92199c5783a6f6e304a9367aed88053f78760fb4f1006c967355253"), looks := false }, kinds := [], alts := [], laidByText := true, laidKinds := [.data, .data, .data, .data, .pinned], laidTests := true, laidLooks := .later }
def ShotsBackCardSaid : Prop := Claim7.holds Tryd.pinned (.plain (OpenSpec.ofChange shotsBackSpec)) shotsBackCard

/-- THE SECOND FORM's CARD OF 'captionerlaw37.ShotsChecks'. -/
def shotsChecksUptoCard : Claim7 := { stood := { row := shotsChecksUptoRow, standIns := [], harness := (true, "ddf2826fb92199c5783a6f6e304a9367aed88053f78760fb4f1006c967355253"), looks := false }, kinds := [], alts := [], laidByText := true, laidKinds := [.data, .data, .data], laidTests := true, laidLooks := .later }
def ShotsChecksUptoCardSaid : Prop := Claim7.holds Tryd.pinned (.plain (OpenSpec.upto shotsChecksSpec)) shotsChecksUptoCard

/-- THE SECOND FORM's CARD OF 'captionerlaw37.ShotsClose'. -/
def shotsCloseUptoCard : Claim7 := { stood := { row := shotsCloseUptoRow, standIns := [], harness := (true, "ddf2826fb92199c5783a6f6e304a9367aed88053f78760fb4f1006c967355253"), looks := false }, kinds := [], alts := [], laidByText := true, laidKinds := [.data, .data, .data], laidTests := true, laidLooks := .later }
def ShotsCloseUptoCardSaid : Prop := Claim7.holds Tryd.pinned (.plain (OpenSpec.upto shotsCloseSpec)) shotsCloseUptoCard

/-- THE SECOND FORM's CARD OF 'captionerlaw37.ShotsSnaps'. -/
def shotsSnapsUptoCard : Claim7 := { stood := { row := shotsSnapsUptoRow, standIns := [], harness := (true, "ddf2826fb92199c5783a6f6e304a9367aed88053f78760fb4f1006c967355253"), looks := false }, kinds := [], alts := [], laidByText := true, laidKinds := [.data, .data, .data], laidTests := true, laidLooks := .later }
def ShotsSnapsUptoCardSaid : Prop := Claim7.holds Tryd.pinned (.plain (OpenSpec.upto shotsSnapsSpec)) shotsSnapsUptoCard

/-- THE SECOND FORM's CARD OF 'captionerlaw37.ShotsInside'. -/
def shotsInsideUptoCard : Claim7 := { stood := { row := shotsInsideUptoRow, standIns := [], harness := (true, "ddf2826fb92199c5783a6f6e304a9367aed88053f78760fb4f1006c967355253"), looks := false }, kinds := [], alts := [], laidByText := true, laidKinds := [.data, .data, .data], laidTests := true, laidLooks := .later }
def ShotsInsideUptoCardSaid : Prop := Claim7.holds Tryd.pinned (.plain (OpenSpec.upto shotsInsideSpec)) shotsInsideUptoCard

/-- THE SECOND FORM's CARD OF 'captionerlaw37.ShotsTile'. -/
def shotsTileUptoCard : Claim7 := { stood := { row := shotsTileUptoRow, standIns := [], harness := (true, "ddf2826fb92199c5783a6f6e304a9367aed88053f78760fb4f1006c967355253"), looks := false }, kinds := [], alts := [], laidByText := true, laidKinds := [.data, .data, .data], laidTests := true, laidLooks := .later }
def ShotsTileUptoCardSaid : Prop := Claim7.holds Tryd.pinned (.plain (OpenSpec.upto shotsTileSpec)) shotsTileUptoCard

/-- THE SECOND FORM's CARD OF 'captionerlaw37.ShotsTexts'. -/
def shotsTextsUptoCard : Claim7 := { stood := { row := shotsTextsUptoRow, standIns := [], harness := (true, "ddf2826fb92199c5783a6f6e304a9367aed88053f78760fb4f1006c967355253"), looks := false }, kinds := [], alts := [], laidByText := true, laidKinds := [.data, .data, .data, .data, .pinned], laidTests := true, laidLooks := .later }
def ShotsTextsUptoCardSaid : Prop := Claim7.holds Tryd.pinned (.plain (OpenSpec.upto shotsTextsSpec)) shotsTextsUptoCard

/-- THE SECOND FORM's CARD OF 'captionerlaw37.ShotsBack'. -/
def shotsBackUptoCard : Claim7 := { stood := { row := shotsBackUptoRow, standIns := [], harness := (true, "ddf2826fb92199c5783a6f6e304a9367aed88053f78760fb4f1006c967355253"), looks := false }, kinds := [], alts := [], laidByText := true, laidKinds := [.data, .data, .data, .data, .pinned], laidTests := true, laidLooks := .later }
def ShotsBackUptoCardSaid : Prop := Claim7.holds Tryd.pinned (.plain (OpenSpec.upto shotsBackSpec)) shotsBackUptoCard
end Rows
end Go.Proofs.YtnnhbnkelgmaaaaDoor
