/-
  DERIVED. GIVEN WITH THE SEED: THE CARDS: each row of YteojlodcafogaaaGreatDoorRows.lean that lists a variable, with what it lists TIED to the program's text (the seventh form; the later family's looks); each row that meets fmt, with fmt's text TOLD by the authors' own Lean function (tested against real Go, not proved from fmt's source: count such statements apart). THE CARD IS WHAT COUNTS. Prove the row's statement (the work); the ties are given (YteojlodcafogaaaGreatDoorTie.lean); close each card by the builder's one call (the guide's Derived/Test/ToyasCard.lean, 'card_holds'). Laid BY PROGRAM, IN A SANDBOX (cutbox-door.mjs). By AI agents, Wed Nov 11 2026. No macro, syntax, notation, axiom, sorry.
-/
import Derived.Test.YteojlodcafogaaaGreatDoorRows
import GoSem.ClaimSeven
namespace Go.Proofs.YteojlodcafogaaaGreatDoor
namespace Rows

/-- THE TIED CARD OF 'captionerlaw06.TimemapTexts'. -/
def timemapTextsCard : Claim7 := { stood := { row := timemapTextsRow, standIns := [], harness := (true, "14ce6f282fd076e4b4fe6a3ddf4cab582935433b5f8d33f1c1e5bfb6781bd558"), looks := true }, kinds := [], alts := [], laidByText := true, laidKinds := [.data, .data, .data, .data, .sentinel, .sentinel, .pinned], laidTests := true, laidLooks := .later }
def TimemapTextsCardSaid : Prop := Claim7.holds Tryz.pinned (.plain (OpenSpec.ofChange timemapTextsSpec)) timemapTextsCard

/-- THE TIED CARD OF 'captionerlaw06.TimemapParses'. -/
def timemapParsesCard : Claim7 := { stood := { row := timemapParsesRow, standIns := [], harness := (true, "14ce6f282fd076e4b4fe6a3ddf4cab582935433b5f8d33f1c1e5bfb6781bd558"), looks := true }, kinds := [], alts := [], laidByText := true, laidKinds := [.data, .data, .data, .data, .sentinel, .sentinel, .pinned], laidTests := true, laidLooks := .later }
def TimemapParsesCardSaid : Prop := Claim7.holds Tryz.pinned (.plain (OpenSpec.ofChange timemapParsesSpec)) timemapParsesCard

/-- THE TIED CARD OF 'captionerlaw06.TimemapChecks'. -/
def timemapChecksCard : Claim7 := { stood := { row := timemapChecksRow, standIns := [], harness := (true, "14ce6f282fd076e4b4fe6a3ddf4cab582935433b5f8d33f1c1e5bfb6781bd558"), looks := true }, kinds := [], alts := [], laidByText := true, laidKinds := [.data, .data, .data, .data, .sentinel, .sentinel, .pinned], laidTests := true, laidLooks := .later }
def TimemapChecksCardSaid : Prop := Claim7.holds Tryz.pinned (.plain (OpenSpec.ofChange timemapChecksSpec)) timemapChecksCard

/-- THE TIED CARD OF 'captionerlaw06.TimemapSpans'. -/
def timemapSpansCard : Claim7 := { stood := { row := timemapSpansRow, standIns := [], harness := (true, "14ce6f282fd076e4b4fe6a3ddf4cab582935433b5f8d33f1c1e5bfb6781bd558"), looks := true }, kinds := [], alts := [], laidByText := true, laidKinds := [.data, .data, .data, .data, .sentinel, .sentinel, .pinned], laidTests := true, laidLooks := .later }
def TimemapSpansCardSaid : Prop := Claim7.holds Tryz.pinned (.plain (OpenSpec.ofChange timemapSpansSpec)) timemapSpansCard

/-- THE TIED CARD OF 'captionerlaw06.TimemapShifts'. -/
def timemapShiftsCard : Claim7 := { stood := { row := timemapShiftsRow, standIns := [], harness := (true, "14ce6f282fd076e4b4fe6a3ddf4cab582935433b5f8d33f1c1e5bfb6781bd558"), looks := true }, kinds := [], alts := [], laidByText := true, laidKinds := [.data, .data, .data, .data, .sentinel, .sentinel, .pinned], laidTests := true, laidLooks := .later }
def TimemapShiftsCardSaid : Prop := Claim7.holds Tryz.pinned (.plain (OpenSpec.ofChange timemapShiftsSpec)) timemapShiftsCard

/-- THE TIED CARD OF 'captionerlaw06.TimemapLeads'. -/
def timemapLeadsCard : Claim7 := { stood := { row := timemapLeadsRow, standIns := [], harness := (true, "14ce6f282fd076e4b4fe6a3ddf4cab582935433b5f8d33f1c1e5bfb6781bd558"), looks := true }, kinds := [], alts := [], laidByText := true, laidKinds := [.data, .data, .data, .data, .sentinel, .sentinel, .pinned], laidTests := true, laidLooks := .later }
def TimemapLeadsCardSaid : Prop := Claim7.holds Tryz.pinned (.plain (OpenSpec.ofChange timemapLeadsSpec)) timemapLeadsCard

/-- THE TIED CARD OF 'captionerlaw06.TimemapInverts'. -/
def timemapInvertsCard : Claim7 := { stood := { row := timemapInvertsRow, standIns := [], harness := (true, "14ce6f282fd076e4b4fe6a3ddf4cab582935433b5f8d33f1c1e5bfb6781bd558"), looks := true }, kinds := [], alts := [], laidByText := true, laidKinds := [.data, .data, .data, .data, .sentinel, .sentinel, .pinned], laidTests := true, laidLooks := .later }
def TimemapInvertsCardSaid : Prop := Claim7.holds Tryz.pinned (.plain (OpenSpec.ofChange timemapInvertsSpec)) timemapInvertsCard

/-- THE TIED CARD OF 'captionerlaw06.TimemapComposes'. -/
def timemapComposesCard : Claim7 := { stood := { row := timemapComposesRow, standIns := [], harness := (true, "14ce6f282fd076e4b4fe6a3ddf4cab582935433b5f8d33f1c1e5bfb6781bd558"), looks := true }, kinds := [], alts := [], laidByText := true, laidKinds := [.data, .data, .data, .data, .sentinel, .sentinel, .pinned], laidTests := true, laidLooks := .later }
def TimemapComposesCardSaid : Prop := Claim7.holds Tryz.pinned (.plain (OpenSpec.ofChange timemapComposesSpec)) timemapComposesCard

/-- THE TIED CARD OF 'captionerlaw06.TimemapChains'. -/
def timemapChainsCard : Claim7 := { stood := { row := timemapChainsRow, standIns := [], harness := (true, "14ce6f282fd076e4b4fe6a3ddf4cab582935433b5f8d33f1c1e5bfb6781bd558"), looks := true }, kinds := [], alts := [], laidByText := true, laidKinds := [.data, .data, .data, .data, .sentinel, .sentinel, .pinned], laidTests := true, laidLooks := .later }
def TimemapChainsCardSaid : Prop := Claim7.holds Tryz.pinned (.plain (OpenSpec.ofChange timemapChainsSpec)) timemapChainsCard

/-- THE SECOND FORM's CARD OF 'captionerlaw06.TimemapTexts'. -/
def timemapTextsUptoCard : Claim7 := { stood := { row := timemapTextsUptoRow, standIns := [], harness := (true, "14ce6f282fd076e4b4fe6a3ddf4cab582935433b5f8d33f1c1e5bfb6781bd558"), looks := true }, kinds := [], alts := [], laidByText := true, laidKinds := [.data, .data, .data, .data, .sentinel, .sentinel, .pinned], laidTests := true, laidLooks := .later }
def TimemapTextsUptoCardSaid : Prop := Claim7.holds Tryz.pinned (.plain (OpenSpec.upto timemapTextsSpec)) timemapTextsUptoCard

/-- THE SECOND FORM's CARD OF 'captionerlaw06.TimemapParses'. -/
def timemapParsesUptoCard : Claim7 := { stood := { row := timemapParsesUptoRow, standIns := [], harness := (true, "14ce6f282fd076e4b4fe6a3ddf4cab582935433b5f8d33f1c1e5bfb6781bd558"), looks := true }, kinds := [], alts := [], laidByText := true, laidKinds := [.data, .data, .data, .data, .sentinel, .sentinel, .pinned], laidTests := true, laidLooks := .later }
def TimemapParsesUptoCardSaid : Prop := Claim7.holds Tryz.pinned (.plain (OpenSpec.upto timemapParsesSpec)) timemapParsesUptoCard

/-- THE SECOND FORM's CARD OF 'captionerlaw06.TimemapChecks'. -/
def timemapChecksUptoCard : Claim7 := { stood := { row := timemapChecksUptoRow, standIns := [], harness := (true, "14ce6f282fd076e4b4fe6a3ddf4cab582935433b5f8d33f1c1e5bfb6781bd558"), looks := true }, kinds := [], alts := [], laidByText := true, laidKinds := [.data, .data, .data, .data, .sentinel, .sentinel, .pinned], laidTests := true, laidLooks := .later }
def TimemapChecksUptoCardSaid : Prop := Claim7.holds Tryz.pinned (.plain (OpenSpec.upto timemapChecksSpec)) timemapChecksUptoCard

/-- THE SECOND FORM's CARD OF 'captionerlaw06.TimemapSpans'. -/
def timemapSpansUptoCard : Claim7 := { stood := { row := timemapSpansUptoRow, standIns := [], harness := (true, "14ce6f282fd076e4b4fe6a3ddf4cab582935433b5f8d33f1c1e5bfb6781bd558"), looks := true }, kinds := [], alts := [], laidByText := true, laidKinds := [.data, .data, .data, .data, .sentinel, .sentinel, .pinned], laidTests := true, laidLooks := .later }
def TimemapSpansUptoCardSaid : Prop := Claim7.holds Tryz.pinned (.plain (OpenSpec.upto timemapSpansSpec)) timemapSpansUptoCard

/-- THE SECOND FORM's CARD OF 'captionerlaw06.TimemapShifts'. -/
def timemapShiftsUptoCard : Claim7 := { stood := { row := timemapShiftsUptoRow, standIns := [], harness := (true, "14ce6f282fd076e4b4fe6a3ddf4cab582935433b5f8d33f1c1e5bfb6781bd558"), looks := true }, kinds := [], alts := [], laidByText := true, laidKinds := [.data, .data, .data, .data, .sentinel, .sentinel, .pinned], laidTests := true, laidLooks := .later }
def TimemapShiftsUptoCardSaid : Prop := Claim7.holds Tryz.pinned (.plain (OpenSpec.upto timemapShiftsSpec)) timemapShiftsUptoCard

/-- THE SECOND FORM's CARD OF 'captionerlaw06.TimemapLeads'. -/
def timemapLeadsUptoCard : Claim7 := { stood := { row := timemapLeadsUptoRow, standIns := [], harness := (true, "14ce6f282fd076e4b4fe6a3ddf4cab582935433b5f8d33f1c1e5bfb6781bd558"), looks := true }, kinds := [], alts := [], laidByText := true, laidKinds := [.data, .data, .data, .data, .sentinel, .sentinel, .pinned], laidTests := true, laidLooks := .later }
def TimemapLeadsUptoCardSaid : Prop := Claim7.holds Tryz.pinned (.plain (OpenSpec.upto timemapLeadsSpec)) timemapLeadsUptoCard

/-- THE SECOND FORM's CARD OF 'captionerlaw06.TimemapInverts'. -/
def timemapInvertsUptoCard : Claim7 := { stood := { row := timemapInvertsUptoRow, standIns := [], harness := (true, "14ce6f282fd076e4b4fe6a3ddf4cab582935433b5f8d33f1c1e5bfb6781bd558"), looks := true }, kinds := [], alts := [], laidByText := true, laidKinds := [.data, .data, .data, .data, .sentinel, .sentinel, .pinned], laidTests := true, laidLooks := .later }
def TimemapInvertsUptoCardSaid : Prop := Claim7.holds Tryz.pinned (.plain (OpenSpec.upto timemapInvertsSpec)) timemapInvertsUptoCard

/-- THE SECOND FORM's CARD OF 'captionerlaw06.TimemapComposes'. -/
def timemapComposesUptoCard : Claim7 := { stood := { row := timemapComposesUptoRow, standIns := [], harness := (true, "14ce6f282fd076e4b4fe6a3ddf4cab582935433b5f8d33f1c1e5bfb6781bd558"), looks := true }, kinds := [], alts := [], laidByText := true, laidKinds := [.data, .data, .data, .data, .sentinel, .sentinel, .pinned], laidTests := true, laidLooks := .later }
def TimemapComposesUptoCardSaid : Prop := Claim7.holds Tryz.pinned (.plain (OpenSpec.upto timemapComposesSpec)) timemapComposesUptoCard

/-- THE SECOND FORM's CARD OF 'captionerlaw06.TimemapChains'. -/
def timemapChainsUptoCard : Claim7 := { stood := { row := timemapChainsUptoRow, standIns := [], harness := (true, "14ce6f282fd076e4b4fe6a3ddf4cab582935433b5f8d33f1c1e5bfb6781bd558"), looks := true }, kinds := [], alts := [], laidByText := true, laidKinds := [.data, .data, .data, .data, .sentinel, .sentinel, .pinned], laidTests := true, laidLooks := .later }
def TimemapChainsUptoCardSaid : Prop := Claim7.holds Tryz.pinned (.plain (OpenSpec.upto timemapChainsSpec)) timemapChainsUptoCard
end Rows
end Go.Proofs.YteojlodcafogaaaGreatDoor
