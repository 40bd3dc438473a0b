/-
  DERIVED. GIVEN WITH THE SEED: THE CARDS: each row of YtdccjkbhmpfcmaaDoorRows.lean that lists a variable, with what it lists TIED to the program's text (the seventh form; the later family's looks); each row that meets fmt, with fmt's text TOLD by the authors' own Lean function (tested against real Go, not proved from fmt's source: count such statements apart). THE CARD IS WHAT COUNTS. Prove the row's statement (the work); the ties are given (YtdccjkbhmpfcmaaDoorTie.lean); close each card by the builder's one call (the guide's Derived/Test/ToyasCard.lean, 'card_holds'). Laid BY PROGRAM, IN A SANDBOX (cutbox-door.mjs). By AI agents, Wed Nov 11 2026. No macro, syntax, notation, axiom, sorry.
-/
import Derived.Test.YtdccjkbhmpfcmaaDoorRows
import GoSem.ClaimSeven
namespace Go.Proofs.YtdccjkbhmpfcmaaDoor
namespace Rows

/-- THE TIED CARD OF 'captionerlaw01.RatioMakes'. -/
def ratioMakesCard : Claim7 := { stood := { row := ratioMakesRow, standIns := [], harness := (true, "ad91e03e842e3bb956de47fa63e82e35e412e51d1f13a6d6dc8b0ea04ceb507a"), looks := true }, kinds := [], alts := [], laidByText := true, laidKinds := [.data, .data, .data, .sentinel, .sentinel], laidTests := true, laidLooks := .later }
def RatioMakesCardSaid : Prop := Claim7.holds Tryd.pinned (.plain (OpenSpec.ofChange ratioMakesSpec)) ratioMakesCard

/-- THE TIED CARD OF 'captionerlaw01.RatioQuotients'. -/
def ratioQuotientsCard : Claim7 := { stood := { row := ratioQuotientsRow, standIns := [], harness := (true, "ad91e03e842e3bb956de47fa63e82e35e412e51d1f13a6d6dc8b0ea04ceb507a"), looks := true }, kinds := [], alts := [], laidByText := true, laidKinds := [.data, .data, .data, .sentinel, .sentinel], laidTests := true, laidLooks := .later }
def RatioQuotientsCardSaid : Prop := Claim7.holds Tryd.pinned (.plain (OpenSpec.ofChange ratioQuotientsSpec)) ratioQuotientsCard

/-- THE TIED CARD OF 'captionerlaw01.RatioRounds'. -/
def ratioRoundsCard : Claim7 := { stood := { row := ratioRoundsRow, standIns := [], harness := (true, "ad91e03e842e3bb956de47fa63e82e35e412e51d1f13a6d6dc8b0ea04ceb507a"), looks := true }, kinds := [], alts := [], laidByText := true, laidKinds := [.data, .data, .data, .sentinel, .sentinel], laidTests := true, laidLooks := .later }
def RatioRoundsCardSaid : Prop := Claim7.holds Tryd.pinned (.plain (OpenSpec.ofChange ratioRoundsSpec)) ratioRoundsCard

/-- THE TIED CARD OF 'captionerlaw01.RatioTexts'. -/
def ratioTextsCard : Claim7 := { stood := { row := ratioTextsRow, standIns := [], harness := (true, "ad91e03e842e3bb956de47fa63e82e35e412e51d1f13a6d6dc8b0ea04ceb507a"), looks := true }, kinds := [], alts := [], laidByText := true, laidKinds := [.data, .data, .data, .sentinel, .sentinel], laidTests := true, laidLooks := .later }
def RatioTextsCardSaid : Prop := Claim7.holds Tryd.pinned (.plain (OpenSpec.ofChange ratioTextsSpec)) ratioTextsCard

/-- THE TIED CARD OF 'captionerlaw01.RatioParses'. -/
def ratioParsesCard : Claim7 := { stood := { row := ratioParsesRow, standIns := [], harness := (true, "ad91e03e842e3bb956de47fa63e82e35e412e51d1f13a6d6dc8b0ea04ceb507a"), looks := true }, kinds := [], alts := [], laidByText := true, laidKinds := [.data, .data, .data, .sentinel, .sentinel], laidTests := true, laidLooks := .later }
def RatioParsesCardSaid : Prop := Claim7.holds Tryd.pinned (.plain (OpenSpec.ofChange ratioParsesSpec)) ratioParsesCard

/-- THE TIED CARD OF 'captionerlaw01.RatioSums'. -/
def ratioSumsCard : Claim7 := { stood := { row := ratioSumsRow, standIns := [], harness := (true, "ad91e03e842e3bb956de47fa63e82e35e412e51d1f13a6d6dc8b0ea04ceb507a"), looks := true }, kinds := [], alts := [], laidByText := true, laidKinds := [.data, .data, .data, .sentinel, .sentinel], laidTests := true, laidLooks := .later }
def RatioSumsCardSaid : Prop := Claim7.holds Tryd.pinned (.plain (OpenSpec.ofChange ratioSumsSpec)) ratioSumsCard

/-- THE TIED CARD OF 'captionerlaw01.RatioProducts'. -/
def ratioProductsCard : Claim7 := { stood := { row := ratioProductsRow, standIns := [], harness := (true, "ad91e03e842e3bb956de47fa63e82e35e412e51d1f13a6d6dc8b0ea04ceb507a"), looks := true }, kinds := [], alts := [], laidByText := true, laidKinds := [.data, .data, .data, .sentinel, .sentinel], laidTests := true, laidLooks := .later }
def RatioProductsCardSaid : Prop := Claim7.holds Tryd.pinned (.plain (OpenSpec.ofChange ratioProductsSpec)) ratioProductsCard

/-- THE TIED CARD OF 'captionerlaw01.RatioField'. -/
def ratioFieldCard : Claim7 := { stood := { row := ratioFieldRow, standIns := [], harness := (true, "ad91e03e842e3bb956de47fa63e82e35e412e51d1f13a6d6dc8b0ea04ceb507a"), looks := true }, kinds := [], alts := [], laidByText := true, laidKinds := [.data, .data, .data, .sentinel, .sentinel], laidTests := true, laidLooks := .later }
def RatioFieldCardSaid : Prop := Claim7.holds Tryd.pinned (.plain (OpenSpec.ofChange ratioFieldSpec)) ratioFieldCard

/-- THE TIED CARD OF 'captionerlaw01.RatioOrders'. -/
def ratioOrdersCard : Claim7 := { stood := { row := ratioOrdersRow, standIns := [], harness := (true, "ad91e03e842e3bb956de47fa63e82e35e412e51d1f13a6d6dc8b0ea04ceb507a"), looks := true }, kinds := [], alts := [], laidByText := true, laidKinds := [.data, .data, .data, .sentinel, .sentinel], laidTests := true, laidLooks := .later }
def RatioOrdersCardSaid : Prop := Claim7.holds Tryd.pinned (.plain (OpenSpec.ofChange ratioOrdersSpec)) ratioOrdersCard

/-- THE TIED CARD OF 'captionerlaw01.RatioScales'. -/
def ratioScalesCard : Claim7 := { stood := { row := ratioScalesRow, standIns := [], harness := (true, "ad91e03e842e3bb956de47fa63e82e35e412e51d1f13a6d6dc8b0ea04ceb507a"), looks := true }, kinds := [], alts := [], laidByText := true, laidKinds := [.data, .data, .data, .sentinel, .sentinel], laidTests := true, laidLooks := .later }
def RatioScalesCardSaid : Prop := Claim7.holds Tryd.pinned (.plain (OpenSpec.ofChange ratioScalesSpec)) ratioScalesCard

/-- THE SECOND FORM's CARD OF 'captionerlaw01.RatioMakes'. -/
def ratioMakesUptoCard : Claim7 := { stood := { row := ratioMakesUptoRow, standIns := [], harness := (true, "ad91e03e842e3bb956de47fa63e82e35e412e51d1f13a6d6dc8b0ea04ceb507a"), looks := true }, kinds := [], alts := [], laidByText := true, laidKinds := [.data, .data, .data, .sentinel, .sentinel], laidTests := true, laidLooks := .later }
def RatioMakesUptoCardSaid : Prop := Claim7.holds Tryd.pinned (.plain (OpenSpec.upto ratioMakesSpec)) ratioMakesUptoCard

/-- THE SECOND FORM's CARD OF 'captionerlaw01.RatioQuotients'. -/
def ratioQuotientsUptoCard : Claim7 := { stood := { row := ratioQuotientsUptoRow, standIns := [], harness := (true, "ad91e03e842e3bb956de47fa63e82e35e412e51d1f13a6d6dc8b0ea04ceb507a"), looks := true }, kinds := [], alts := [], laidByText := true, laidKinds := [.data, .data, .data, .sentinel, .sentinel], laidTests := true, laidLooks := .later }
def RatioQuotientsUptoCardSaid : Prop := Claim7.holds Tryd.pinned (.plain (OpenSpec.upto ratioQuotientsSpec)) ratioQuotientsUptoCard

/-- THE SECOND FORM's CARD OF 'captionerlaw01.RatioRounds'. -/
def ratioRoundsUptoCard : Claim7 := { stood := { row := ratioRoundsUptoRow, standIns := [], harness := (true, "ad91e03e842e3bb956de47fa63e82e35e412e51d1f13a6d6dc8b0ea04ceb507a"), looks := true }, kinds := [], alts := [], laidByText := true, laidKinds := [.data, .data, .data, .sentinel, .sentinel], laidTests := true, laidLooks := .later }
def RatioRoundsUptoCardSaid : Prop := Claim7.holds Tryd.pinned (.plain (OpenSpec.upto ratioRoundsSpec)) ratioRoundsUptoCard

/-- THE SECOND FORM's CARD OF 'captionerlaw01.RatioTexts'. -/
def ratioTextsUptoCard : Claim7 := { stood := { row := ratioTextsUptoRow, standIns := [], harness := (true, "ad91e03e842e3bb956de47fa63e82e35e412e51d1f13a6d6dc8b0ea04ceb507a"), looks := true }, kinds := [], alts := [], laidByText := true, laidKinds := [.data, .data, .data, .sentinel, .sentinel], laidTests := true, laidLooks := .later }
def RatioTextsUptoCardSaid : Prop := Claim7.holds Tryd.pinned (.plain (OpenSpec.upto ratioTextsSpec)) ratioTextsUptoCard

/-- THE SECOND FORM's CARD OF 'captionerlaw01.RatioParses'. -/
def ratioParsesUptoCard : Claim7 := { stood := { row := ratioParsesUptoRow, standIns := [], harness := (true, "ad91e03e842e3bb956de47fa63e82e35e412e51d1f13a6d6dc8b0ea04ceb507a"), looks := true }, kinds := [], alts := [], laidByText := true, laidKinds := [.data, .data, .data, .sentinel, .sentinel], laidTests := true, laidLooks := .later }
def RatioParsesUptoCardSaid : Prop := Claim7.holds Tryd.pinned (.plain (OpenSpec.upto ratioParsesSpec)) ratioParsesUptoCard

/-- THE SECOND FORM's CARD OF 'captionerlaw01.RatioSums'. -/
def ratioSumsUptoCard : Claim7 := { stood := { row := ratioSumsUptoRow, standIns := [], harness := (true, "ad91e03e842e3bb956de47fa63e82e35e412e51d1f13a6d6dc8b0ea04ceb507a"), looks := true }, kinds := [], alts := [], laidByText := true, laidKinds := [.data, .data, .data, .sentinel, .sentinel], laidTests := true, laidLooks := .later }
def RatioSumsUptoCardSaid : Prop := Claim7.holds Tryd.pinned (.plain (OpenSpec.upto ratioSumsSpec)) ratioSumsUptoCard

/-- THE SECOND FORM's CARD OF 'captionerlaw01.RatioProducts'. -/
def ratioProductsUptoCard : Claim7 := { stood := { row := ratioProductsUptoRow, standIns := [], harness := (true, "ad91e03e842e3bb956de47fa63e82e35e412e51d1f13a6d6dc8b0ea04ceb507a"), looks := true }, kinds := [], alts := [], laidByText := true, laidKinds := [.data, .data, .data, .sentinel, .sentinel], laidTests := true, laidLooks := .later }
def RatioProductsUptoCardSaid : Prop := Claim7.holds Tryd.pinned (.plain (OpenSpec.upto ratioProductsSpec)) ratioProductsUptoCard

/-- THE SECOND FORM's CARD OF 'captionerlaw01.RatioField'. -/
def ratioFieldUptoCard : Claim7 := { stood := { row := ratioFieldUptoRow, standIns := [], harness := (true, "ad91e03e842e3bb956de47fa63e82e35e412e51d1f13a6d6dc8b0ea04ceb507a"), looks := true }, kinds := [], alts := [], laidByText := true, laidKinds := [.data, .data, .data, .sentinel, .sentinel], laidTests := true, laidLooks := .later }
def RatioFieldUptoCardSaid : Prop := Claim7.holds Tryd.pinned (.plain (OpenSpec.upto ratioFieldSpec)) ratioFieldUptoCard

/-- THE SECOND FORM's CARD OF 'captionerlaw01.RatioOrders'. -/
def ratioOrdersUptoCard : Claim7 := { stood := { row := ratioOrdersUptoRow, standIns := [], harness := (true, "ad91e03e842e3bb956de47fa63e82e35e412e51d1f13a6d6dc8b0ea04ceb507a"), looks := true }, kinds := [], alts := [], laidByText := true, laidKinds := [.data, .data, .data, .sentinel, .sentinel], laidTests := true, laidLooks := .later }
def RatioOrdersUptoCardSaid : Prop := Claim7.holds Tryd.pinned (.plain (OpenSpec.upto ratioOrdersSpec)) ratioOrdersUptoCard

/-- THE SECOND FORM's CARD OF 'captionerlaw01.RatioScales'. -/
def ratioScalesUptoCard : Claim7 := { stood := { row := ratioScalesUptoRow, standIns := [], harness := (true, "ad91e03e842e3bb956de47fa63e82e35e412e51d1f13a6d6dc8b0ea04ceb507a"), looks := true }, kinds := [], alts := [], laidByText := true, laidKinds := [.data, .data, .data, .sentinel, .sentinel], laidTests := true, laidLooks := .later }
def RatioScalesUptoCardSaid : Prop := Claim7.holds Tryd.pinned (.plain (OpenSpec.upto ratioScalesSpec)) ratioScalesUptoCard
end Rows
end Go.Proofs.YtdccjkbhmpfcmaaDoor
