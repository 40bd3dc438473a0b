/-
  DERIVED. GIVEN WITH THE SEED: THE CARDS: each row of YtbebnbpdemdocaaDoorRows.lean that lists a variable, with what it lists TIED to the program's text (the seventh form; the later family's looks); each row that meets fmt, with fmt's text TOLD by the authors' own Lean function (tested against real Go, not proved from fmt's source: count such statements apart). THE CARD IS WHAT COUNTS. Prove the row's statement (the work); the ties are given (YtbebnbpdemdocaaDoorTie.lean); close each card by the builder's one call (the guide's Derived/Test/ToyasCard.lean, 'card_holds'). Laid BY PROGRAM, IN A SANDBOX (cutbox-door.mjs). By AI agents, Wed Nov 11 2026. No macro, syntax, notation, axiom, sorry.
-/
import Derived.Test.YtbebnbpdemdocaaDoorRows
import GoSem.ClaimSeven
namespace Go.Proofs.YtbebnbpdemdocaaDoor
namespace Rows

/-- THE TIED CARD OF 'captionerlaw35.PenaltyTexts'. -/
def penaltyTextsCard : Claim7 := { stood := { row := penaltyTextsRow, standIns := [], harness := (true, "1fc5b52c919dd6b756cf90a0128540751aa220b9736ebf6aca30cb98f37e84e8"), looks := false }, kinds := [], alts := [], laidByText := true, laidKinds := [.data, .data, .data, .data, .pinned], laidTests := true, laidLooks := .later }
def PenaltyTextsCardSaid : Prop := Claim7.holds Tryd.pinned (.plain (OpenSpec.ofChange penaltyTextsSpec)) penaltyTextsCard

/-- THE TIED CARD OF 'captionerlaw35.PenaltyParses'. -/
def penaltyParsesCard : Claim7 := { stood := { row := penaltyParsesRow, standIns := [], harness := (true, "1fc5b52c919dd6b756cf90a0128540751aa220b9736ebf6aca30cb98f37e84e8"), looks := false }, kinds := [], alts := [], laidByText := true, laidKinds := [.data, .data, .data, .data, .pinned], laidTests := true, laidLooks := .later }
def PenaltyParsesCardSaid : Prop := Claim7.holds Tryd.pinned (.plain (OpenSpec.ofChange penaltyParsesSpec)) penaltyParsesCard

/-- THE SECOND FORM's CARD OF 'captionerlaw35.PenaltyTexts'. -/
def penaltyTextsUptoCard : Claim7 := { stood := { row := penaltyTextsUptoRow, standIns := [], harness := (true, "1fc5b52c919dd6b756cf90a0128540751aa220b9736ebf6aca30cb98f37e84e8"), looks := false }, kinds := [], alts := [], laidByText := true, laidKinds := [.data, .data, .data, .data, .pinned], laidTests := true, laidLooks := .later }
def PenaltyTextsUptoCardSaid : Prop := Claim7.holds Tryd.pinned (.plain (OpenSpec.upto penaltyTextsSpec)) penaltyTextsUptoCard

/-- THE SECOND FORM's CARD OF 'captionerlaw35.PenaltyParses'. -/
def penaltyParsesUptoCard : Claim7 := { stood := { row := penaltyParsesUptoRow, standIns := [], harness := (true, "1fc5b52c919dd6b756cf90a0128540751aa220b9736ebf6aca30cb98f37e84e8"), looks := false }, kinds := [], alts := [], laidByText := true, laidKinds := [.data, .data, .data, .data, .pinned], laidTests := true, laidLooks := .later }
def PenaltyParsesUptoCardSaid : Prop := Claim7.holds Tryd.pinned (.plain (OpenSpec.upto penaltyParsesSpec)) penaltyParsesUptoCard
end Rows
end Go.Proofs.YtbebnbpdemdocaaDoor
