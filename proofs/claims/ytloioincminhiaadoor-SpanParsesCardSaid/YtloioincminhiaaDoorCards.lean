/-
  DERIVED. GIVEN WITH THE SEED: THE CARDS: each row of YtloioincminhiaaDoorRows.lean that lists a variable, with what it lists TIED to the program's text (the seventh form; the later family's looks); each row that meets fmt, with fmt's text TOLD by the authors' own Lean function (tested against real Go, not proved from fmt's source: count such statements apart). THE CARD IS WHAT COUNTS. Prove the row's statement (the work); the ties are given (YtloioincminhiaaDoorTie.lean); close each card by the builder's one call (the guide's Derived/Test/ToyasCard.lean, 'card_holds'). Laid BY PROGRAM, IN A SANDBOX (cutbox-door.mjs). By AI agents, Wed Nov 11 2026. No macro, syntax, notation, axiom, sorry.
-/
import Derived.Test.YtloioincminhiaaDoorRows
import GoSem.ClaimSeven
namespace Go.Proofs.YtloioincminhiaaDoor
namespace Rows

/-- THE TIED CARD OF 'captionerlaw05.SpanChecks'. -/
def spanChecksCard : Claim7 := { stood := { row := spanChecksRow, standIns := [], harness := (true, "7a9bb2d688db222b252d43eaa9c3037b81288acfe0f672bcc635f2a88ef7ba02"), looks := true }, kinds := [], alts := [], laidByText := true, laidKinds := [.data, .data, .data], laidTests := true, laidLooks := .later }
def SpanChecksCardSaid : Prop := Claim7.holds Tryd.pinned (.plain (OpenSpec.ofChange spanChecksSpec)) spanChecksCard

/-- THE TIED CARD OF 'captionerlaw05.SpanJoins'. -/
def spanJoinsCard : Claim7 := { stood := { row := spanJoinsRow, standIns := [], harness := (true, "7a9bb2d688db222b252d43eaa9c3037b81288acfe0f672bcc635f2a88ef7ba02"), looks := true }, kinds := [], alts := [], laidByText := true, laidKinds := [.data, .data, .data], laidTests := true, laidLooks := .later }
def SpanJoinsCardSaid : Prop := Claim7.holds Tryd.pinned (.plain (OpenSpec.ofChange spanJoinsSpec)) spanJoinsCard

/-- THE TIED CARD OF 'captionerlaw05.SpanMinus'. -/
def spanMinusCard : Claim7 := { stood := { row := spanMinusRow, standIns := [], harness := (true, "7a9bb2d688db222b252d43eaa9c3037b81288acfe0f672bcc635f2a88ef7ba02"), looks := true }, kinds := [], alts := [], laidByText := true, laidKinds := [.data, .data, .data], laidTests := true, laidLooks := .later }
def SpanMinusCardSaid : Prop := Claim7.holds Tryd.pinned (.plain (OpenSpec.ofChange spanMinusSpec)) spanMinusCard

/-- THE TIED CARD OF 'captionerlaw05.SpanUnions'. -/
def spanUnionsCard : Claim7 := { stood := { row := spanUnionsRow, standIns := [], harness := (true, "7a9bb2d688db222b252d43eaa9c3037b81288acfe0f672bcc635f2a88ef7ba02"), looks := true }, kinds := [], alts := [], laidByText := true, laidKinds := [.data, .data, .data], laidTests := true, laidLooks := .later }
def SpanUnionsCardSaid : Prop := Claim7.holds Tryd.pinned (.plain (OpenSpec.ofChange spanUnionsSpec)) spanUnionsCard

/-- THE TIED CARD OF 'captionerlaw05.SpanCounts'. -/
def spanCountsCard : Claim7 := { stood := { row := spanCountsRow, standIns := [], harness := (true, "7a9bb2d688db222b252d43eaa9c3037b81288acfe0f672bcc635f2a88ef7ba02"), looks := true }, kinds := [], alts := [], laidByText := true, laidKinds := [.data, .data, .data], laidTests := true, laidLooks := .later }
def SpanCountsCardSaid : Prop := Claim7.holds Tryd.pinned (.plain (OpenSpec.ofChange spanCountsSpec)) spanCountsCard

/-- THE TIED CARD OF 'captionerlaw05.SpanMembers'. -/
def spanMembersCard : Claim7 := { stood := { row := spanMembersRow, standIns := [], harness := (true, "7a9bb2d688db222b252d43eaa9c3037b81288acfe0f672bcc635f2a88ef7ba02"), looks := true }, kinds := [], alts := [], laidByText := true, laidKinds := [.data, .data, .data], laidTests := true, laidLooks := .later }
def SpanMembersCardSaid : Prop := Claim7.holds Tryd.pinned (.plain (OpenSpec.ofChange spanMembersSpec)) spanMembersCard

/-- THE TIED CARD OF 'captionerlaw05.SpanTexts'. -/
def spanTextsCard : Claim7 := { stood := { row := spanTextsRow, standIns := [], harness := (true, "7a9bb2d688db222b252d43eaa9c3037b81288acfe0f672bcc635f2a88ef7ba02"), looks := true }, kinds := [], alts := [], laidByText := true, laidKinds := [.data, .data, .data, .data, .sentinel, .sentinel, .pinned], laidTests := true, laidLooks := .later }
def SpanTextsCardSaid : Prop := Claim7.holds Tryd.pinned (.plain (OpenSpec.ofChange spanTextsSpec)) spanTextsCard

/-- THE TIED CARD OF 'captionerlaw05.SpanParses'. -/
def spanParsesCard : Claim7 := { stood := { row := spanParsesRow, standIns := [], harness := (true, "7a9bb2d688db222b252d43eaa9c3037b81288acfe0f672bcc635f2a88ef7ba02"), looks := true }, kinds := [], alts := [], laidByText := true, laidKinds := [.data, .data, .data, .data, .sentinel, .sentinel, .pinned], laidTests := true, laidLooks := .later }
def SpanParsesCardSaid : Prop := Claim7.holds Tryd.pinned (.plain (OpenSpec.ofChange spanParsesSpec)) spanParsesCard

/-- THE SECOND FORM's CARD OF 'captionerlaw05.SpanChecks'. -/
def spanChecksUptoCard : Claim7 := { stood := { row := spanChecksUptoRow, standIns := [], harness := (true, "7a9bb2d688db222b252d43eaa9c3037b81288acfe0f672bcc635f2a88ef7ba02"), looks := true }, kinds := [], alts := [], laidByText := true, laidKinds := [.data, .data, .data], laidTests := true, laidLooks := .later }
def SpanChecksUptoCardSaid : Prop := Claim7.holds Tryd.pinned (.plain (OpenSpec.upto spanChecksSpec)) spanChecksUptoCard

/-- THE SECOND FORM's CARD OF 'captionerlaw05.SpanJoins'. -/
def spanJoinsUptoCard : Claim7 := { stood := { row := spanJoinsUptoRow, standIns := [], harness := (true, "7a9bb2d688db222b252d43eaa9c3037b81288acfe0f672bcc635f2a88ef7ba02"), looks := true }, kinds := [], alts := [], laidByText := true, laidKinds := [.data, .data, .data], laidTests := true, laidLooks := .later }
def SpanJoinsUptoCardSaid : Prop := Claim7.holds Tryd.pinned (.plain (OpenSpec.upto spanJoinsSpec)) spanJoinsUptoCard

/-- THE SECOND FORM's CARD OF 'captionerlaw05.SpanMinus'. -/
def spanMinusUptoCard : Claim7 := { stood := { row := spanMinusUptoRow, standIns := [], harness := (true, "7a9bb2d688db222b252d43eaa9c3037b81288acfe0f672bcc635f2a88ef7ba02"), looks := true }, kinds := [], alts := [], laidByText := true, laidKinds := [.data, .data, .data], laidTests := true, laidLooks := .later }
def SpanMinusUptoCardSaid : Prop := Claim7.holds Tryd.pinned (.plain (OpenSpec.upto spanMinusSpec)) spanMinusUptoCard

/-- THE SECOND FORM's CARD OF 'captionerlaw05.SpanUnions'. -/
def spanUnionsUptoCard : Claim7 := { stood := { row := spanUnionsUptoRow, standIns := [], harness := (true, "7a9bb2d688db222b252d43eaa9c3037b81288acfe0f672bcc635f2a88ef7ba02"), looks := true }, kinds := [], alts := [], laidByText := true, laidKinds := [.data, .data, .data], laidTests := true, laidLooks := .later }
def SpanUnionsUptoCardSaid : Prop := Claim7.holds Tryd.pinned (.plain (OpenSpec.upto spanUnionsSpec)) spanUnionsUptoCard

/-- THE SECOND FORM's CARD OF 'captionerlaw05.SpanCounts'. -/
def spanCountsUptoCard : Claim7 := { stood := { row := spanCountsUptoRow, standIns := [], harness := (true, "7a9bb2d688db222b252d43eaa9c3037b81288acfe0f672bcc635f2a88ef7ba02"), looks := true }, kinds := [], alts := [], laidByText := true, laidKinds := [.data, .data, .data], laidTests := true, laidLooks := .later }
def SpanCountsUptoCardSaid : Prop := Claim7.holds Tryd.pinned (.plain (OpenSpec.upto spanCountsSpec)) spanCountsUptoCard

/-- THE SECOND FORM's CARD OF 'captionerlaw05.SpanMembers'. -/
def spanMembersUptoCard : Claim7 := { stood := { row := spanMembersUptoRow, standIns := [], harness := (true, "7a9bb2d688db222b252d43eaa9c3037b81288acfe0f672bcc635f2a88ef7ba02"), looks := true }, kinds := [], alts := [], laidByText := true, laidKinds := [.data, .data, .data], laidTests := true, laidLooks := .later }
def SpanMembersUptoCardSaid : Prop := Claim7.holds Tryd.pinned (.plain (OpenSpec.upto spanMembersSpec)) spanMembersUptoCard

/-- THE SECOND FORM's CARD OF 'captionerlaw05.SpanTexts'. -/
def spanTextsUptoCard : Claim7 := { stood := { row := spanTextsUptoRow, standIns := [], harness := (true, "7a9bb2d688db222b252d43eaa9c3037b81288acfe0f672bcc635f2a88ef7ba02"), looks := true }, kinds := [], alts := [], laidByText := true, laidKinds := [.data, .data, .data, .data, .sentinel, .sentinel, .pinned], laidTests := true, laidLooks := .later }
def SpanTextsUptoCardSaid : Prop := Claim7.holds Tryd.pinned (.plain (OpenSpec.upto spanTextsSpec)) spanTextsUptoCard

/-- THE SECOND FORM's CARD OF 'captionerlaw05.SpanParses'. -/
def spanParsesUptoCard : Claim7 := { stood := { row := spanParsesUptoRow, standIns := [], harness := (true, "7a9bb2d688db222b252d43eaa9c3037b81288acfe0f672bcc635f2a88ef7ba02"), looks := true }, kinds := [], alts := [], laidByText := true, laidKinds := [.data, .data, .data, .data, .sentinel, .sentinel, .pinned], laidTests := true, laidLooks := .later }
def SpanParsesUptoCardSaid : Prop := Claim7.holds Tryd.pinned (.plain (OpenSpec.upto spanParsesSpec)) spanParsesUptoCard
end Rows
end Go.Proofs.YtloioincminhiaaDoor
