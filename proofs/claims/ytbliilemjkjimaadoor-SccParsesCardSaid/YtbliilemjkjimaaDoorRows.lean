/-
  NARROWER THAN 'FOR EVERY INPUT', by the rows' own cells (each row's printed sentence says how): SccNorms: laid · SccPrints: laid · SccParses: laid · SccBack: laid · SccAgain: laid · SccNulls: laid · SccLines: laid.
  DERIVED. THE GIVEN ROWS OF THIS SEAT. 7 by the template 'for every input the law returns true; each argument reads behind the call as it read before'; 0 by the template 'total and deterministic' (their statements: YtbliilemjkjimaaDoorTotals.lean).
  GIVEN WITH THE SEED: the statements are not yours to turn. If you find one false, say at which input.
  Laid BY PROGRAM, IN A SANDBOX (cutbox-rows.mjs): the forced cells as the released guide's own fill.sh prints them over the translation 59a2a75693c95e8d… (all of the seat's roots in one cut). By AI agents, Wed Nov 11 2026. No macro, syntax, notation, axiom, sorry.
-/
import Derived.Test.YtbliilemjkjimaaDoorChecked
import GoSem.PinnedTables
import GoSem.Claim
import GoSem.ClaimJoined
import GoSem.ClaimMapViews
import Derived.JoinedTies
import Derived.KernelRfl
namespace Go.Proofs.YtbliilemjkjimaaDoor
/- THE CELL 'sum', in the pinned program and in every row, IS THE sha256 OF THE DUMP (.gsa) THAT YtbliilemjkjimaaDoorProg.lean LOADS. Nothing in Lean hashes anything: it is a label: what it is worth is what the hold of that sum in a sandbox is worth. -/
noncomputable def Tryd.pinned : Pinned := { name := "ytbliilemjkjimaadoor", sum := "59a2a75693c95e8de997286640dcc3943608d562a0c113026c1a932478339bb9", checked := Tryd.checked }
namespace Rows
def none {H : Type} : Left H := { results := [], args := [] }

/- WHAT THE LISTED PACKAGE-LEVEL VARIABLES READ AS WHEN THE CALL BEGINS. Each datum BY PROGRAM (the guide's laid-datum.mjs) off the statement by which the dump's own 'gosem.cut.vars' lays the variable. In a bare row this is a premise. The card (YtbliilemjkjimaaDoorCards.lean) ties it to the program's text. -/
def laid_unicode_utf8_acceptRanges {H : Type} : DataW H := .agg [.agg [.lit (.int .u8 128), .lit (.int .u8 191)], .agg [.lit (.int .u8 160), .lit (.int .u8 191)], .agg [.lit (.int .u8 128), .lit (.int .u8 159)], .agg [.lit (.int .u8 144), .lit (.int .u8 191)], .agg [.lit (.int .u8 128), .lit (.int .u8 143)], .agg [.lit (.int .u8 0), .lit (.int .u8 0)], .agg [.lit (.int .u8 0), .lit (.int .u8 0)], .agg [.lit (.int .u8 0), .lit (.int .u8 0)], .agg [.lit (.int .u8 0), .lit (.int .u8 0)], .agg [.lit (.int .u8 0), .lit (.int .u8 0)], .agg [.lit (.int .u8 0), .lit (.int .u8 0)], .agg [.lit (.int .u8 0), .lit (.int .u8 0)], .agg [.lit (.int .u8 0), .lit (.int .u8 0)], .agg [.lit (.int .u8 0), .lit (.int .u8 0)], .agg [.lit (.int .u8 0), .lit (.int .u8 0)], .agg [.lit (.int .u8 0), .lit (.int .u8 0)]]
/-- One of Go's own tables, pinned by name: the form's constant. -/
def laid_unicode_utf8_first : DataW Unit := Go.Pinned.utf8First

/-- 'captionerlaw31.SccNorms': WHATEVER THE INPUT: true; the input reads as it did. -/
def sccNormsSpec : ChangeSpec := { name := "sccNorms", fn := fun _ => fun
  | [d1, d2] => { results := [.lit (.bool true)], args := [d1, d2] }
  | _ => none }
def sccNormsRow : OpenClaim := { program := "ytbliilemjkjimaadoor", sum := "59a2a75693c95e8de997286640dcc3943608d562a0c113026c1a932478339bb9", func := "captioner/captionerlaw31.SccNorms", spec := "sccNorms", inPlace := ["internal/abi.NoEscape", "internal/bytealg.CountString", "internal/bytealg.IndexByteString", "internal/bytealg.IndexString"], named := ["unicode/utf8.first", "unicode/utf8.acceptRanges", "internal/bytealg.MaxLen"], apart := false, laid := [("unicode/utf8.acceptRanges", laid_unicode_utf8_acceptRanges), ("unicode/utf8.first", laid_unicode_utf8_first)] }
def SccNormsSaid : Prop := sccNormsRow.holds Tryd.pinned (OpenSpec.ofChange sccNormsSpec)

/-- ITS FALSE NEIGHBOUR: 'it returns false'. Refute it at one input. -/
def sccNormsWrong : ChangeSpec := { name := "sccNorms", fn := fun _ => fun
  | [d1, d2] => { results := [.lit (.bool false)], args := [d1, d2] }
  | _ => none }
def SccNormsWrongFalsely : Prop := sccNormsRow.holds Tryd.pinned (OpenSpec.ofChange sccNormsWrong)

/-- 'captionerlaw31.SccPrints': WHATEVER THE INPUT: true; the input reads as it did. -/
def sccPrintsSpec : ChangeSpec := { name := "sccPrints", fn := fun _ => fun
  | [d1, d2] => { results := [.lit (.bool true)], args := [d1, d2] }
  | _ => none }
def sccPrintsRow : OpenClaim := { program := "ytbliilemjkjimaadoor", sum := "59a2a75693c95e8de997286640dcc3943608d562a0c113026c1a932478339bb9", func := "captioner/captionerlaw31.SccPrints", spec := "sccPrints", inPlace := ["internal/abi.NoEscape", "internal/bytealg.CountString", "internal/bytealg.IndexByteString", "internal/bytealg.IndexString"], named := ["unicode/utf8.first", "unicode/utf8.acceptRanges", "internal/bytealg.MaxLen"], apart := false, laid := [("unicode/utf8.acceptRanges", laid_unicode_utf8_acceptRanges), ("unicode/utf8.first", laid_unicode_utf8_first)] }
def SccPrintsSaid : Prop := sccPrintsRow.holds Tryd.pinned (OpenSpec.ofChange sccPrintsSpec)

/-- ITS FALSE NEIGHBOUR: 'it returns false'. Refute it at one input. -/
def sccPrintsWrong : ChangeSpec := { name := "sccPrints", fn := fun _ => fun
  | [d1, d2] => { results := [.lit (.bool false)], args := [d1, d2] }
  | _ => none }
def SccPrintsWrongFalsely : Prop := sccPrintsRow.holds Tryd.pinned (OpenSpec.ofChange sccPrintsWrong)

/-- 'captionerlaw31.SccParses': WHATEVER THE INPUT: true; the input reads as it did. -/
def sccParsesSpec : ChangeSpec := { name := "sccParses", fn := fun _ => fun
  | [d] => { results := [.lit (.bool true)], args := [d] }
  | _ => none }
def sccParsesRow : OpenClaim := { program := "ytbliilemjkjimaadoor", sum := "59a2a75693c95e8de997286640dcc3943608d562a0c113026c1a932478339bb9", func := "captioner/captionerlaw31.SccParses", spec := "sccParses", inPlace := ["internal/abi.NoEscape", "internal/bytealg.CountString", "internal/bytealg.IndexByteString", "internal/bytealg.IndexString"], named := ["unicode/utf8.first", "unicode/utf8.acceptRanges", "internal/bytealg.MaxLen"], apart := false, laid := [("unicode/utf8.acceptRanges", laid_unicode_utf8_acceptRanges), ("unicode/utf8.first", laid_unicode_utf8_first)] }
def SccParsesSaid : Prop := sccParsesRow.holds Tryd.pinned (OpenSpec.ofChange sccParsesSpec)

/-- ITS FALSE NEIGHBOUR: 'it returns false'. Refute it at one input. -/
def sccParsesWrong : ChangeSpec := { name := "sccParses", fn := fun _ => fun
  | [d] => { results := [.lit (.bool false)], args := [d] }
  | _ => none }
def SccParsesWrongFalsely : Prop := sccParsesRow.holds Tryd.pinned (OpenSpec.ofChange sccParsesWrong)

/-- 'captionerlaw31.SccBack': WHATEVER THE INPUT: true; the input reads as it did. -/
def sccBackSpec : ChangeSpec := { name := "sccBack", fn := fun _ => fun
  | [d1, d2] => { results := [.lit (.bool true)], args := [d1, d2] }
  | _ => none }
def sccBackRow : OpenClaim := { program := "ytbliilemjkjimaadoor", sum := "59a2a75693c95e8de997286640dcc3943608d562a0c113026c1a932478339bb9", func := "captioner/captionerlaw31.SccBack", spec := "sccBack", inPlace := ["internal/abi.NoEscape", "internal/bytealg.CountString", "internal/bytealg.IndexByteString", "internal/bytealg.IndexString"], named := ["unicode/utf8.first", "unicode/utf8.acceptRanges", "internal/bytealg.MaxLen"], apart := false, laid := [("unicode/utf8.acceptRanges", laid_unicode_utf8_acceptRanges), ("unicode/utf8.first", laid_unicode_utf8_first)] }
def SccBackSaid : Prop := sccBackRow.holds Tryd.pinned (OpenSpec.ofChange sccBackSpec)

/-- ITS FALSE NEIGHBOUR: 'it returns false'. Refute it at one input. -/
def sccBackWrong : ChangeSpec := { name := "sccBack", fn := fun _ => fun
  | [d1, d2] => { results := [.lit (.bool false)], args := [d1, d2] }
  | _ => none }
def SccBackWrongFalsely : Prop := sccBackRow.holds Tryd.pinned (OpenSpec.ofChange sccBackWrong)

/-- 'captionerlaw31.SccAgain': WHATEVER THE INPUT: true; the input reads as it did. -/
def sccAgainSpec : ChangeSpec := { name := "sccAgain", fn := fun _ => fun
  | [d1, d2] => { results := [.lit (.bool true)], args := [d1, d2] }
  | _ => none }
def sccAgainRow : OpenClaim := { program := "ytbliilemjkjimaadoor", sum := "59a2a75693c95e8de997286640dcc3943608d562a0c113026c1a932478339bb9", func := "captioner/captionerlaw31.SccAgain", spec := "sccAgain", inPlace := ["internal/abi.NoEscape", "internal/bytealg.CountString", "internal/bytealg.IndexByteString", "internal/bytealg.IndexString"], named := ["unicode/utf8.first", "unicode/utf8.acceptRanges", "internal/bytealg.MaxLen"], apart := false, laid := [("unicode/utf8.acceptRanges", laid_unicode_utf8_acceptRanges), ("unicode/utf8.first", laid_unicode_utf8_first)] }
def SccAgainSaid : Prop := sccAgainRow.holds Tryd.pinned (OpenSpec.ofChange sccAgainSpec)

/-- ITS FALSE NEIGHBOUR: 'it returns false'. Refute it at one input. -/
def sccAgainWrong : ChangeSpec := { name := "sccAgain", fn := fun _ => fun
  | [d1, d2] => { results := [.lit (.bool false)], args := [d1, d2] }
  | _ => none }
def SccAgainWrongFalsely : Prop := sccAgainRow.holds Tryd.pinned (OpenSpec.ofChange sccAgainWrong)

/-- 'captionerlaw31.SccNulls': WHATEVER THE INPUT: true; the input reads as it did. -/
def sccNullsSpec : ChangeSpec := { name := "sccNulls", fn := fun _ => fun
  | [d1, d2] => { results := [.lit (.bool true)], args := [d1, d2] }
  | _ => none }
def sccNullsRow : OpenClaim := { program := "ytbliilemjkjimaadoor", sum := "59a2a75693c95e8de997286640dcc3943608d562a0c113026c1a932478339bb9", func := "captioner/captionerlaw31.SccNulls", spec := "sccNulls", inPlace := ["internal/abi.NoEscape", "internal/bytealg.CountString", "internal/bytealg.IndexByteString", "internal/bytealg.IndexString"], named := ["unicode/utf8.first", "unicode/utf8.acceptRanges", "internal/bytealg.MaxLen"], apart := false, laid := [("unicode/utf8.acceptRanges", laid_unicode_utf8_acceptRanges), ("unicode/utf8.first", laid_unicode_utf8_first)] }
def SccNullsSaid : Prop := sccNullsRow.holds Tryd.pinned (OpenSpec.ofChange sccNullsSpec)

/-- ITS FALSE NEIGHBOUR: 'it returns false'. Refute it at one input. -/
def sccNullsWrong : ChangeSpec := { name := "sccNulls", fn := fun _ => fun
  | [d1, d2] => { results := [.lit (.bool false)], args := [d1, d2] }
  | _ => none }
def SccNullsWrongFalsely : Prop := sccNullsRow.holds Tryd.pinned (OpenSpec.ofChange sccNullsWrong)

/-- 'captionerlaw31.SccLines': WHATEVER THE INPUT: true; the input reads as it did. -/
def sccLinesSpec : ChangeSpec := { name := "sccLines", fn := fun _ => fun
  | [d1, d2] => { results := [.lit (.bool true)], args := [d1, d2] }
  | _ => none }
def sccLinesRow : OpenClaim := { program := "ytbliilemjkjimaadoor", sum := "59a2a75693c95e8de997286640dcc3943608d562a0c113026c1a932478339bb9", func := "captioner/captionerlaw31.SccLines", spec := "sccLines", inPlace := ["internal/abi.NoEscape", "internal/bytealg.CountString", "internal/bytealg.IndexByteString", "internal/bytealg.IndexString"], named := ["unicode/utf8.first", "unicode/utf8.acceptRanges", "internal/bytealg.MaxLen"], apart := false, laid := [("unicode/utf8.acceptRanges", laid_unicode_utf8_acceptRanges), ("unicode/utf8.first", laid_unicode_utf8_first)] }
def SccLinesSaid : Prop := sccLinesRow.holds Tryd.pinned (OpenSpec.ofChange sccLinesSpec)

/-- ITS FALSE NEIGHBOUR: 'it returns false'. Refute it at one input. -/
def sccLinesWrong : ChangeSpec := { name := "sccLines", fn := fun _ => fun
  | [d1, d2] => { results := [.lit (.bool false)], args := [d1, d2] }
  | _ => none }
def SccLinesWrongFalsely : Prop := sccLinesRow.holds Tryd.pinned (OpenSpec.ofChange sccLinesWrong)

/- THE SECOND FORM. 'bulk': how many values and letters a reading holds, each counted each time it is reached (what is shared counts as often as it is met; a slice's spare places count too). A statement '..UptoSaid' is the law's where the arguments, and the package variables that the reading takes, are together of bulk at most 1048576: NARROWER than '..Said'. Prove '..Said' where nothing that the law and all that it calls make is longer than what came in: it says more and counts as full. Else prove '..UptoSaid'. A law counts once. -/
mutual
def uptoBulk {H : Type} : DataW H → Nat
  | .lit (.string bytes) => bytes.length + 1
  | .lit _ => 1
  | .nil => 1
  | .ptr d => uptoBulk d + 1
  | .slice elems spare => uptoBulkAll elems + uptoBulkAll spare + 1
  | .agg parts => uptoBulkAll parts + 1
  | .iface _ d => uptoBulk d + 1
  | .map entries => uptoBulkEntries entries + 1
  | .held _ => 1
def uptoBulkAll {H : Type} : List (DataW H) → Nat
  | [] => 0
  | d :: r => uptoBulk d + uptoBulkAll r
def uptoBulkEntries {H : Type} : List (Lit × DataW H) → Nat
  | [] => 0
  | x :: r => uptoBulkEntry x + uptoBulkEntries r
def uptoBulkEntry {H : Type} : Lit × DataW H → Nat
  | (.string bytes, d) => bytes.length + uptoBulk d + 1
  | (_, d) => uptoBulk d + 1
 end
def uptoSmall : (H : Type) → List (DataW H) → Bool := fun _ ds => decide (uptoBulkAll ds ≤ 1048576)
def OpenSpec.upto (s : _root_.Go.ChangeSpec) : _root_.Go.OpenSpec := { _root_.Go.OpenSpec.ofChange s with cond := some uptoSmall }

/-- 'captionerlaw31.SccNorms', WHERE WHAT IT READS IS OF BULK AT MOST 1048576: true; the input reads as it did. -/
def sccNormsUptoRow : OpenClaim := { program := "ytbliilemjkjimaadoor", sum := "59a2a75693c95e8de997286640dcc3943608d562a0c113026c1a932478339bb9", func := "captioner/captionerlaw31.SccNorms", spec := "sccNorms", inPlace := ["internal/abi.NoEscape", "internal/bytealg.CountString", "internal/bytealg.IndexByteString", "internal/bytealg.IndexString"], named := ["unicode/utf8.first", "unicode/utf8.acceptRanges", "internal/bytealg.MaxLen"], apart := false, laid := [("unicode/utf8.acceptRanges", laid_unicode_utf8_acceptRanges), ("unicode/utf8.first", laid_unicode_utf8_first)], narrowed := true }
def SccNormsUptoSaid : Prop := sccNormsUptoRow.holds Tryd.pinned (OpenSpec.upto sccNormsSpec)

/-- 'captionerlaw31.SccPrints', WHERE WHAT IT READS IS OF BULK AT MOST 1048576: true; the input reads as it did. -/
def sccPrintsUptoRow : OpenClaim := { program := "ytbliilemjkjimaadoor", sum := "59a2a75693c95e8de997286640dcc3943608d562a0c113026c1a932478339bb9", func := "captioner/captionerlaw31.SccPrints", spec := "sccPrints", inPlace := ["internal/abi.NoEscape", "internal/bytealg.CountString", "internal/bytealg.IndexByteString", "internal/bytealg.IndexString"], named := ["unicode/utf8.first", "unicode/utf8.acceptRanges", "internal/bytealg.MaxLen"], apart := false, laid := [("unicode/utf8.acceptRanges", laid_unicode_utf8_acceptRanges), ("unicode/utf8.first", laid_unicode_utf8_first)], narrowed := true }
def SccPrintsUptoSaid : Prop := sccPrintsUptoRow.holds Tryd.pinned (OpenSpec.upto sccPrintsSpec)

/-- 'captionerlaw31.SccParses', WHERE WHAT IT READS IS OF BULK AT MOST 1048576: true; the input reads as it did. -/
def sccParsesUptoRow : OpenClaim := { program := "ytbliilemjkjimaadoor", sum := "59a2a75693c95e8de997286640dcc3943608d562a0c113026c1a932478339bb9", func := "captioner/captionerlaw31.SccParses", spec := "sccParses", inPlace := ["internal/abi.NoEscape", "internal/bytealg.CountString", "internal/bytealg.IndexByteString", "internal/bytealg.IndexString"], named := ["unicode/utf8.first", "unicode/utf8.acceptRanges", "internal/bytealg.MaxLen"], apart := false, laid := [("unicode/utf8.acceptRanges", laid_unicode_utf8_acceptRanges), ("unicode/utf8.first", laid_unicode_utf8_first)], narrowed := true }
def SccParsesUptoSaid : Prop := sccParsesUptoRow.holds Tryd.pinned (OpenSpec.upto sccParsesSpec)

/-- 'captionerlaw31.SccBack', WHERE WHAT IT READS IS OF BULK AT MOST 1048576: true; the input reads as it did. -/
def sccBackUptoRow : OpenClaim := { program := "ytbliilemjkjimaadoor", sum := "59a2a75693c95e8de997286640dcc3943608d562a0c113026c1a932478339bb9", func := "captioner/captionerlaw31.SccBack", spec := "sccBack", inPlace := ["internal/abi.NoEscape", "internal/bytealg.CountString", "internal/bytealg.IndexByteString", "internal/bytealg.IndexString"], named := ["unicode/utf8.first", "unicode/utf8.acceptRanges", "internal/bytealg.MaxLen"], apart := false, laid := [("unicode/utf8.acceptRanges", laid_unicode_utf8_acceptRanges), ("unicode/utf8.first", laid_unicode_utf8_first)], narrowed := true }
def SccBackUptoSaid : Prop := sccBackUptoRow.holds Tryd.pinned (OpenSpec.upto sccBackSpec)

/-- 'captionerlaw31.SccAgain', WHERE WHAT IT READS IS OF BULK AT MOST 1048576: true; the input reads as it did. -/
def sccAgainUptoRow : OpenClaim := { program := "ytbliilemjkjimaadoor", sum := "59a2a75693c95e8de997286640dcc3943608d562a0c113026c1a932478339bb9", func := "captioner/captionerlaw31.SccAgain", spec := "sccAgain", inPlace := ["internal/abi.NoEscape", "internal/bytealg.CountString", "internal/bytealg.IndexByteString", "internal/bytealg.IndexString"], named := ["unicode/utf8.first", "unicode/utf8.acceptRanges", "internal/bytealg.MaxLen"], apart := false, laid := [("unicode/utf8.acceptRanges", laid_unicode_utf8_acceptRanges), ("unicode/utf8.first", laid_unicode_utf8_first)], narrowed := true }
def SccAgainUptoSaid : Prop := sccAgainUptoRow.holds Tryd.pinned (OpenSpec.upto sccAgainSpec)

/-- 'captionerlaw31.SccNulls', WHERE WHAT IT READS IS OF BULK AT MOST 1048576: true; the input reads as it did. -/
def sccNullsUptoRow : OpenClaim := { program := "ytbliilemjkjimaadoor", sum := "59a2a75693c95e8de997286640dcc3943608d562a0c113026c1a932478339bb9", func := "captioner/captionerlaw31.SccNulls", spec := "sccNulls", inPlace := ["internal/abi.NoEscape", "internal/bytealg.CountString", "internal/bytealg.IndexByteString", "internal/bytealg.IndexString"], named := ["unicode/utf8.first", "unicode/utf8.acceptRanges", "internal/bytealg.MaxLen"], apart := false, laid := [("unicode/utf8.acceptRanges", laid_unicode_utf8_acceptRanges), ("unicode/utf8.first", laid_unicode_utf8_first)], narrowed := true }
def SccNullsUptoSaid : Prop := sccNullsUptoRow.holds Tryd.pinned (OpenSpec.upto sccNullsSpec)

/-- 'captionerlaw31.SccLines', WHERE WHAT IT READS IS OF BULK AT MOST 1048576: true; the input reads as it did. -/
def sccLinesUptoRow : OpenClaim := { program := "ytbliilemjkjimaadoor", sum := "59a2a75693c95e8de997286640dcc3943608d562a0c113026c1a932478339bb9", func := "captioner/captionerlaw31.SccLines", spec := "sccLines", inPlace := ["internal/abi.NoEscape", "internal/bytealg.CountString", "internal/bytealg.IndexByteString", "internal/bytealg.IndexString"], named := ["unicode/utf8.first", "unicode/utf8.acceptRanges", "internal/bytealg.MaxLen"], apart := false, laid := [("unicode/utf8.acceptRanges", laid_unicode_utf8_acceptRanges), ("unicode/utf8.first", laid_unicode_utf8_first)], narrowed := true }
def SccLinesUptoSaid : Prop := sccLinesUptoRow.holds Tryd.pinned (OpenSpec.upto sccLinesSpec)

end Rows
end Go.Proofs.YtbliilemjkjimaaDoor
