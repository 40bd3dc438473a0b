/-
  No cell of these rows narrows 'for every input' (looked for: loops, veiled, ifaces, maps, wideKeys, modest, calm, conditions, laid).
  DERIVED. THE GIVEN ROWS OF THIS SEAT. 5 by the template 'for every input the law returns true; each argument reads behind the call as it read before'; 0 by the template 'total and deterministic' (their statements: YtbebnbpdemdocaaTotals.lean).
  GIVEN WITH THE SEED: the statements are not yours to turn. If you find one false, say at which input.
  Laid BY PROGRAM, IN A SANDBOX (cutbox-rows.mjs): the forced cells as the released guide's own fill.sh prints them over the translation 3e0861ea33a4cbd6… (all of the seat's roots in one cut). By AI agents, Wed Nov 11 2026. No macro, syntax, notation, axiom, sorry.
-/
import Derived.Test.YtbebnbpdemdocaaChecked
import GoSem.Claim
import GoSem.ClaimJoined
import GoSem.ClaimMapViews
import Derived.JoinedTies
import Derived.KernelRfl
namespace Go.Proofs.Ytbebnbpdemdocaa
/- THE CELL 'sum', in the pinned program and in every row, IS THE sha256 OF THE DUMP (.gsa) THAT YtbebnbpdemdocaaProg.lean LOADS. Nothing in Lean hashes anything: it is a label: what it is worth is what the hold of that sum in a sandbox is worth. -/
noncomputable def Try.pinned : Pinned := { name := "ytbebnbpdemdocaa", sum := "3e0861ea33a4cbd66bd615985d223888618e516d8a919b8e08e330f441654315", checked := Try.checked }
namespace Rows
def none {H : Type} : Left H := { results := [], args := [] }

/-- 'captionerlaw35.PenaltyChecks': WHATEVER THE INPUT: true; the input reads as it did. -/
def penaltyChecksSpec : ChangeSpec := { name := "penaltyChecks", fn := fun _ => fun
  | [d] => { results := [.lit (.bool true)], args := [d] }
  | _ => none }
def penaltyChecksRow : OpenClaim := { program := "ytbebnbpdemdocaa", sum := "3e0861ea33a4cbd66bd615985d223888618e516d8a919b8e08e330f441654315", func := "captioner/captionerlaw35.PenaltyChecks", spec := "penaltyChecks", apart := false }
def PenaltyChecksSaid : Prop := penaltyChecksRow.holds Try.pinned (OpenSpec.ofChange penaltyChecksSpec)

/-- ITS FALSE NEIGHBOUR: 'it returns false'. Refute it at one input. -/
def penaltyChecksWrong : ChangeSpec := { name := "penaltyChecks", fn := fun _ => fun
  | [d] => { results := [.lit (.bool false)], args := [d] }
  | _ => none }
def PenaltyChecksWrongFalsely : Prop := penaltyChecksRow.holds Try.pinned (OpenSpec.ofChange penaltyChecksWrong)

/-- 'captionerlaw35.PenaltyAims': WHATEVER THE INPUT: true; the input reads as it did. -/
def penaltyAimsSpec : ChangeSpec := { name := "penaltyAims", fn := fun _ => fun
  | [d1, d2] => { results := [.lit (.bool true)], args := [d1, d2] }
  | _ => none }
def penaltyAimsRow : OpenClaim := { program := "ytbebnbpdemdocaa", sum := "3e0861ea33a4cbd66bd615985d223888618e516d8a919b8e08e330f441654315", func := "captioner/captionerlaw35.PenaltyAims", spec := "penaltyAims", apart := false }
def PenaltyAimsSaid : Prop := penaltyAimsRow.holds Try.pinned (OpenSpec.ofChange penaltyAimsSpec)

/-- ITS FALSE NEIGHBOUR: 'it returns false'. Refute it at one input. -/
def penaltyAimsWrong : ChangeSpec := { name := "penaltyAims", fn := fun _ => fun
  | [d1, d2] => { results := [.lit (.bool false)], args := [d1, d2] }
  | _ => none }
def PenaltyAimsWrongFalsely : Prop := penaltyAimsRow.holds Try.pinned (OpenSpec.ofChange penaltyAimsWrong)

/-- 'captionerlaw35.PenaltyRows': WHATEVER THE INPUT: true; the input reads as it did. -/
def penaltyRowsSpec : ChangeSpec := { name := "penaltyRows", fn := fun _ => fun
  | [d1, d2, d3] => { results := [.lit (.bool true)], args := [d1, d2, d3] }
  | _ => none }
def penaltyRowsRow : OpenClaim := { program := "ytbebnbpdemdocaa", sum := "3e0861ea33a4cbd66bd615985d223888618e516d8a919b8e08e330f441654315", func := "captioner/captionerlaw35.PenaltyRows", spec := "penaltyRows", apart := false }
def PenaltyRowsSaid : Prop := penaltyRowsRow.holds Try.pinned (OpenSpec.ofChange penaltyRowsSpec)

/-- ITS FALSE NEIGHBOUR: 'it returns false'. Refute it at one input. -/
def penaltyRowsWrong : ChangeSpec := { name := "penaltyRows", fn := fun _ => fun
  | [d1, d2, d3] => { results := [.lit (.bool false)], args := [d1, d2, d3] }
  | _ => none }
def PenaltyRowsWrongFalsely : Prop := penaltyRowsRow.holds Try.pinned (OpenSpec.ofChange penaltyRowsWrong)

/-- 'captionerlaw35.PenaltyEvents': WHATEVER THE INPUT: true; the input reads as it did. -/
def penaltyEventsSpec : ChangeSpec := { name := "penaltyEvents", fn := fun _ => fun
  | [d1, d2] => { results := [.lit (.bool true)], args := [d1, d2] }
  | _ => none }
def penaltyEventsRow : OpenClaim := { program := "ytbebnbpdemdocaa", sum := "3e0861ea33a4cbd66bd615985d223888618e516d8a919b8e08e330f441654315", func := "captioner/captionerlaw35.PenaltyEvents", spec := "penaltyEvents", apart := false }
def PenaltyEventsSaid : Prop := penaltyEventsRow.holds Try.pinned (OpenSpec.ofChange penaltyEventsSpec)

/-- ITS FALSE NEIGHBOUR: 'it returns false'. Refute it at one input. -/
def penaltyEventsWrong : ChangeSpec := { name := "penaltyEvents", fn := fun _ => fun
  | [d1, d2] => { results := [.lit (.bool false)], args := [d1, d2] }
  | _ => none }
def PenaltyEventsWrongFalsely : Prop := penaltyEventsRow.holds Try.pinned (OpenSpec.ofChange penaltyEventsWrong)

/-- 'captionerlaw35.PenaltyStrong': WHATEVER THE INPUT: true; the input reads as it did. -/
def penaltyStrongSpec : ChangeSpec := { name := "penaltyStrong", fn := fun _ => fun
  | [d1, d2, d3] => { results := [.lit (.bool true)], args := [d1, d2, d3] }
  | _ => none }
def penaltyStrongRow : OpenClaim := { program := "ytbebnbpdemdocaa", sum := "3e0861ea33a4cbd66bd615985d223888618e516d8a919b8e08e330f441654315", func := "captioner/captionerlaw35.PenaltyStrong", spec := "penaltyStrong", apart := false }
def PenaltyStrongSaid : Prop := penaltyStrongRow.holds Try.pinned (OpenSpec.ofChange penaltyStrongSpec)

/-- ITS FALSE NEIGHBOUR: 'it returns false'. Refute it at one input. -/
def penaltyStrongWrong : ChangeSpec := { name := "penaltyStrong", fn := fun _ => fun
  | [d1, d2, d3] => { results := [.lit (.bool false)], args := [d1, d2, d3] }
  | _ => none }
def PenaltyStrongWrongFalsely : Prop := penaltyStrongRow.holds Try.pinned (OpenSpec.ofChange penaltyStrongWrong)

/- THE SECOND FORM. 'bulk': how many values and letters a reading holds, each counted each time it is reached (what is shared counts as often as it is met; a slice's spare places count too). A statement '..UptoSaid' is the law's where the arguments, and the package variables that the reading takes, are together of bulk at most 1048576: NARROWER than '..Said'. Prove '..Said' where nothing that the law and all that it calls make is longer than what came in: it says more and counts as full. Else prove '..UptoSaid'. A law counts once. -/
mutual
def uptoBulk {H : Type} : DataW H → Nat
  | .lit (.string bytes) => bytes.length + 1
  | .lit _ => 1
  | .nil => 1
  | .ptr d => uptoBulk d + 1
  | .slice elems spare => uptoBulkAll elems + uptoBulkAll spare + 1
  | .agg parts => uptoBulkAll parts + 1
  | .iface _ d => uptoBulk d + 1
  | .map entries => uptoBulkEntries entries + 1
  | .held _ => 1
def uptoBulkAll {H : Type} : List (DataW H) → Nat
  | [] => 0
  | d :: r => uptoBulk d + uptoBulkAll r
def uptoBulkEntries {H : Type} : List (Lit × DataW H) → Nat
  | [] => 0
  | x :: r => uptoBulkEntry x + uptoBulkEntries r
def uptoBulkEntry {H : Type} : Lit × DataW H → Nat
  | (.string bytes, d) => bytes.length + uptoBulk d + 1
  | (_, d) => uptoBulk d + 1
 end
def uptoSmall : (H : Type) → List (DataW H) → Bool := fun _ ds => decide (uptoBulkAll ds ≤ 1048576)
def OpenSpec.upto (s : _root_.Go.ChangeSpec) : _root_.Go.OpenSpec := { _root_.Go.OpenSpec.ofChange s with cond := some uptoSmall }

/-- 'captionerlaw35.PenaltyChecks', WHERE WHAT IT READS IS OF BULK AT MOST 1048576: true; the input reads as it did. -/
def penaltyChecksUptoRow : OpenClaim := { program := "ytbebnbpdemdocaa", sum := "3e0861ea33a4cbd66bd615985d223888618e516d8a919b8e08e330f441654315", func := "captioner/captionerlaw35.PenaltyChecks", spec := "penaltyChecks", apart := false, narrowed := true }
def PenaltyChecksUptoSaid : Prop := penaltyChecksUptoRow.holds Try.pinned (OpenSpec.upto penaltyChecksSpec)

/-- 'captionerlaw35.PenaltyAims', WHERE WHAT IT READS IS OF BULK AT MOST 1048576: true; the input reads as it did. -/
def penaltyAimsUptoRow : OpenClaim := { program := "ytbebnbpdemdocaa", sum := "3e0861ea33a4cbd66bd615985d223888618e516d8a919b8e08e330f441654315", func := "captioner/captionerlaw35.PenaltyAims", spec := "penaltyAims", apart := false, narrowed := true }
def PenaltyAimsUptoSaid : Prop := penaltyAimsUptoRow.holds Try.pinned (OpenSpec.upto penaltyAimsSpec)

/-- 'captionerlaw35.PenaltyRows', WHERE WHAT IT READS IS OF BULK AT MOST 1048576: true; the input reads as it did. -/
def penaltyRowsUptoRow : OpenClaim := { program := "ytbebnbpdemdocaa", sum := "3e0861ea33a4cbd66bd615985d223888618e516d8a919b8e08e330f441654315", func := "captioner/captionerlaw35.PenaltyRows", spec := "penaltyRows", apart := false, narrowed := true }
def PenaltyRowsUptoSaid : Prop := penaltyRowsUptoRow.holds Try.pinned (OpenSpec.upto penaltyRowsSpec)

/-- 'captionerlaw35.PenaltyEvents', WHERE WHAT IT READS IS OF BULK AT MOST 1048576: true; the input reads as it did. -/
def penaltyEventsUptoRow : OpenClaim := { program := "ytbebnbpdemdocaa", sum := "3e0861ea33a4cbd66bd615985d223888618e516d8a919b8e08e330f441654315", func := "captioner/captionerlaw35.PenaltyEvents", spec := "penaltyEvents", apart := false, narrowed := true }
def PenaltyEventsUptoSaid : Prop := penaltyEventsUptoRow.holds Try.pinned (OpenSpec.upto penaltyEventsSpec)

/-- 'captionerlaw35.PenaltyStrong', WHERE WHAT IT READS IS OF BULK AT MOST 1048576: true; the input reads as it did. -/
def penaltyStrongUptoRow : OpenClaim := { program := "ytbebnbpdemdocaa", sum := "3e0861ea33a4cbd66bd615985d223888618e516d8a919b8e08e330f441654315", func := "captioner/captionerlaw35.PenaltyStrong", spec := "penaltyStrong", apart := false, narrowed := true }
def PenaltyStrongUptoSaid : Prop := penaltyStrongUptoRow.holds Try.pinned (OpenSpec.upto penaltyStrongSpec)

end Rows
end Go.Proofs.Ytbebnbpdemdocaa
