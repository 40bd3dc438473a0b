/-
  The contract of the law LockParses. Its conditions are its hypotheses.
-/
import Derived.Test.YtneiljaknmeagaaGreatDoorLP
import Derived.Test.YtneiljaknmeagaaGreatDoorQo
namespace Go.Proofs.YtneiljaknmeagaaGreatDoor
open Go.RowKit Go.Joins
theorem parses_law (s : ByteArray) (w : World) (hs : s.size ≤ 9223372036854775807) (hw : Wd w) :
    Calls Tryz.prog 3 #[.string s] w fun e w' => e = .returned (.bool true) ∧ Below w.heap.size w w' := parses_law0 (fun l W hl => parser_any l W hl) s w hs hw
end Go.Proofs.YtneiljaknmeagaaGreatDoor
