/-
  The witness's world where a row lists the tables of unicode/utf8 too; a string that came in. Without conditions.
-/
import Derived.Test.YtnnhbnkelgmaaaaDoorOp
import Derived.Test.YtnnhbnkelgmaaaaDoorL7
namespace Go.Proofs.YtnnhbnkelgmaaaaDoor
open Go.ChangeShapes Go.WideShapes Go.ChangeAt Go.RowKit Go.Joins
set_option linter.unusedVariables false
def flatD : Nat → DataW Unit → List Value
  | _, .lit (.int k n) => [.int k n]
  | f + 1, .agg l => l.flatMap (flatD f)
  | _, _ => []
noncomputable def laidWorld5 (os : Os) : World :=
  { World.holding Tryd.prog os ⟨#[], #[], []⟩ with heap := ((laidHeap (World.holding Tryd.prog os ⟨#[], #[], []⟩).heap).modify 4 (putCells (flatD 3 Rows.laid_unicode_utf8_first).toArray)).modify 5 (putCells (flatD 3 Rows.laid_unicode_utf8_acceptRanges).toArray) }
theorem mx_of {W : World} (h : W.ShapedOpen Tryd.prog) : Mx W := Tryd.laysM146.s1_3 W h
theorem len_of {s : ByteArray} (h : s.size ≤ maxLen) : s.size ≤ 9223372036854775807 := by simpa [maxLen] using h
end Go.Proofs.YtnnhbnkelgmaaaaDoor
