/-
  What the rows of these two laws list, and the witness's world. Without conditions.
-/
import Derived.Test.YtbebnbpdemdocaaDoorUP
import Derived.Test.YtbebnbpdemdocaaDoorOpen
import Derived.Test.YtbebnbpdemdocaaDoorCards
import Derived.Test.YtbebnbpdemdocaaDoorTie
import Derived.ProofKit
import Derived.OpenShut
import Derived.ShutString
import Derived.Deep.DeepHandedRow
import Derived.Lib.LaidTab
import Derived.Lib.SmallJoins
import Derived.LaidMore
namespace Go.Proofs.YtbebnbpdemdocaaDoor
open Go.ChangeShapes Go.WideShapes Go.ChangeAt Go.RowKit Go.Joins
set_option linter.unusedVariables false
theorem own : ownKnob Tryd.prog.godebug = none := by kernel_rfl
theorem laidOut : laidOutB Tryd.prog = true := by kernel_rfl
theorem laidMet_tail {P : Program} {x : String × DataW Unit} {l : List (String × DataW Unit)} {w : World} (h : laidMet P (x :: l) w) : laidMet P l w := by
  obtain ⟨n, d⟩ := x
  obtain ⟨ps, ⟨g, t, cs, fuel, p, q, hg, ht, hv, hd, hl, rfl⟩, hnd, hc⟩ := h
  exact ⟨q, hl, (List.nodup_append.1 hnd).2.1, fun b off hb => hc b off (List.mem_append_right _ hb)⟩
theorem gTab : Tryd.prog.globalNamed "internal/strconv.uint64pow10" = some 0 := by kernel_rfl
theorem gTabType : (Tryd.prog.globals[0]?).map (·.type) = some 67 := by kernel_rfl
theorem cellsA : Tryd.prog.cellsOf 67 = 20 := by kernel_rfl
theorem cellsU : Tryd.prog.cellsOf 58 = 1 := by kernel_rfl
abbrev laidAll : List (String × DataW Unit) := Rows.penaltyTextsRow.laid
theorem tab_of {W : World} (h : laidMetH Tryd.prog laidAll W) : Tab W :=
  Lib.tabIs_of_head gTab gTabType Tryd.underlying67 Tryd.underlying58 cellsU cellsA (laidMet_tail (laidMet_tail h))
theorem mx_of {W : World} (h : W.ShapedOpen Tryd.prog) : Mx W := Tryd.laysM146.s1_3 W h
def putCells (cs : Array Value) : Obj → Obj
  | .cells _ t fr => .cells cs t fr
  | o => o
def flatD : Nat → DataW Unit → List Value
  | _, .lit (.int k n) => [.int k n]
  | f + 1, .agg l => l.flatMap (flatD f)
  | _, _ => []
noncomputable def laidW (os : Os) : World :=
  { World.doorLaid Tryd.prog 100 os with heap := ((World.doorLaid Tryd.prog 100 os).heap.modify 4 (putCells (flatD 3 Rows.laid_unicode_utf8_first).toArray)).modify 5 (putCells (flatD 3 Rows.laid_unicode_utf8_acceptRanges).toArray) }
theorem met (os : Os) (args : Array Value) : laidMet Tryd.prog laidAll ((laidW os).forCall (fun _ _ => 0) ⟨#[], args, []⟩).memory :=
  laidMet_of_run' 600 (by kernel_rfl) (by kernel_rfl)
theorem len_of {s : ByteArray} (h : s.size ≤ maxLen) : s.size ≤ 9223372036854775807 := by simpa [maxLen] using h
end Go.Proofs.YtbebnbpdemdocaaDoor
