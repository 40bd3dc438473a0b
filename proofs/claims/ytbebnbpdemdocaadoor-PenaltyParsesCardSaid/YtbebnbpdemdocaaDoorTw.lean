/-
  Twelve numbers in a fresh slice. Without conditions.
-/
import Derived.Test.YtbebnbpdemdocaaDoorLib
import Derived.Deep.RegionHeld3
namespace Go.Proofs.YtbebnbpdemdocaaDoor
open Go.RowKit
/-- A fresh slice of 12 cells at a known address. -/
def Twelve (W : World) (c0 c1 c2 c3 c4 c5 c6 c7 c8 c9 c10 c11 : Int) (e : Ending) (w' : World) : Prop :=
  ∃ g cap, e = .returned (.slice (some ⟨g, 0, none⟩) 12 cap) ∧ CellsAt w' g 0 [.int .i64 c0, .int .i64 c1, .int .i64 c2, .int .i64 c3, .int .i64 c4, .int .i64 c5, .int .i64 c6, .int .i64 c7, .int .i64 c8, .int .i64 c9, .int .i64 c10, .int .i64 c11] ∧ W.heap.size ≤ g ∧ Below W.heap.size W w'
theorem Twelve.mk {W w' : World} {c0 c1 c2 c3 c4 c5 c6 c7 c8 c9 c10 c11 : Int} {v : Value} (h : w'.ownsRow W.heap.size 2 1 v 12 [.int .i64 c0, .int .i64 c1, .int .i64 c2, .int .i64 c3, .int .i64 c4, .int .i64 c5, .int .i64 c6, .int .i64 c7, .int .i64 c8, .int .i64 c9, .int .i64 c10, .int .i64 c11]) (hb : Below W.heap.size W w') :
    Twelve W c0 c1 c2 c3 c4 c5 c6 c7 c8 c9 c10 c11 (.returned v) w' := by
  obtain ⟨g, cap, rfl, hg, _⟩ := h.form (by decide)
  exact ⟨g, cap, rfl, CellsAt.of_all (h.cells rfl), hg, hb⟩
theorem Below.of_grown {W w w' : World} (h : Below W.heap.size W w) (hg : w.grownBy w' none) : Below W.heap.size W w' := h.grown hg h.size (by simp)
theorem info2 : (Tryd.prog.info? 2).map (fun i => (i.zero, i.size, i.bytes)) = some (some (.int .i64 0), 1, 8) := by kernel_rfl
end Go.Proofs.YtbebnbpdemdocaaDoor
