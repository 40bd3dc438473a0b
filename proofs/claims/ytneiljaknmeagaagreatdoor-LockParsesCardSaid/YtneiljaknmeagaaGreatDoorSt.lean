/-
  A block of the call's own: what it holds behind stores and calls. Without conditions.
-/
import Derived.Test.YtneiljaknmeagaaGreatDoorLib
import Derived.Lib.SmallJoins
namespace Go.Proofs.YtneiljaknmeagaaGreatDoor
open Go.RowKit Go.Joins
set_option linter.unusedVariables false
/-- Block g holds these cells, and they may be written. -/
def Held (w : World) (g : Nat) (cs : List Value) : Prop := ∃ t, w.heap[g]? = some (.cells cs.toArray t (0, 0))
theorem Held.cell {w : World} {g : Nat} {cs : List Value} (h : Held w g cs) (i : Nat) : w.cell? ⟨g, i, none⟩ = cs[i]? := by
  obtain ⟨t, h⟩ := h
  rw [cell_of_block h i]; simp
theorem Held.free {w : World} {g : Nat} {cs : List Value} (h : Held w g cs) (i : Nat) : w.frozen? ⟨g, i, none⟩ = false := by
  obtain ⟨t, h⟩ := h
  exact unfrozen_of_block h i
theorem Held.lt {w : World} {g : Nat} {cs : List Value} (h : Held w g cs) : g < w.heap.size := by
  obtain ⟨t, h⟩ := h
  exact (Array.getElem?_eq_some_iff.1 h).1
theorem Held.below {w w' : World} {B g : Nat} {cs : List Value} (h : Held w g cs) (hb : Below B w w') (hg : g < B) : Held w' g cs := by
  obtain ⟨t, h⟩ := h
  exact ⟨t, (hb.block g hg).trans h⟩
theorem Held.ext {w w' : World} {g : Nat} {cs : List Value} (h : Held w g cs) (hb : Below w.heap.size w w') : Held w' g cs := h.below hb h.lt
theorem Held.drewN {w : World} {g : Nat} {cs : List Value} (h : Held w g cs) (n : Nat) : Held (w.drewN n) g cs := h
theorem Held.set {w : World} {g : Nat} {cs : List Value} (h : Held w g cs) (i : Nat) (v : Value) : Held (w.setCell ⟨g, i, none⟩ v) g (cs.set i v) := by
  obtain ⟨t, h⟩ := h
  exact ⟨t, by rw [block_setCell h v]; simp⟩
theorem Held.other {w : World} {g g' : Nat} {cs : List Value} (h : Held w g cs) (hne : g ≠ g') (i : Nat) (v : Value) : Held (w.setCell ⟨g', i, none⟩ v) g cs := by
  obtain ⟨t, h⟩ := h
  exact ⟨t, by rw [Below.heap_setCell w ⟨g', i, none⟩ v g hne]; exact h⟩
theorem Held.new {w : World} {g : Nat} {cs : List Value} {t : TypeId} (hg : g = w.heap.size) : Held (w.alloc (.cells cs.toArray t (0, 0))) g cs := ⟨t, heap_at w _ hg⟩
theorem Held.alloc {w : World} {g : Nat} {cs : List Value} (h : Held w g cs) (o : Obj) : Held (w.alloc o) g cs := h.ext ((Below.refl _ _).alloc (Nat.le_refl _) _)
end Go.Proofs.YtneiljaknmeagaaGreatDoor
