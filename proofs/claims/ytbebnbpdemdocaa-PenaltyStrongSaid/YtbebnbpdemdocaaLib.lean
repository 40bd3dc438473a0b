/-
  Small lemmas of this proof: cells of a block that lie side by side, and blocks behind an alloc. Without conditions.
-/
import Derived.Test.YtbebnbpdemdocaaProg
import Derived.Test.YtbebnbpdemdocaaAny
import Derived.WalkKit
import Derived.Lib.Hide
import Derived.Deep.QuietTactic
import Derived.BigQuiet
import Derived.Handy
import Derived.Deep.RegionHeld3
import Derived.Deep.RegionLawGrows
import Derived.Deep.AppendLies
namespace Go.Proofs.Ytbebnbpdemdocaa
open Go.RowKit
def CellsAt (w : World) (g : Nat) : Nat → List Value → Prop
  | _, [] => True
  | k, a :: l => w.cell? ⟨g, k, none⟩ = some a ∧ CellsAt w g (k + 1) l
theorem CellsAt.all {w : World} {g : Nat} : ∀ {l : List Value} {k : Nat}, CellsAt w g k l → ∀ j u, l[j]? = some u → w.cell? ((⟨g, k, none⟩ : Addr).add j) = some u
  | [], _, _, j, u, hu => by simp at hu
  | a :: l, k, h, 0, u, hu => by rw [Addr.add_lit]; simp at hu; subst hu; exact h.1
  | a :: l, k, h, j + 1, u, hu => by
    have := CellsAt.all (l := l) h.2 j u (by simpa using hu)
    rw [Addr.add_lit] at this ⊢
    rw [show k + (j + 1) = k + 1 + j by omega]; exact this
theorem CellsAt.of_all {w : World} {g : Nat} : ∀ {l : List Value} {k : Nat}, (∀ j u, l[j]? = some u → w.cell? ((⟨g, k, none⟩ : Addr).add j) = some u) → CellsAt w g k l
  | [], _, _ => trivial
  | a :: l, k, h => ⟨by have := h 0 a rfl; rwa [Addr.add_lit] at this, CellsAt.of_all (l := l) fun j u hu => by
      have := h (j + 1) u (by simpa using hu)
      rw [Addr.add_lit] at this ⊢
      rw [show k + 1 + j = k + (j + 1) by omega]; exact this⟩
/-- A fresh slice of 12 cells at a known address. -/
def Twelve (W : World) (c0 c1 c2 c3 c4 c5 c6 c7 c8 c9 c10 c11 : Int) (e : Ending) (w' : World) : Prop :=
  ∃ g cap, e = .returned (.slice (some ⟨g, 0, none⟩) 12 cap) ∧ CellsAt w' g 0 [.int .i64 c0, .int .i64 c1, .int .i64 c2, .int .i64 c3, .int .i64 c4, .int .i64 c5, .int .i64 c6, .int .i64 c7, .int .i64 c8, .int .i64 c9, .int .i64 c10, .int .i64 c11] ∧ W.heap.size ≤ g ∧ Below W.heap.size W w'
theorem Twelve.mk {W w' : World} {c0 c1 c2 c3 c4 c5 c6 c7 c8 c9 c10 c11 : Int} {v : Value} (h : w'.ownsRow W.heap.size 2 1 v 12 [.int .i64 c0, .int .i64 c1, .int .i64 c2, .int .i64 c3, .int .i64 c4, .int .i64 c5, .int .i64 c6, .int .i64 c7, .int .i64 c8, .int .i64 c9, .int .i64 c10, .int .i64 c11]) (hb : Below W.heap.size W w') :
    Twelve W c0 c1 c2 c3 c4 c5 c6 c7 c8 c9 c10 c11 (.returned v) w' := by
  obtain ⟨g, cap, rfl, hg, _⟩ := h.form (by decide)
  exact ⟨g, cap, rfl, CellsAt.of_all (h.cells rfl), hg, hb⟩
theorem Below.of_grown {W w w' : World} (h : Below W.heap.size W w) (hg : w.grownBy w' none) : Below W.heap.size W w' := h.grown hg h.size (by simp)
theorem info2 : (Try.prog.info? 2).map (fun i => (i.zero, i.size, i.bytes)) = some (some (.int .i64 0), 1, 8) := by kernel_rfl
theorem CellsAt.grown {w w' : World} {g : Nat} (hg : w.grownBy w' none) : ∀ {l : List Value} {k : Nat}, CellsAt w g k l → CellsAt w' g k l
  | [], _, _ => trivial
  | _ :: l, _, h => ⟨hg.cell h.1 (by simp), CellsAt.grown hg (l := l) h.2⟩
theorem CellsAt.below {w w' : World} {B g : Nat} (hb : Below B w w') (hg : g < B) : ∀ {l : List Value} {k : Nat}, CellsAt w g k l → CellsAt w' g k l
  | [], _, _ => trivial
  | _ :: l, _, h => ⟨by rw [hb.cell hg]; exact h.1, CellsAt.below hb hg (l := l) h.2⟩
theorem grown_alloc (w : World) (o : Obj) : w.grownBy (w.alloc o) none := World.grownBy_alloc w o none
theorem below_grown {B : Nat} {W w w' : World} (h : Below B W w) (hB : B ≤ w.heap.size) (hg : w.grownBy w' none) : Below B W w' := h.grown hg hB (by simp)
theorem ownsRow_mono {w : World} {b b' : Nat} {e : TypeId} {size : Nat} {v : Value} {n : Nat} {xs : List Value} (h : w.ownsRow b e size v n xs) (hb : b' ≤ b) : w.ownsRow b' e size v n xs :=
  ⟨h.1, h.2.imp id fun ⟨g, cap, cur, hv, hg, r⟩ => ⟨g, cap, cur, hv, Nat.le_trans hb hg, r⟩⟩
end Go.Proofs.Ytbebnbpdemdocaa
