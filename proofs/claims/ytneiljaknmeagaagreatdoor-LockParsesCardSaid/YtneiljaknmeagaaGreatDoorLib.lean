/-
  Small lemmas of this proof: what a slice of integers reads as, cells that lie side by side, and what new blocks leave alone. Without conditions.
-/
import Derived.Test.YtneiljaknmeagaaGreatDoorProg
import Derived.Test.YtneiljaknmeagaaGreatDoorAny
import Derived.WalkKit
import Derived.Lib.Hide
import Derived.Deep.QuietTactic
import Derived.BigQuiet
import Derived.Handy
import Derived.Deep.RegionLawGrows
import Derived.Deep.AppendLies
import Derived.WalkSmall
import Derived.WalkLawsBesides
import Derived.WalkSpells
namespace Go.Proofs.YtneiljaknmeagaaGreatDoor
open Go.RowKit
set_option linter.unusedVariables false
/-! cells side by side -/
def CellsAt (w : World) (g : Nat) : Nat → List Value → Prop
  | _, [] => True
  | k, a :: l => w.cell? ⟨g, k, none⟩ = some a ∧ CellsAt w g (k + 1) l
theorem CellsAt.all {w : World} {g : Nat} : ∀ {l : List Value} {k : Nat}, CellsAt w g k l → ∀ j u, l[j]? = some u → w.cell? ((⟨g, k, none⟩ : Addr).add j) = some u
  | [], _, _, j, u, hu => by simp at hu
  | a :: l, k, h, 0, u, hu => by rw [Addr.add_lit]; simp at hu; subst hu; exact h.1
  | a :: l, k, h, j + 1, u, hu => by
    have := CellsAt.all (l := l) h.2 j u (by simpa using hu)
    rw [Addr.add_lit] at this ⊢
    rw [show k + (j + 1) = k + 1 + j by omega]; exact this
theorem CellsAt.of_all {w : World} {g : Nat} : ∀ {l : List Value} {k : Nat}, (∀ j u, l[j]? = some u → w.cell? ((⟨g, k, none⟩ : Addr).add j) = some u) → CellsAt w g k l
  | [], _, _ => trivial
  | a :: l, k, h => ⟨by have := h 0 a rfl; rwa [Addr.add_lit] at this, CellsAt.of_all (l := l) fun j u hu => by
      have := h (j + 1) u (by simpa using hu)
      rw [Addr.add_lit] at this ⊢
      rw [show k + 1 + j = k + (j + 1) by omega]; exact this⟩
theorem CellsAt.grown {w w' : World} {g : Nat} (hg : w.grownBy w' none) : ∀ {l : List Value} {k : Nat}, CellsAt w g k l → CellsAt w' g k l
  | [], _, _ => trivial
  | _ :: l, _, h => ⟨hg.cell h.1 (by simp), CellsAt.grown hg (l := l) h.2⟩
theorem CellsAt.below {w w' : World} {B g : Nat} (hb : Below B w w') (hg : g < B) : ∀ {l : List Value} {k : Nat}, CellsAt w g k l → CellsAt w' g k l
  | [], _, _ => trivial
  | _ :: l, _, h => ⟨by rw [hb.cell hg]; exact h.1, CellsAt.below hb hg (l := l) h.2⟩
theorem grown_alloc (w : World) (o : Obj) : w.grownBy (w.alloc o) none := World.grownBy_alloc w o none
theorem below_grown {B : Nat} {W w w' : World} (h : Below B W w) (hB : B ≤ w.heap.size) (hg : w.grownBy w' none) : Below B W w' := h.grown hg hB (by simp)
theorem ownsRow_mono {w : World} {b b' : Nat} {e : TypeId} {size : Nat} {v : Value} {n : Nat} {xs : List Value} (h : w.ownsRow b e size v n xs) (hb : b' ≤ b) : w.ownsRow b' e size v n xs :=
  ⟨h.1, h.2.imp id fun ⟨g, cap, cur, hv, hg, r⟩ => ⟨g, cap, cur, hv, Nat.le_trans hb hg, r⟩⟩
theorem ownsRow_below {w w' : World} {b B : Nat} {e : TypeId} {size : Nat} {v : Value} {n : Nat} {xs : List Value} (h : w.ownsRow b e size v n xs) (hb : Below B w w') (hB : w.heap.size ≤ B) : w'.ownsRow b e size v n xs := by
  refine ⟨h.1, h.2.imp id ?_⟩
  rintro ⟨g, cap, cur, rfl, hg, hh, r⟩
  have hlt : g < w.heap.size := (Array.getElem?_eq_some_iff.1 hh).1
  exact ⟨g, cap, cur, rfl, hg, (hb.block g (by omega)).trans hh, r⟩
theorem heap_at {n : Nat} (w : World) (o : Obj) (h : n = w.heap.size) : (w.alloc o).heap[n]? = some o := by
  subst h; exact heap_alloc_new w o
theorem runs_call {P : Program} {ρ : Operand → Value} {o : Oper} {w : World} {R : Value → World → Prop} {f : FuncId} {args : Array Value}
    (hr : (execOp ρ o).run P w = .ok (.enter f args) w) (hc : Calls P f args w fun e w' => ∃ v, e = .returned v ∧ R v w') : OpRuns P ρ o w R := by
  unfold OpRuns
  rw [hr]
  exact hc.mono fun e w' ⟨v, he, h⟩ => by subst he; exact h
/-! a slice that reads as a list of values, one cell each -/
def RowAt (w : World) (A : Option Addr) (xs : List Value) : Prop :=
  ∀ k u, xs[k]? = some u → ∃ b o, A = some ⟨b, o, none⟩ ∧ w.cell? ⟨b, o + k, none⟩ = some u
theorem RowAt.get {w : World} {A : Option Addr} {xs : List Value} (h : RowAt w A xs) {k : Nat} (hk : k < xs.length) : ∃ b o, A = some ⟨b, o, none⟩ ∧ w.cell? ⟨b, o + k, none⟩ = some xs[k] :=
  h k _ (List.getElem?_eq_getElem hk)
theorem RowAt.ext {w w' : World} {A : Option Addr} {xs : List Value} (h : RowAt w A xs) (hb : Below w.heap.size w w') : RowAt w' A xs := by
  intro k u hk
  obtain ⟨b, o, rfl, hc⟩ := h k u hk
  exact ⟨b, o, rfl, (hb.cell (World.block_lt_of_cell? w _ hc)).trans hc⟩
theorem RowAt.below {w w' : World} {B : Nat} {A : Option Addr} {xs : List Value} (h : RowAt w A xs) (hb : Below B w w') (hB : w.heap.size ≤ B) : RowAt w' A xs := h.ext (hb.mono hB)
theorem RowAt.drewN {w : World} {A : Option Addr} {xs : List Value} (h : RowAt w A xs) (n : Nat) : RowAt (w.drewN n) A xs := h.ext (below_drewN (Below.refl _ _) n)
theorem RowAt.nil (w : World) (A : Option Addr) : RowAt w A [] := fun k u h => by simp at h
theorem RowAt.take {w : World} {A : Option Addr} {xs : List Value} (h : RowAt w A xs) (n : Nat) : RowAt w A (xs.take n) := fun k u hk => h k u (by
  rw [List.getElem?_take] at hk
  split at hk
  · exact hk
  · cases hk)
/-- A slice of integers. -/
def IntsAt (w : World) (A : Option Addr) (xs : List Int) : Prop := RowAt w A (xs.map (Value.int .i64))
theorem IntsAt.get {w : World} {A : Option Addr} {xs : List Int} (h : IntsAt w A xs) {k : Nat} (hk : k < xs.length) : ∃ b o, A = some ⟨b, o, none⟩ ∧ w.cell? ⟨b, o + k, none⟩ = some (.int .i64 (xs.getD k 0)) := by
  obtain ⟨b, o, hA, hc⟩ := RowAt.get h (k := k) (by simpa using hk)
  exact ⟨b, o, hA, by simpa [hk] using hc⟩
theorem IntsAt.ext {w w' : World} {A : Option Addr} {xs : List Int} (h : IntsAt w A xs) (hb : Below w.heap.size w w') : IntsAt w' A xs := RowAt.ext h hb
theorem IntsAt.below {w w' : World} {B : Nat} {A : Option Addr} {xs : List Int} (h : IntsAt w A xs) (hb : Below B w w') (hB : w.heap.size ≤ B) : IntsAt w' A xs := RowAt.below h hb hB
theorem IntsAt.drewN {w : World} {A : Option Addr} {xs : List Int} (h : IntsAt w A xs) (n : Nat) : IntsAt (w.drewN n) A xs := RowAt.drewN h n
theorem IntsAt.take {w : World} {A : Option Addr} {xs : List Int} (h : IntsAt w A xs) (n : Nat) : IntsAt w A (xs.take n) := by
  have := RowAt.take h n
  rwa [← List.map_take] at this
/-- What the call owns reads as a slice. -/
theorem row_of_own {w : World} {base : Nat} {e : TypeId} {v : Value} {n : Nat} {xs : List Value} (h : w.ownsRow base e 1 v n xs) :
    ∃ A c, v = .slice A n c ∧ RowAt w A xs ∧ n ≤ c ∧ c ≤ maxLen ∧ xs.length = n := by
  have hl : xs.length = n := by simpa using h.1
  rcases h.2 with ⟨rfl, rfl⟩ | ⟨g, cap, cur, rfl, hb, hg, hnc, hcm, _, _⟩
  · have : xs = [] := List.eq_nil_of_length_eq_zero (by simpa using h.1)
    subst this
    exact ⟨none, 0, rfl, RowAt.nil _ _, Nat.le_refl _, Nat.zero_le _, rfl⟩
  · refine ⟨some ⟨g, 0, none⟩, cap, rfl, fun k u hk => ⟨g, 0, rfl, ?_⟩, hnc, hcm, hl⟩
    have := h.cells (g := g) rfl k u hk
    rwa [Addr.add_lit] at this
theorem ints_of_own {w : World} {base : Nat} {e : TypeId} {v : Value} {n : Nat} {xs : List Int} (h : w.ownsRow base e 1 v n (xs.map (Value.int .i64))) :
    ∃ A c, v = .slice A xs.length c ∧ IntsAt w A xs ∧ xs.length ≤ c ∧ c ≤ maxLen := by
  obtain ⟨A, c, rfl, h1, h2, h3, h4⟩ := row_of_own h
  simp at h4
  subst h4
  exact ⟨A, c, rfl, h1, h2, h3⟩
/-- A block's cells from place k on, as a slice. -/
theorem row_of_cells {w : World} {g k : Nat} {xs : List Value} (h : CellsAt w g k xs) : RowAt w (some ⟨g, k, none⟩) xs := fun j u hj => ⟨g, k, rfl, by
  have := h.all j u hj
  rwa [Addr.add_lit] at this⟩
theorem ret_val {a b : Value} (h : a = b) : Ending.returned a = Ending.returned b := by rw [h]
end Go.Proofs.YtneiljaknmeagaaGreatDoor
