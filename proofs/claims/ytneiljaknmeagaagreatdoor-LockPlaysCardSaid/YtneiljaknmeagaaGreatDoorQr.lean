/-
  The box in which the reference gathers a table. Without conditions. (The texts K1 and K2 turned to the reference's type.)
-/
import Derived.Test.YtneiljaknmeagaaGreatDoorBc
import Derived.Test.YtneiljaknmeagaaGreatDoorQf
namespace Go.Proofs.YtneiljaknmeagaaGreatDoor
open Go.RowKit Go.Joins
set_option linter.unusedVariables false
set_option linter.unusedSimpArgs false
/-- The reference's table in the box at p, its sessions in sv, its leases in lv. -/
def RepR (B p : Nat) (sv lv : Value) (T : Tb) (w : World) : Prop :=
  B ≤ p ∧ w.heap[p]? = some (.cells #[.int .i64 T.now, .int .i64 T.ls, .int .i64 T.lf, sv, lv] 30 (0, 0)) ∧
  w.ownsRow B 2 1 sv T.ses.length (T.ses.map (Value.int .i64)) ∧ w.ownsRow B 49 4 lv T.lea.length (T.lea.flatMap lsV)
theorem RepR.block {B p : Nat} {sv lv : Value} {T : Tb} {w : World} (h : RepR B p sv lv T w) : Held w p [.int .i64 T.now, .int .i64 T.ls, .int .i64 T.lf, sv, lv] := ⟨_, h.2.1⟩
theorem RepR.ge {B p : Nat} {sv lv : Value} {T : Tb} {w : World} (h : RepR B p sv lv T w) : B ≤ p := h.1
theorem RepR.lt {B p : Nat} {sv lv : Value} {T : Tb} {w : World} (h : RepR B p sv lv T w) : p < w.heap.size := h.block.lt
theorem RepR.nes {B p : Nat} {sv lv : Value} {T : Tb} {w : World} (h : RepR B p sv lv T w) : sv.ownBlock ≠ some p := by
  intro hg
  obtain ⟨c1, k1⟩ := own_block h.2.2.1 hg
  rw [h.2.1] at k1
  cases k1
theorem RepR.nel {B p : Nat} {sv lv : Value} {T : Tb} {w : World} (h : RepR B p sv lv T w) : lv.ownBlock ≠ some p := by
  intro hg
  obtain ⟨c1, k1⟩ := own_block h.2.2.2 hg
  rw [h.2.1] at k1
  cases k1
theorem RepR.apart {B p : Nat} {sv lv : Value} {T : Tb} {w : World} (h : RepR B p sv lv T w) {g : Nat} (hg : sv.ownBlock = some g) : lv.ownBlock ≠ some g := own_types h.2.2.1 h.2.2.2 (by decide) hg
theorem RepR.ext {B p : Nat} {sv lv : Value} {T : Tb} {w w' : World} (h : RepR B p sv lv T w) (hb : Below w.heap.size w w') : RepR B p sv lv T w' :=
  ⟨h.1, (hb.block p h.lt).trans h.2.1, own_ext h.2.2.1 hb, own_ext h.2.2.2 hb⟩
theorem RepR.setNow {B p : Nat} {sv lv : Value} {T : Tb} {w : World} (h : RepR B p sv lv T w) (n : Int) : RepR B p sv lv { T with now := n } (w.setCell ⟨p, 0, none⟩ (.int .i64 n)) :=
  ⟨h.1, heap_put h.2.1 _ _, own_put h.2.2.1 h.nes _ _, own_put h.2.2.2 h.nel _ _⟩
theorem RepR.setLs {B p : Nat} {sv lv : Value} {T : Tb} {w : World} (h : RepR B p sv lv T w) (n : Int) : RepR B p sv lv { T with ls := n } (w.setCell ⟨p, 1, none⟩ (.int .i64 n)) :=
  ⟨h.1, heap_put h.2.1 _ _, own_put h.2.2.1 h.nes _ _, own_put h.2.2.2 h.nel _ _⟩
theorem RepR.setLf {B p : Nat} {sv lv : Value} {T : Tb} {w : World} (h : RepR B p sv lv T w) (n : Int) : RepR B p sv lv { T with lf := n } (w.setCell ⟨p, 2, none⟩ (.int .i64 n)) :=
  ⟨h.1, heap_put h.2.1 _ _, own_put h.2.2.1 h.nes _ _, own_put h.2.2.2 h.nel _ _⟩
theorem RepR.setL {B p : Nat} {sv lv lv' : Value} {T : Tb} {w : World} {L : List Ls} (h0 : B ≤ p) (h1 : w.heap[p]? = some (.cells #[.int .i64 T.now, .int .i64 T.ls, .int .i64 T.lf, sv, lv] 30 (0, 0)))
    (h2 : w.ownsRow B 2 1 sv T.ses.length (T.ses.map (Value.int .i64))) (h3 : w.ownsRow B 49 4 lv' L.length (L.flatMap lsV)) :
    RepR B p sv lv' { T with lea := L } (w.setCell ⟨p, 4, none⟩ lv') := by
  refine ⟨h0, heap_put h1 _ _, own_put h2 ?_ _ _, own_put h3 ?_ _ _⟩
  · intro hg
    obtain ⟨c1, k1⟩ := own_block h2 hg
    rw [h1] at k1
    cases k1
  · intro hg
    obtain ⟨c1, k1⟩ := own_block h3 hg
    rw [h1] at k1
    cases k1
theorem RepR.setS {B p : Nat} {sv lv sv' : Value} {T : Tb} {w : World} {S : List Int} (h0 : B ≤ p) (h1 : w.heap[p]? = some (.cells #[.int .i64 T.now, .int .i64 T.ls, .int .i64 T.lf, sv, lv] 30 (0, 0)))
    (h2 : w.ownsRow B 2 1 sv' S.length (S.map (Value.int .i64))) (h3 : w.ownsRow B 49 4 lv T.lea.length (T.lea.flatMap lsV)) :
    RepR B p sv' lv { T with ses := S } (w.setCell ⟨p, 3, none⟩ sv') := by
  refine ⟨h0, heap_put h1 _ _, own_put h2 ?_ _ _, own_put h3 ?_ _ _⟩
  · intro hg
    obtain ⟨c1, k1⟩ := own_block h2 hg
    rw [h1] at k1
    cases k1
  · intro hg
    obtain ⟨c1, k1⟩ := own_block h3 hg
    rw [h1] at k1
    cases k1
theorem RepR.put {B p : Nat} {sv lv : Value} {T : Tb} {w : World} (h : RepR B p sv lv T w) : RefT T sv lv w := by
  obtain ⟨SA, sc, rfl, hsr, _, _⟩ := ints_of_own h.2.2.1
  obtain ⟨LA, lc, rfl, hlr, hlc, hlm, _⟩ := row_of_ownK h.2.2.2
  exact ⟨⟨SA, sc, rfl, hsr⟩, LA, lc, rfl, hlr, hlc, hlm⟩
theorem RepR.far {B0 p : Nat} {sv lv : Value} {T : Tb} {w : World} (h : RepR B0 p sv lv T w) {b : Nat} (hb : b < B0) (i : Nat) (u : Value) : RepR B0 p sv lv T (w.setCell ⟨b, i, none⟩ u) :=
  ⟨h.1, (Below.heap_setCell w ⟨b, i, none⟩ u p (Nat.ne_of_gt (Nat.lt_of_lt_of_le hb h.1))).trans h.2.1, own_put h.2.2.1 (fun e => by have := (h.2.2.1.lt b e).1; omega) i u, own_put h.2.2.2 (fun e => by have := (h.2.2.2.lt b e).1; omega) i u⟩
/-- What Parse of the reference gives. -/
def ParrP (s : List UInt8) (B : Nat) (w : World) (e : Ending) (w' : World) : Prop :=
  ((∃ sv lv T, parT s = some T ∧ e = .returned (.tuple #[refV T sv lv, .int .i64 0]) ∧ RefT T sv lv w') ∨ (parT s = none ∧ e = .returned (.tuple #[.agg #[.int .i64 0, .int .i64 0, .int .i64 0, .slice none 0 0, .slice none 0 0], .int .i64 4]))) ∧ Below B w w'
end Go.Proofs.YtneiljaknmeagaaGreatDoor
