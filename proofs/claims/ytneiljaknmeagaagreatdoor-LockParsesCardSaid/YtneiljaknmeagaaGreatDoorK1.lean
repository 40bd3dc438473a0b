/-
  A table of leases: what it is, and how it lies in memory. Without conditions.
-/
import Derived.Test.YtneiljaknmeagaaGreatDoorRw
import Derived.Test.YtneiljaknmeagaaGreatDoorSb
import Derived.Test.YtneiljaknmeagaaGreatDoorNm
import Derived.Test.YtneiljaknmeagaaGreatDoorShelf
namespace Go.Proofs.YtneiljaknmeagaaGreatDoor
open Go.RowKit Go.Joins
set_option linter.unusedVariables false
set_option linter.unusedSimpArgs false
/-- A lease. -/
structure Ls where
  reel : List UInt8
  ses : Int
  fen : Int
  unt : Int
deriving DecidableEq
/-- A table. -/
structure Tb where
  now : Int
  ls : Int
  lf : Int
  ses : List Int
  lea : List Ls
def lsV (x : Ls) : List Value := [.string (sB x.reel), .int .i64 x.ses, .int .i64 x.fen, .int .i64 x.unt]
theorem lsV_len (x : Ls) : (lsV x).length = 4 := rfl
def lsA (x : Ls) : Value := .agg #[.string (sB x.reel), .int .i64 x.ses, .int .i64 x.fen, .int .i64 x.unt]
theorem infoL : (Tryz.prog.info? 49).map (fun i => (i.zero, i.size, i.bytes)) = some (some (.agg #[.string ⟨#[]⟩, .int .i64 0, .int .i64 0, .int .i64 0]), 4, 40) := by kernel_rfl
theorem infoI : (Tryz.prog.info? 2).map (fun i => (i.zero, i.size, i.bytes)) = some (some (.int .i64 0), 1, 8) := by kernel_rfl
theorem info_parts {p : TypeId} {v : Value} {s b : Nat} (h : (Tryz.prog.info? p).map (fun i => (i.zero, i.size, i.bytes)) = some (some v, s, b)) :
    ∃ i0, Tryz.prog.info? p = some i0 ∧ i0.zero = some v ∧ i0.size = s ∧ i0.bytes = b := by
  cases hi : Tryz.prog.info? p with
  | none => rw [hi] at h; cases h
  | some i => rw [hi] at h; simp at h; exact ⟨i, rfl, h.1, h.2.1, h.2.2⟩
theorem own_base {w : World} {base : Nat} {e : TypeId} {size : Nat} {v : Value} {n : Nat} {xs : List Value} (h : w.ownsRow base e size v n xs) : ∀ k, v.ownBlock = some k → base ≤ k := by
  intro k hk
  exact (h.lt k hk).1
theorem below_one (w : World) (o : Obj) : Below w.heap.size w (w.alloc o) := (Below.refl _ _).alloc (Nat.le_refl _) _
/-- A list of leases as a slice of memory reads. -/
abbrev LeasAt (w : World) (A : Option Addr) (L : List Ls) : Prop := RowAt w A (L.flatMap lsV)
theorem LeasAt.get {w : World} {g o : Nat} {L : List Ls} (h : LeasAt w (some ⟨g, o, none⟩) L) {k : Nat} {x : Ls} (hk : L[k]? = some x) :
    w.cell? ⟨g, o + k * 4, none⟩ = some (.string (sB x.reel)) ∧ w.cell? ⟨g, o + k * 4 + 1, none⟩ = some (.int .i64 x.ses) ∧ w.cell? ⟨g, o + k * 4 + 2, none⟩ = some (.int .i64 x.fen) ∧ w.cell? ⟨g, o + k * 4 + 3, none⟩ = some (.int .i64 x.unt) := by
  have H : ∀ j u, j < 4 → (lsV x)[j]? = some u → w.cell? ⟨g, o + k * 4 + j, none⟩ = some u := by
    intro j u hj hu
    obtain ⟨b, o', e, hc⟩ := h (k * 4 + j) u ((flat_get lsV_len hk hj).trans hu)
    cases e
    rwa [← Nat.add_assoc] at hc
  exact ⟨H 0 _ (by omega) rfl, H 1 _ (by omega) rfl, H 2 _ (by omega) rfl, H 3 _ (by omega) rfl⟩
theorem LeasAt.some {w : World} {A : Option Addr} {L : List Ls} (h : LeasAt w A L) {k : Nat} {x : Ls} (hk : L[k]? = some x) : ∃ g o, A = some ⟨g, o, none⟩ := by
  obtain ⟨b, o', e, hc⟩ := h (k * 4 + 0) _ ((flat_get lsV_len hk (by omega)).trans rfl)
  exact ⟨b, o', e⟩
/-- The table at p, its sessions in sv, its leases in lv. -/
def Rep (B p : Nat) (sv lv : Value) (T : Tb) (w : World) : Prop :=
  B ≤ p ∧ w.heap[p]? = some (.cells #[.int .i64 T.now, .int .i64 T.ls, .int .i64 T.lf, sv, lv] 81 (0, 0)) ∧
  w.ownsRow B 2 1 sv T.ses.length (T.ses.map (Value.int .i64)) ∧ w.ownsRow B 49 4 lv T.lea.length (T.lea.flatMap lsV)
theorem Rep.block {B p : Nat} {sv lv : Value} {T : Tb} {w : World} (h : Rep B p sv lv T w) : Held w p [.int .i64 T.now, .int .i64 T.ls, .int .i64 T.lf, sv, lv] := ⟨_, h.2.1⟩
end Go.Proofs.YtneiljaknmeagaaGreatDoor
