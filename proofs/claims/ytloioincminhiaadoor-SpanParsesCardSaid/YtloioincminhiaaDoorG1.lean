/-
  Lists of spans as they lie in memory. Without conditions.
-/
import Derived.Test.YtloioincminhiaaDoorSc
import Derived.Test.YtloioincminhiaaDoorRw
import Derived.Test.YtloioincminhiaaDoorSb
import Derived.Test.YtloioincminhiaaDoorNm
namespace Go.Proofs.YtloioincminhiaaDoor
open Go.RowKit Go.Joins
set_option linter.unusedVariables false
set_option linter.unusedSimpArgs false
def spV (x : Spn) : List Value := [.int .i64 x.i, .int .i64 x.o]
theorem spV_len (x : Spn) : (spV x).length = 2 := rfl
abbrev spA (x : Spn) : Value := .agg #[.int .i64 x.i, .int .i64 x.o]
theorem infoS : (Tryd.prog.info? 32).map (fun i => (i.zero, i.size, i.bytes)) = some (some (.agg #[.int .i64 0, .int .i64 0]), 2, 16) := by kernel_rfl
theorem info_parts {p : TypeId} {v : Value} {s b : Nat} (h : (Tryd.prog.info? p).map (fun i => (i.zero, i.size, i.bytes)) = some (some v, s, b)) :
    ∃ i0, Tryd.prog.info? p = some i0 ∧ i0.zero = some v ∧ i0.size = s ∧ i0.bytes = b := by
  cases hi : Tryd.prog.info? p with
  | none => rw [hi] at h; cases h
  | some i => rw [hi] at h; simp at h; exact ⟨i, rfl, h.1, h.2.1, h.2.2⟩
theorem below_one (w : World) (o : Obj) : Below w.heap.size w (w.alloc o) := (Below.refl _ _).alloc (Nat.le_refl _) _
/-- A list of spans as a slice of memory reads. -/
abbrev SpAt (w : World) (A : Option Addr) (L : List Spn) : Prop := RowAt w A (L.flatMap spV)
theorem SpAt.get {w : World} {g o : Nat} {L : List Spn} (h : SpAt w (some ⟨g, o, none⟩) L) {k : Nat} {x : Spn} (hk : L[k]? = some x) :
    w.cell? ⟨g, o + k * 2, none⟩ = some (.int .i64 x.i) ∧ w.cell? ⟨g, o + k * 2 + 1, none⟩ = some (.int .i64 x.o) := by
  have H : ∀ j u, j < 2 → (spV x)[j]? = some u → w.cell? ⟨g, o + k * 2 + j, none⟩ = some u := by
    intro j u hj hu
    obtain ⟨b, o', e, hc⟩ := h (k * 2 + j) u ((flat_get spV_len hk hj).trans hu)
    cases e
    rwa [← Nat.add_assoc] at hc
  exact ⟨H 0 _ (by omega) rfl, H 1 _ (by omega) rfl⟩
theorem SpAt.some {w : World} {A : Option Addr} {L : List Spn} (h : SpAt w A L) {k : Nat} {x : Spn} (hk : L[k]? = some x) : ∃ g o, A = some ⟨g, o, none⟩ := by
  obtain ⟨b, o', e, hc⟩ := h (k * 2 + 0) _ ((flat_get spV_len hk (by omega)).trans rfl)
  exact ⟨b, o', e⟩
/-- v is a slice that reads as the list. -/
def Spl (w : World) (v : Value) (L : List Spn) : Prop := ∃ A c, v = .slice A L.length c ∧ SpAt w A L
theorem Spl.nil (w : World) : Spl w (.slice none 0 0) [] := ⟨none, 0, rfl, RowAt.nil _ _⟩
theorem Spl.own {w : World} {base : Nat} {v : Value} {L : List Spn} (h : w.ownsRow base 32 2 v L.length (L.flatMap spV)) : Spl w v L := by
  obtain ⟨A, c, e, hr, _⟩ := row_of_ownK h
  exact ⟨A, c, e, hr⟩
theorem two_of {w : World} {g : Nat} {a b : Value} (h : Held w g [a, b]) : w.cell? ⟨g, 0, none⟩ = some a ∧ w.cell? ⟨g, 1, none⟩ = some b := ⟨h.cell 0, h.cell 1⟩
theorem spV_one (x : Spn) : ∀ v ∈ spV x, v.oneCell' = true := by
  intro v hv
  simp [spV] at hv
  rcases hv with rfl | rfl <;> rfl
theorem spV_flat_one (L : List Spn) : ∀ v ∈ L.flatMap spV, v.oneCell' = true := by
  intro v hv
  rw [List.mem_flatMap] at hv
  obtain ⟨x, _, hx⟩ := hv
  exact spV_one x v hx
theorem flat_snoc (L : List Spn) (x : Spn) : (L ++ [x]).flatMap spV = L.flatMap spV ++ spV x := by simp
end Go.Proofs.YtloioincminhiaaDoor
