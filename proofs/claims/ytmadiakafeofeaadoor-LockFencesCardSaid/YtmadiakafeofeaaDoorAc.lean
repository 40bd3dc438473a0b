/-
  A row of acts that came in. Without conditions.
-/
import Derived.Test.YtmadiakafeofeaaDoorMP
namespace Go.Proofs.YtmadiakafeofeaaDoor
open Go.RowKit Go.Joins
set_option linter.unusedVariables false
set_option linter.unusedSimpArgs false
structure Ac where
  k : Int
  r : Bool
  l : Int
  u : Int
  f : Int
  s : ByteArray
def Ac.cs (a : Ac) : List Value := [.int .u8 a.k, .bool a.r, .int .i64 a.l, .int .i64 a.u, .int .i64 a.f, .string a.s]
/-- v is a row of n acts, below D. -/
def ActsAt (w : World) (D : Nat) (v : Value) (n : Nat) : Prop :=
  n ≤ 9223372036854775807 ∧ ∃ (A : Option Addr) (c : Nat), v = .slice A n c ∧ ∀ i, i < n → ∃ (b o : Nat) (x : Ac), A = some ⟨b, o, none⟩ ∧ b < D ∧ ∀ j u, x.cs[j]? = some u → w.cell? ⟨b, o + i * 6 + j, none⟩ = some u
theorem acts_cells {w w' : World} {D b o i : Nat} {x : Ac} (h : ∀ j u, x.cs[j]? = some u → w.cell? ⟨b, o + i * 6 + j, none⟩ = some u) (hb : b < D) (hw : Below D w w') :
    w'.cell? ⟨b, o + i * 6, none⟩ = some (.int .u8 x.k) ∧ w'.cell? ⟨b, o + i * 6 + 1, none⟩ = some (.bool x.r) ∧ w'.cell? ⟨b, o + i * 6 + 2, none⟩ = some (.int .i64 x.l) ∧ w'.cell? ⟨b, o + i * 6 + 3, none⟩ = some (.int .i64 x.u) ∧
      w'.cell? ⟨b, o + i * 6 + 4, none⟩ = some (.int .i64 x.f) ∧ w'.cell? ⟨b, o + i * 6 + 5, none⟩ = some (.string x.s) := by
  have e : ∀ j, w'.cell? ⟨b, o + i * 6 + j, none⟩ = w.cell? ⟨b, o + i * 6 + j, none⟩ := fun j => by
    unfold World.cell?
    simp only [hw.block b hb]
  refine ⟨?_, ?_, ?_, ?_, ?_, ?_⟩
  · exact (e 0).trans (h 0 _ rfl)
  · exact (e 1).trans (h 1 _ rfl)
  · exact (e 2).trans (h 2 _ rfl)
  · exact (e 3).trans (h 3 _ rfl)
  · exact (e 4).trans (h 4 _ rfl)
  · exact (e 5).trans (h 5 _ rfl)
end Go.Proofs.YtmadiakafeofeaaDoor
