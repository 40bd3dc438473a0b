/-
  The contract of Inverse in the reference. Its conditions are its hypotheses.
-/
import Derived.Test.YtfifeglkogablaaGreatDoorJ3
namespace Go.Proofs.YtfifeglkogablaaGreatDoor
open Go.RowKit Go.Joins
set_option linter.unusedVariables false
set_option linter.unusedSimpArgs false
theorem dsj_take {L : List Pc} {kk : Nat} {y : Pc} (h : ∀ t q, t < kk → L[t]? = some q → DsjP (invO q) y) : ∀ q ∈ (invL L).take kk, DsjP q y := by
  intro q hq
  obtain ⟨t, ht, e⟩ := List.mem_iff_getElem.1 hq
  have ht2 : t < kk ∧ t < (invL L).length := by rw [List.length_take] at ht; omega
  have hl : t < L.length := by have := invL_len L; omega
  have e2 := inv_get (List.getElem?_eq_getElem hl)
  rw [List.getElem_take] at e
  rw [List.getElem?_eq_getElem ht2.2, e] at e2
  rw [Option.some.inj e2]
  exact h t _ ht2.1 (List.getElem?_eq_getElem hl)
theorem take_snoc {M : List Pc} {k : Nat} {y : Pc} (h : M[k]? = some y) : M.take (k + 1) = M.take k ++ [y] := by rw [List.take_add_one, h]; rfl
theorem dsj_of {x q : Pc} (hx : x.i < x.o) (hq : q.i < q.o) (h : ¬ max x.t q.t < min (x.t + x.o - x.i) (q.t + q.o - q.i)) : DsjP (invO q) (invO x) := by
  show q.t + q.o - q.i ≤ x.t ∨ x.t + x.o - x.i ≤ q.t
  omega
theorem dsj_no {x q : Pc} (h : max x.t q.t < min (x.t + x.o - x.i) (q.t + q.o - q.i)) : ¬ DsjP (invO q) (invO x) := by
  show ¬ (q.t + q.o - q.i ≤ x.t ∨ x.t + x.o - x.i ≤ q.t)
  omega
end Go.Proofs.YtfifeglkogablaaGreatDoor

