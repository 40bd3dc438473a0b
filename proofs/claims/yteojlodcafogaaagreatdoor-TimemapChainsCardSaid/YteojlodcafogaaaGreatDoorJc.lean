/-
  The ways out of Compose. Without conditions.
-/
import Derived.Test.YteojlodcafogaaaGreatDoorJs
namespace Go.Proofs.YteojlodcafogaaaGreatDoor
open Go.RowKit Go.Joins
set_option linter.unusedVariables false
set_option linter.unusedSimpArgs false
theorem cmp_e1 {a b : List Pc} (h : chkP a ≠ 0) : cmpP a b = ([], chkP a) := by unfold cmpP; rw [if_neg h]
theorem cmp_e2 {a b : List Pc} (h : chkP a = 0) (h2 : chkP b ≠ 0) : cmpP a b = ([], chkP b) := by unfold cmpP; rw [if_pos h, if_neg h2]
theorem cmp_e3 {a b : List Pc} (h : chkP a = 0) (h2 : chkP b = 0) (hp : (plnB a && plnB b) = false) : cmpP a b = ([], 3) := by unfold cmpP; rw [if_pos h, if_pos h2, if_neg (by rw [hp]; decide)]
theorem cmp_e9 {a b : List Pc} (h : chkP a = 0) (h2 : chkP b = 0) (hp : (plnB a && plnB b) = true) (hl : 64 < (jonP (crsP a b)).length) : cmpP a b = ([], 9) := by unfold cmpP; rw [if_pos h, if_pos h2, if_pos hp, if_pos hl]
theorem cmp_e0 {a b : List Pc} (h : chkP a = 0) (h2 : chkP b = 0) (hp : (plnB a && plnB b) = true) (hl : ¬ 64 < (jonP (crsP a b)).length) : cmpP a b = (jonP (crsP a b), 0) := by unfold cmpP; rw [if_pos h, if_pos h2, if_pos hp, if_neg hl]
theorem name_world {E : Nat} {w5 W : World} (h : Below E w5 W) : ∃ W', W = W' ∧ Below E w5 W' := ⟨W, rfl, h⟩
theorem plnB_get {m : List Pc} {k : Nat} {x : Pc} (h : plnB m = true) (hx : m[k]? = some x) : x.n = 1 ∧ x.d = 1 := plnO_yes (pln_one h x (List.mem_of_getElem? hx))
end Go.Proofs.YteojlodcafogaaaGreatDoor
