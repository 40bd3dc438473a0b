/-
  Rows of structs: a list of elements of m cells each, laid side by side. Without conditions.
-/
import Derived.Test.YtneiljaknmeagaaGreatDoorSt
namespace Go.Proofs.YtneiljaknmeagaaGreatDoor
open Go.RowKit Go.Joins
set_option linter.unusedVariables false
set_option linter.unusedSimpArgs false
section
variable {α : Type} {enc : α → List Value} {m : Nat}
theorem flat_len (hm : ∀ x, (enc x).length = m) : ∀ l : List α, (l.flatMap enc).length = l.length * m
  | [] => by simp
  | x :: r => by rw [List.flatMap_cons, List.length_append, flat_len hm r, hm, List.length_cons, Nat.succ_mul]; omega
theorem flat_take (hm : ∀ x, (enc x).length = m) : ∀ (l : List α) (k : Nat), (l.flatMap enc).take (k * m) = (l.take k).flatMap enc
  | [], k => by simp
  | x :: r, 0 => by simp
  | x :: r, k + 1 => by
    rw [List.flatMap_cons, List.take_succ_cons, List.flatMap_cons, List.take_append, ← flat_take hm r k, hm, List.take_of_length_le (by rw [hm, Nat.succ_mul]; omega), Nat.succ_mul, Nat.add_sub_cancel]
theorem flat_drop (hm : ∀ x, (enc x).length = m) : ∀ (l : List α) (k : Nat), (l.flatMap enc).drop (k * m) = (l.drop k).flatMap enc
  | [], k => by simp
  | x :: r, 0 => by simp
  | x :: r, k + 1 => by
    rw [List.flatMap_cons, List.drop_succ_cons, List.drop_append, ← flat_drop hm r k, hm, List.drop_of_length_le (by rw [hm, Nat.succ_mul]; omega), Nat.succ_mul, Nat.add_sub_cancel, List.nil_append]
theorem flat_get (hm : ∀ x, (enc x).length = m) {l : List α} {k : Nat} {x : α} (hk : l[k]? = some x) {j : Nat} (hj : j < m) : (l.flatMap enc)[k * m + j]? = (enc x)[j]? := by
  have h1 : ((l.flatMap enc).drop (k * m))[j]? = (enc x)[j]? := by
    rw [flat_drop hm, List.drop_eq_getElem_cons (List.getElem?_eq_some_iff.1 hk).1, (List.getElem?_eq_some_iff.1 hk).2, List.flatMap_cons, List.getElem?_append_left (by rw [hm]; exact hj)]
  rw [← h1, List.getElem?_drop]
/-- A row of a call's own, whatever its elements' size. -/
theorem row_of_ownK {w : World} {base : Nat} {e : TypeId} {size : Nat} {v : Value} {n : Nat} {xs : List Value} (h : w.ownsRow base e size v n xs) :
    ∃ A c, v = .slice A n c ∧ RowAt w A xs ∧ n ≤ c ∧ c ≤ maxLen ∧ xs.length = n * size := by
  have hl : xs.length = n * size := h.1
  rcases h.2 with ⟨rfl, rfl⟩ | ⟨g, cap, cur, rfl, hb, hg, hnc, hcm, _, _⟩
  · have : xs = [] := List.eq_nil_of_length_eq_zero (by simpa using h.1)
    subst this
    exact ⟨none, 0, rfl, RowAt.nil _ _, Nat.le_refl _, Nat.zero_le _, by simp⟩
  · refine ⟨some ⟨g, 0, none⟩, cap, rfl, fun k u hk => ⟨g, 0, rfl, ?_⟩, hnc, hcm, hl⟩
    have := h.cells (g := g) rfl k u hk
    rwa [Addr.add_lit] at this
end
end Go.Proofs.YtneiljaknmeagaaGreatDoor
