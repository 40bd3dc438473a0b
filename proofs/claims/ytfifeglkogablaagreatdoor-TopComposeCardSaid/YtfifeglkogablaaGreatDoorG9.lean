/-
  The contracts of Clone and of Shift, in the program and in the reference. Their conditions are their hypotheses.
-/
import Derived.Test.YtfifeglkogablaaGreatDoorBj
import Derived.Laws.AppendOwnNone
import Derived.Lib.SliceRun
namespace Go.Proofs.YtfifeglkogablaaGreatDoor
open Go.RowKit Go.Joins
set_option linter.unusedVariables false
set_option linter.unusedSimpArgs false
def FrmP (A : Option Addr) (c : Nat) : Prop := (A = none ∧ c = 0) ∨ ∃ ad, A = some ad
def NewM (L : List Pc) (W : World) (e : Ending) (w' : World) : Prop := (∃ v, e = .returned v ∧ w'.ownsRow W.heap.size 39 5 v L.length (L.flatMap pcV)) ∧ Below W.heap.size W w'
theorem own_emptyP (w : World) (base : Nat) (hb : base ≤ w.heap.size) : (w.alloc (.cells #[] 39)).ownsRow base 39 5 (.slice (some ⟨w.heap.size, 0, none⟩) 0 0) 0 [] :=
  ⟨rfl, .inr ⟨w.heap.size, 0, #[], rfl, hb, heap_at w _ rfl, Nat.le_refl _, Nat.zero_le _, rfl, rfl⟩⟩
theorem news_all {w : World} {A : Option Addr} {ad : Addr} {L : List Pc} (h : PcAt w A L) (hA : A = some ad) : ∀ j u, (L.flatMap pcV)[j]? = some u → w.cell? (ad.add j) = some u := by
  intro j u hj
  obtain ⟨b, o', e, hc⟩ := h j u hj
  rw [hA] at e
  cases e
  rw [Addr.add_lit]
  exact hc
theorem rowAt_none {w : World} {L : List Pc} (h : PcAt w none L) : L = [] := by
  cases L with
  | nil => rfl
  | cons x r => obtain ⟨g, o, e⟩ := PcAt.some h (k := 0) (x := x) rfl; cases e
theorem pc_set (a : Int) : ∀ (L M : List Pc) (x : Pc), ((L ++ x :: M).flatMap pcV).set (L.length * 5) (.int .i64 a) = (L ++ ⟨a, x.o, x.t, x.n, x.d⟩ :: M).flatMap pcV
  | [], M, x => rfl
  | y :: r, M, x => by
    have ih := pc_set a r M x
    rw [List.cons_append, List.flatMap_cons, List.cons_append, List.flatMap_cons, ← ih, List.length_cons, List.set_append_right _ _ (by rw [pcV_len]; omega), pcV_len]
    congr 2
    omega
theorem pc_set1 (a : Int) : ∀ (L M : List Pc) (x : Pc), ((L ++ x :: M).flatMap pcV).set (L.length * 5 + 1) (.int .i64 a) = (L ++ ⟨x.i, a, x.t, x.n, x.d⟩ :: M).flatMap pcV
  | [], M, x => rfl
  | y :: r, M, x => by
    have ih := pc_set1 a r M x
    rw [List.cons_append, List.flatMap_cons, List.cons_append, List.flatMap_cons, ← ih, List.length_cons, List.set_append_right _ _ (by rw [pcV_len]; omega), pcV_len]
    congr 2
    omega
/-- The first k pieces are moved. -/
def mixM (L : List Pc) (n : Int) (k : Nat) : List Pc := movL (L.take k) n ++ L.drop k
theorem mix_len (L : List Pc) (n : Int) (k : Nat) : (mixM L n k).length = L.length := by
  unfold mixM movL
  rw [List.length_append, List.length_map, List.length_take, List.length_drop]
  omega
theorem mix_at {L : List Pc} {n : Int} {k : Nat} {x : Pc} (hk : L[k]? = some x) : mixM L n k = movL (L.take k) n ++ x :: L.drop (k + 1) ∧ (movL (L.take k) n).length = k ∧ mixM L n (k + 1) = movL (L.take k) n ++ movO n x :: L.drop (k + 1) := by
  obtain ⟨h, e⟩ := List.getElem?_eq_some_iff.1 hk
  refine ⟨?_, ?_, ?_⟩
  · unfold mixM
    rw [List.drop_eq_getElem_cons h, e]
  · unfold movL
    rw [List.length_map, List.length_take]
    omega
  · unfold mixM movL
    rw [List.take_add_one, hk, List.map_append]
    simp
theorem fst_is {L : List Pc} {x : Pc} (h : L[0]? = some x) : fstI L = x.i := by
  unfold fstI
  cases L with
  | nil => cases h
  | cons y r => have e : y = x := Option.some.inj h; subst e; rfl
theorem lst_is {L : List Pc} {m : Nat} {x : Pc} (hm : L.length = m + 1) (h : L[m]? = some x) : lstO L = x.o := by
  unfold lstO
  rw [List.getLast?_eq_getElem?, hm, show m + 1 - 1 = m from rfl, h]
theorem mov_bad {L : List Pc} {n : Int} (h : chkP L = 0) (hL : L ≠ []) (hb : n < -fstI L ∨ mF - lstO L < n) : movP L n = ([], 2) := by unfold movP; rw [if_pos h, if_neg hL, if_pos hb]
theorem mov_good {L : List Pc} {n : Int} (h : chkP L = 0) (hL : L ≠ []) (hb : ¬ (n < -fstI L ∨ mF - lstO L < n)) : movP L n = (movL L n, 0) := by unfold movP; rw [if_pos h, if_neg hL, if_neg hb]
theorem movL_step {L : List Pc} {k : Nat} {x : Pc} (n : Int) (hk : L[k]? = some x) : movL (L.take (k + 1)) n = movL (L.take k) n ++ [movO n x] := by
  unfold movL
  rw [List.take_add_one, hk, List.map_append]
  rfl
end Go.Proofs.YtfifeglkogablaaGreatDoor

