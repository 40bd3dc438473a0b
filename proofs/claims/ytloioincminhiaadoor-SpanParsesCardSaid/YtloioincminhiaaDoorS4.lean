/-
  The contract of slices.SortedFunc of slices.Values at spans. Its conditions are its hypotheses.
-/
import Derived.Test.YtloioincminhiaaDoorS3
import Derived.Shelf.SlSortCmp.NoneTotal
namespace Go.Proofs.YtloioincminhiaaDoor
open Go.RowKit Go.Joins Go.Sort
set_option linter.unusedVariables false
set_option linter.unusedSimpArgs false
theorem collect_any (Bs : Nat) (A : Option Addr) (c : Nat) (xs : List Spn) (w : World) (hx : SpAt w A xs) (hBs : w.cell? ⟨Bs, 0, none⟩ = some (.slice A xs.length c)) (hl : xs.length ≤ 1000000) :
    Calls Tryd.prog 68 #[.func (.func 70) #[] #[.pointer (some ⟨Bs, 0, none⟩)]] w fun e W' => ∃ v, e = .returned v ∧ W'.ownsRow w.heap.size 32 2 v xs.length (xs.flatMap spV) ∧ Below w.heap.size w W' := by
  have hcon := callsIn_wide.1 (appendSeq_in Fence.wide 3 trivial trivial rfl (by omega) Bs A c xs w hx hBs hl)
  go_enter Tryd.func68, Tryd.ntmps68
  go_wp2_with fail
  refine hcon.mono ?_
  rintro e w1 ⟨v, rfl, h1, h2⟩
  go_wp2_with fail
  go_ret
  exact ⟨_, rfl, h1, h2⟩
def SortedP (xs : List Spn) (W : World) (e : Ending) (w' : World) : Prop := ∃ v ys, e = .returned v ∧ ys.Perm xs ∧ Srt ys ∧ w'.ownsRow W.heap.size 32 2 v ys.length (ys.flatMap spV) ∧ Below W.heap.size W w'
theorem sortAll_any (base : Nat) (v : Value) (xs : List Spn) (w : World) (h : w.ownsRow base 32 2 v xs.length (xs.flatMap spV)) (hl : xs.length ≤ 1000000) :
    Calls Tryd.prog 69 #[v, .func (.func 54) #[] #[]] w fun e w' => e = .returned (.tuple #[]) ∧ SortP base xs w v w' := by
  cases xs with
  | nil =>
    obtain ⟨A, c, e, _⟩ := row_of_ownK h
    subst e
    have hcon := AnyF.slices_SortFunc_none { Tryd.sortSp with } A c (.func (.func 54) #[] #[]) w
    change Calls Tryd.prog 69 _ _ _ at hcon
    refine hcon.mono ?_
    rintro e w' ⟨rfl, rfl⟩
    exact ⟨rfl, [], List.Perm.refl _, trivial, h, Below.refl _ _⟩
  | cons x r =>
    obtain ⟨g, cap, rfl⟩ := ownsRow_succ h
    exact sort_any base g _ cap (x :: r) w rfl h hl
theorem sorted_any (Bs : Nat) (A : Option Addr) (c : Nat) (xs : List Spn) (w : World) (hx : SpAt w A xs) (hBs : w.cell? ⟨Bs, 0, none⟩ = some (.slice A xs.length c)) (hl : xs.length ≤ 1000000) :
    Calls Tryd.prog 52 #[.func (.func 70) #[] #[.pointer (some ⟨Bs, 0, none⟩)], .func (.func 54) #[] #[]] w (SortedP xs w) := by
  have hcon := collect_any Bs A c xs w hx hBs hl
  unfold SortedP
  obtain ⟨D, hD⟩ : ∃ D, D = w.heap.size := ⟨_, rfl⟩
  rw [← hD] at hcon ⊢
  clear hD
  go_enter Tryd.func52, Tryd.ntmps52
  go_wp2_with fail
  refine hcon.mono ?_
  rintro e w1 ⟨v, rfl, h1, h2⟩
  have H1 := Lib.hid h1
  have H2 := Lib.hid h2
  clear h1 h2 hcon
  go_wp2_with fail
  refine (sortAll_any D v xs w1 H1.out hl).mono ?_
  rintro e w2 ⟨rfl, ys, h3, h4, h5, h6⟩
  go_wp2_with fail
  go_ret
  exact ⟨_, ys, rfl, h3, h4, h5, H2.out.trans h6⟩
theorem values_any (A : Option Addr) (len cap : Nat) (w : World) :
    Calls Tryd.prog 53 #[.slice A len cap] w fun e w' => e = .returned (.func (.func 70) #[] #[.pointer (some ⟨w.heap.size, 0, none⟩)]) ∧ w' = w.alloc (.cells #[.slice A len cap] 22) :=
  callsIn_wide.1 (values_in Fence.wide 1 trivial rfl A len cap w)
end Go.Proofs.YtloioincminhiaaDoor
