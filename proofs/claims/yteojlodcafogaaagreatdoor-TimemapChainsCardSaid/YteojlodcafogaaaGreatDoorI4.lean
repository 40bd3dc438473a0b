/-
  The contract of slices.SortedFunc of slices.Values at pieces. Its conditions are its hypotheses.
-/
import Derived.Test.YteojlodcafogaaaGreatDoorI3
import Derived.Shelf.SlSortCmp.NoneTotal
namespace Go.Proofs.YteojlodcafogaaaGreatDoor
open Go.RowKit Go.Joins Go.Sort
set_option linter.unusedVariables false
set_option linter.unusedSimpArgs false
theorem collectp_any (Bs : Nat) (A : Option Addr) (c : Nat) (xs : List Pc) (w : World) (hx : PcAt w A xs) (hBs : w.cell? ⟨Bs, 0, none⟩ = some (.slice A xs.length c)) (hl : xs.length ≤ 1000000) :
    Calls Tryz.prog 125 #[.func (.func 126) #[] #[.pointer (some ⟨Bs, 0, none⟩)]] w fun e W' => ∃ v, e = .returned v ∧ W'.ownsRow w.heap.size 57 5 v xs.length (xs.flatMap pcV) ∧ Below w.heap.size w W' := by
  have hcon := callsIn_wide.1 (appendSeqp_in Fence.wide 3 trivial trivial rfl (by omega) Bs A c xs w hx hBs hl)
  go_enter Tryz.func125, Tryz.ntmps125
  go_wp2_with fail
  refine hcon.mono ?_
  rintro e w1 ⟨v, rfl, h1, h2⟩
  go_wp2_with fail
  go_ret
  exact ⟨_, rfl, h1, h2⟩
def SortedQ (xs : List Pc) (W : World) (e : Ending) (w' : World) : Prop := ∃ v ys, e = .returned v ∧ ys.Perm xs ∧ AscP ys ∧ w'.ownsRow W.heap.size 57 5 v ys.length (ys.flatMap pcV) ∧ Below W.heap.size W w'
theorem sortAllp_any (F : Nat) (hF : CmpF F) (base : Nat) (v : Value) (xs : List Pc) (w : World) (h : w.ownsRow base 57 5 v xs.length (xs.flatMap pcV)) (hl : xs.length ≤ 1000000) :
    Calls Tryz.prog 59 #[v, .func (.func F) #[] #[]] w fun e w' => e = .returned (.tuple #[]) ∧ SortQ base xs w v w' := by
  cases xs with
  | nil =>
    obtain ⟨A, c, e, _⟩ := row_of_ownK h
    subst e
    have hcon := AnyF.slices_SortFunc_none { Tryz.sortPc with } A c (.func (.func F) #[] #[]) w
    change Calls Tryz.prog 59 _ _ _ at hcon
    refine hcon.mono ?_
    rintro e w' ⟨rfl, rfl⟩
    exact ⟨rfl, [], List.Perm.refl _, trivial, h, Below.refl _ _⟩
  | cons x r =>
    obtain ⟨g, cap, rfl⟩ := ownsRow_succ h
    exact sortp_any F hF base g _ cap (x :: r) w rfl h hl
theorem sortedp_any (F : Nat) (hF : CmpF F) (Bs : Nat) (A : Option Addr) (c : Nat) (xs : List Pc) (w : World) (hx : PcAt w A xs) (hBs : w.cell? ⟨Bs, 0, none⟩ = some (.slice A xs.length c)) (hl : xs.length ≤ 1000000) :
    Calls Tryz.prog 88 #[.func (.func 126) #[] #[.pointer (some ⟨Bs, 0, none⟩)], .func (.func F) #[] #[]] w (SortedQ xs w) := by
  have hcon := collectp_any Bs A c xs w hx hBs hl
  unfold SortedQ
  obtain ⟨D, hD⟩ : ∃ D, D = w.heap.size := ⟨_, rfl⟩
  rw [← hD] at hcon ⊢
  clear hD
  go_enter Tryz.func88, Tryz.ntmps88
  go_wp2_with fail
  refine hcon.mono ?_
  rintro e w1 ⟨v, rfl, h1, h2⟩
  have H1 := Lib.hid h1
  have H2 := Lib.hid h2
  clear h1 h2 hcon
  go_wp2_with fail
  refine (sortAllp_any F hF D v xs w1 H1.out hl).mono ?_
  rintro e w2 ⟨rfl, ys, h3, h4, h5, h6⟩
  go_wp2_with fail
  go_ret
  exact ⟨_, ys, rfl, h3, h4, h5, H2.out.trans h6⟩
theorem valuesp_any (A : Option Addr) (len cap : Nat) (w : World) :
    Calls Tryz.prog 89 #[.slice A len cap] w fun e w' => e = .returned (.func (.func 126) #[] #[.pointer (some ⟨w.heap.size, 0, none⟩)]) ∧ w' = w.alloc (.cells #[.slice A len cap] 22) :=
  callsIn_wide.1 (valuesp_in Fence.wide 1 trivial rfl A len cap w)
end Go.Proofs.YteojlodcafogaaaGreatDoor
