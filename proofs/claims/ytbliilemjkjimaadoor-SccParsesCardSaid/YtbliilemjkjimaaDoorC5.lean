/-
  The contracts of the frame rate 29.97: what it is, whether it is valid, its nominal rate, whether labels are dropped. Their conditions are their hypotheses.
-/
import Derived.Test.YtbliilemjkjimaaDoorC4
import Derived.Deep.MidRow
import Derived.Deep.Upon
namespace Go.Proofs.YtbliilemjkjimaaDoor
open Go.RowKit Go.Joins
set_option linter.unusedVariables false
set_option linter.unusedSimpArgs false
theorem below_cells {B b : Nat} (hb : B ≤ b) : ∀ (vs : List Value) (o : Nat) (a w : World), Below B a w → Below B a (w.setCells b o vs)
  | [], _, _, _, h => h
  | v :: r, o, a, w, h => below_cells hb r (o + 1) a _ (h.setCell (p := ⟨b, o, none⟩) hb v)
theorem size_cells (b : Nat) : ∀ (vs : List Value) (o : Nat) (w : World), (w.setCells b o vs).heap.size = w.heap.size
  | [], _, _ => rfl
  | v :: r, o, w => by rw [World.setCells, size_cells b r]; simp
theorem row_next {P : Program} {ops : Array Oper} {Q : Exit → Act → World → Prop} {rest : List Oper} {a : Act} {w : World} {zr zs : Array Value} {cs : List Value} {tr ts : TypeId} (hl : cs.length = zs.size)
    (h : ∀ X : World, Hid (∀ j, X.cell? ⟨w.heap.size + 1, j, none⟩ = cs[j]?) → Hid (∀ j, X.cell? ⟨w.heap.size, j, none⟩ = zr[j]?) → Hid (∀ j, X.frozen? ⟨w.heap.size, j, none⟩ = false) → X.heap.size = w.heap.size + 2 → Hid (Below w.heap.size w X) → wpList P ops Q rest a X) :
    wpList P ops Q rest a (((w.alloc (.cells zr tr)).alloc (.cells zs ts)).setCells (w.heap.size + 1) 0 cs) := by
  refine h _ (Lib.hid fun j => ?_) (Lib.hid fun j => ?_) (Lib.hid fun j => ?_) ?_ (Lib.hid ?_)
  · by_cases hj : j < cs.length
    · have := World.cell?_setCells_in (w.heap.size + 1) cs 0 ((w.alloc (.cells zr tr)).alloc (.cells zs ts)) (fun j hj => by
        rw [cell_of_block (heap_at (w.alloc (.cells zr tr)) _ (by simp)), Array.getElem?_eq_getElem (by omega)]; rfl) j hj
      rw [Nat.zero_add] at this
      rw [this, List.getElem?_eq_getElem hj]
    · rw [World.cell?_setCells_out _ _ _ _ _ (fun _ _ => .inr (by simp; omega)), cell_of_block (heap_at (w.alloc (.cells zr tr)) _ (by simp)), List.getElem?_eq_none (by omega), Array.getElem?_eq_none (by omega)]
  · rw [World.cell?_setCells_out _ _ _ _ _ (fun h => by simp at h), cell_of_block (t := tr) (fr := (0, 0)) (cs := zr)]
    rw [heap_alloc_old _ _ (by simp), heap_alloc_new]
  · rw [World.frozen?_setCells]
    have hh : ((w.alloc (.cells zr tr)).alloc (.cells zs ts)).heap[w.heap.size]? = some (.cells zr tr (0, 0)) := by rw [heap_alloc_old _ _ (by simp), heap_alloc_new]
    exact unfrozen_of_block hh j
  · rw [size_cells]; simp
  · exact below_cells (by omega) _ _ _ _ ((below_one _ _).alloc (by simp) _)
theorem of_any (w : World) :
    Calls Tryd.prog 71 #[.int .u8 4] w fun e w' => e = .returned (.agg #[.string ⟨#[50, 57, 46, 57, 55]⟩, .int .i64 4004, .int .i64 30, .bool true]) ∧ Below w.heap.size w w' := by
  go_enter Tryd.func71, Tryd.ntmps71
  go_wp2_with (refine wpList_store_mid rfl 103 (.tmp 3) (.tmp 12) rfl (w.heap.size + 1) 0 _ rfl rfl ?ht ?hi ?h1 ?_
               rotate_left 3
               go_loud (refine row_next ?hl ?_
                        rotate_left 1
                        intro X k1 k2 k3 k4 k5
                        have c0 : X.cell? ⟨w.heap.size + 1, 16, none⟩ = some (.string ⟨#[50, 57, 46, 57, 55]⟩) := k1.out 16
                        have c1 : X.cell? ⟨w.heap.size + 1, 17, none⟩ = some (.int .i64 4004) := k1.out 17
                        have c2 : X.cell? ⟨w.heap.size + 1, 18, none⟩ = some (.int .i64 30) := k1.out 18
                        have c3 : X.cell? ⟨w.heap.size + 1, 19, none⟩ = some (.bool true) := k1.out 19
                        have z0 : X.cell? ⟨w.heap.size, 0, none⟩ = some (.string ⟨#[]⟩) := k2.out 0
                        have z1 : X.cell? ⟨w.heap.size, 1, none⟩ = some (.int .i64 0) := k2.out 1
                        have z2 : X.cell? ⟨w.heap.size, 2, none⟩ = some (.int .i64 0) := k2.out 2
                        have z3 : X.cell? ⟨w.heap.size, 3, none⟩ = some (.bool false) := k2.out 3
                        have f0 := k3.out 0
                        have f1 := k3.out 1
                        have f2 := k3.out 2
                        have f3 := k3.out 3))
  case ht =>
    intro j hj
    refine ⟨?_, unfrozen_of_block (heap_at (w.alloc _) _ (by simp)) _⟩
    rw [cell_of_block (heap_at (w.alloc _) _ (by simp)), Array.getElem?_eq_getElem (by simpa using hj)]; rfl
  case hi => kernel_rfl
  case h1 => kernel_rfl
  · refine bodyPost_ret (by simp [results, Tryd.results71, z0, z1, z2, z3, go_sem]; try rfl) rfl ⟨rfl, ?_⟩
    exact (((k5.out.setCell (by simp) _).setCell (by simp) _).setCell (by simp) _).setCell (by simp) _
theorem valid_any (w : World) :
    Calls Tryd.prog 69 #[.int .u8 4] w fun e w' => e = .returned (.bool true) ∧ Below w.heap.size w w' := by
  have hfd : ∀ w : World, (Instr.field 96 (.agg #[.string ⟨#[50, 57, 46, 57, 55]⟩, .int .i64 4004, .int .i64 30, .bool true]) 1).run Tryd.prog w = .ok (.int .i64 4004) w := fun _ => by kernel_rfl
  go_enter Tryd.func69, Tryd.ntmps69
  go_wp2_with (go_at_call 71; refine (of_any _).mono ?_; rintro e w' ⟨rfl, hb⟩)
  go_ret
  exact ⟨rfl, hb⟩
theorem nominal_any (w : World) :
    Calls Tryd.prog 51 #[.int .u8 4] w fun e w' => e = .returned (.int .i64 30) ∧ Below w.heap.size w w' := by
  have hfd : ∀ w : World, (Instr.field 96 (.agg #[.string ⟨#[50, 57, 46, 57, 55]⟩, .int .i64 4004, .int .i64 30, .bool true]) 2).run Tryd.prog w = .ok (.int .i64 30) w := fun _ => by kernel_rfl
  go_enter Tryd.func51, Tryd.ntmps51
  go_wp2_with (go_at_call 71; refine (of_any _).mono ?_; rintro e w' ⟨rfl, hb⟩)
  go_ret
  exact ⟨rfl, hb⟩
theorem canDrop_any (w : World) :
    Calls Tryd.prog 70 #[.int .u8 4] w fun e w' => e = .returned (.bool true) ∧ Below w.heap.size w w' := by
  have hfd : ∀ w : World, (Instr.field 96 (.agg #[.string ⟨#[50, 57, 46, 57, 55]⟩, .int .i64 4004, .int .i64 30, .bool true]) 3).run Tryd.prog w = .ok (.bool true) w := fun _ => by kernel_rfl
  go_enter Tryd.func70, Tryd.ntmps70
  go_wp2_with (go_at_call 71; refine (of_any _).mono ?_; rintro e w' ⟨rfl, hb⟩)
  go_ret
  exact ⟨rfl, hb⟩
theorem dropped_any (d : Bool) (w : World) :
    Calls Tryd.prog 52 #[.int .u8 4, .bool d] w fun e w' => e = .returned (.int .i64 (drp d)) ∧ w = w' := by
  cases d <;> (go_enter Tryd.func52, Tryd.ntmps52; go_wp2_with fail; go_ret; exact ⟨rfl, rfl⟩)
theorem rateError_any (d : Bool) (w : World) :
    Calls Tryd.prog 50 #[.int .u8 4, .bool d] w fun e w' => e = .returned (.int .i64 0) ∧ Below w.heap.size w w' := by
  cases d
  · go_enter Tryd.func50, Tryd.ntmps50
    go_wp2_with (go_at_call 69; refine (valid_any _).mono ?_; rintro e w' ⟨rfl, hb⟩)
    go_ret
    exact ⟨rfl, hb⟩
  · go_enter Tryd.func50, Tryd.ntmps50
    go_wp2_with (first | (go_at_call 69; refine (valid_any _).mono ?_; rintro e w1 ⟨rfl, hb⟩) | (go_at_call 70; refine (canDrop_any _).mono ?_; rintro e w2 ⟨rfl, hb2⟩))
    go_ret
    exact ⟨rfl, hb.trans (hb2.mono hb.size)⟩
theorem day_any (d : Bool) (w : World) :
    Calls Tryd.prog 28 #[.int .u8 4, .bool d] w fun e w' => e = .returned (.int .i64 (dayV d)) ∧ Below w.heap.size w w' := by
  have hd : 0 ≤ drp d ∧ drp d ≤ 2 := by cases d <;> decide
  have e1 : dayV d = 2592000 - 1296 * drp d := rfl
  rw [e1]
  generalize hr : drp d = r at *
  have H := Lib.hid hr
  clear hr e1
  go_enter Tryd.func28, Tryd.ntmps28
  go_wp2_with (first | (go_at_call 50; refine (rateError_any _ _).mono ?_; rintro e w1 ⟨rfl, hb⟩) | (go_at_call 51; refine (nominal_any _).mono ?_; rintro e w2 ⟨rfl, hb2⟩) | (go_at_call 52; refine (dropped_any _ _).mono ?_; rintro e w3 ⟨rfl, rfl⟩; rw [H.out]))
  go_ret
  exact ⟨rfl, hb.trans (hb2.mono hb.size)⟩
theorem validr_any (w : World) :
    Calls Tryd.prog 56 #[.int .u8 4] w fun e w' => e = .returned (.bool true) ∧ w = w' := by
  go_enter Tryd.func56, Tryd.ntmps56
  go_wp2_with fail
  go_ret
  exact ⟨rfl, rfl⟩
theorem canDropr_any (w : World) :
    Calls Tryd.prog 57 #[.int .u8 4] w fun e w' => e = .returned (.bool true) ∧ w = w' := by
  go_enter Tryd.func57, Tryd.ntmps57
  go_wp2_with fail
  go_ret
  exact ⟨rfl, rfl⟩
theorem nominalr_any (w : World) :
    Calls Tryd.prog 58 #[.int .u8 4] w fun e w' => e = .returned (.int .i64 30) ∧ Below w.heap.size w w' := by
  go_enter Tryd.func58, Tryd.ntmps58
  go_wp2_with (go_at_call 56; refine (validr_any _).mono ?_; rintro e w' ⟨rfl, rfl⟩)
  go_ret
  exact ⟨rfl, below_one _ _⟩
theorem droppedr_any (w : World) :
    Calls Tryd.prog 59 #[.int .u8 4] w fun e w' => e = .returned (.int .i64 2) ∧ w = w' := by
  go_enter Tryd.func59, Tryd.ntmps59
  go_wp2_with fail
  go_ret
  exact ⟨rfl, rfl⟩
theorem kind_any (d : Bool) (w : World) :
    Calls Tryd.prog 60 #[.int .u8 4, .bool d] w fun e w' => e = .returned (.int .i64 0) ∧ w = w' := by
  cases d <;> (go_enter Tryd.func60, Tryd.ntmps60; go_wp2_with (first | (go_at_call 56; refine (validr_any _).mono ?_; rintro e w1 ⟨rfl, rfl⟩) | (go_at_call 57; refine (canDropr_any _).mono ?_; rintro e w2 ⟨rfl, rfl⟩)); go_ret; exact ⟨rfl, rfl⟩)
theorem dayr_any (d : Bool) (w : World) :
    Calls Tryd.prog 34 #[.int .u8 4, .bool d] w fun e w' => e = .returned (.int .i64 (dayV d)) ∧ Below w.heap.size w w' := by
  cases d <;> (go_enter Tryd.func34, Tryd.ntmps34; go_wp2_with (first | (go_at_call 56; refine (validr_any _).mono ?_; rintro e w1 ⟨rfl, rfl⟩) | (go_at_call 57; refine (canDropr_any _).mono ?_; rintro e w2 ⟨rfl, rfl⟩) | (go_at_call 58; refine (nominalr_any _).mono ?_; rintro e w3 ⟨rfl, hb⟩) | (go_at_call 59; refine (droppedr_any _).mono ?_; rintro e w4 ⟨rfl, rfl⟩)); go_ret; exact ⟨rfl, hb⟩)
end Go.Proofs.YtbliilemjkjimaaDoor
