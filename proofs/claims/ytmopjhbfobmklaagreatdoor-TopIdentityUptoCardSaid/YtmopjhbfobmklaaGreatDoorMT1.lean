/-
  Frame rates, and how many frames a day has labels for. The conditions of the contracts are their hypotheses.
-/
import Derived.Test.YtmopjhbfobmklaaGreatDoorMBa
import Derived.Deep.MidRow
import Derived.Deep.Upon
set_option maxRecDepth 100000
set_option maxHeartbeats 40000000
namespace Go.Proofs.YtmopjhbfobmklaaGreatDoor
open Go.RowKit Go.Joins
set_option linter.unusedVariables false
set_option linter.unusedSimpArgs false
theorem below_cells {B b : Nat} (hb : B ≤ b) : ∀ (vs : List Value) (o : Nat) (a w : World), Below B a w → Below B a (w.setCells b o vs)
 | [], _, _, _, h => h
 | v :: r, o, a, w, h => below_cells hb r (o + 1) a _ (h.setCell (p := ⟨b, o, none⟩) hb v)
theorem size_cells (b : Nat) : ∀ (vs : List Value) (o : Nat) (w : World), (w.setCells b o vs).heap.size = w.heap.size
 | [], _, _ => rfl
 | v :: r, o, w => by rw [World.setCells, size_cells b r]; simp
theorem row_next {P : Program} {ops : Array Oper} {Q : Exit → Act → World → Prop} {rest : List Oper} {a : Act} {w : World} {zr zs : Array Value} {cs : List Value} {tr ts : TypeId} (hl : cs.length = zs.size)
  (h : ∀ X : World, Hid (∀ j, X.cell? ⟨w.heap.size + 1, j, none⟩ = cs[j]?) → Hid (∀ j, X.cell? ⟨w.heap.size, j, none⟩ = zr[j]?) → Hid (∀ j, X.frozen? ⟨w.heap.size, j, none⟩ = false) → X.heap.size = w.heap.size + 2 → Hid (Below w.heap.size w X) → wpList P ops Q rest a X) :
  wpList P ops Q rest a (((w.alloc (.cells zr tr)).alloc (.cells zs ts)).setCells (w.heap.size + 1) 0 cs) := by
 refine h _ (ι fun j => ?_) (ι fun j => ?_) (ι fun j => ?_) ?_ (ι ?_)
 ·by_cases hj : j < cs.length
  ·have := World.cell?_setCells_in (w.heap.size + 1) cs 0 ((w.alloc (.cells zr tr)).alloc (.cells zs ts)) (fun j hj => by
    rw [cell_of_block (heap_at (w.alloc (.cells zr tr)) _ (by simp)), Array.getElem?_eq_getElem (by omega)]; rfl) j hj
   rw [Nat.zero_add] at this
   rw [this, List.getElem?_eq_getElem hj]
  rw [World.cell?_setCells_out _ _ _ _ _ (fun _ _ => .inr (by simp; omega)), cell_of_block (heap_at (w.alloc (.cells zr tr)) _ (by simp)), List.getElem?_eq_none (by omega), Array.getElem?_eq_none (by omega)]
 ·rw [World.cell?_setCells_out _ _ _ _ _ (fun h => by simp at h), cell_of_block (t := tr) (fr := (0, 0)) (cs := zr)]
  rw [heap_alloc_old _ _ (by simp), heap_alloc_new]
 ·rw [World.frozen?_setCells]
  have hh : ((w.alloc (.cells zr tr)).alloc (.cells zs ts)).heap[w.heap.size]? = some (.cells zr tr (0, 0)) := by rw [heap_alloc_old _ _ (by simp), heap_alloc_new]
  exact unfrozen_of_block hh j
 ·rw [size_cells]; simp
 exact below_cells (by omega) _ _ _ _ (((Below.refl _ _).alloc (Nat.le_refl _) _).alloc (by simp) _)
structure Rt where
 name : List UInt8
 tick : Int
 nom : Int
 drop : Bool
def rateL : List Rt := [⟨[], 0, 0, false⟩, ⟨[50, 51, 46, 57, 55, 54], 5005, 24, false⟩, ⟨[50, 52], 5000, 24, false⟩, ⟨[50, 53], 4800, 25, false⟩, ⟨[50, 57, 46, 57, 55], 4004, 30, true⟩, ⟨[51, 48], 4000, 30, false⟩, ⟨[53, 48], 2400, 50, false⟩, ⟨[53, 57, 46, 57, 52], 2002, 60, true⟩]
def rt (r : Int) : Rt := (rateL[r.toNat]?).getD ⟨[], 0, 0, false⟩
def Rt.v (x : Rt) : Value := .agg #[.string (sB x.name), .int .i64 x.tick, .int .i64 x.nom, .bool x.drop]
theorem of_0 (w : World) :
    Calls Tryz.prog 100 #[.int .u8 0] w fun e w' => e = .returned (.agg #[.string ⟨#[]⟩, .int .i64 0, .int .i64 0, .bool false]) ∧ Below w.heap.size w w' := by
  go_enter Tryz.func100, Tryz.ntmps100
  go_wp2_with (refine wpList_store_mid rfl 237 (.tmp 3) (.tmp 12) rfl (w.heap.size + 1) 0 _ rfl rfl ?ht ?hi ?h1 ?_
               rotate_left 3
               go_loud (refine row_next ?hl ?_
                        rotate_left 1
                        intro X k1 k2 k3 k4 k5
                        have c0 : X.cell? ⟨w.heap.size + 1, 0, none⟩ = some (.string ⟨#[]⟩) := k1.out 0
                        have c1 : X.cell? ⟨w.heap.size + 1, 1, none⟩ = some (.int .i64 0) := k1.out 1
                        have c2 : X.cell? ⟨w.heap.size + 1, 2, none⟩ = some (.int .i64 0) := k1.out 2
                        have c3 : X.cell? ⟨w.heap.size + 1, 3, none⟩ = some (.bool false) := k1.out 3
                        have z0 : X.cell? ⟨w.heap.size, 0, none⟩ = some (.string ⟨#[]⟩) := k2.out 0
                        have z1 : X.cell? ⟨w.heap.size, 1, none⟩ = some (.int .i64 0) := k2.out 1
                        have z2 : X.cell? ⟨w.heap.size, 2, none⟩ = some (.int .i64 0) := k2.out 2
                        have z3 : X.cell? ⟨w.heap.size, 3, none⟩ = some (.bool false) := k2.out 3
                        have f0 := k3.out 0
                        have f1 := k3.out 1
                        have f2 := k3.out 2
                        have f3 := k3.out 3))
  case ht =>
    intro j hj
    refine ⟨?_, unfrozen_of_block (heap_at (w.alloc _) _ (by simp)) _⟩
    rw [cell_of_block (heap_at (w.alloc _) _ (by simp)), Array.getElem?_eq_getElem (by simpa using hj)]; rfl
  case hi => kernel_rfl
  case h1 => kernel_rfl
  · refine bodyPost_ret (by simp [results, Tryz.results100, z0, z1, z2, z3, go_sem]; try rfl) rfl ⟨rfl, ?_⟩
    exact (((k5.out.setCell (by simp) _).setCell (by simp) _).setCell (by simp) _).setCell (by simp) _
theorem of_1 (w : World) :
    Calls Tryz.prog 100 #[.int .u8 1] w fun e w' => e = .returned (.agg #[.string ⟨#[50, 51, 46, 57, 55, 54]⟩, .int .i64 5005, .int .i64 24, .bool false]) ∧ Below w.heap.size w w' := by
  go_enter Tryz.func100, Tryz.ntmps100
  go_wp2_with (refine wpList_store_mid rfl 237 (.tmp 3) (.tmp 12) rfl (w.heap.size + 1) 0 _ rfl rfl ?ht ?hi ?h1 ?_
               rotate_left 3
               go_loud (refine row_next ?hl ?_
                        rotate_left 1
                        intro X k1 k2 k3 k4 k5
                        have c0 : X.cell? ⟨w.heap.size + 1, 4, none⟩ = some (.string ⟨#[50, 51, 46, 57, 55, 54]⟩) := k1.out 4
                        have c1 : X.cell? ⟨w.heap.size + 1, 5, none⟩ = some (.int .i64 5005) := k1.out 5
                        have c2 : X.cell? ⟨w.heap.size + 1, 6, none⟩ = some (.int .i64 24) := k1.out 6
                        have c3 : X.cell? ⟨w.heap.size + 1, 7, none⟩ = some (.bool false) := k1.out 7
                        have z0 : X.cell? ⟨w.heap.size, 0, none⟩ = some (.string ⟨#[]⟩) := k2.out 0
                        have z1 : X.cell? ⟨w.heap.size, 1, none⟩ = some (.int .i64 0) := k2.out 1
                        have z2 : X.cell? ⟨w.heap.size, 2, none⟩ = some (.int .i64 0) := k2.out 2
                        have z3 : X.cell? ⟨w.heap.size, 3, none⟩ = some (.bool false) := k2.out 3
                        have f0 := k3.out 0
                        have f1 := k3.out 1
                        have f2 := k3.out 2
                        have f3 := k3.out 3))
  case ht =>
    intro j hj
    refine ⟨?_, unfrozen_of_block (heap_at (w.alloc _) _ (by simp)) _⟩
    rw [cell_of_block (heap_at (w.alloc _) _ (by simp)), Array.getElem?_eq_getElem (by simpa using hj)]; rfl
  case hi => kernel_rfl
  case h1 => kernel_rfl
  · refine bodyPost_ret (by simp [results, Tryz.results100, z0, z1, z2, z3, go_sem]; try rfl) rfl ⟨rfl, ?_⟩
    exact (((k5.out.setCell (by simp) _).setCell (by simp) _).setCell (by simp) _).setCell (by simp) _
theorem of_2 (w : World) :
    Calls Tryz.prog 100 #[.int .u8 2] w fun e w' => e = .returned (.agg #[.string ⟨#[50, 52]⟩, .int .i64 5000, .int .i64 24, .bool false]) ∧ Below w.heap.size w w' := by
  go_enter Tryz.func100, Tryz.ntmps100
  go_wp2_with (refine wpList_store_mid rfl 237 (.tmp 3) (.tmp 12) rfl (w.heap.size + 1) 0 _ rfl rfl ?ht ?hi ?h1 ?_
               rotate_left 3
               go_loud (refine row_next ?hl ?_
                        rotate_left 1
                        intro X k1 k2 k3 k4 k5
                        have c0 : X.cell? ⟨w.heap.size + 1, 8, none⟩ = some (.string ⟨#[50, 52]⟩) := k1.out 8
                        have c1 : X.cell? ⟨w.heap.size + 1, 9, none⟩ = some (.int .i64 5000) := k1.out 9
                        have c2 : X.cell? ⟨w.heap.size + 1, 10, none⟩ = some (.int .i64 24) := k1.out 10
                        have c3 : X.cell? ⟨w.heap.size + 1, 11, none⟩ = some (.bool false) := k1.out 11
                        have z0 : X.cell? ⟨w.heap.size, 0, none⟩ = some (.string ⟨#[]⟩) := k2.out 0
                        have z1 : X.cell? ⟨w.heap.size, 1, none⟩ = some (.int .i64 0) := k2.out 1
                        have z2 : X.cell? ⟨w.heap.size, 2, none⟩ = some (.int .i64 0) := k2.out 2
                        have z3 : X.cell? ⟨w.heap.size, 3, none⟩ = some (.bool false) := k2.out 3
                        have f0 := k3.out 0
                        have f1 := k3.out 1
                        have f2 := k3.out 2
                        have f3 := k3.out 3))
  case ht =>
    intro j hj
    refine ⟨?_, unfrozen_of_block (heap_at (w.alloc _) _ (by simp)) _⟩
    rw [cell_of_block (heap_at (w.alloc _) _ (by simp)), Array.getElem?_eq_getElem (by simpa using hj)]; rfl
  case hi => kernel_rfl
  case h1 => kernel_rfl
  · refine bodyPost_ret (by simp [results, Tryz.results100, z0, z1, z2, z3, go_sem]; try rfl) rfl ⟨rfl, ?_⟩
    exact (((k5.out.setCell (by simp) _).setCell (by simp) _).setCell (by simp) _).setCell (by simp) _
theorem of_3 (w : World) :
    Calls Tryz.prog 100 #[.int .u8 3] w fun e w' => e = .returned (.agg #[.string ⟨#[50, 53]⟩, .int .i64 4800, .int .i64 25, .bool false]) ∧ Below w.heap.size w w' := by
  go_enter Tryz.func100, Tryz.ntmps100
  go_wp2_with (refine wpList_store_mid rfl 237 (.tmp 3) (.tmp 12) rfl (w.heap.size + 1) 0 _ rfl rfl ?ht ?hi ?h1 ?_
               rotate_left 3
               go_loud (refine row_next ?hl ?_
                        rotate_left 1
                        intro X k1 k2 k3 k4 k5
                        have c0 : X.cell? ⟨w.heap.size + 1, 12, none⟩ = some (.string ⟨#[50, 53]⟩) := k1.out 12
                        have c1 : X.cell? ⟨w.heap.size + 1, 13, none⟩ = some (.int .i64 4800) := k1.out 13
                        have c2 : X.cell? ⟨w.heap.size + 1, 14, none⟩ = some (.int .i64 25) := k1.out 14
                        have c3 : X.cell? ⟨w.heap.size + 1, 15, none⟩ = some (.bool false) := k1.out 15
                        have z0 : X.cell? ⟨w.heap.size, 0, none⟩ = some (.string ⟨#[]⟩) := k2.out 0
                        have z1 : X.cell? ⟨w.heap.size, 1, none⟩ = some (.int .i64 0) := k2.out 1
                        have z2 : X.cell? ⟨w.heap.size, 2, none⟩ = some (.int .i64 0) := k2.out 2
                        have z3 : X.cell? ⟨w.heap.size, 3, none⟩ = some (.bool false) := k2.out 3
                        have f0 := k3.out 0
                        have f1 := k3.out 1
                        have f2 := k3.out 2
                        have f3 := k3.out 3))
  case ht =>
    intro j hj
    refine ⟨?_, unfrozen_of_block (heap_at (w.alloc _) _ (by simp)) _⟩
    rw [cell_of_block (heap_at (w.alloc _) _ (by simp)), Array.getElem?_eq_getElem (by simpa using hj)]; rfl
  case hi => kernel_rfl
  case h1 => kernel_rfl
  · refine bodyPost_ret (by simp [results, Tryz.results100, z0, z1, z2, z3, go_sem]; try rfl) rfl ⟨rfl, ?_⟩
    exact (((k5.out.setCell (by simp) _).setCell (by simp) _).setCell (by simp) _).setCell (by simp) _
theorem of_4 (w : World) :
    Calls Tryz.prog 100 #[.int .u8 4] w fun e w' => e = .returned (.agg #[.string ⟨#[50, 57, 46, 57, 55]⟩, .int .i64 4004, .int .i64 30, .bool true]) ∧ Below w.heap.size w w' := by
  go_enter Tryz.func100, Tryz.ntmps100
  go_wp2_with (refine wpList_store_mid rfl 237 (.tmp 3) (.tmp 12) rfl (w.heap.size + 1) 0 _ rfl rfl ?ht ?hi ?h1 ?_
               rotate_left 3
               go_loud (refine row_next ?hl ?_
                        rotate_left 1
                        intro X k1 k2 k3 k4 k5
                        have c0 : X.cell? ⟨w.heap.size + 1, 16, none⟩ = some (.string ⟨#[50, 57, 46, 57, 55]⟩) := k1.out 16
                        have c1 : X.cell? ⟨w.heap.size + 1, 17, none⟩ = some (.int .i64 4004) := k1.out 17
                        have c2 : X.cell? ⟨w.heap.size + 1, 18, none⟩ = some (.int .i64 30) := k1.out 18
                        have c3 : X.cell? ⟨w.heap.size + 1, 19, none⟩ = some (.bool true) := k1.out 19
                        have z0 : X.cell? ⟨w.heap.size, 0, none⟩ = some (.string ⟨#[]⟩) := k2.out 0
                        have z1 : X.cell? ⟨w.heap.size, 1, none⟩ = some (.int .i64 0) := k2.out 1
                        have z2 : X.cell? ⟨w.heap.size, 2, none⟩ = some (.int .i64 0) := k2.out 2
                        have z3 : X.cell? ⟨w.heap.size, 3, none⟩ = some (.bool false) := k2.out 3
                        have f0 := k3.out 0
                        have f1 := k3.out 1
                        have f2 := k3.out 2
                        have f3 := k3.out 3))
  case ht =>
    intro j hj
    refine ⟨?_, unfrozen_of_block (heap_at (w.alloc _) _ (by simp)) _⟩
    rw [cell_of_block (heap_at (w.alloc _) _ (by simp)), Array.getElem?_eq_getElem (by simpa using hj)]; rfl
  case hi => kernel_rfl
  case h1 => kernel_rfl
  · refine bodyPost_ret (by simp [results, Tryz.results100, z0, z1, z2, z3, go_sem]; try rfl) rfl ⟨rfl, ?_⟩
    exact (((k5.out.setCell (by simp) _).setCell (by simp) _).setCell (by simp) _).setCell (by simp) _
theorem of_5 (w : World) :
    Calls Tryz.prog 100 #[.int .u8 5] w fun e w' => e = .returned (.agg #[.string ⟨#[51, 48]⟩, .int .i64 4000, .int .i64 30, .bool false]) ∧ Below w.heap.size w w' := by
  go_enter Tryz.func100, Tryz.ntmps100
  go_wp2_with (refine wpList_store_mid rfl 237 (.tmp 3) (.tmp 12) rfl (w.heap.size + 1) 0 _ rfl rfl ?ht ?hi ?h1 ?_
               rotate_left 3
               go_loud (refine row_next ?hl ?_
                        rotate_left 1
                        intro X k1 k2 k3 k4 k5
                        have c0 : X.cell? ⟨w.heap.size + 1, 20, none⟩ = some (.string ⟨#[51, 48]⟩) := k1.out 20
                        have c1 : X.cell? ⟨w.heap.size + 1, 21, none⟩ = some (.int .i64 4000) := k1.out 21
                        have c2 : X.cell? ⟨w.heap.size + 1, 22, none⟩ = some (.int .i64 30) := k1.out 22
                        have c3 : X.cell? ⟨w.heap.size + 1, 23, none⟩ = some (.bool false) := k1.out 23
                        have z0 : X.cell? ⟨w.heap.size, 0, none⟩ = some (.string ⟨#[]⟩) := k2.out 0
                        have z1 : X.cell? ⟨w.heap.size, 1, none⟩ = some (.int .i64 0) := k2.out 1
                        have z2 : X.cell? ⟨w.heap.size, 2, none⟩ = some (.int .i64 0) := k2.out 2
                        have z3 : X.cell? ⟨w.heap.size, 3, none⟩ = some (.bool false) := k2.out 3
                        have f0 := k3.out 0
                        have f1 := k3.out 1
                        have f2 := k3.out 2
                        have f3 := k3.out 3))
  case ht =>
    intro j hj
    refine ⟨?_, unfrozen_of_block (heap_at (w.alloc _) _ (by simp)) _⟩
    rw [cell_of_block (heap_at (w.alloc _) _ (by simp)), Array.getElem?_eq_getElem (by simpa using hj)]; rfl
  case hi => kernel_rfl
  case h1 => kernel_rfl
  · refine bodyPost_ret (by simp [results, Tryz.results100, z0, z1, z2, z3, go_sem]; try rfl) rfl ⟨rfl, ?_⟩
    exact (((k5.out.setCell (by simp) _).setCell (by simp) _).setCell (by simp) _).setCell (by simp) _
theorem of_6 (w : World) :
    Calls Tryz.prog 100 #[.int .u8 6] w fun e w' => e = .returned (.agg #[.string ⟨#[53, 48]⟩, .int .i64 2400, .int .i64 50, .bool false]) ∧ Below w.heap.size w w' := by
  go_enter Tryz.func100, Tryz.ntmps100
  go_wp2_with (refine wpList_store_mid rfl 237 (.tmp 3) (.tmp 12) rfl (w.heap.size + 1) 0 _ rfl rfl ?ht ?hi ?h1 ?_
               rotate_left 3
               go_loud (refine row_next ?hl ?_
                        rotate_left 1
                        intro X k1 k2 k3 k4 k5
                        have c0 : X.cell? ⟨w.heap.size + 1, 24, none⟩ = some (.string ⟨#[53, 48]⟩) := k1.out 24
                        have c1 : X.cell? ⟨w.heap.size + 1, 25, none⟩ = some (.int .i64 2400) := k1.out 25
                        have c2 : X.cell? ⟨w.heap.size + 1, 26, none⟩ = some (.int .i64 50) := k1.out 26
                        have c3 : X.cell? ⟨w.heap.size + 1, 27, none⟩ = some (.bool false) := k1.out 27
                        have z0 : X.cell? ⟨w.heap.size, 0, none⟩ = some (.string ⟨#[]⟩) := k2.out 0
                        have z1 : X.cell? ⟨w.heap.size, 1, none⟩ = some (.int .i64 0) := k2.out 1
                        have z2 : X.cell? ⟨w.heap.size, 2, none⟩ = some (.int .i64 0) := k2.out 2
                        have z3 : X.cell? ⟨w.heap.size, 3, none⟩ = some (.bool false) := k2.out 3
                        have f0 := k3.out 0
                        have f1 := k3.out 1
                        have f2 := k3.out 2
                        have f3 := k3.out 3))
  case ht =>
    intro j hj
    refine ⟨?_, unfrozen_of_block (heap_at (w.alloc _) _ (by simp)) _⟩
    rw [cell_of_block (heap_at (w.alloc _) _ (by simp)), Array.getElem?_eq_getElem (by simpa using hj)]; rfl
  case hi => kernel_rfl
  case h1 => kernel_rfl
  · refine bodyPost_ret (by simp [results, Tryz.results100, z0, z1, z2, z3, go_sem]; try rfl) rfl ⟨rfl, ?_⟩
    exact (((k5.out.setCell (by simp) _).setCell (by simp) _).setCell (by simp) _).setCell (by simp) _
theorem of_7 (w : World) :
    Calls Tryz.prog 100 #[.int .u8 7] w fun e w' => e = .returned (.agg #[.string ⟨#[53, 57, 46, 57, 52]⟩, .int .i64 2002, .int .i64 60, .bool true]) ∧ Below w.heap.size w w' := by
  go_enter Tryz.func100, Tryz.ntmps100
  go_wp2_with (refine wpList_store_mid rfl 237 (.tmp 3) (.tmp 12) rfl (w.heap.size + 1) 0 _ rfl rfl ?ht ?hi ?h1 ?_
               rotate_left 3
               go_loud (refine row_next ?hl ?_
                        rotate_left 1
                        intro X k1 k2 k3 k4 k5
                        have c0 : X.cell? ⟨w.heap.size + 1, 28, none⟩ = some (.string ⟨#[53, 57, 46, 57, 52]⟩) := k1.out 28
                        have c1 : X.cell? ⟨w.heap.size + 1, 29, none⟩ = some (.int .i64 2002) := k1.out 29
                        have c2 : X.cell? ⟨w.heap.size + 1, 30, none⟩ = some (.int .i64 60) := k1.out 30
                        have c3 : X.cell? ⟨w.heap.size + 1, 31, none⟩ = some (.bool true) := k1.out 31
                        have z0 : X.cell? ⟨w.heap.size, 0, none⟩ = some (.string ⟨#[]⟩) := k2.out 0
                        have z1 : X.cell? ⟨w.heap.size, 1, none⟩ = some (.int .i64 0) := k2.out 1
                        have z2 : X.cell? ⟨w.heap.size, 2, none⟩ = some (.int .i64 0) := k2.out 2
                        have z3 : X.cell? ⟨w.heap.size, 3, none⟩ = some (.bool false) := k2.out 3
                        have f0 := k3.out 0
                        have f1 := k3.out 1
                        have f2 := k3.out 2
                        have f3 := k3.out 3))
  case ht =>
    intro j hj
    refine ⟨?_, unfrozen_of_block (heap_at (w.alloc _) _ (by simp)) _⟩
    rw [cell_of_block (heap_at (w.alloc _) _ (by simp)), Array.getElem?_eq_getElem (by simpa using hj)]; rfl
  case hi => kernel_rfl
  case h1 => kernel_rfl
  · refine bodyPost_ret (by simp [results, Tryz.results100, z0, z1, z2, z3, go_sem]; try rfl) rfl ⟨rfl, ?_⟩
    exact (((k5.out.setCell (by simp) _).setCell (by simp) _).setCell (by simp) _).setCell (by simp) _
theorem of_far (r : Int) (h : 8 ≤ r) (h2 : r ≤ 255) (w : World) :
    Calls Tryz.prog 100 #[.int .u8 r] w fun e w' => e = .returned (.agg #[.string ⟨#[]⟩, .int .i64 0, .int .i64 0, .bool false]) ∧ Below w.heap.size w w' := by
  go_enter Tryz.func100, Tryz.ntmps100
  go_wp2_with (refine wpList_store_mid rfl 237 (.tmp 3) (.tmp 12) rfl (w.heap.size + 1) 0 _ rfl rfl ?ht ?hi ?h1 ?_
               rotate_left 3
               go_loud (refine row_next ?hl ?_
                        rotate_left 1
                        intro X k1 k2 k3 k4 k5
                        have z0 : X.cell? ⟨w.heap.size, 0, none⟩ = some (.string ⟨#[]⟩) := k2.out 0
                        have z1 : X.cell? ⟨w.heap.size, 1, none⟩ = some (.int .i64 0) := k2.out 1
                        have z2 : X.cell? ⟨w.heap.size, 2, none⟩ = some (.int .i64 0) := k2.out 2
                        have z3 : X.cell? ⟨w.heap.size, 3, none⟩ = some (.bool false) := k2.out 3
                        have f0 := k3.out 0
                        have f1 := k3.out 1
                        have f2 := k3.out 2
                        have f3 := k3.out 3))
  case ht =>
    intro j hj
    refine ⟨?_, unfrozen_of_block (heap_at (w.alloc _) _ (by simp)) _⟩
    rw [cell_of_block (heap_at (w.alloc _) _ (by simp)), Array.getElem?_eq_getElem (by simpa using hj)]; rfl
  case hi => kernel_rfl
  case h1 => kernel_rfl
  · refine bodyPost_ret (by simp [results, Tryz.results100, z0, z1, z2, z3, go_sem]; try rfl) rfl ⟨rfl, ?_⟩
    exact (((k5.out.setCell (by simp) _).setCell (by simp) _).setCell (by simp) _).setCell (by simp) _
theorem of_any (r : Int) (h : 0 ≤ r) (h2 : r ≤ 255) (w : World) :
  Calls Tryz.prog 100 #[.int .u8 r] w fun e w' => e = .returned (rt r).v ∧ Below w.heap.size w w' := by
 by_cases h8 : 8 ≤ r
 ·have e : rt r = ⟨[], 0, 0, false⟩ := by
   unfold rt
   rw [List.getElem?_eq_none (by show 8 ≤ r.toNat; omega)]
   rfl
  rw [e]
  exact of_far r h8 h2 w
 rcases (by omega : r = 0 ∨ r = 1 ∨ r = 2 ∨ r = 3 ∨ r = 4 ∨ r = 5 ∨ r = 6 ∨ r = 7) with rfl | rfl | rfl | rfl | rfl | rfl | rfl | rfl
 ·exact of_0 w
 ·exact of_1 w
 ·exact of_2 w
 ·exact of_3 w
 ·exact of_4 w
 ·exact of_5 w
 ·exact of_6 w
 exact of_7 w
theorem Rt.field (x : Rt) : (∀ w : World, (Instr.field 183 x.v 1).run Tryz.prog w = .ok (.int .i64 x.tick) w) ∧ (∀ w : World, (Instr.field 183 x.v 2).run Tryz.prog w = .ok (.int .i64 x.nom) w) ∧ (∀ w : World, (Instr.field 183 x.v 3).run Tryz.prog w = .ok (.bool x.drop) w) :=
 ⟨fun _ => by kernel_rfl, fun _ => by kernel_rfl, fun _ => by kernel_rfl⟩
def rtOk (r : Int) : Bool := decide (0 < (rt r).tick)
theorem valid_any (r : Int) (h : 0 ≤ r) (h2 : r ≤ 255) (w : World) :
  Calls Tryz.prog 64 #[.int .u8 r] w fun e w' => e = .returned (.bool (rtOk r)) ∧ Below w.heap.size w w' := by
 have H := ι (of_any r h h2)
 have hfd := (rt r).field.1
 unfold rtOk
 generalize rt r = x at *
 go_enter Tryz.func64, Tryz.ntmps64
 go_wp2_with (go_at_call 100; refine (H.out _).mono ?_; rintro e w' ⟨rfl, hb⟩)
 go_ret
 exact ⟨rfl, hb⟩
theorem nominal_any (r : Int) (h : 0 ≤ r) (h2 : r ≤ 255) (w : World) :
  Calls Tryz.prog 102 #[.int .u8 r] w fun e w' => e = .returned (.int .i64 (rt r).nom) ∧ Below w.heap.size w w' := by
 have H := ι (of_any r h h2)
 have hfd := (rt r).field.2.1
 generalize rt r = x at *
 go_enter Tryz.func102, Tryz.ntmps102
 go_wp2_with (go_at_call 100; refine (H.out _).mono ?_; rintro e w' ⟨rfl, hb⟩)
 go_ret
 exact ⟨rfl, hb⟩
theorem canDrop_any (r : Int) (h : 0 ≤ r) (h2 : r ≤ 255) (w : World) :
  Calls Tryz.prog 65 #[.int .u8 r] w fun e w' => e = .returned (.bool (rt r).drop) ∧ Below w.heap.size w w' := by
 have H := ι (of_any r h h2)
 have hfd := (rt r).field.2.2
 generalize rt r = x at *
 go_enter Tryz.func65, Tryz.ntmps65
 go_wp2_with (go_at_call 100; refine (H.out _).mono ?_; rintro e w' ⟨rfl, hb⟩)
 go_ret
 exact ⟨rfl, hb⟩
def drpV (r : Int) (d : Bool) : Int := if d = false then 0 else if r = 7 then 4 else 2
theorem dropped_any (r : Int) (d : Bool) (w : World) :
  Calls Tryz.prog 103 #[.int .u8 r, .bool d] w fun e w' => e = .returned (.int .i64 (drpV r d)) ∧ w = w' := by
 cases d
 ·go_enter Tryz.func103, Tryz.ntmps103
  go_wp2_with fail
  go_ret
  exact ⟨rfl, rfl⟩
 by_cases h7 : r = 7
 ·subst h7
  go_enter Tryz.func103, Tryz.ntmps103
  go_wp2_with fail
  go_ret
  exact ⟨rfl, rfl⟩
 have t0 : (r == 7) = false := by simpa using h7
 have e : drpV r true = 2 := by unfold drpV; rw [if_neg (by decide), if_neg h7]
 rw [e]
 clear h7 e
 go_enter Tryz.func103, Tryz.ntmps103
 go_wp2_with fail
 go_ret
 exact ⟨rfl, rfl⟩
def rateE (r : Int) (d : Bool) : Int := if rtOk r = false then 3 else if (d && !(rt r).drop) = true then 13 else 0
theorem rateError_any (r : Int) (h : 0 ≤ r) (h2 : r ≤ 255) (d : Bool) (w : World) :
    Calls Tryz.prog 101 #[.int .u8 r, .bool d] w fun e w' => e = .returned (.int .i64 (rateE r d)) ∧ Below w.heap.size w w' := by
  have H := ι (valid_any r h h2)
  have K := ι (canDrop_any r h h2)
  unfold rateE
  generalize rtOk r = b at *
  generalize (rt r).drop = c at *
  cases b <;> cases d <;> cases c <;>
    (go_enter Tryz.func101, Tryz.ntmps101
     go_wp2_with (first | (go_at_call 64; refine (H.out _).mono ?_; rintro e w1 ⟨rfl, hb⟩) | (go_at_call 65; refine (K.out _).mono ?_; rintro e w2 ⟨rfl, hb2⟩))
     go_ret
     first | exact ⟨rfl, hb⟩ | exact ⟨rfl, hb.trans (hb2.mono hb.size)⟩)
def dayV (r : Int) (d : Bool) : Int := if rateE r d = 0 then 86400 * (rt r).nom - 1296 * drpV r d else 0
theorem nom_le (r : Int) : 0 ≤ (rt r).nom ∧ (rt r).nom ≤ 60 := by
 unfold rt
 by_cases h : r.toNat < 8
 ·rcases (by omega : r.toNat = 0 ∨ r.toNat = 1 ∨ r.toNat = 2 ∨ r.toNat = 3 ∨ r.toNat = 4 ∨ r.toNat = 5 ∨ r.toNat = 6 ∨ r.toNat = 7) with e | e | e | e | e | e | e | e <;> rw [e] <;> decide
 rw [List.getElem?_eq_none (by show 8 ≤ r.toNat; omega)]
 decide
theorem drp_le (r : Int) (d : Bool) : 0 ≤ drpV r d ∧ drpV r d ≤ 4 := by unfold drpV; split <;> (try split) <;> decide
theorem dayV_le (r : Int) (d : Bool) : -6000 ≤ dayV r d ∧ dayV r d ≤ 5184000 := by
 have := nom_le r
 have := drp_le r d
 unfold dayV
 split <;> omega
theorem day_any (r : Int) (h : 0 ≤ r) (h2 : r ≤ 255) (d : Bool) (w : World) :
  Calls Tryz.prog 66 #[.int .u8 r, .bool d] w fun e w' => e = .returned (.int .i64 (dayV r d)) ∧ Below w.heap.size w w' := by
 have H := ι (rateError_any r h h2 d)
 have K := ι (nominal_any r h h2)
 have D := ι (dropped_any r d)
 obtain ⟨n0, n1⟩ := nom_le r
 obtain ⟨d0, d1⟩ := drp_le r d
 unfold dayV
 generalize rateE r d = q at *
 generalize (rt r).nom = n at *
 generalize drpV r d = m at *
 by_cases hq : q = 0
 ·subst hq
  go_enter Tryz.func66, Tryz.ntmps66
  go_wp2_with (first | (go_at_call 101; refine (H.out _).mono ?_; rintro e w1 ⟨rfl, hb⟩) | (go_at_call 102; refine (K.out _).mono ?_; rintro e w2 ⟨rfl, hb2⟩) | (go_at_call 103; refine (D.out _).mono ?_; rintro e w3 ⟨rfl, rfl⟩))
  go_ret
  exact ⟨rfl, hb.trans (hb2.mono hb.size)⟩
 rw [if_neg hq]
 have t0 : (q != 0) = true := by simpa using hq
 clear hq
 go_enter Tryz.func66, Tryz.ntmps66
 go_wp2_with (first | (go_at_call 101; refine (H.out _).mono ?_; rintro e w1 ⟨rfl, hb⟩) | (go_at_call 102; refine (K.out _).mono ?_; rintro e w2 ⟨rfl, hb2⟩) | (go_at_call 103; refine (D.out _).mono ?_; rintro e w3 ⟨rfl, rfl⟩))
 go_ret
 exact ⟨rfl, hb⟩
end Go.Proofs.YtmopjhbfobmklaaGreatDoor
