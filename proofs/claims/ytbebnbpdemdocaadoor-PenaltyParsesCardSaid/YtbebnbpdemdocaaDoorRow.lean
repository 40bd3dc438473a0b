/-
  The contracts of penalty.Row and of the reference's Row: the cost of a row, or the error. Their conditions are their hypotheses.
-/
import Derived.Test.YtbebnbpdemdocaaDoorFn
namespace Go.Proofs.YtbebnbpdemdocaaDoor
open Go.RowKit
set_option linter.unusedVariables false
theorem row_bad (c0 c1 c2 c3 c4 c5 c6 c7 c8 c9 c10 c11 a l s : Int) (w : World) (x : Int) (hch : pchk [c0, c1, c2, c3, c4, c5, c6, c7, c8, c9, c10, c11] = x) (hx : (x == 0) = false) :
    Calls Tryd.prog 13 #[.agg #[.int .i64 c0, .int .i64 c1, .int .i64 c2, .int .i64 c3, .int .i64 c4, .int .i64 c5, .int .i64 c6, .int .i64 c7, .int .i64 c8, .int .i64 c9, .int .i64 c10, .int .i64 c11], .int .i64 a, .int .i64 l, .int .i64 s] w fun e w' => e = .returned (.tuple #[.int .i64 0, .int .i64 x]) ∧ Below w.heap.size w w' := by
  have HCH := Lib.hid hch
  clear hch
  go_enter Tryd.func13, Tryd.ntmps13
  go_wp2_with fail
  generalize hw1 : w.alloc (.cells #[.int .i64 c0, .int .i64 c1, .int .i64 c2, .int .i64 c3, .int .i64 c4, .int .i64 c5, .int .i64 c6, .int .i64 c7, .int .i64 c8, .int .i64 c9, .int .i64 c10, .int .i64 c11] 24) = w1
  have hcells : CellsAt w1 w.heap.size 0 [.int .i64 c0, .int .i64 c1, .int .i64 c2, .int .i64 c3, .int .i64 c4, .int .i64 c5, .int .i64 c6, .int .i64 c7, .int .i64 c8, .int .i64 c9, .int .i64 c10, .int .i64 c11] := by
    subst hw1; simp [CellsAt, go_sem]
  have hsz : w.heap.size < w1.heap.size := by subst hw1; simp
  have hb0 : Below w.heap.size w w1 := by subst hw1; exact (Below.refl _ _).alloc (Nat.le_refl _) _
  clear hw1
  refine (check_any c0 c1 c2 c3 c4 c5 c6 c7 c8 c9 c10 c11 _).mono ?_
  rintro e w2 ⟨rfl, hb⟩
  rw [HCH.out]
  have hcells2 := hcells.below hb hsz
  have hbw : Below w.heap.size w w2 := hb0.trans (hb.mono (by omega))
  clear hcells hb hb0
  clear hcells2
  have hx' : (x != 0) = true := by simpa using hx
  go_wp2_with fail
  go_ret2
  exact ⟨rfl, hbw⟩

theorem row_no0 (c0 c1 c2 c3 c4 c5 c6 c7 c8 c9 c10 c11 a l s : Int) (w : World) (hch : pchk [c0, c1, c2, c3, c4, c5, c6, c7, c8, c9, c10, c11] = 0) (ha : wi a 1 32 = false) :
    Calls Tryd.prog 13 #[.agg #[.int .i64 c0, .int .i64 c1, .int .i64 c2, .int .i64 c3, .int .i64 c4, .int .i64 c5, .int .i64 c6, .int .i64 c7, .int .i64 c8, .int .i64 c9, .int .i64 c10, .int .i64 c11], .int .i64 a, .int .i64 l, .int .i64 s] w fun e w' => e = .returned (.tuple #[.int .i64 0, .int .i64 2]) ∧ Below w.heap.size w w' := by
  have HCH := Lib.hid hch
  clear hch
  go_enter Tryd.func13, Tryd.ntmps13
  go_wp2_with fail
  generalize hw1 : w.alloc (.cells #[.int .i64 c0, .int .i64 c1, .int .i64 c2, .int .i64 c3, .int .i64 c4, .int .i64 c5, .int .i64 c6, .int .i64 c7, .int .i64 c8, .int .i64 c9, .int .i64 c10, .int .i64 c11] 24) = w1
  have hcells : CellsAt w1 w.heap.size 0 [.int .i64 c0, .int .i64 c1, .int .i64 c2, .int .i64 c3, .int .i64 c4, .int .i64 c5, .int .i64 c6, .int .i64 c7, .int .i64 c8, .int .i64 c9, .int .i64 c10, .int .i64 c11] := by
    subst hw1; simp [CellsAt, go_sem]
  have hsz : w.heap.size < w1.heap.size := by subst hw1; simp
  have hb0 : Below w.heap.size w w1 := by subst hw1; exact (Below.refl _ _).alloc (Nat.le_refl _) _
  clear hw1
  refine (check_any c0 c1 c2 c3 c4 c5 c6 c7 c8 c9 c10 c11 _).mono ?_
  rintro e w2 ⟨rfl, hb⟩
  rw [HCH.out]
  have hcells2 := hcells.below hb hsz
  have hbw : Below w.heap.size w w2 := hb0.trans (hb.mono (by omega))
  clear hcells hb hb0
  clear hcells2
  have HA := Lib.hid ha
  clear ha
  have ha := HA.out
  clear HA
  go_wp2_with fail
  refine (within_any a 1 32 _).mono ?_
  rintro e w' ⟨rfl, rfl⟩
  rw [ha]
  go_wp2_with fail
  go_ret2
  exact ⟨rfl, hbw⟩

theorem row_no1 (c0 c1 c2 c3 c4 c5 c6 c7 c8 c9 c10 c11 a l s : Int) (w : World) (hch : pchk [c0, c1, c2, c3, c4, c5, c6, c7, c8, c9, c10, c11] = 0) (ha : wi a 1 32 = true) (hl : wi l 1 32 = false) :
    Calls Tryd.prog 13 #[.agg #[.int .i64 c0, .int .i64 c1, .int .i64 c2, .int .i64 c3, .int .i64 c4, .int .i64 c5, .int .i64 c6, .int .i64 c7, .int .i64 c8, .int .i64 c9, .int .i64 c10, .int .i64 c11], .int .i64 a, .int .i64 l, .int .i64 s] w fun e w' => e = .returned (.tuple #[.int .i64 0, .int .i64 2]) ∧ Below w.heap.size w w' := by
  have HCH := Lib.hid hch
  clear hch
  go_enter Tryd.func13, Tryd.ntmps13
  go_wp2_with fail
  generalize hw1 : w.alloc (.cells #[.int .i64 c0, .int .i64 c1, .int .i64 c2, .int .i64 c3, .int .i64 c4, .int .i64 c5, .int .i64 c6, .int .i64 c7, .int .i64 c8, .int .i64 c9, .int .i64 c10, .int .i64 c11] 24) = w1
  have hcells : CellsAt w1 w.heap.size 0 [.int .i64 c0, .int .i64 c1, .int .i64 c2, .int .i64 c3, .int .i64 c4, .int .i64 c5, .int .i64 c6, .int .i64 c7, .int .i64 c8, .int .i64 c9, .int .i64 c10, .int .i64 c11] := by
    subst hw1; simp [CellsAt, go_sem]
  have hsz : w.heap.size < w1.heap.size := by subst hw1; simp
  have hb0 : Below w.heap.size w w1 := by subst hw1; exact (Below.refl _ _).alloc (Nat.le_refl _) _
  clear hw1
  refine (check_any c0 c1 c2 c3 c4 c5 c6 c7 c8 c9 c10 c11 _).mono ?_
  rintro e w2 ⟨rfl, hb⟩
  rw [HCH.out]
  have hcells2 := hcells.below hb hsz
  have hbw : Below w.heap.size w w2 := hb0.trans (hb.mono (by omega))
  clear hcells hb hb0
  clear hcells2
  have HA := Lib.hid ha
  clear ha
  have ha := HA.out
  clear HA
  go_wp2_with fail
  refine (within_any a 1 32 _).mono ?_
  rintro e w' ⟨rfl, rfl⟩
  rw [ha]
  go_wp2_with fail
  refine (within_any l 1 32 _).mono ?_
  rintro e w' ⟨rfl, rfl⟩
  rw [hl]
  go_wp2_with fail
  go_ret2
  exact ⟨rfl, hbw⟩

theorem row_no2 (c0 c1 c2 c3 c4 c5 c6 c7 c8 c9 c10 c11 a l s : Int) (w : World) (hch : pchk [c0, c1, c2, c3, c4, c5, c6, c7, c8, c9, c10, c11] = 0) (ha : wi a 1 32 = true) (hl : wi l 1 32 = true) (hs : wi s (-1) 5 = false) :
    Calls Tryd.prog 13 #[.agg #[.int .i64 c0, .int .i64 c1, .int .i64 c2, .int .i64 c3, .int .i64 c4, .int .i64 c5, .int .i64 c6, .int .i64 c7, .int .i64 c8, .int .i64 c9, .int .i64 c10, .int .i64 c11], .int .i64 a, .int .i64 l, .int .i64 s] w fun e w' => e = .returned (.tuple #[.int .i64 0, .int .i64 2]) ∧ Below w.heap.size w w' := by
  have HCH := Lib.hid hch
  clear hch
  go_enter Tryd.func13, Tryd.ntmps13
  go_wp2_with fail
  generalize hw1 : w.alloc (.cells #[.int .i64 c0, .int .i64 c1, .int .i64 c2, .int .i64 c3, .int .i64 c4, .int .i64 c5, .int .i64 c6, .int .i64 c7, .int .i64 c8, .int .i64 c9, .int .i64 c10, .int .i64 c11] 24) = w1
  have hcells : CellsAt w1 w.heap.size 0 [.int .i64 c0, .int .i64 c1, .int .i64 c2, .int .i64 c3, .int .i64 c4, .int .i64 c5, .int .i64 c6, .int .i64 c7, .int .i64 c8, .int .i64 c9, .int .i64 c10, .int .i64 c11] := by
    subst hw1; simp [CellsAt, go_sem]
  have hsz : w.heap.size < w1.heap.size := by subst hw1; simp
  have hb0 : Below w.heap.size w w1 := by subst hw1; exact (Below.refl _ _).alloc (Nat.le_refl _) _
  clear hw1
  refine (check_any c0 c1 c2 c3 c4 c5 c6 c7 c8 c9 c10 c11 _).mono ?_
  rintro e w2 ⟨rfl, hb⟩
  rw [HCH.out]
  have hcells2 := hcells.below hb hsz
  have hbw : Below w.heap.size w w2 := hb0.trans (hb.mono (by omega))
  clear hcells hb hb0
  clear hcells2
  have HA := Lib.hid ha
  clear ha
  have ha := HA.out
  clear HA
  go_wp2_with fail
  refine (within_any a 1 32 _).mono ?_
  rintro e w' ⟨rfl, rfl⟩
  rw [ha]
  go_wp2_with fail
  refine (within_any l 1 32 _).mono ?_
  rintro e w' ⟨rfl, rfl⟩
  rw [hl]
  go_wp2_with fail
  refine (within_any s (-1) 5 _).mono ?_
  rintro e w' ⟨rfl, rfl⟩
  rw [hs]
  go_wp2_with fail
  go_ret2
  exact ⟨rfl, hbw⟩

theorem row_yesn (c0 c1 c2 c3 c4 c5 c6 c7 c8 c9 c10 c11 a l s : Int) (hs1 : -1 ≤ s) (hs2 : s < 0) (w : World) (hch : pchk [c0, c1, c2, c3, c4, c5, c6, c7, c8, c9, c10, c11] = 0) (ha1 : 1 ≤ a) (ha2 : a ≤ 32) (hl1 : 1 ≤ l) (hl2 : l ≤ 32)
    (b0 : ∀ c ∈ ([c0, c1, c2, c3, c4, c5, c6, c7, c8, c9, c10, c11] : List Int), 0 ≤ c ∧ c ≤ 1000000) :
    Calls Tryd.prog 13 #[.agg #[.int .i64 c0, .int .i64 c1, .int .i64 c2, .int .i64 c3, .int .i64 c4, .int .i64 c5, .int .i64 c6, .int .i64 c7, .int .i64 c8, .int .i64 c9, .int .i64 c10, .int .i64 c11], .int .i64 a, .int .i64 l, .int .i64 s] w fun e w' => e = .returned (.tuple #[.int .i64 (c7 + c6 * (if a < l then l - a else a - l)), .int .i64 0]) ∧ Below w.heap.size w w' := by
  have ha : wi a 1 32 = true := wi_true ha1 ha2
  have hl : wi l 1 32 = true := wi_true hl1 hl2
  have hs : wi s (-1) 5 = true := wi_true (by omega) (by omega)
  have b6 := b0 c6 (by simp)
  have b7 := b0 c7 (by simp)
  have bz : True := trivial
  have HB := Lib.hid b0
  clear b0
  rcases Int.lt_or_le a l with hal | hal
  all_goals
    first
      | rw [if_pos hal]
      | rw [if_neg (by omega)]
    first
      | (have hp1 : 0 ≤ c6 * (l - a) := Int.mul_nonneg b6.1 (by omega)
         have hp2 : c6 * (l - a) ≤ 1000000 * 31 := Int.mul_le_mul b6.2 (by omega) (by omega) (by omega)
         skip)
      | (have hp1 : 0 ≤ c6 * (a - l) := Int.mul_nonneg b6.1 (by omega)
         have hp2 : c6 * (a - l) ≤ 1000000 * 31 := Int.mul_le_mul b6.2 (by omega) (by omega) (by omega)
         skip)
    have HCH := Lib.hid hch
    clear hch
    go_enter Tryd.func13, Tryd.ntmps13
    go_wp2_with fail
    generalize hw1 : w.alloc (.cells #[.int .i64 c0, .int .i64 c1, .int .i64 c2, .int .i64 c3, .int .i64 c4, .int .i64 c5, .int .i64 c6, .int .i64 c7, .int .i64 c8, .int .i64 c9, .int .i64 c10, .int .i64 c11] 24) = w1
    have hcells : CellsAt w1 w.heap.size 0 [.int .i64 c0, .int .i64 c1, .int .i64 c2, .int .i64 c3, .int .i64 c4, .int .i64 c5, .int .i64 c6, .int .i64 c7, .int .i64 c8, .int .i64 c9, .int .i64 c10, .int .i64 c11] := by
      subst hw1; simp [CellsAt, go_sem]
    have hsz : w.heap.size < w1.heap.size := by subst hw1; simp
    have hb0 : Below w.heap.size w w1 := by subst hw1; exact (Below.refl _ _).alloc (Nat.le_refl _) _
    clear hw1
    refine (check_any c0 c1 c2 c3 c4 c5 c6 c7 c8 c9 c10 c11 _).mono ?_
    rintro e w2 ⟨rfl, hb⟩
    rw [HCH.out]
    have hcells2 := hcells.below hb hsz
    have hbw : Below w.heap.size w w2 := hb0.trans (hb.mono (by omega))
    clear hcells hb hb0
    have hk' : True := trivial
    skip
    have HZ := HB
    skip
    simp only [CellsAt, Nat.zero_add, Nat.reduceAdd, and_true] at hcells2
    obtain ⟨q0, q1, q2, q3, q4, q5, q6, q7, q8, q9, q10, q11⟩ := hcells2
    clear q0 q1 q2 q3 q4 q5 q8 q9 q10 q11
    go_wp2_with fail
    refine (within_any a 1 32 _).mono ?_
    rintro e w' ⟨rfl, rfl⟩
    rw [ha]
    go_wp2_with fail
    refine (within_any l 1 32 _).mono ?_
    rintro e w' ⟨rfl, rfl⟩
    rw [hl]
    go_wp2_with fail
    refine (within_any s (-1) 5 _).mono ?_
    rintro e w' ⟨rfl, rfl⟩
    rw [hs]
    go_wp2_with fail
    go_ret2
    exact ⟨rfl, hbw⟩

theorem row_yesp (c0 c1 c2 c3 c4 c5 c6 c7 c8 c9 c10 c11 a l : Int) (k : Nat) (hk : k ≤ 5) (w : World) (hch : pchk [c0, c1, c2, c3, c4, c5, c6, c7, c8, c9, c10, c11] = 0) (ha1 : 1 ≤ a) (ha2 : a ≤ 32) (hl1 : 1 ≤ l) (hl2 : l ≤ 32)
    (b0 : ∀ c ∈ ([c0, c1, c2, c3, c4, c5, c6, c7, c8, c9, c10, c11] : List Int), 0 ≤ c ∧ c ≤ 1000000) :
    Calls Tryd.prog 13 #[.agg #[.int .i64 c0, .int .i64 c1, .int .i64 c2, .int .i64 c3, .int .i64 c4, .int .i64 c5, .int .i64 c6, .int .i64 c7, .int .i64 c8, .int .i64 c9, .int .i64 c10, .int .i64 c11], .int .i64 a, .int .i64 l, .int .i64 k] w fun e w' => e = .returned (.tuple #[.int .i64 (c7 + c6 * (if a < l then l - a else a - l) + [c0, c1, c2, c3, c4, c5, c6, c7, c8, c9, c10, c11].getD k 0), .int .i64 0]) ∧ Below w.heap.size w w' := by
  have ha : wi a 1 32 = true := wi_true ha1 ha2
  have hl : wi l 1 32 = true := wi_true hl1 hl2
  have hs : wi (k : Int) (-1) 5 = true := wi_true (by omega) (by omega)
  have b6 := b0 c6 (by simp)
  have b7 := b0 c7 (by simp)
  have bz : 0 ≤ [c0, c1, c2, c3, c4, c5, c6, c7, c8, c9, c10, c11].getD k 0 ∧ [c0, c1, c2, c3, c4, c5, c6, c7, c8, c9, c10, c11].getD k 0 ≤ 1000000 := b0 _ (by rw [show [c0, c1, c2, c3, c4, c5, c6, c7, c8, c9, c10, c11].getD k 0 = [c0, c1, c2, c3, c4, c5, c6, c7, c8, c9, c10, c11][k]'(by simp; omega) by simp [show k < 12 by omega]]; exact List.getElem_mem _)
  have HB := Lib.hid b0
  clear b0
  rcases Int.lt_or_le a l with hal | hal
  all_goals
    first
      | rw [if_pos hal]
      | rw [if_neg (by omega)]
    first
      | (have hp1 : 0 ≤ c6 * (l - a) := Int.mul_nonneg b6.1 (by omega)
         have hp2 : c6 * (l - a) ≤ 1000000 * 31 := Int.mul_le_mul b6.2 (by omega) (by omega) (by omega)
         skip)
      | (have hp1 : 0 ≤ c6 * (a - l) := Int.mul_nonneg b6.1 (by omega)
         have hp2 : c6 * (a - l) ≤ 1000000 * 31 := Int.mul_le_mul b6.2 (by omega) (by omega) (by omega)
         skip)
    have HCH := Lib.hid hch
    clear hch
    go_enter Tryd.func13, Tryd.ntmps13
    go_wp2_with fail
    generalize hw1 : w.alloc (.cells #[.int .i64 c0, .int .i64 c1, .int .i64 c2, .int .i64 c3, .int .i64 c4, .int .i64 c5, .int .i64 c6, .int .i64 c7, .int .i64 c8, .int .i64 c9, .int .i64 c10, .int .i64 c11] 24) = w1
    have hcells : CellsAt w1 w.heap.size 0 [.int .i64 c0, .int .i64 c1, .int .i64 c2, .int .i64 c3, .int .i64 c4, .int .i64 c5, .int .i64 c6, .int .i64 c7, .int .i64 c8, .int .i64 c9, .int .i64 c10, .int .i64 c11] := by
      subst hw1; simp [CellsAt, go_sem]
    have hsz : w.heap.size < w1.heap.size := by subst hw1; simp
    have hb0 : Below w.heap.size w w1 := by subst hw1; exact (Below.refl _ _).alloc (Nat.le_refl _) _
    clear hw1
    refine (check_any c0 c1 c2 c3 c4 c5 c6 c7 c8 c9 c10 c11 _).mono ?_
    rintro e w2 ⟨rfl, hb⟩
    rw [HCH.out]
    have hcells2 := hcells.below hb hsz
    have hbw : Below w.heap.size w w2 := hb0.trans (hb.mono (by omega))
    clear hcells hb hb0
    have hk' : w2.cell? ⟨w.heap.size, k, none⟩ = some (.int .i64 ([c0, c1, c2, c3, c4, c5, c6, c7, c8, c9, c10, c11].getD k 0)) := ints_cells (cs := [c0, c1, c2, c3, c4, c5, c6, c7, c8, c9, c10, c11]) hcells2 k (by simp; omega)
    generalize hz : [c0, c1, c2, c3, c4, c5, c6, c7, c8, c9, c10, c11].getD k 0 = z at *
    have HZ := Lib.hid hz
    clear hz
    simp only [CellsAt, Nat.zero_add, Nat.reduceAdd, and_true] at hcells2
    obtain ⟨q0, q1, q2, q3, q4, q5, q6, q7, q8, q9, q10, q11⟩ := hcells2
    clear q0 q1 q2 q3 q4 q5 q8 q9 q10 q11
    go_wp2_with fail
    refine (within_any a 1 32 _).mono ?_
    rintro e w' ⟨rfl, rfl⟩
    rw [ha]
    go_wp2_with fail
    refine (within_any l 1 32 _).mono ?_
    rintro e w' ⟨rfl, rfl⟩
    rw [hl]
    go_wp2_with fail
    refine (within_any (k : Int) (-1) 5 _).mono ?_
    rintro e w' ⟨rfl, rfl⟩
    rw [hs]
    go_wp2_with fail
    go_ret2
    exact ⟨by rw [HZ.out]; rfl, hbw⟩

end Go.Proofs.YtbebnbpdemdocaaDoor
