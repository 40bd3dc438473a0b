/-
  The contracts of penalty.Event and of the reference's Event: the cost of an event, or the error. Their conditions are their hypotheses.
-/
import Derived.Test.YtbebnbpdemdocaaDoorFn
namespace Go.Proofs.YtbebnbpdemdocaaDoor
open Go.RowKit
set_option linter.unusedVariables false
theorem event_bad (c0 c1 c2 c3 c4 c5 c6 c7 c8 c9 c10 c11 f g s k : Int) (b : Bool) (w : World) (x : Int) (hch : pchk [c0, c1, c2, c3, c4, c5, c6, c7, c8, c9, c10, c11] = x) (hx : (x == 0) = false) :
    Calls Tryd.prog 14 #[.agg #[.int .i64 c0, .int .i64 c1, .int .i64 c2, .int .i64 c3, .int .i64 c4, .int .i64 c5, .int .i64 c6, .int .i64 c7, .int .i64 c8, .int .i64 c9, .int .i64 c10, .int .i64 c11], .agg #[.int .i64 f, .int .i64 g, .int .i64 s, .int .i64 k, .bool b]] w fun e w' => e = .returned (.tuple #[.int .i64 0, .int .i64 x]) ∧ Below w.heap.size w w' := by
  have HCH := Lib.hid hch
  clear hch
  go_enter Tryd.func14, Tryd.ntmps14
  go_wp2_with fail
  generalize hw1 : (w.alloc (.cells #[.int .i64 c0, .int .i64 c1, .int .i64 c2, .int .i64 c3, .int .i64 c4, .int .i64 c5, .int .i64 c6, .int .i64 c7, .int .i64 c8, .int .i64 c9, .int .i64 c10, .int .i64 c11] 24)).alloc (.cells #[.int .i64 f, .int .i64 g, .int .i64 s, .int .i64 k, .bool b] 41) = w1
  have hcells : CellsAt w1 w.heap.size 0 [.int .i64 c0, .int .i64 c1, .int .i64 c2, .int .i64 c3, .int .i64 c4, .int .i64 c5, .int .i64 c6, .int .i64 c7, .int .i64 c8, .int .i64 c9, .int .i64 c10, .int .i64 c11] := by
    subst hw1; simp [CellsAt, go_sem]
  have hcellsl : CellsAt w1 (w.heap.size + 1) 0 [.int .i64 f, .int .i64 g, .int .i64 s, .int .i64 k, .bool b] := by
    subst hw1; simp [CellsAt, go_sem]
  have hsz : w.heap.size + 1 < w1.heap.size := by subst hw1; simp
  have hb0 : Below w.heap.size w w1 := by subst hw1; exact ((Below.refl _ _).alloc (Nat.le_refl _) _).alloc (by simp) _
  clear hw1
  refine (check_any c0 c1 c2 c3 c4 c5 c6 c7 c8 c9 c10 c11 _).mono ?_
  rintro e w2 ⟨rfl, hb⟩
  rw [HCH.out]
  have hcells2 := hcells.below hb (by omega)
  have hcells3 := hcellsl.below hb hsz
  have hbw : Below w.heap.size w w2 := hb0.trans (hb.mono (by omega))
  clear hcells hcellsl hb hb0
  simp only [CellsAt, Nat.zero_add, Nat.reduceAdd, and_true] at hcells3
  obtain ⟨r0, r1, r2, r3, r4⟩ := hcells3
  clear hcells2
  have hx' : (x != 0) = true := by simpa using hx
  go_wp2_with fail
  go_ret2
  exact ⟨rfl, hbw⟩

theorem event_nof (c0 c1 c2 c3 c4 c5 c6 c7 c8 c9 c10 c11 f g s k : Int) (b : Bool) (w : World) (hch : pchk [c0, c1, c2, c3, c4, c5, c6, c7, c8, c9, c10, c11] = 0) (hf : wi f 0 5184000 = false) :
    Calls Tryd.prog 14 #[.agg #[.int .i64 c0, .int .i64 c1, .int .i64 c2, .int .i64 c3, .int .i64 c4, .int .i64 c5, .int .i64 c6, .int .i64 c7, .int .i64 c8, .int .i64 c9, .int .i64 c10, .int .i64 c11], .agg #[.int .i64 f, .int .i64 g, .int .i64 s, .int .i64 k, .bool b]] w fun e w' => e = .returned (.tuple #[.int .i64 0, .int .i64 2]) ∧ Below w.heap.size w w' := by
  have HCH := Lib.hid hch
  clear hch
  go_enter Tryd.func14, Tryd.ntmps14
  go_wp2_with fail
  generalize hw1 : (w.alloc (.cells #[.int .i64 c0, .int .i64 c1, .int .i64 c2, .int .i64 c3, .int .i64 c4, .int .i64 c5, .int .i64 c6, .int .i64 c7, .int .i64 c8, .int .i64 c9, .int .i64 c10, .int .i64 c11] 24)).alloc (.cells #[.int .i64 f, .int .i64 g, .int .i64 s, .int .i64 k, .bool b] 41) = w1
  have hcells : CellsAt w1 w.heap.size 0 [.int .i64 c0, .int .i64 c1, .int .i64 c2, .int .i64 c3, .int .i64 c4, .int .i64 c5, .int .i64 c6, .int .i64 c7, .int .i64 c8, .int .i64 c9, .int .i64 c10, .int .i64 c11] := by
    subst hw1; simp [CellsAt, go_sem]
  have hcellsl : CellsAt w1 (w.heap.size + 1) 0 [.int .i64 f, .int .i64 g, .int .i64 s, .int .i64 k, .bool b] := by
    subst hw1; simp [CellsAt, go_sem]
  have hsz : w.heap.size + 1 < w1.heap.size := by subst hw1; simp
  have hb0 : Below w.heap.size w w1 := by subst hw1; exact ((Below.refl _ _).alloc (Nat.le_refl _) _).alloc (by simp) _
  clear hw1
  refine (check_any c0 c1 c2 c3 c4 c5 c6 c7 c8 c9 c10 c11 _).mono ?_
  rintro e w2 ⟨rfl, hb⟩
  rw [HCH.out]
  have hcells2 := hcells.below hb (by omega)
  have hcells3 := hcellsl.below hb hsz
  have hbw : Below w.heap.size w w2 := hb0.trans (hb.mono (by omega))
  clear hcells hcellsl hb hb0
  simp only [CellsAt, Nat.zero_add, Nat.reduceAdd, and_true] at hcells3
  obtain ⟨r0, r1, r2, r3, r4⟩ := hcells3
  clear hcells2
  go_wp2_with fail
  refine (within_any f 0 5184000 _).mono ?_
  rintro e w' ⟨rfl, rfl⟩
  rw [hf]
  go_wp2_with fail
  go_ret2
  exact ⟨rfl, hbw⟩

theorem event_nog (c0 c1 c2 c3 c4 c5 c6 c7 c8 c9 c10 c11 f g s k : Int) (b : Bool) (w : World) (hch : pchk [c0, c1, c2, c3, c4, c5, c6, c7, c8, c9, c10, c11] = 0) (hf : wi f 0 5184000 = true) (hg : wi g 0 5184000 = false) :
    Calls Tryd.prog 14 #[.agg #[.int .i64 c0, .int .i64 c1, .int .i64 c2, .int .i64 c3, .int .i64 c4, .int .i64 c5, .int .i64 c6, .int .i64 c7, .int .i64 c8, .int .i64 c9, .int .i64 c10, .int .i64 c11], .agg #[.int .i64 f, .int .i64 g, .int .i64 s, .int .i64 k, .bool b]] w fun e w' => e = .returned (.tuple #[.int .i64 0, .int .i64 2]) ∧ Below w.heap.size w w' := by
  have HCH := Lib.hid hch
  clear hch
  go_enter Tryd.func14, Tryd.ntmps14
  go_wp2_with fail
  generalize hw1 : (w.alloc (.cells #[.int .i64 c0, .int .i64 c1, .int .i64 c2, .int .i64 c3, .int .i64 c4, .int .i64 c5, .int .i64 c6, .int .i64 c7, .int .i64 c8, .int .i64 c9, .int .i64 c10, .int .i64 c11] 24)).alloc (.cells #[.int .i64 f, .int .i64 g, .int .i64 s, .int .i64 k, .bool b] 41) = w1
  have hcells : CellsAt w1 w.heap.size 0 [.int .i64 c0, .int .i64 c1, .int .i64 c2, .int .i64 c3, .int .i64 c4, .int .i64 c5, .int .i64 c6, .int .i64 c7, .int .i64 c8, .int .i64 c9, .int .i64 c10, .int .i64 c11] := by
    subst hw1; simp [CellsAt, go_sem]
  have hcellsl : CellsAt w1 (w.heap.size + 1) 0 [.int .i64 f, .int .i64 g, .int .i64 s, .int .i64 k, .bool b] := by
    subst hw1; simp [CellsAt, go_sem]
  have hsz : w.heap.size + 1 < w1.heap.size := by subst hw1; simp
  have hb0 : Below w.heap.size w w1 := by subst hw1; exact ((Below.refl _ _).alloc (Nat.le_refl _) _).alloc (by simp) _
  clear hw1
  refine (check_any c0 c1 c2 c3 c4 c5 c6 c7 c8 c9 c10 c11 _).mono ?_
  rintro e w2 ⟨rfl, hb⟩
  rw [HCH.out]
  have hcells2 := hcells.below hb (by omega)
  have hcells3 := hcellsl.below hb hsz
  have hbw : Below w.heap.size w w2 := hb0.trans (hb.mono (by omega))
  clear hcells hcellsl hb hb0
  simp only [CellsAt, Nat.zero_add, Nat.reduceAdd, and_true] at hcells3
  obtain ⟨r0, r1, r2, r3, r4⟩ := hcells3
  clear hcells2
  go_wp2_with fail
  refine (within_any f 0 5184000 _).mono ?_
  rintro e w' ⟨rfl, rfl⟩
  rw [hf]
  go_wp2_with fail
  refine (within_any g 0 5184000 _).mono ?_
  rintro e w' ⟨rfl, rfl⟩
  rw [hg]
  go_wp2_with fail
  go_ret2
  exact ⟨rfl, hbw⟩

theorem event_nos (c0 c1 c2 c3 c4 c5 c6 c7 c8 c9 c10 c11 f g s k : Int) (b : Bool) (w : World) (hch : pchk [c0, c1, c2, c3, c4, c5, c6, c7, c8, c9, c10, c11] = 0) (hf : wi f 0 5184000 = true) (hg : wi g 0 5184000 = true) (hs : wi s 0 400 = false) :
    Calls Tryd.prog 14 #[.agg #[.int .i64 c0, .int .i64 c1, .int .i64 c2, .int .i64 c3, .int .i64 c4, .int .i64 c5, .int .i64 c6, .int .i64 c7, .int .i64 c8, .int .i64 c9, .int .i64 c10, .int .i64 c11], .agg #[.int .i64 f, .int .i64 g, .int .i64 s, .int .i64 k, .bool b]] w fun e w' => e = .returned (.tuple #[.int .i64 0, .int .i64 2]) ∧ Below w.heap.size w w' := by
  have HCH := Lib.hid hch
  clear hch
  go_enter Tryd.func14, Tryd.ntmps14
  go_wp2_with fail
  generalize hw1 : (w.alloc (.cells #[.int .i64 c0, .int .i64 c1, .int .i64 c2, .int .i64 c3, .int .i64 c4, .int .i64 c5, .int .i64 c6, .int .i64 c7, .int .i64 c8, .int .i64 c9, .int .i64 c10, .int .i64 c11] 24)).alloc (.cells #[.int .i64 f, .int .i64 g, .int .i64 s, .int .i64 k, .bool b] 41) = w1
  have hcells : CellsAt w1 w.heap.size 0 [.int .i64 c0, .int .i64 c1, .int .i64 c2, .int .i64 c3, .int .i64 c4, .int .i64 c5, .int .i64 c6, .int .i64 c7, .int .i64 c8, .int .i64 c9, .int .i64 c10, .int .i64 c11] := by
    subst hw1; simp [CellsAt, go_sem]
  have hcellsl : CellsAt w1 (w.heap.size + 1) 0 [.int .i64 f, .int .i64 g, .int .i64 s, .int .i64 k, .bool b] := by
    subst hw1; simp [CellsAt, go_sem]
  have hsz : w.heap.size + 1 < w1.heap.size := by subst hw1; simp
  have hb0 : Below w.heap.size w w1 := by subst hw1; exact ((Below.refl _ _).alloc (Nat.le_refl _) _).alloc (by simp) _
  clear hw1
  refine (check_any c0 c1 c2 c3 c4 c5 c6 c7 c8 c9 c10 c11 _).mono ?_
  rintro e w2 ⟨rfl, hb⟩
  rw [HCH.out]
  have hcells2 := hcells.below hb (by omega)
  have hcells3 := hcellsl.below hb hsz
  have hbw : Below w.heap.size w w2 := hb0.trans (hb.mono (by omega))
  clear hcells hcellsl hb hb0
  simp only [CellsAt, Nat.zero_add, Nat.reduceAdd, and_true] at hcells3
  obtain ⟨r0, r1, r2, r3, r4⟩ := hcells3
  clear hcells2
  go_wp2_with fail
  refine (within_any f 0 5184000 _).mono ?_
  rintro e w' ⟨rfl, rfl⟩
  rw [hf]
  go_wp2_with fail
  refine (within_any g 0 5184000 _).mono ?_
  rintro e w' ⟨rfl, rfl⟩
  rw [hg]
  go_wp2_with fail
  refine (within_any s 0 400 _).mono ?_
  rintro e w' ⟨rfl, rfl⟩
  rw [hs]
  go_wp2_with fail
  go_ret2
  exact ⟨rfl, hbw⟩

theorem event_nok (c0 c1 c2 c3 c4 c5 c6 c7 c8 c9 c10 c11 f g s k : Int) (b : Bool) (w : World) (hch : pchk [c0, c1, c2, c3, c4, c5, c6, c7, c8, c9, c10, c11] = 0) (hf : wi f 0 5184000 = true) (hg : wi g 0 5184000 = true) (hs : wi s 0 400 = true) (hk : wi k 0 5 = false) :
    Calls Tryd.prog 14 #[.agg #[.int .i64 c0, .int .i64 c1, .int .i64 c2, .int .i64 c3, .int .i64 c4, .int .i64 c5, .int .i64 c6, .int .i64 c7, .int .i64 c8, .int .i64 c9, .int .i64 c10, .int .i64 c11], .agg #[.int .i64 f, .int .i64 g, .int .i64 s, .int .i64 k, .bool b]] w fun e w' => e = .returned (.tuple #[.int .i64 0, .int .i64 2]) ∧ Below w.heap.size w w' := by
  have HCH := Lib.hid hch
  clear hch
  go_enter Tryd.func14, Tryd.ntmps14
  go_wp2_with fail
  generalize hw1 : (w.alloc (.cells #[.int .i64 c0, .int .i64 c1, .int .i64 c2, .int .i64 c3, .int .i64 c4, .int .i64 c5, .int .i64 c6, .int .i64 c7, .int .i64 c8, .int .i64 c9, .int .i64 c10, .int .i64 c11] 24)).alloc (.cells #[.int .i64 f, .int .i64 g, .int .i64 s, .int .i64 k, .bool b] 41) = w1
  have hcells : CellsAt w1 w.heap.size 0 [.int .i64 c0, .int .i64 c1, .int .i64 c2, .int .i64 c3, .int .i64 c4, .int .i64 c5, .int .i64 c6, .int .i64 c7, .int .i64 c8, .int .i64 c9, .int .i64 c10, .int .i64 c11] := by
    subst hw1; simp [CellsAt, go_sem]
  have hcellsl : CellsAt w1 (w.heap.size + 1) 0 [.int .i64 f, .int .i64 g, .int .i64 s, .int .i64 k, .bool b] := by
    subst hw1; simp [CellsAt, go_sem]
  have hsz : w.heap.size + 1 < w1.heap.size := by subst hw1; simp
  have hb0 : Below w.heap.size w w1 := by subst hw1; exact ((Below.refl _ _).alloc (Nat.le_refl _) _).alloc (by simp) _
  clear hw1
  refine (check_any c0 c1 c2 c3 c4 c5 c6 c7 c8 c9 c10 c11 _).mono ?_
  rintro e w2 ⟨rfl, hb⟩
  rw [HCH.out]
  have hcells2 := hcells.below hb (by omega)
  have hcells3 := hcellsl.below hb hsz
  have hbw : Below w.heap.size w w2 := hb0.trans (hb.mono (by omega))
  clear hcells hcellsl hb hb0
  simp only [CellsAt, Nat.zero_add, Nat.reduceAdd, and_true] at hcells3
  obtain ⟨r0, r1, r2, r3, r4⟩ := hcells3
  clear hcells2
  go_wp2_with fail
  refine (within_any f 0 5184000 _).mono ?_
  rintro e w' ⟨rfl, rfl⟩
  rw [hf]
  go_wp2_with fail
  refine (within_any g 0 5184000 _).mono ?_
  rintro e w' ⟨rfl, rfl⟩
  rw [hg]
  go_wp2_with fail
  refine (within_any s 0 400 _).mono ?_
  rintro e w' ⟨rfl, rfl⟩
  rw [hs]
  go_wp2_with fail
  refine (within_any k 0 5 _).mono ?_
  rintro e w' ⟨rfl, rfl⟩
  rw [hk]
  go_wp2_with fail
  go_ret2
  exact ⟨rfl, hbw⟩

theorem event_yes_true (c0 c1 c2 c3 c4 c5 c6 c7 c8 c9 c10 c11 f g s : Int) (k : Nat) (hk : k ≤ 5) (w : World) (hch : pchk [c0, c1, c2, c3, c4, c5, c6, c7, c8, c9, c10, c11] = 0) (gf : 0 ≤ f ∧ f ≤ 5184000) (gg : 0 ≤ g ∧ g ≤ 5184000) (gs : 0 ≤ s ∧ s ≤ 400)
    (b0 : ∀ c ∈ ([c0, c1, c2, c3, c4, c5, c6, c7, c8, c9, c10, c11] : List Int), 0 ≤ c ∧ c ≤ 1000000) :
    Calls Tryd.prog 14 #[.agg #[.int .i64 c0, .int .i64 c1, .int .i64 c2, .int .i64 c3, .int .i64 c4, .int .i64 c5, .int .i64 c6, .int .i64 c7, .int .i64 c8, .int .i64 c9, .int .i64 c10, .int .i64 c11], .agg #[.int .i64 f, .int .i64 g, .int .i64 s, .int .i64 k, .bool true]] w fun e w' => e = .returned (.tuple #[.int .i64 (c8 + c9 * f + c10 * g + c11 * s), .int .i64 0]) ∧ Below w.heap.size w w' := by
  have hf : wi f 0 5184000 = true := wi_true gf.1 gf.2
  have hg : wi g 0 5184000 = true := wi_true gg.1 gg.2
  have hs : wi s 0 400 = true := wi_true gs.1 gs.2
  have hkk : wi (k : Int) 0 5 = true := wi_true (by omega) (by omega)
  have b8 := b0 c8 (by simp)
  have b9 := b0 c9 (by simp)
  have b10 := b0 c10 (by simp)
  have b11 := b0 c11 (by simp)
  have m9 : 0 ≤ c9 * f := Int.mul_nonneg b9.1 gf.1
  have n9 : c9 * f ≤ 1000000 * 5184000 := Int.mul_le_mul b9.2 gf.2 gf.1 (by omega)
  have m10 : 0 ≤ c10 * g := Int.mul_nonneg b10.1 gg.1
  have n10 : c10 * g ≤ 1000000 * 5184000 := Int.mul_le_mul b10.2 gg.2 gg.1 (by omega)
  have m11 : 0 ≤ c11 * s := Int.mul_nonneg b11.1 gs.1
  have n11 : c11 * s ≤ 1000000 * 400 := Int.mul_le_mul b11.2 gs.2 gs.1 (by omega)
  have bz : 0 ≤ [c0, c1, c2, c3, c4, c5, c6, c7, c8, c9, c10, c11].getD k 0 ∧ [c0, c1, c2, c3, c4, c5, c6, c7, c8, c9, c10, c11].getD k 0 ≤ 1000000 := b0 _ (by rw [show [c0, c1, c2, c3, c4, c5, c6, c7, c8, c9, c10, c11].getD k 0 = [c0, c1, c2, c3, c4, c5, c6, c7, c8, c9, c10, c11][k]'(by simp; omega) by simp [show k < 12 by omega]]; exact List.getElem_mem _)
  have HB := Lib.hid b0
  clear b0
  have HCH := Lib.hid hch
  clear hch
  go_enter Tryd.func14, Tryd.ntmps14
  go_wp2_with fail
  generalize hw1 : (w.alloc (.cells #[.int .i64 c0, .int .i64 c1, .int .i64 c2, .int .i64 c3, .int .i64 c4, .int .i64 c5, .int .i64 c6, .int .i64 c7, .int .i64 c8, .int .i64 c9, .int .i64 c10, .int .i64 c11] 24)).alloc (.cells #[.int .i64 f, .int .i64 g, .int .i64 s, .int .i64 k, .bool true] 41) = w1
  have hcells : CellsAt w1 w.heap.size 0 [.int .i64 c0, .int .i64 c1, .int .i64 c2, .int .i64 c3, .int .i64 c4, .int .i64 c5, .int .i64 c6, .int .i64 c7, .int .i64 c8, .int .i64 c9, .int .i64 c10, .int .i64 c11] := by
    subst hw1; simp [CellsAt, go_sem]
  have hcellsl : CellsAt w1 (w.heap.size + 1) 0 [.int .i64 f, .int .i64 g, .int .i64 s, .int .i64 k, .bool true] := by
    subst hw1; simp [CellsAt, go_sem]
  have hsz : w.heap.size + 1 < w1.heap.size := by subst hw1; simp
  have hb0 : Below w.heap.size w w1 := by subst hw1; exact ((Below.refl _ _).alloc (Nat.le_refl _) _).alloc (by simp) _
  clear hw1
  refine (check_any c0 c1 c2 c3 c4 c5 c6 c7 c8 c9 c10 c11 _).mono ?_
  rintro e w2 ⟨rfl, hb⟩
  rw [HCH.out]
  have hcells2 := hcells.below hb (by omega)
  have hcells3 := hcellsl.below hb hsz
  have hbw : Below w.heap.size w w2 := hb0.trans (hb.mono (by omega))
  clear hcells hcellsl hb hb0
  simp only [CellsAt, Nat.zero_add, Nat.reduceAdd, and_true] at hcells3
  obtain ⟨r0, r1, r2, r3, r4⟩ := hcells3
  have hk' : w2.cell? ⟨w.heap.size, k, none⟩ = some (.int .i64 ([c0, c1, c2, c3, c4, c5, c6, c7, c8, c9, c10, c11].getD k 0)) := ints_cells (cs := [c0, c1, c2, c3, c4, c5, c6, c7, c8, c9, c10, c11]) hcells2 k (by simp; omega)
  generalize hz : [c0, c1, c2, c3, c4, c5, c6, c7, c8, c9, c10, c11].getD k 0 = z at *
  have HZ := Lib.hid hz
  clear hz
  simp only [CellsAt, Nat.zero_add, Nat.reduceAdd, and_true] at hcells2
  obtain ⟨q0, q1, q2, q3, q4, q5, q6, q7, q8, q9, q10, q11⟩ := hcells2
  clear q0 q1 q2 q3 q4 q5 q6 q7
  go_wp2_with fail
  refine (within_any f 0 5184000 _).mono ?_
  rintro e w' ⟨rfl, rfl⟩
  rw [hf]
  go_wp2_with fail
  refine (within_any g 0 5184000 _).mono ?_
  rintro e w' ⟨rfl, rfl⟩
  rw [hg]
  go_wp2_with fail
  refine (within_any s 0 400 _).mono ?_
  rintro e w' ⟨rfl, rfl⟩
  rw [hs]
  go_wp2_with fail
  refine (within_any (k : Int) 0 5 _).mono ?_
  rintro e w' ⟨rfl, rfl⟩
  rw [hkk]
  go_wp2_with fail
  go_ret2
  exact ⟨rfl, hbw⟩

theorem event_yes_false (c0 c1 c2 c3 c4 c5 c6 c7 c8 c9 c10 c11 f g s : Int) (k : Nat) (hk : k ≤ 5) (w : World) (hch : pchk [c0, c1, c2, c3, c4, c5, c6, c7, c8, c9, c10, c11] = 0) (gf : 0 ≤ f ∧ f ≤ 5184000) (gg : 0 ≤ g ∧ g ≤ 5184000) (gs : 0 ≤ s ∧ s ≤ 400)
    (b0 : ∀ c ∈ ([c0, c1, c2, c3, c4, c5, c6, c7, c8, c9, c10, c11] : List Int), 0 ≤ c ∧ c ≤ 1000000) :
    Calls Tryd.prog 14 #[.agg #[.int .i64 c0, .int .i64 c1, .int .i64 c2, .int .i64 c3, .int .i64 c4, .int .i64 c5, .int .i64 c6, .int .i64 c7, .int .i64 c8, .int .i64 c9, .int .i64 c10, .int .i64 c11], .agg #[.int .i64 f, .int .i64 g, .int .i64 s, .int .i64 k, .bool false]] w fun e w' => e = .returned (.tuple #[.int .i64 (c8 + c9 * f + c10 * g + c11 * s + [c0, c1, c2, c3, c4, c5, c6, c7, c8, c9, c10, c11].getD k 0), .int .i64 0]) ∧ Below w.heap.size w w' := by
  have hf : wi f 0 5184000 = true := wi_true gf.1 gf.2
  have hg : wi g 0 5184000 = true := wi_true gg.1 gg.2
  have hs : wi s 0 400 = true := wi_true gs.1 gs.2
  have hkk : wi (k : Int) 0 5 = true := wi_true (by omega) (by omega)
  have b8 := b0 c8 (by simp)
  have b9 := b0 c9 (by simp)
  have b10 := b0 c10 (by simp)
  have b11 := b0 c11 (by simp)
  have m9 : 0 ≤ c9 * f := Int.mul_nonneg b9.1 gf.1
  have n9 : c9 * f ≤ 1000000 * 5184000 := Int.mul_le_mul b9.2 gf.2 gf.1 (by omega)
  have m10 : 0 ≤ c10 * g := Int.mul_nonneg b10.1 gg.1
  have n10 : c10 * g ≤ 1000000 * 5184000 := Int.mul_le_mul b10.2 gg.2 gg.1 (by omega)
  have m11 : 0 ≤ c11 * s := Int.mul_nonneg b11.1 gs.1
  have n11 : c11 * s ≤ 1000000 * 400 := Int.mul_le_mul b11.2 gs.2 gs.1 (by omega)
  have bz : 0 ≤ [c0, c1, c2, c3, c4, c5, c6, c7, c8, c9, c10, c11].getD k 0 ∧ [c0, c1, c2, c3, c4, c5, c6, c7, c8, c9, c10, c11].getD k 0 ≤ 1000000 := b0 _ (by rw [show [c0, c1, c2, c3, c4, c5, c6, c7, c8, c9, c10, c11].getD k 0 = [c0, c1, c2, c3, c4, c5, c6, c7, c8, c9, c10, c11][k]'(by simp; omega) by simp [show k < 12 by omega]]; exact List.getElem_mem _)
  have HB := Lib.hid b0
  clear b0
  have HCH := Lib.hid hch
  clear hch
  go_enter Tryd.func14, Tryd.ntmps14
  go_wp2_with fail
  generalize hw1 : (w.alloc (.cells #[.int .i64 c0, .int .i64 c1, .int .i64 c2, .int .i64 c3, .int .i64 c4, .int .i64 c5, .int .i64 c6, .int .i64 c7, .int .i64 c8, .int .i64 c9, .int .i64 c10, .int .i64 c11] 24)).alloc (.cells #[.int .i64 f, .int .i64 g, .int .i64 s, .int .i64 k, .bool false] 41) = w1
  have hcells : CellsAt w1 w.heap.size 0 [.int .i64 c0, .int .i64 c1, .int .i64 c2, .int .i64 c3, .int .i64 c4, .int .i64 c5, .int .i64 c6, .int .i64 c7, .int .i64 c8, .int .i64 c9, .int .i64 c10, .int .i64 c11] := by
    subst hw1; simp [CellsAt, go_sem]
  have hcellsl : CellsAt w1 (w.heap.size + 1) 0 [.int .i64 f, .int .i64 g, .int .i64 s, .int .i64 k, .bool false] := by
    subst hw1; simp [CellsAt, go_sem]
  have hsz : w.heap.size + 1 < w1.heap.size := by subst hw1; simp
  have hb0 : Below w.heap.size w w1 := by subst hw1; exact ((Below.refl _ _).alloc (Nat.le_refl _) _).alloc (by simp) _
  clear hw1
  refine (check_any c0 c1 c2 c3 c4 c5 c6 c7 c8 c9 c10 c11 _).mono ?_
  rintro e w2 ⟨rfl, hb⟩
  rw [HCH.out]
  have hcells2 := hcells.below hb (by omega)
  have hcells3 := hcellsl.below hb hsz
  have hbw : Below w.heap.size w w2 := hb0.trans (hb.mono (by omega))
  clear hcells hcellsl hb hb0
  simp only [CellsAt, Nat.zero_add, Nat.reduceAdd, and_true] at hcells3
  obtain ⟨r0, r1, r2, r3, r4⟩ := hcells3
  have hk' : w2.cell? ⟨w.heap.size, k, none⟩ = some (.int .i64 ([c0, c1, c2, c3, c4, c5, c6, c7, c8, c9, c10, c11].getD k 0)) := ints_cells (cs := [c0, c1, c2, c3, c4, c5, c6, c7, c8, c9, c10, c11]) hcells2 k (by simp; omega)
  generalize hz : [c0, c1, c2, c3, c4, c5, c6, c7, c8, c9, c10, c11].getD k 0 = z at *
  have HZ := Lib.hid hz
  clear hz
  simp only [CellsAt, Nat.zero_add, Nat.reduceAdd, and_true] at hcells2
  obtain ⟨q0, q1, q2, q3, q4, q5, q6, q7, q8, q9, q10, q11⟩ := hcells2
  clear q0 q1 q2 q3 q4 q5 q6 q7
  go_wp2_with fail
  refine (within_any f 0 5184000 _).mono ?_
  rintro e w' ⟨rfl, rfl⟩
  rw [hf]
  go_wp2_with fail
  refine (within_any g 0 5184000 _).mono ?_
  rintro e w' ⟨rfl, rfl⟩
  rw [hg]
  go_wp2_with fail
  refine (within_any s 0 400 _).mono ?_
  rintro e w' ⟨rfl, rfl⟩
  rw [hs]
  go_wp2_with fail
  refine (within_any (k : Int) 0 5 _).mono ?_
  rintro e w' ⟨rfl, rfl⟩
  rw [hkk]
  go_wp2_with fail
  go_ret2
  exact ⟨by rw [HZ.out]; rfl, hbw⟩

end Go.Proofs.YtbebnbpdemdocaaDoor
