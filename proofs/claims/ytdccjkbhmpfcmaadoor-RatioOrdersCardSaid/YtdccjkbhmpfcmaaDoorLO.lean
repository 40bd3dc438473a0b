/-
  The law RatioOrders at every input. Its conditions are its hypotheses.
-/
import Derived.Test.YtdccjkbhmpfcmaaDoorRd
namespace Go.Proofs.YtdccjkbhmpfcmaaDoor
open Go.RowKit
set_option linter.unusedVariables false
set_option linter.unusedSimpArgs false
theorem orders_law (an ad bn bd : Int) (w : World) (hw0 : Wd w) (h1 : I64 an) (h2 : I64 ad) (h3 : I64 bn) (h4 : I64 bd) :
    Calls Tryd.prog 11 #[rat an ad, rat bn bd] w fun e w' => e = .returned (.bool true) ∧ Below w.heap.size w w' := by
  obtain ⟨B, hB⟩ : ∃ B, B = w.heap.size := ⟨_, rfl⟩
  have HB := Lib.hid hB
  have HW := Lib.hid hw0
  rw [← hB]
  clear hw0
  have K1 := Lib.hid h1
  have K2 := Lib.hid h2
  have K3 := Lib.hid h3
  have K4 := Lib.hid h4
  clear h1 h2 h3 h4
  obtain ⟨C, hC⟩ : ∃ C, C = cmpV an ad bn bd := ⟨_, rfl⟩
  have cb := cmpV_bd an ad bn bd
  have C1 := Lib.hid (fun w => cmp_any an ad bn bd w K1.out K2.out K3.out K4.out)
  have C2 := Lib.hid (fun w => cmpr_any an ad bn bd w K1.out K2.out K3.out K4.out)
  have C3 := Lib.hid (fun w => cmp_any bn bd an ad w K3.out K4.out K1.out K2.out)
  rw [← hC] at C1 C2 cb
  rw [cmpV_turn, ← hC] at C3
  obtain ⟨cb1, cb2⟩ := cb
  clear hC
  go_enter Tryd.func11, Tryd.ntmps11
  go_wp2_with fail
  rw [← hB]
  generalize hw : World.alloc _ _ = x1
  have Ha := Lib.hid (show Held x1 B [.int .i64 an, .int .i64 ad] by subst hw; exact (Held.new hB).alloc _)
  have Hb := Lib.hid (show Held x1 (B + 1) [.int .i64 bn, .int .i64 bd] by subst hw; exact Held.new (by simp [hB]))
  have FB := Lib.hid (show Below B w x1 by subst hw; rw [hB]; exact (below_one _ _).alloc (by simp) _)
  have fs : B + 2 ≤ x1.heap.size := by subst hw; simp [hB]
  clear hw hB
  obtain ⟨ca0, ca1, _, _⟩ := Ha.out.two
  obtain ⟨cb0, cb1, _, _⟩ := Hb.out.two
  have fb := FB.out
  have hwr : IntKind.i64.wrap (-C) = -C := by go_arith
  go_region_held3 (fun w' => w'.cell? ⟨B, 0, none⟩ = some (.int .i64 an) ∧ w'.cell? ⟨B, 1, none⟩ = some (.int .i64 ad) ∧ w'.cell? ⟨B + 1, 0, none⟩ = some (.int .i64 bn) ∧ w'.cell? ⟨B + 1, 1, none⟩ = some (.int .i64 bd) ∧ Below B w w' ∧ B + 2 ≤ w'.heap.size)
    ((refine ⟨?_, ?_, ?_, ?_, ?_, ?_⟩ <;> first
      | assumption
      | exact Below.drew ‹_›
      | exact (hb.cell (Nat.lt_of_lt_of_le (show B < B + 2 by omega) hks)).trans hk0
      | exact (hb.cell (Nat.lt_of_lt_of_le (show B < B + 2 by omega) hks)).trans hk1
      | exact (hb.cell (Nat.lt_of_lt_of_le (show B + 1 < B + 2 by omega) hks)).trans hk2
      | exact (hb.cell (Nat.lt_of_lt_of_le (show B + 1 < B + 2 by omega) hks)).trans hk3
      | exact hkb.trans (hb.mono (Nat.le_trans (by omega) hks))
      | exact Nat.le_trans hks hb.size))
    (first
      | (go_at_call 13; obtain ⟨hk0, hk1, hk2, hk3, hkb, hks⟩ := ‹_ ∧ _ ∧ _ ∧ _ ∧ Below B w _ ∧ _›; refine (awake_any _ (HW.out.on (by rw [← HB.out]; exact hkb))).mono ?_; rintro e w' ⟨rfl, hb⟩)
      | (go_at_call 35; obtain ⟨hk0, hk1, hk2, hk3, hkb, hks⟩ := ‹_ ∧ _ ∧ _ ∧ _ ∧ Below B w _ ∧ _›; refine (C2.out _).mono ?_; rintro e w' ⟨rfl, hb⟩)
      | (go_at_call 34; obtain ⟨hk0, hk1, hk2, hk3, hkb, hks⟩ := ‹_ ∧ _ ∧ _ ∧ _ ∧ Below B w _ ∧ _›; with_reducible refine (C1.out _).mono ?_; rintro e w' ⟨rfl, hb⟩)
      | (go_at_call 34; obtain ⟨hk0, hk1, hk2, hk3, hkb, hks⟩ := ‹_ ∧ _ ∧ _ ∧ _ ∧ Below B w _ ∧ _›; with_reducible refine (C3.out _).mono ?_; rintro e w' ⟨rfl, hb⟩))
  all_goals
    obtain ⟨_, _, _, _, hkb, _⟩ := ‹_ ∧ _ ∧ _ ∧ _ ∧ Below B w _ ∧ _›
    have HKB := Lib.hid hkb
    clear hkb
    go_wp2_with fail
    go_ret
    exact ⟨by simp [hwr], HKB.out⟩
end Go.Proofs.YtdccjkbhmpfcmaaDoor
