/-
  The contract of awake. Its conditions are its hypotheses.
-/
import Derived.Test.YtdccjkbhmpfcmaaDoorRb
import Derived.Test.YtdccjkbhmpfcmaaDoorR5
namespace Go.Proofs.YtdccjkbhmpfcmaaDoor
open Go.RowKit
set_option linter.unusedVariables false
set_option linter.unusedSimpArgs false
theorem awake_any (w : World) (hw0 : Wd w) :
    Calls Tryd.prog 13 #[] w fun e w' => e = .returned (.bool true) ∧ Below w.heap.size w w' := by
  obtain ⟨B, hB⟩ : ∃ B, B = w.heap.size := ⟨_, rfl⟩
  have HB := Lib.hid hB
  have HW := Lib.hid hw0
  rw [← hB]
  clear hw0
  have FB : Hid (Below B w w) := Lib.hid (Below.refl _ _)
  have fs : B ≤ w.heap.size := by rw [hB]; exact Nat.le_refl _
  clear hB
  go_enter Tryd.func13, Tryd.ntmps13
  go_wp2_with fail
  refine (make_any 60000 2002 _ (by decide) (by decide)).mono ?_
  rintro e x1 ⟨rfl, hb⟩
  replace FB := Lib.hid (FB.out.trans (hb.mono (by omega)))
  replace fs := Nat.le_trans fs hb.size
  clear hb
  rw [show makeV 60000 2002 = ((30000, 1001), 0) by kernel_rfl]
  dsimp only [pairE]
  go_wp2_with fail
  obtain ⟨b1, hb1⟩ : ∃ b, b = x1.heap.size := ⟨_, rfl⟩
  rw [← hb1]
  generalize hw : World.alloc _ _ = x2
  have H1 := Lib.hid (show Held x2 b1 [.int .i64 30000, .int .i64 1001] by subst hw; exact Held.new hb1)
  replace FB := Lib.hid (show Below B w x2 by subst hw; exact FB.out.alloc (by omega) _)
  replace fs := Nat.le_trans fs (show x1.heap.size ≤ x2.heap.size by subst hw; simp)
  clear hw hb1
  refine (quotient_any (-7) 2 2 _ (by decide) (by decide) (by decide) (by decide)).mono ?_
  rintro e x3 ⟨rfl, kk, hw⟩
  have hb : Below x2.heap.size x2 x3 := by rw [hw]; exact below_drewN (Below.refl _ _) kk
  clear hw
  replace H1 := Lib.hid (H1.out.ext hb)
  replace FB := Lib.hid (FB.out.trans (hb.mono (by omega)))
  replace fs := Nat.le_trans fs hb.size
  clear hb
  rw [show quotV (-7) 2 2 = (-3, 0) by decide]
  dsimp only [numE]
  go_wp2_with fail
  refine (parse_any ⟨#[51, 48, 48, 48, 48, 47, 49, 48, 48, 49]⟩ _ (by decide) (HW.out.on (by rw [← HB.out]; exact FB.out))).mono ?_
  rintro e x4 ⟨rfl, hb⟩
  replace H1 := Lib.hid (H1.out.ext hb)
  replace FB := Lib.hid (FB.out.trans (hb.mono (by omega)))
  replace fs := Nat.le_trans fs hb.size
  clear hb
  rw [show parseRV (⟨#[51, 48, 48, 48, 48, 47, 49, 48, 48, 49]⟩ : ByteArray).data.toList = ((30000, 1001), 0) by kernel_rfl]
  dsimp only [pairE]
  obtain ⟨c10, c11, _, _⟩ := (H1.out.alloc (.cells #[.int .i64 30000, .int .i64 1001] 24 (0, 0))).two
  go_wp2_with fail
  obtain ⟨b2, hb2⟩ : ∃ b, b = x4.heap.size := ⟨_, rfl⟩
  rw [← hb2]
  generalize hw : World.alloc _ _ = x5
  replace H1 := Lib.hid (show Held x5 b1 [.int .i64 30000, .int .i64 1001] by subst hw; exact H1.out.alloc _)
  have H2 := Lib.hid (show Held x5 b2 [.int .i64 30000, .int .i64 1001] by subst hw; exact Held.new hb2)
  replace FB := Lib.hid (show Below B w x5 by subst hw; exact FB.out.alloc (by omega) _)
  replace fs := Nat.le_trans fs (show x4.heap.size ≤ x5.heap.size by subst hw; simp)
  clear hw hb2
  clear c10 c11
  refine (valid_any 30000 1001 _ (by decide) (by decide)).mono ?_
  rintro e x6 ⟨rfl, hb⟩
  replace H1 := Lib.hid (H1.out.ext hb)
  replace H2 := Lib.hid (H2.out.ext hb)
  replace FB := Lib.hid (FB.out.trans (hb.mono (by omega)))
  replace fs := Nat.le_trans fs hb.size
  clear hb
  rw [show validV 30000 1001 = true by kernel_rfl]
  obtain ⟨c10, c11, _, _⟩ := H1.out.two
  obtain ⟨c20, c21, _, _⟩ := H2.out.two
  go_wp2_with fail
  refine (text_any 30000 1001 _ ⟨by decide, by decide⟩ ⟨by decide, by decide⟩ (HW.out.on (by rw [← HB.out]; exact FB.out)).tab).mono ?_
  rintro e x7 ⟨rfl, hb⟩
  replace H1 := Lib.hid (H1.out.ext hb)
  replace H2 := Lib.hid (H2.out.ext hb)
  replace FB := Lib.hid (FB.out.trans (hb.mono (by omega)))
  replace fs := Nat.le_trans fs hb.size
  clear hb
  clear c10 c11 c20 c21
  rw [show textB 30000 1001 = ⟨#[51, 48, 48, 48, 48, 47, 49, 48, 48, 49]⟩ by kernel_rfl]
  go_wp2_with fail
  go_ret
  exact ⟨rfl, FB.out⟩
end Go.Proofs.YtdccjkbhmpfcmaaDoor
