/-
  The law RatioMakes at every input. Its conditions are its hypotheses.
-/
import Derived.Test.YtdccjkbhmpfcmaaDoorRc
namespace Go.Proofs.YtdccjkbhmpfcmaaDoor
open Go.RowKit
set_option linter.unusedVariables false
set_option linter.unusedSimpArgs false
theorem makes_law (n d : Int) (w : World) (hw0 : Wd w) (n1 : -9223372036854775808 ≤ n) (n2 : n ≤ 9223372036854775807) (d1 : -9223372036854775808 ≤ d) (d2 : d ≤ 9223372036854775807) :
    Calls Tryd.prog 3 #[.int .i64 n, .int .i64 d] w fun e w' => e = .returned (.bool true) ∧ Below w.heap.size w w' := by
  obtain ⟨B, hB⟩ : ∃ B, B = w.heap.size := ⟨_, rfl⟩
  have HB := Lib.hid hB
  have HW := Lib.hid hw0
  rw [← hB]
  clear hw0
  have FB : Hid (Below B w w) := Lib.hid (Below.refl _ _)
  have fs : B ≤ w.heap.size := by rw [hB]; exact Nat.le_refl _
  clear hB
  go_enter Tryd.func3, Tryd.ntmps3
  go_wp2_with fail
  refine (awake_any _ (HW.out.on (by rw [← HB.out]; exact FB.out))).mono ?_
  rintro e x1 ⟨rfl, hb⟩
  replace FB := Lib.hid (FB.out.trans (hb.mono (by omega)))
  replace fs := Nat.le_trans fs hb.size
  clear hb
  go_wp2_with fail
  refine (make_any n d _ ⟨n1, n2⟩ ⟨d1, d2⟩).mono ?_
  rintro e x2 ⟨rfl, hb⟩
  replace FB := Lib.hid (FB.out.trans (hb.mono (by omega)))
  replace fs := Nat.le_trans fs hb.size
  clear hb
  dsimp only [pairE]
  go_wp2_with fail
  obtain ⟨b1, hb1⟩ : ∃ b, b = x2.heap.size := ⟨_, rfl⟩
  rw [← hb1]
  generalize hw : World.alloc _ _ = x3
  have H1 := Lib.hid (show Held x3 b1 [.int .i64 (makeV n d).1.1, .int .i64 (makeV n d).1.2] by subst hw; exact Held.new hb1)
  replace FB := Lib.hid (show Below B w x3 by subst hw; exact FB.out.alloc (by omega) _)
  replace fs := Nat.le_trans fs (show x2.heap.size ≤ x3.heap.size by subst hw; simp)
  clear hw hb1
  refine (maker_any n d _ ⟨n1, n2⟩ ⟨d1, d2⟩).mono ?_
  rintro e x4 ⟨rfl, hb⟩
  replace H1 := Lib.hid (H1.out.ext hb)
  replace FB := Lib.hid (FB.out.trans (hb.mono (by omega)))
  replace fs := Nat.le_trans fs hb.size
  clear hb
  dsimp only [pairE]
  obtain ⟨c10, c11, _, _⟩ := (H1.out.alloc (.cells #[.int .i64 (makeV n d).1.1, .int .i64 (makeV n d).1.2] 24 (0, 0))).two
  go_wp2_with fail
  obtain ⟨b2, hb2⟩ : ∃ b, b = x4.heap.size := ⟨_, rfl⟩
  rw [← hb2]
  generalize hw : World.alloc _ _ = x5
  replace H1 := Lib.hid (show Held x5 b1 [.int .i64 (makeV n d).1.1, .int .i64 (makeV n d).1.2] by subst hw; exact H1.out.alloc _)
  have H2 := Lib.hid (show Held x5 b2 [.int .i64 (makeV n d).1.1, .int .i64 (makeV n d).1.2] by subst hw; exact Held.new hb2)
  replace FB := Lib.hid (show Below B w x5 by subst hw; exact FB.out.alloc (by omega) _)
  replace fs := Nat.le_trans fs (show x4.heap.size ≤ x5.heap.size by subst hw; simp)
  clear hw hb2
  clear c10 c11
  refine (gcd_any n d _ ⟨n1, n2⟩ ⟨d1, d2⟩).mono ?_
  rintro e x6 ⟨rfl, kk, hw⟩
  have hb : Below x5.heap.size x5 x6 := by rw [hw]; exact below_drewN (Below.refl _ _) kk
  clear hw
  replace H1 := Lib.hid (H1.out.ext hb)
  replace H2 := Lib.hid (H2.out.ext hb)
  replace FB := Lib.hid (FB.out.trans (hb.mono (by omega)))
  replace fs := Nat.le_trans fs hb.size
  clear hb
  go_wp2_with fail
  refine (gcdr_any n d _ ⟨n1, n2⟩ ⟨d1, d2⟩).mono ?_
  rintro e x7 ⟨rfl, kk, hw⟩
  have hb : Below x6.heap.size x6 x7 := by rw [hw]; exact below_drewN (Below.refl _ _) kk
  clear hw
  replace H1 := Lib.hid (H1.out.ext hb)
  replace H2 := Lib.hid (H2.out.ext hb)
  replace FB := Lib.hid (FB.out.trans (hb.mono (by omega)))
  replace fs := Nat.le_trans fs hb.size
  clear hb
  go_wp2_with fail
  refine (valid_any n d _ ⟨n1, n2⟩ ⟨d1, d2⟩).mono ?_
  rintro e x8 ⟨rfl, hb⟩
  replace H1 := Lib.hid (H1.out.ext hb)
  replace H2 := Lib.hid (H2.out.ext hb)
  replace FB := Lib.hid (FB.out.trans (hb.mono (by omega)))
  replace fs := Nat.le_trans fs hb.size
  clear hb
  go_wp2_with fail
  refine (validr_any n d _ ⟨n1, n2⟩ ⟨d1, d2⟩).mono ?_
  rintro e x9 ⟨rfl, hb⟩
  replace H1 := Lib.hid (H1.out.ext hb)
  replace H2 := Lib.hid (H2.out.ext hb)
  replace FB := Lib.hid (FB.out.trans (hb.mono (by omega)))
  replace fs := Nat.le_trans fs hb.size
  clear hb
  go_wp2_with fail
  go_ret
  exact ⟨rfl, FB.out⟩
end Go.Proofs.YtdccjkbhmpfcmaaDoor
