/-
  The law RatioProducts at every input. Its conditions are its hypotheses.
-/
import Derived.Test.YtdccjkbhmpfcmaaDoorRd
namespace Go.Proofs.YtdccjkbhmpfcmaaDoor
open Go.RowKit
set_option linter.unusedVariables false
set_option linter.unusedSimpArgs false
theorem products_law (an ad bn bd : Int) (w : World) (hw0 : Wd w) (h1 : I64 an) (h2 : I64 ad) (h3 : I64 bn) (h4 : I64 bd) :
    Calls Tryd.prog 9 #[rat an ad, rat bn bd] w fun e w' => e = .returned (.bool true) ∧ Below w.heap.size w w' := by
  obtain ⟨B, hB⟩ : ∃ B, B = w.heap.size := ⟨_, rfl⟩
  have HB := Lib.hid hB
  have HW := Lib.hid hw0
  rw [← hB]
  clear hw0
  have K1 := Lib.hid h1
  have K2 := Lib.hid h2
  have K3 := Lib.hid h3
  have K4 := Lib.hid h4
  clear h1 h2 h3 h4
  go_enter Tryd.func9, Tryd.ntmps9
  go_wp2_with fail
  rw [← hB]
  generalize hw : World.alloc _ _ = x1
  have Ha := Lib.hid (show Held x1 B [.int .i64 an, .int .i64 ad] by subst hw; exact (Held.new hB).alloc _)
  have Hb := Lib.hid (show Held x1 (B + 1) [.int .i64 bn, .int .i64 bd] by subst hw; exact Held.new (by simp [hB]))
  have FB := Lib.hid (show Below B w x1 by subst hw; rw [hB]; exact (below_one _ _).alloc (by simp) _)
  have fs : B + 2 ≤ x1.heap.size := by subst hw; simp [hB]
  clear hw hB
  refine (awake_any _ (HW.out.on (by rw [← HB.out]; exact FB.out))).mono ?_
  rintro e x2 ⟨rfl, hb⟩
  replace Ha := Lib.hid (Ha.out.ext hb)
  replace Hb := Lib.hid (Hb.out.ext hb)
  replace FB := Lib.hid (FB.out.trans (hb.mono (by omega)))
  replace fs := Nat.le_trans fs hb.size
  clear hb
  obtain ⟨ca0, ca1, _, _⟩ := Ha.out.two
  obtain ⟨cb0, cb1, _, _⟩ := Hb.out.two
  go_wp2_with fail
  refine (mul_any an ad bn bd _ K1.out K2.out K3.out K4.out).mono ?_
  rintro e x3 ⟨rfl, hb⟩
  replace Ha := Lib.hid (Ha.out.ext hb)
  replace Hb := Lib.hid (Hb.out.ext hb)
  replace FB := Lib.hid (FB.out.trans (hb.mono (by omega)))
  replace fs := Nat.le_trans fs hb.size
  clear hb
  clear ca0 ca1 cb0 cb1
  dsimp only [pairE]
  obtain ⟨ca0, ca1, _, _⟩ := (Ha.out.alloc (.cells #[.int .i64 (mulV an ad bn bd).1.1, .int .i64 (mulV an ad bn bd).1.2] 24 (0, 0))).two
  obtain ⟨cb0, cb1, _, _⟩ := (Hb.out.alloc (.cells #[.int .i64 (mulV an ad bn bd).1.1, .int .i64 (mulV an ad bn bd).1.2] 24 (0, 0))).two
  go_wp2_with fail
  obtain ⟨b1, hb1⟩ : ∃ b, b = x3.heap.size := ⟨_, rfl⟩
  rw [← hb1]
  generalize hw : World.alloc _ _ = x4
  replace Ha := Lib.hid (show Held x4 B [.int .i64 an, .int .i64 ad] by subst hw; exact Ha.out.alloc _)
  replace Hb := Lib.hid (show Held x4 (B + 1) [.int .i64 bn, .int .i64 bd] by subst hw; exact Hb.out.alloc _)
  have H1 := Lib.hid (show Held x4 b1 [.int .i64 (mulV an ad bn bd).1.1, .int .i64 (mulV an ad bn bd).1.2] by subst hw; exact Held.new hb1)
  replace FB := Lib.hid (show Below B w x4 by subst hw; exact FB.out.alloc (by omega) _)
  replace fs := Nat.le_trans fs (show x3.heap.size ≤ x4.heap.size by subst hw; simp)
  clear hw hb1
  clear ca0 ca1 cb0 cb1
  refine (mulr_any an ad bn bd _ K1.out K2.out K3.out K4.out).mono ?_
  rintro e x5 ⟨rfl, hb⟩
  replace Ha := Lib.hid (Ha.out.ext hb)
  replace Hb := Lib.hid (Hb.out.ext hb)
  replace H1 := Lib.hid (H1.out.ext hb)
  replace FB := Lib.hid (FB.out.trans (hb.mono (by omega)))
  replace fs := Nat.le_trans fs hb.size
  clear hb
  dsimp only [pairE]
  obtain ⟨ca0, ca1, _, _⟩ := (Ha.out.alloc (.cells #[.int .i64 (mulV an ad bn bd).1.1, .int .i64 (mulV an ad bn bd).1.2] 24 (0, 0))).two
  obtain ⟨cb0, cb1, _, _⟩ := (Hb.out.alloc (.cells #[.int .i64 (mulV an ad bn bd).1.1, .int .i64 (mulV an ad bn bd).1.2] 24 (0, 0))).two
  go_wp2_with fail
  obtain ⟨b2, hb2⟩ : ∃ b, b = x5.heap.size := ⟨_, rfl⟩
  rw [← hb2]
  generalize hw : World.alloc _ _ = x6
  replace Ha := Lib.hid (show Held x6 B [.int .i64 an, .int .i64 ad] by subst hw; exact Ha.out.alloc _)
  replace Hb := Lib.hid (show Held x6 (B + 1) [.int .i64 bn, .int .i64 bd] by subst hw; exact Hb.out.alloc _)
  replace H1 := Lib.hid (show Held x6 b1 [.int .i64 (mulV an ad bn bd).1.1, .int .i64 (mulV an ad bn bd).1.2] by subst hw; exact H1.out.alloc _)
  have H2 := Lib.hid (show Held x6 b2 [.int .i64 (mulV an ad bn bd).1.1, .int .i64 (mulV an ad bn bd).1.2] by subst hw; exact Held.new hb2)
  replace FB := Lib.hid (show Below B w x6 by subst hw; exact FB.out.alloc (by omega) _)
  replace fs := Nat.le_trans fs (show x5.heap.size ≤ x6.heap.size by subst hw; simp)
  clear hw hb2
  clear ca0 ca1 cb0 cb1
  refine (div_any an ad bn bd _ K1.out K2.out K3.out K4.out).mono ?_
  rintro e x7 ⟨rfl, hb⟩
  replace Ha := Lib.hid (Ha.out.ext hb)
  replace Hb := Lib.hid (Hb.out.ext hb)
  replace H1 := Lib.hid (H1.out.ext hb)
  replace H2 := Lib.hid (H2.out.ext hb)
  replace FB := Lib.hid (FB.out.trans (hb.mono (by omega)))
  replace fs := Nat.le_trans fs hb.size
  clear hb
  dsimp only [pairE]
  obtain ⟨ca0, ca1, _, _⟩ := (Ha.out.alloc (.cells #[.int .i64 (divV an ad bn bd).1.1, .int .i64 (divV an ad bn bd).1.2] 24 (0, 0))).two
  obtain ⟨cb0, cb1, _, _⟩ := (Hb.out.alloc (.cells #[.int .i64 (divV an ad bn bd).1.1, .int .i64 (divV an ad bn bd).1.2] 24 (0, 0))).two
  go_wp2_with fail
  obtain ⟨b3, hb3⟩ : ∃ b, b = x7.heap.size := ⟨_, rfl⟩
  rw [← hb3]
  generalize hw : World.alloc _ _ = x8
  replace Ha := Lib.hid (show Held x8 B [.int .i64 an, .int .i64 ad] by subst hw; exact Ha.out.alloc _)
  replace Hb := Lib.hid (show Held x8 (B + 1) [.int .i64 bn, .int .i64 bd] by subst hw; exact Hb.out.alloc _)
  replace H1 := Lib.hid (show Held x8 b1 [.int .i64 (mulV an ad bn bd).1.1, .int .i64 (mulV an ad bn bd).1.2] by subst hw; exact H1.out.alloc _)
  replace H2 := Lib.hid (show Held x8 b2 [.int .i64 (mulV an ad bn bd).1.1, .int .i64 (mulV an ad bn bd).1.2] by subst hw; exact H2.out.alloc _)
  have H3 := Lib.hid (show Held x8 b3 [.int .i64 (divV an ad bn bd).1.1, .int .i64 (divV an ad bn bd).1.2] by subst hw; exact Held.new hb3)
  replace FB := Lib.hid (show Below B w x8 by subst hw; exact FB.out.alloc (by omega) _)
  replace fs := Nat.le_trans fs (show x7.heap.size ≤ x8.heap.size by subst hw; simp)
  clear hw hb3
  clear ca0 ca1 cb0 cb1
  refine (divr_any an ad bn bd _ K1.out K2.out K3.out K4.out).mono ?_
  rintro e x9 ⟨rfl, hb⟩
  replace Ha := Lib.hid (Ha.out.ext hb)
  replace Hb := Lib.hid (Hb.out.ext hb)
  replace H1 := Lib.hid (H1.out.ext hb)
  replace H2 := Lib.hid (H2.out.ext hb)
  replace H3 := Lib.hid (H3.out.ext hb)
  replace FB := Lib.hid (FB.out.trans (hb.mono (by omega)))
  replace fs := Nat.le_trans fs hb.size
  clear hb
  dsimp only [pairE]
  obtain ⟨c10, c11, _, _⟩ := (H1.out.alloc (.cells #[.int .i64 (divV an ad bn bd).1.1, .int .i64 (divV an ad bn bd).1.2] 24 (0, 0))).two
  obtain ⟨c20, c21, _, _⟩ := (H2.out.alloc (.cells #[.int .i64 (divV an ad bn bd).1.1, .int .i64 (divV an ad bn bd).1.2] 24 (0, 0))).two
  obtain ⟨c30, c31, _, _⟩ := (H3.out.alloc (.cells #[.int .i64 (divV an ad bn bd).1.1, .int .i64 (divV an ad bn bd).1.2] 24 (0, 0))).two
  go_wp2_with fail
  have FB := Lib.hid (FB.out.alloc (by omega) (.cells #[.int .i64 (divV an ad bn bd).1.1, .int .i64 (divV an ad bn bd).1.2] 24))
  go_ret
  exact ⟨rfl, FB.out⟩
end Go.Proofs.YtdccjkbhmpfcmaaDoor
