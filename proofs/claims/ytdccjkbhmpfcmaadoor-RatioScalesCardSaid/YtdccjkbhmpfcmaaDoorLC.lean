/-
  The law RatioScales at every input. Its conditions are its hypotheses.
-/
import Derived.Test.YtdccjkbhmpfcmaaDoorRg
namespace Go.Proofs.YtdccjkbhmpfcmaaDoor
open Go.RowKit
set_option linter.unusedVariables false
set_option linter.unusedSimpArgs false
theorem scales_law (x n d m : Int) (w : World) (hw0 : Wd w) (x1 : -9223372036854775808 ≤ x) (x2 : x ≤ 9223372036854775807) (h1 : I64 n) (h2 : I64 d) :
    Calls Tryd.prog 12 #[.int .i64 x, rat n d, .int .u8 m] w fun e w' => e = .returned (.bool true) ∧ Below w.heap.size w w' := by
  obtain ⟨B, hB⟩ : ∃ B, B = w.heap.size := ⟨_, rfl⟩
  have HB := Lib.hid hB
  have HW := Lib.hid hw0
  rw [← hB]
  clear hw0
  have K0 : Hid (I64 x) := Lib.hid ⟨x1, x2⟩
  have K1 := Lib.hid h1
  have K2 := Lib.hid h2
  clear h1 h2
  go_enter Tryd.func12, Tryd.ntmps12
  go_wp2_with fail
  rw [← hB]
  generalize hw : World.alloc _ _ = x1
  have Ha := Lib.hid (show Held x1 B [.int .i64 n, .int .i64 d] by subst hw; exact Held.new hB)
  have FB := Lib.hid (show Below B w x1 by subst hw; rw [hB]; exact below_one _ _)
  have fs : B + 1 ≤ x1.heap.size := by subst hw; simp [hB]
  clear hw hB
  refine (awake_any _ (HW.out.on (by rw [← HB.out]; exact FB.out))).mono ?_
  rintro e x2 ⟨rfl, hb⟩
  replace Ha := Lib.hid (Ha.out.ext hb)
  replace FB := Lib.hid (FB.out.trans (hb.mono (by omega)))
  replace fs := Nat.le_trans fs hb.size
  clear hb
  obtain ⟨ca0, ca1, _, _⟩ := Ha.out.two
  go_wp2_with fail
  refine (scale_any x n d m _ K0.out K1.out K2.out).mono ?_
  rintro e x3 ⟨rfl, hb⟩
  replace Ha := Lib.hid (Ha.out.ext hb)
  replace FB := Lib.hid (FB.out.trans (hb.mono (by omega)))
  replace fs := Nat.le_trans fs hb.size
  clear hb
  clear ca0 ca1
  dsimp only [numE]
  obtain ⟨ca0, ca1, _, _⟩ := Ha.out.two
  go_wp2_with fail
  refine (scaler_any x n d m _ K0.out K1.out K2.out).mono ?_
  rintro e x4 ⟨rfl, hb⟩
  replace Ha := Lib.hid (Ha.out.ext hb)
  replace FB := Lib.hid (FB.out.trans (hb.mono (by omega)))
  replace fs := Nat.le_trans fs hb.size
  clear hb
  clear ca0 ca1
  dsimp only [numE]
  obtain ⟨ca0, ca1, _, _⟩ := Ha.out.two
  go_wp2_with fail
  refine (round_any n d m _ K1.out K2.out).mono ?_
  rintro e x5 ⟨rfl, hb⟩
  replace Ha := Lib.hid (Ha.out.ext hb)
  replace FB := Lib.hid (FB.out.trans (hb.mono (by omega)))
  replace fs := Nat.le_trans fs hb.size
  clear hb
  clear ca0 ca1
  dsimp only [numE]
  obtain ⟨ca0, ca1, _, _⟩ := Ha.out.two
  go_wp2_with fail
  refine (roundr_any n d m _ K1.out K2.out).mono ?_
  rintro e x6 ⟨rfl, hb⟩
  replace Ha := Lib.hid (Ha.out.ext hb)
  replace FB := Lib.hid (FB.out.trans (hb.mono (by omega)))
  replace fs := Nat.le_trans fs hb.size
  clear hb
  clear ca0 ca1
  dsimp only [numE]
  go_wp2_with fail
  go_ret
  exact ⟨rfl, FB.out⟩
end Go.Proofs.YtdccjkbhmpfcmaaDoor
