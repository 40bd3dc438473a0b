/-
  The law RatioTexts at every input. Its conditions are its hypotheses.
-/
import Derived.Test.YtdccjkbhmpfcmaaDoorRc
namespace Go.Proofs.YtdccjkbhmpfcmaaDoor
open Go.RowKit
set_option linter.unusedVariables false
set_option linter.unusedSimpArgs false
theorem texts_law (n d : Int) (w : World) (hw0 : Wd w) (h1 : I64 n) (h2 : I64 d) :
    Calls Tryd.prog 6 #[rat n d] w fun e w' => e = .returned (.bool true) ∧ Below w.heap.size w w' := by
  obtain ⟨B, hB⟩ : ∃ B, B = w.heap.size := ⟨_, rfl⟩
  have HB := Lib.hid hB
  have HW := Lib.hid hw0
  rw [← hB]
  clear hw0
  have K1 := Lib.hid h1
  have K2 := Lib.hid h2
  clear h1 h2
  go_enter Tryd.func6, Tryd.ntmps6
  go_wp2_with fail
  rw [← hB]
  generalize hw : World.alloc _ _ = x1
  have Ha := Lib.hid (show Held x1 B [.int .i64 n, .int .i64 d] by subst hw; exact Held.new hB)
  have FB := Lib.hid (show Below B w x1 by subst hw; rw [hB]; exact below_one _ _)
  have fs : B + 1 ≤ x1.heap.size := by subst hw; simp [hB]
  clear hw hB
  refine (awake_any _ (HW.out.on (by rw [← HB.out]; exact FB.out))).mono ?_
  rintro e x2 ⟨rfl, hb⟩
  replace Ha := Lib.hid (Ha.out.ext hb)
  replace FB := Lib.hid (FB.out.trans (hb.mono (by omega)))
  replace fs := Nat.le_trans fs hb.size
  clear hb
  obtain ⟨ca0, ca1, _, _⟩ := Ha.out.two
  go_wp2_with fail
  refine (text_any n d _ K1.out K2.out (HW.out.on (by rw [← HB.out]; exact FB.out)).tab).mono ?_
  rintro e x3 ⟨rfl, hb⟩
  replace Ha := Lib.hid (Ha.out.ext hb)
  replace FB := Lib.hid (FB.out.trans (hb.mono (by omega)))
  replace fs := Nat.le_trans fs hb.size
  clear hb
  clear ca0 ca1
  obtain ⟨ca0, ca1, _, _⟩ := Ha.out.two
  go_wp2_with fail
  refine (textr_any n d _ K1.out K2.out).mono ?_
  rintro e x4 ⟨rfl, hb⟩
  replace Ha := Lib.hid (Ha.out.ext hb)
  replace FB := Lib.hid (FB.out.trans (hb.mono (by omega)))
  replace fs := Nat.le_trans fs hb.size
  clear hb
  clear ca0 ca1
  obtain ⟨ca0, ca1, _, _⟩ := Ha.out.two
  have hz := textB_size n d
  go_wp2_with fail
  refine (parse_any (textB n d) _ (by omega) (HW.out.on (by rw [← HB.out]; exact FB.out))).mono ?_
  rintro e x5 ⟨rfl, hb⟩
  replace Ha := Lib.hid (Ha.out.ext hb)
  replace FB := Lib.hid (FB.out.trans (hb.mono (by omega)))
  replace fs := Nat.le_trans fs hb.size
  clear hb
  clear ca0 ca1
  cases hv : validV n d with
  | true =>
    have hne : textL n d ≠ [] := by rw [textL_valid hv]; simp
    have hie : (textB n d).toList.isEmpty = false := by
      rw [Lib.toList_data, textB]
      cases ht : textL n d with
      | nil => exact absurd ht hne
      | cons _ _ => rfl
    rw [show parseRV (textB n d).data.toList = ((n, d), 0) from parse_hit rfl hne]
    dsimp only [pairE]
    clear hne hv
    obtain ⟨ca0, ca1, _, _⟩ := (Ha.out.alloc (.cells #[.int .i64 n, .int .i64 d] 24 (0, 0))).two
    go_wp2_with fail
    have FB := Lib.hid (FB.out.alloc (by omega) (.cells #[.int .i64 n, .int .i64 d] 24))
    go_ret
    exact ⟨rfl, FB.out⟩
  | false =>
    rw [textB_bad hv, show parseRV (⟨#[]⟩ : ByteArray).data.toList = ((0, 0), 4) from rfl]
    dsimp only [pairE]
    obtain ⟨ca0, ca1, _, _⟩ := (Ha.out.alloc (.cells #[.int .i64 0, .int .i64 0] 24 (0, 0))).two
    go_wp2_with fail
    have FB := Lib.hid (FB.out.alloc (by omega) (.cells #[.int .i64 0, .int .i64 0] 24))
    go_ret
    exact ⟨rfl, FB.out⟩
end Go.Proofs.YtdccjkbhmpfcmaaDoor
