/-
  The law RatioParses at every input. Its conditions are its hypotheses.
-/
import Derived.Test.YtdccjkbhmpfcmaaDoorRc
namespace Go.Proofs.YtdccjkbhmpfcmaaDoor
open Go.RowKit
set_option linter.unusedVariables false
set_option linter.unusedSimpArgs false
theorem parses_law (s : ByteArray) (w : World) (hw0 : Wd w) :
    Calls Tryd.prog 7 #[.string s] w fun e w' => e = .returned (.bool true) ∧ Below w.heap.size w w' := by
  obtain ⟨B, hB⟩ : ∃ B, B = w.heap.size := ⟨_, rfl⟩
  have HB := Lib.hid hB
  have HW := Lib.hid hw0
  rw [← hB]
  clear hw0
  have FB : Hid (Below B w w) := Lib.hid (Below.refl _ _)
  have fs : B ≤ w.heap.size := by rw [hB]; exact Nat.le_refl _
  clear hB
  go_enter Tryd.func7, Tryd.ntmps7
  go_wp2_with fail
  refine (awake_any _ (HW.out.on (by rw [← HB.out]; exact FB.out))).mono ?_
  rintro e x1 ⟨rfl, hb⟩
  replace FB := Lib.hid (FB.out.trans (hb.mono (by omega)))
  replace fs := Nat.le_trans fs hb.size
  clear hb
  by_cases hs : s.size ≤ 200
  · skip
    go_wp2_with fail
    refine (parse_any s _ (by omega) (HW.out.on (by rw [← HB.out]; exact FB.out))).mono ?_
    rintro e x2 ⟨rfl, hb⟩
    replace FB := Lib.hid (FB.out.trans (hb.mono (by omega)))
    replace fs := Nat.le_trans fs hb.size
    clear hb
    dsimp only [pairE]
    go_wp2_with fail
    obtain ⟨b1, hb1⟩ : ∃ b, b = x2.heap.size := ⟨_, rfl⟩
    rw [← hb1]
    generalize hw : World.alloc _ _ = x3
    have H1 := Lib.hid (show Held x3 b1 [.int .i64 (parseRV s.data.toList).1.1, .int .i64 (parseRV s.data.toList).1.2] by subst hw; exact Held.new hb1)
    replace FB := Lib.hid (show Below B w x3 by subst hw; exact FB.out.alloc (by omega) _)
    replace fs := Nat.le_trans fs (show x2.heap.size ≤ x3.heap.size by subst hw; simp)
    clear hw hb1
    refine (parser_any s _ (by omega)).mono ?_
    rintro e x4 ⟨rfl, hb⟩
    replace H1 := Lib.hid (H1.out.ext hb)
    replace FB := Lib.hid (FB.out.trans (hb.mono (by omega)))
    replace fs := Nat.le_trans fs hb.size
    clear hb
    dsimp only [pairE]
    obtain ⟨c10, c11, _, _⟩ := (H1.out.alloc (.cells #[.int .i64 (parseRV s.data.toList).1.1, .int .i64 (parseRV s.data.toList).1.2] 24 (0, 0))).two
    go_wp2_with fail
    have FB := Lib.hid (FB.out.alloc (by omega) (.cells #[.int .i64 (parseRV s.data.toList).1.1, .int .i64 (parseRV s.data.toList).1.2] 24))
    go_ret
    exact ⟨rfl, FB.out⟩
  · have hs2 : (decide ((200 : Int) < s.size)) = true := by simp; omega
    go_wp2_with fail
    go_ret
    exact ⟨rfl, FB.out⟩
end Go.Proofs.YtdccjkbhmpfcmaaDoor
