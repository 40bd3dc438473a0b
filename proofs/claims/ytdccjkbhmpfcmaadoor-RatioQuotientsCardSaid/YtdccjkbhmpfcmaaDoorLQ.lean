/-
  The law RatioQuotients at every input. Its conditions are its hypotheses.
-/
import Derived.Test.YtdccjkbhmpfcmaaDoorRc
namespace Go.Proofs.YtdccjkbhmpfcmaaDoor
open Go.RowKit
set_option linter.unusedVariables false
set_option linter.unusedSimpArgs false
theorem quotients_law (n d m : Int) (w : World) (hw0 : Wd w) (n1 : -9223372036854775808 ≤ n) (n2 : n ≤ 9223372036854775807) (d1 : -9223372036854775808 ≤ d) (d2 : d ≤ 9223372036854775807) :
    Calls Tryd.prog 4 #[.int .i64 n, .int .i64 d, .int .u8 m] w fun e w' => e = .returned (.bool true) ∧ Below w.heap.size w w' := by
  obtain ⟨B, hB⟩ : ∃ B, B = w.heap.size := ⟨_, rfl⟩
  have HB := Lib.hid hB
  have HW := Lib.hid hw0
  rw [← hB]
  clear hw0
  have FB : Hid (Below B w w) := Lib.hid (Below.refl _ _)
  have fs : B ≤ w.heap.size := by rw [hB]; exact Nat.le_refl _
  clear hB
  go_enter Tryd.func4, Tryd.ntmps4
  go_wp2_with fail
  refine (awake_any _ (HW.out.on (by rw [← HB.out]; exact FB.out))).mono ?_
  rintro e x1 ⟨rfl, hb⟩
  replace FB := Lib.hid (FB.out.trans (hb.mono (by omega)))
  replace fs := Nat.le_trans fs hb.size
  clear hb
  go_wp2_with fail
  refine (quotient_any n d m _ n1 n2 d1 d2).mono ?_
  rintro e x2 ⟨rfl, kk, hw⟩
  have hb : Below x1.heap.size x1 x2 := by rw [hw]; exact below_drewN (Below.refl _ _) kk
  clear hw
  replace FB := Lib.hid (FB.out.trans (hb.mono (by omega)))
  replace fs := Nat.le_trans fs hb.size
  clear hb
  go_wp2_with fail
  refine (quotientr_any n d m _ n1 n2 d1 d2).mono ?_
  rintro e x3 ⟨rfl, kk, hw⟩
  have hb : Below x2.heap.size x2 x3 := by rw [hw]; exact below_drewN (Below.refl _ _) kk
  clear hw
  replace FB := Lib.hid (FB.out.trans (hb.mono (by omega)))
  replace fs := Nat.le_trans fs hb.size
  clear hb
  go_wp2_with fail
  go_ret
  exact ⟨rfl, FB.out⟩
end Go.Proofs.YtdccjkbhmpfcmaaDoor
