/-
  The law ShotsChecks, at every list and frame: the walk over the contracts. Its conditions are its hypotheses.
-/
import Derived.Test.YtnnhbnkelgmaaaaDoorC5
namespace Go.Proofs.YtnnhbnkelgmaaaaDoor
open Go.RowKit
set_option linter.unusedVariables false
set_option linter.unusedSimpArgs false
theorem quiet_same {P : Program} {f : FuncId} {args : Array Value} {w : World} {n : Nat} {v : Value}
    (h : Calls P f args (w.drewN n) fun e w' => e = .returned v ∧ w.drewN n = w') : Calls P f args (w.drewN n) fun e w'' => e = .returned v ∧ ∃ m, w'' = w.drewN m :=
  h.mono fun _ _ ⟨he, hm⟩ => ⟨he, n, hm.symm⟩

theorem checks_law (A : Option Addr) (c : Nat) (xs : List Int) (f : Int) (w : World) (h : IntsAt w A xs) (hn : xs.length ≤ c) (hc : c ≤ maxLen) (lo : -9223372036854775808 ≤ f) (hi : f ≤ 9223372036854775807) (ht : Tab w) :
    Calls Tryd.prog 3 #[.slice A xs.length c, .int .i64 f] w fun e w' => e = .returned (.bool true) ∧ Below w.heap.size w w' := by
  have H := Lib.hid h
  clear h
  obtain ⟨B, hB⟩ : ∃ B, B = w.heap.size := ⟨_, rfl⟩
  have HB := Lib.hid hB
  have HT := Lib.hid ht
  rw [← hB]
  clear ht hB
  go_enter Tryd.func3, Tryd.ntmps3
  go_wp2_with fail
  refine (awake_any _ HT.out).mono ?_
  rintro e w1 ⟨rfl, hb1⟩
  rw [← HB.out] at hb1
  have HB1 := Lib.hid hb1
  have H1 := Lib.hid ((H.out.below hb1 (by rw [HB.out]; exact Nat.le_refl _)).take 420)
  clear hb1
  go_wp2_with fail
  refine (few_any A c xs.length _ hn hc).mono ?_
  rintro e w' ⟨rfl, rfl⟩
  have hlen : (xs.take 420).length = min xs.length 420 := by rw [List.length_take]; omega
  rw [← hlen]
  generalize xs.take 420 = ys at *
  have hl : ys.length ≤ 9223372036854775807 := by omega
  clear hlen hn hc H HT
  go_wp2_with fail

  cases h0 : (chkS ys == 0) with
  | false =>
    refine (near_bad A c ys f _ H1.out hl h0).mono ?_
    rintro e w' ⟨rfl, rfl⟩
    go_wp2_with fail
    refine (nearr_bad A c ys f _ H1.out hl h0).mono ?_
    rintro e w' ⟨rfl, rfl⟩
    go_wp2_with fail
    refine (check_any A c ys _ H1.out hl).mono ?_
    rintro e w' ⟨rfl, rfl⟩
    go_wp2_with fail
    refine (checkr_any A c ys _ H1.out hl).mono ?_
    rintro e w' ⟨rfl, rfl⟩
    go_wp2_with fail
    go_ret
    exact ⟨rfl, HB1.out⟩

  | true =>
    have h00 : chkS ys = 0 := by simpa using h0
    have H0 := Lib.hid h00
    clear h0 h00
    by_cases hb : ys.length = 0 ∨ fr f = false
    · have HBD := Lib.hid hb
      clear hb
      refine (near_no A c ys f _ H1.out hl H0.out HBD.out).mono ?_
      rintro e w' ⟨rfl, rfl⟩
      go_wp2_with fail
      refine (nearr_no A c ys f _ H1.out hl H0.out HBD.out).mono ?_
      rintro e w' ⟨rfl, rfl⟩
      go_wp2_with fail
      refine (check_any A c ys _ H1.out hl).mono ?_
      rintro e w' ⟨rfl, rfl⟩
      go_wp2_with fail
      refine (checkr_any A c ys _ H1.out hl).mono ?_
      rintro e w' ⟨rfl, rfl⟩
      go_wp2_with fail
      go_ret
      exact ⟨rfl, HB1.out⟩

    · have hf : fr f = true := by cases hh : fr f with
        | true => rfl
        | false => exact absurd (.inr hh) hb
      have he : 0 < ys.length := by rcases Nat.eq_zero_or_pos ys.length with hh | hh; exact absurd (.inl hh) hb; exact hh
      clear hb
      have HF := Lib.hid hf
      clear hf
      refine (near_yes A c ys f _ H1.out hl H0.out he HF.out).mono ?_
      rintro e w' ⟨rfl, rfl⟩
      go_wp2_with fail
      refine (nearr_yes A c ys f _ H1.out hl H0.out he HF.out).mono ?_
      rintro e w' ⟨rfl, rfl⟩
      go_wp2_with fail
      refine (check_any A c ys _ H1.out hl).mono ?_
      rintro e w' ⟨rfl, rfl⟩
      go_wp2_with fail
      refine (checkr_any A c ys _ H1.out hl).mono ?_
      rintro e w' ⟨rfl, rfl⟩
      go_wp2_with fail
      go_ret
      exact ⟨rfl, HB1.out⟩

end Go.Proofs.YtnnhbnkelgmaaaaDoor
