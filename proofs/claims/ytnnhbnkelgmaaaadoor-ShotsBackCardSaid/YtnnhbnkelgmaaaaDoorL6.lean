/-
  The law ShotsTexts, at every list and text: the walk over the contracts. Its conditions are its hypotheses.
-/
import Derived.Test.YtnnhbnkelgmaaaaDoorCa
namespace Go.Proofs.YtnnhbnkelgmaaaaDoor
open Go.RowKit
set_option linter.unusedVariables false
set_option linter.unusedSimpArgs false
theorem text_any (A : Option Addr) (c : Nat) (xs : List Int) (w : World) (h : IntsAt w A xs) (hl : xs.length ≤ 9223372036854775807) (ht : Tab w) :
    Calls Tryd.prog 25 #[.slice A xs.length c] w fun e w' => e = .returned (.tuple #[.string (txt xs), .int .i64 (chkS xs)]) ∧ Below w.heap.size w w' := by
  cases h0 : (chkS xs == 0) with
  | false => exact (text_bad A c xs w h hl h0).mono fun e w' ⟨he, hw⟩ => ⟨he, by subst hw; exact Below.refl _ _⟩
  | true =>
    have h00 : chkS xs = 0 := by simpa using h0
    rw [h00]
    by_cases he : xs.length = 0
    · exact (text_none A c xs w h hl h00 he).mono fun e w' ⟨he, hw⟩ => ⟨he, by subst hw; exact Below.refl _ _⟩
    · exact text_some A c xs w h hl h00 (by omega) ht
theorem textr_any (A : Option Addr) (c : Nat) (xs : List Int) (w : World) (h : IntsAt w A xs) (hl : xs.length ≤ 9223372036854775807) :
    Calls Tryd.prog 26 #[.slice A xs.length c] w fun e w' => e = .returned (.tuple #[.string (txt xs), .int .i64 (chkS xs)]) ∧ Below w.heap.size w w' := by
  cases h0 : (chkS xs == 0) with
  | false => exact (textr_bad A c xs w h hl h0).mono fun e w' ⟨he, hw⟩ => ⟨he, by subst hw; exact Below.refl _ _⟩
  | true =>
    have h00 : chkS xs = 0 := by simpa using h0
    rw [h00]
    by_cases he : xs.length = 0
    · exact (textr_none A c xs w h hl h00 he).mono fun e w' ⟨he, hw⟩ => ⟨he, by subst hw; exact Below.refl _ _⟩
    · exact textr_some A c xs w h hl h00 (by omega)
theorem cut_size (s : ByteArray) (n : Nat) (h : n ≤ s.size) : (s.extract 0 n).size = n := by
  rw [ByteArray.size_extract]; omega
theorem texts_law (A : Option Addr) (c : Nat) (xs : List Int) (s : ByteArray) (w : World) (h : IntsAt w A xs) (hn : xs.length ≤ c) (hc : c ≤ maxLen) (hs : s.size ≤ 9223372036854775807) (ht : Tab w) (hm : Mx w) :
    Calls Tryd.prog 8 #[.slice A xs.length c, .string s] w fun e w' => e = .returned (.bool true) ∧ Below w.heap.size w w' := by
  have H := Lib.hid h
  clear h
  obtain ⟨B, hB⟩ : ∃ B, B = w.heap.size := ⟨_, rfl⟩
  have HB := Lib.hid hB
  have HT := Lib.hid ht
  have HM := Lib.hid hm
  have e200 : (min (s.size : Int) 200).toNat = min s.size 200 := by omega
  rw [← hB]
  clear ht hB hm
  go_enter Tryd.func8, Tryd.ntmps8
  go_wp2_with fail
  refine (awake_any _ HT.out).mono ?_
  rintro e w1 ⟨rfl, hb1⟩
  rw [← HB.out] at hb1
  have HB1 := Lib.hid hb1
  have H1 := Lib.hid ((H.out.below hb1 (by rw [HB.out]; exact Nat.le_refl _)).take 420)
  clear hb1
  go_wp2_with fail
  refine (few_any A c xs.length _ hn hc).mono ?_
  rintro e w' ⟨rfl, rfl⟩
  have hlen : (xs.take 420).length = min xs.length 420 := by rw [List.length_take]; omega
  rw [← hlen]
  generalize xs.take 420 = ys at *
  have hl : ys.length ≤ 9223372036854775807 := by omega
  clear hlen hn hc H
  have TAB1 := Lib.hid (HT.out.on (by rw [← HB.out]; exact HB1.out))
  have MX1 := Lib.hid (HM.out.on (by rw [← HB.out]; exact HB1.out))
  go_wp2_with fail
  refine (text_any A c ys _ H1.out hl TAB1.out).mono ?_
  rintro e w2 ⟨rfl, hb2⟩
  have HB2 := Lib.hid (HB1.out.trans (hb2.mono (by rw [HB.out]; exact HB1.out.size)))
  have H2 := Lib.hid (IntsAt.ext H1.out hb2)
  have MX2 := Lib.hid (MX1.out.on hb2)
  clear hb2 HB1 MX1 TAB1 HT HM H1
  go_wp2_with fail
  refine (textr_any A c ys _ H2.out hl).mono ?_
  rintro e w3 ⟨rfl, hb3⟩
  have HB3 := Lib.hid (HB2.out.trans (hb3.mono (by rw [HB.out]; exact HB2.out.size)))
  have MX3 := Lib.hid (MX2.out.on hb3)
  clear hb3 HB2 MX2 H2
  generalize hq : s.extract 0 (min s.size 200) = q at *
  have hqs : q.size ≤ 200 := by subst hq; rw [cut_size _ _ (by omega)]; omega
  clear hq e200
  go_wp2_with fail
  refine (parse_any q _ (by omega) MX3.out).mono ?_
  rintro e w4 ⟨A4, c4, rfl, hi4, hc4, hm4, hb4⟩
  have HB4 := Lib.hid (HB3.out.trans (hb4.mono (by rw [HB.out]; exact HB3.out.size)))
  have H4 := Lib.hid hi4
  have hl4 : (parseV q.data.toList).1.length ≤ 9223372036854775807 := by simp only [maxLen] at hm4; omega
  clear hb4 hi4 hc4 hm4 HB3 MX3
  go_wp2_with fail
  refine (parser_any q _ (by omega)).mono ?_
  rintro e w5 ⟨A5, c5, rfl, hi5, hc5, hm5, hb5⟩
  have HB5 := Lib.hid (HB4.out.trans (hb5.mono (by rw [HB.out]; exact HB4.out.size)))
  have H5 := Lib.hid (IntsAt.ext H4.out hb5)
  have H6 := Lib.hid hi5
  clear hb5 hi5 hc5 hm5 HB4 H4
  generalize parseV q.data.toList = V at *
  have HS := Lib.hid (same_any A4 A5 c4 c5 V.1 V.1 w5 H5.out H6.out hl4 hl4 rfl)
  go_wp2_with fail
  refine (HS.out).mono ?_
  rintro e w6 ⟨rfl, n, rfl⟩
  go_wp2_with fail
  go_ret
  exact ⟨rfl, below_drewN HB5.out n⟩
end Go.Proofs.YtnnhbnkelgmaaaaDoor
