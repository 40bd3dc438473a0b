/-
  The law ShotsBack, at every list and text: the walk over the contracts. Its conditions are its hypotheses.
-/
import Derived.Test.YtnnhbnkelgmaaaaDoorL6
namespace Go.Proofs.YtnnhbnkelgmaaaaDoor
open Go.RowKit
set_option linter.unusedVariables false
set_option linter.unusedSimpArgs false
theorem txt_size {xs : List Int} (h : chkS xs = 0) : (txt xs).size ≤ 9000 := by
  by_cases h0 : xs.length = 0
  · rw [txt_none h h0]; decide
  · have := joinB_size h xs.length
    rw [joinB_all, ← txt_some h (by omega)] at this
    omega
theorem parse_bad {s : List UInt8} (h : (parseV s).2 ≠ 0) : (parseV s).1 = [] := by
  unfold parseV at h ⊢
  split
  · rfl
  · split
    · rfl
    · rename_i hd _ l hl
      rw [if_neg hd, hl] at h
      simp only at h
      split
      · rename_i h0; rw [if_pos h0] at h; exact absurd rfl h
      · rfl
theorem back_law (A : Option Addr) (c : Nat) (xs : List Int) (s : ByteArray) (w : World) (h : IntsAt w A xs) (hn : xs.length ≤ c) (hc : c ≤ maxLen) (hs : s.size ≤ 9223372036854775807) (ht : Tab w) (hm : Mx w) :
    Calls Tryd.prog 9 #[.slice A xs.length c, .string s] w fun e w' => e = .returned (.bool true) ∧ Below w.heap.size w w' := by
  have H := Lib.hid h
  clear h
  obtain ⟨B, hB⟩ : ∃ B, B = w.heap.size := ⟨_, rfl⟩
  have HB := Lib.hid hB
  have HT := Lib.hid ht
  have HM := Lib.hid hm
  have e200 : (min (s.size : Int) 200).toNat = min s.size 200 := by omega
  rw [← hB]
  clear ht hB hm
  go_enter Tryd.func9, Tryd.ntmps9
  go_wp2_with fail
  refine (awake_any _ HT.out).mono ?_
  rintro e w1 ⟨rfl, hb1⟩
  rw [← HB.out] at hb1
  have HB1 := Lib.hid hb1
  have H1 := Lib.hid ((H.out.below hb1 (by rw [HB.out]; exact Nat.le_refl _)).take 420)
  clear hb1
  go_wp2_with fail
  refine (few_any A c xs.length _ hn hc).mono ?_
  rintro e w' ⟨rfl, rfl⟩
  have hlen : (xs.take 420).length = min xs.length 420 := by rw [List.length_take]; omega
  rw [← hlen]
  generalize xs.take 420 = ys at *
  have hl : ys.length ≤ 9223372036854775807 := by omega
  clear hlen hn hc H
  have TAB1 := Lib.hid (HT.out.on (by rw [← HB.out]; exact HB1.out))
  have MX1 := Lib.hid (HM.out.on (by rw [← HB.out]; exact HB1.out))
  go_wp2_with fail
  refine (text_any A c ys _ H1.out hl TAB1.out).mono ?_
  rintro e w2 ⟨rfl, hb2⟩
  have HB2 := Lib.hid (HB1.out.trans (hb2.mono (by rw [HB.out]; exact HB1.out.size)))
  have H2 := Lib.hid (IntsAt.ext H1.out hb2)
  have MX2 := Lib.hid (MX1.out.on hb2)
  have TAB2 := Lib.hid (TAB1.out.on hb2)
  clear hb2 HB1 MX1 TAB1 HT HM H1
  cases h0 : (chkS ys == 0) with
  | false =>
    go_wp2_with fail
    generalize hq : s.extract 0 (min s.size 200) = q at *
    have hqs : q.size ≤ 200 := by subst hq; rw [cut_size _ _ (by omega)]; omega
    refine (parse_any q _ (by omega) MX2.out).mono ?_
    rintro e w5 ⟨A5, c5, rfl, hi5, hc5, hm5, hb5⟩
    have HB5 := Lib.hid (HB2.out.trans (hb5.mono (by rw [HB.out]; exact HB2.out.size)))
    have TAB5 := Lib.hid (TAB2.out.on hb5)
    have H5 := Lib.hid hi5
    have hl5 : (parseV q.data.toList).1.length ≤ 9223372036854775807 := by simp only [maxLen] at hm5; omega
    clear hb5 hi5 hc5 hm5 HB2 TAB2 MX2
    by_cases hp : (parseV q.data.toList).2 = 0
    · obtain ⟨hc0, ht0⟩ := txt_parse hp
      rw [hp]
      have HX := Lib.hid (text_any A5 c5 _ _ H5.out hl5 TAB5.out)
      rw [hc0, ht0] at HX
      generalize (parseV q.data.toList).1 = V at *
      clear hp hc0 ht0 TAB5 H5
      go_wp2_with fail
      refine (HX.out).mono ?_
      rintro e w6 ⟨rfl, hb6⟩
      have HB6 := Lib.hid (HB5.out.trans (hb6.mono (by rw [HB.out]; exact HB5.out.size)))
      clear hb6
      go_wp2_with fail
      go_ret
      exact ⟨rfl, HB6.out⟩
    · have hp' : ((parseV q.data.toList).2 != 0) = true := by simpa using hp
      have hv := parse_bad hp
      rw [hv]
      generalize (parseV q.data.toList).2 = V at *
      clear hp hv
      go_wp2_with fail
      go_ret
      exact ⟨rfl, HB5.out⟩
  | true =>
    have h00 : chkS ys = 0 := by simpa using h0
    have HTS := Lib.hid (txt_size h00)
    have HPT := Lib.hid (parse_txt h00)
    rw [h00]
    clear h0 h00
    go_wp2_with fail
    have hsz := HTS.out
    refine (parse_any (txt ys) _ hsz MX2.out).mono ?_
    rintro e w4 ⟨A4, c4, rfl, hi4, hc4, hm4, hb4⟩
    rw [HPT.out] at hi4 hc4 ⊢
    have HB4 := Lib.hid (HB2.out.trans (hb4.mono (by rw [HB.out]; exact HB2.out.size)))
    have H4 := Lib.hid hi4
    have H5 := Lib.hid (IntsAt.ext H2.out hb4)
    have MX4 := Lib.hid (MX2.out.on hb4)
    have TAB4 := Lib.hid (TAB2.out.on hb4)
    clear hb4 hi4 hc4 hm4 HB2 MX2 TAB2 H2
    have HS := Lib.hid (same_any A4 A c4 c ys ys w4 H4.out H5.out hl hl rfl)
    go_wp2_with fail
    refine (HS.out).mono ?_
    rintro e w6 ⟨rfl, n, rfl⟩
    have HB2 := Lib.hid (below_drewN HB4.out n)
    have MX2 : Hid (Mx (w4.drewN n)) := Lib.hid (MX4.out.on (below_drewN (Below.refl _ _) n))
    have TAB2 : Hid (Tab (w4.drewN n)) := Lib.hid (TAB4.out.on (below_drewN (Below.refl _ _) n))
    clear HB4 MX4 TAB4 H4 H5 HS
    generalize w4.drewN n = w2 at *
    go_wp2_with fail
    generalize hq : s.extract 0 (min s.size 200) = q at *
    have hqs : q.size ≤ 200 := by subst hq; rw [cut_size _ _ (by omega)]; omega
    refine (parse_any q _ (by omega) MX2.out).mono ?_
    rintro e w5 ⟨A5, c5, rfl, hi5, hc5, hm5, hb5⟩
    have HB5 := Lib.hid (HB2.out.trans (hb5.mono (by rw [HB.out]; exact HB2.out.size)))
    have TAB5 := Lib.hid (TAB2.out.on hb5)
    have H5 := Lib.hid hi5
    have hl5 : (parseV q.data.toList).1.length ≤ 9223372036854775807 := by simp only [maxLen] at hm5; omega
    clear hb5 hi5 hc5 hm5 HB2 TAB2 MX2
    by_cases hp : (parseV q.data.toList).2 = 0
    · obtain ⟨hc0, ht0⟩ := txt_parse hp
      rw [hp]
      have HX := Lib.hid (text_any A5 c5 _ _ H5.out hl5 TAB5.out)
      rw [hc0, ht0] at HX
      generalize (parseV q.data.toList).1 = V at *
      clear hp hc0 ht0 TAB5 H5
      go_wp2_with fail
      refine (HX.out).mono ?_
      rintro e w6 ⟨rfl, hb6⟩
      have HB6 := Lib.hid (HB5.out.trans (hb6.mono (by rw [HB.out]; exact HB5.out.size)))
      clear hb6
      go_wp2_with fail
      go_ret
      exact ⟨rfl, HB6.out⟩
    · have hp' : ((parseV q.data.toList).2 != 0) = true := by simpa using hp
      have hv := parse_bad hp
      rw [hv]
      generalize (parseV q.data.toList).2 = V at *
      clear hp hv
      go_wp2_with fail
      go_ret
      exact ⟨rfl, HB5.out⟩
end Go.Proofs.YtnnhbnkelgmaaaaDoor
