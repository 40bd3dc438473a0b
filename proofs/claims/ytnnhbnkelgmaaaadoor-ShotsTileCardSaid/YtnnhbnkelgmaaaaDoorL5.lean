/-
  The law ShotsTile at every input. Its conditions are its hypotheses.
-/
import Derived.Test.YtnnhbnkelgmaaaaDoorC6
import Derived.Test.YtnnhbnkelgmaaaaDoorC7
import Derived.Test.YtnnhbnkelgmaaaaDoorPt
namespace Go.Proofs.YtnnhbnkelgmaaaaDoor
open Go.RowKit
set_option linter.unusedVariables false
set_option linter.unusedSimpArgs false
theorem tile_law (A : Option Addr) (c : Nat) (xs : List Int) (f : Int) (w : World) (h : IntsAt w A xs) (hn : xs.length ≤ c) (hc : c ≤ maxLen) (lo : -9223372036854775808 ≤ f) (hi : f ≤ 9223372036854775807) (ht : Tab w) :
    Calls Tryd.prog 7 #[.slice A xs.length c, .int .i64 f] w fun e w' => e = .returned (.bool true) ∧ Below w.heap.size w w' := by
  have H := Lib.hid h
  clear h
  obtain ⟨B, hB⟩ : ∃ B, B = w.heap.size := ⟨_, rfl⟩
  have HS := Lib.hid hB
  have HT := Lib.hid ht
  rw [← hB]
  clear ht hB
  go_enter Tryd.func7, Tryd.ntmps7
  go_wp2_with fail
  refine (awake_any _ HT.out).mono ?_
  rintro e w1 ⟨rfl, hb1⟩
  rw [← HS.out] at hb1
  have HB := Lib.hid hb1
  have hs := hb1.size
  rw [← HS.out] at hs
  have H := Lib.hid ((H.out.below hb1 (by rw [HS.out]; exact Nat.le_refl _)).take 420)
  clear hb1
  go_wp2_with fail
  refine (few_any A c xs.length _ hn hc).mono ?_
  rintro e w' ⟨rfl, rfl⟩
  have hlen : (xs.take 420).length = min xs.length 420 := by rw [List.length_take]; omega
  rw [← hlen]
  generalize xs.take 420 = ys at *
  have hl : ys.length ≤ 9223372036854775807 := by omega
  clear hlen hn hc HT
  go_wp2_with fail
  by_cases hgo : chkS ys = 0 ∧ fr f = true
  · obtain ⟨h0, hf⟩ := hgo
    refine (shot_yes A c ys f _ H.out hl h0 hf).mono ?_
    rintro e w2 ⟨rfl, hb2⟩
    have hr := rising_of (chkS_lt h0)
    have hfb := fr_of hf
    rw [shotG_eq hr]
    have f1 : inG f 0 ys ≤ f := inG_le hfb.1
    have f2 : f < outG f ys := outG_gt hfb.2
    have HIN := Lib.hid (show insR (inG f 0 ys) (outG f ys) ys = [] by unfold insR; rw [if_pos h0]; exact inside_none hr)
    have hout : outG f ys = 5184001 ∨ (outG f ys ≤ 5184000 ∧ fr (outG f ys) = true ∧ inG (outG f ys) 0 ys = outG f ys ∧ nearG (outG f ys) (ys.getD 0 0) ys = outG f ys ∧ 0 < ys.length) := by
      rcases outG_mem (f := f) (xs := ys) with hm | hm
      · exact .inl hm
      · right
        obtain ⟨j, hj, hjx⟩ := List.getElem_of_mem hm
        have hbd := chkS_bd h0 j hj
        rw [show ys.getD j 0 = ys[j] by simp [hj], hjx] at hbd
        refine ⟨hbd.2, fr_mk (by omega) hbd.2, ?_, near_hit (.inr hm), by omega⟩
        have h1 := inG_le (f := outG f ys) (xs := ys) (i := 0) (by omega)
        have h2 := inG_ge (f := outG f ys) (i := 0) hr hm (Int.le_refl _)
        omega
    have HOUT := Lib.hid hout
    have H0 := Lib.hid h0
    have HR := Lib.hid hr
    clear hout h0 hr hf
    generalize inG f 0 ys = i at *
    generalize outG f ys = o at *
    have H := Lib.hid (IntsAt.below H.out hb2 (Nat.le_refl _))
    have HB := Lib.hid (HB.out.trans (hb2.mono hs))
    have hs := Nat.le_trans hs hb2.size
    clear hb2
    go_wp2_with fail
    obtain ⟨B2, hB2⟩ : ∃ B2, B2 = w2.heap.size := ⟨_, rfl⟩
    rw [← hB2]
    generalize hw3 : w2.alloc _ = w3
    have hcells : CellsAt w3 B2 0 [.int .i64 i, .int .i64 o] := by subst hw3; simp [CellsAt, go_sem, hB2]
    have hb3 : Below w2.heap.size w2 w3 := by subst hw3; exact (Below.refl _ _).alloc (Nat.le_refl _) _
    have hs3 : B2 < w3.heap.size := by subst hw3; simp [hB2]
    have H := Lib.hid (IntsAt.below H.out hb3 (Nat.le_refl _))
    have HB := Lib.hid (HB.out.trans (hb3.mono hs))
    have hs : B ≤ B2 := by rw [hB2]; exact hs
    have CELLS := Lib.hid hcells
    clear hw3 hb3 hB2
    simp only [CellsAt, Nat.zero_add, Nat.reduceAdd, and_true] at hcells
    obtain ⟨k0, k1⟩ := hcells
    go_wp2_with fail
    refine (inside_any A c ys i o _ H.out hl).mono ?_
    rintro e w4 ⟨A4, c4, rfl, hi4, hn4, hc4, hb4⟩
    rw [HIN.out]
    have hcells := (CELLS.out).below hb4 hs3
    have CELLS := Lib.hid hcells
    have H := Lib.hid (IntsAt.below H.out hb4 (Nat.le_refl _))
    have HB := Lib.hid (HB.out.trans (hb4.mono (by omega)))
    have hs3 := Nat.lt_of_lt_of_le hs3 hb4.size
    clear hb4 hi4 hn4 hc4
    simp only [CellsAt, Nat.zero_add, Nat.reduceAdd, and_true] at hcells
    obtain ⟨k0, k1⟩ := hcells
    rcases HOUT.out with ho | ⟨o1, o2, o3, o4, o5⟩
    · subst ho
      go_wp2_with fail
      go_ret
      exact ⟨rfl, HB.out⟩
    · have HO2 := Lib.hid o2
      have HO3 := Lib.hid o3
      have HO4 := Lib.hid o4
      clear o2 o3 o4
      go_wp2_with fail
      refine (shot_yes A c ys o _ H.out hl H0.out HO2.out).mono ?_
      rintro e w5 ⟨rfl, hb5⟩
      rw [shotG_eq HR.out, HO3.out]
      generalize outG o ys = o' at *
      have hcells := (CELLS.out).below hb5 hs3
      have CELLS := Lib.hid hcells
      have H := Lib.hid (IntsAt.below H.out hb5 (Nat.le_refl _))
      have HB := Lib.hid (HB.out.trans (hb5.mono (by omega)))
      have hs3 := Nat.lt_of_lt_of_le hs3 hb5.size
      clear hb5
      simp only [CellsAt, Nat.zero_add, Nat.reduceAdd, and_true] at hcells
      obtain ⟨k0, k1⟩ := hcells
      go_wp2_with fail
      obtain ⟨B6, hB6⟩ : ∃ B6, B6 = w5.heap.size := ⟨_, rfl⟩
      rw [← hB6]
      generalize hw6 : w5.alloc _ = w6
      have hb6 : Below w5.heap.size w5 w6 := by subst hw6; exact (Below.refl _ _).alloc (Nat.le_refl _) _
      have hcells6 : CellsAt w6 B6 0 [.int .i64 o, .int .i64 o'] := by subst hw6; simp [CellsAt, go_sem, hB6]
      have hcells := (CELLS.out).below hb6 hs3
      have H := Lib.hid (IntsAt.below H.out hb6 (Nat.le_refl _))
      have HB := Lib.hid (HB.out.trans (hb6.mono (by omega)))
      clear hw6 hb6 hB6
      simp only [CellsAt, Nat.zero_add, Nat.reduceAdd, and_true] at hcells hcells6
      obtain ⟨k0, k1⟩ := hcells
      obtain ⟨l0, l1⟩ := hcells6
      go_wp2_with fail
      refine (near_yes A c ys o _ H.out hl H0.out o5 HO2.out).mono ?_
      rintro e w' ⟨rfl, rfl⟩
      rw [HO4.out]
      go_wp2_with fail
      go_ret
      exact ⟨rfl, HB.out⟩
  · refine (shot_no A c ys f _ H.out hl (by
      cases h0 : (chkS ys == 0) with
      | false => exact .inl rfl
      | true =>
        right
        cases hf : fr f with
        | false => rfl
        | true => exact absurd ⟨by simpa using h0, hf⟩ hgo)).mono ?_
    rintro e w2 ⟨rfl, hb2⟩
    have HB := Lib.hid (((HB.out.trans (hb2.mono hs)).alloc (Nat.le_trans hs hb2.size) (.cells #[.int .i64 0, .int .i64 0] 36)))
    clear hb2
    go_wp2_with fail
    go_ret
    exact ⟨rfl, HB.out⟩
end Go.Proofs.YtnnhbnkelgmaaaaDoor
