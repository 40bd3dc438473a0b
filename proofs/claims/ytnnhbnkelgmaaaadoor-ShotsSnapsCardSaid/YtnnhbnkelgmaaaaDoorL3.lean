/-
  The law ShotsSnaps at every input. Its conditions are its hypotheses.
-/
import Derived.Test.YtnnhbnkelgmaaaaDoorL2
import Derived.Test.YtnnhbnkelgmaaaaDoorPs
namespace Go.Proofs.YtnnhbnkelgmaaaaDoor
open Go.RowKit
set_option linter.unusedVariables false
set_option linter.unusedSimpArgs false
theorem snaps_law (A : Option Addr) (c : Nat) (xs : List Int) (f b a : Int) (o : Int) (w : World) (h : IntsAt w A xs) (hn : xs.length ≤ c) (hc : c ≤ maxLen) (lo : -9223372036854775808 ≤ o) (hi : o ≤ 9223372036854775807) (ht : Tab w) :
    Calls Tryd.prog 5 #[.slice A xs.length c, .agg #[.int .i64 f, .int .i64 b, .int .i64 a], .int .i64 o] w fun e w' => e = .returned (.bool true) ∧ Below w.heap.size w w' := by
  have H := Lib.hid h
  clear h
  have hm : c ≤ 9223372036854775807 := by simpa [maxLen] using hc
  clear hc
  obtain ⟨B, hB⟩ : ∃ B, B = w.heap.size := ⟨_, rfl⟩
  have HS := Lib.hid hB
  have HT := Lib.hid ht
  rw [← hB]
  clear ht
  have e60 : (min (xs.length : Int) 60).toNat = min xs.length 60 := by omega
  go_enter Tryd.func5, Tryd.ntmps5
  go_wp2_with fail
  rw [← hB]
  generalize hw1 : w.alloc _ = w1
  have hcells : CellsAt w1 B 0 [.int .i64 f, .int .i64 b, .int .i64 a] := by subst hw1; simp [CellsAt, go_sem, hB]
  have hb1 : Below B w w1 := by subst hw1; rw [hB]; exact (Below.refl _ _).alloc (Nat.le_refl _) _
  have hs : B < w1.heap.size := by subst hw1; simp [hB]
  have CELLS := Lib.hid hcells
  have HB := Lib.hid hb1
  clear hw1 hb1 hB
  simp only [CellsAt, Nat.zero_add, Nat.reduceAdd, and_true] at hcells
  refine (awake_any _ (HT.out.on (by rw [← HS.out]; exact HB.out))).mono ?_
  rintro e w2 ⟨rfl, hb2⟩
  have hcells := (CELLS.out).below hb2 (by omega)
  have CELLS := Lib.hid hcells
  have HB := Lib.hid (HB.out.trans (hb2.mono (by omega)))
  have hs := Nat.le_trans hs hb2.size
  clear hb2
  simp only [CellsAt, Nat.zero_add, Nat.reduceAdd, and_true] at hcells
  obtain ⟨k0, k1, k2⟩ := hcells
  go_wp2_with fail
  have H := Lib.hid ((H.out.below HB.out (by rw [HS.out]; exact Nat.le_refl _)).take 60)
  have hlen : (xs.take 60).length = min xs.length 60 := by rw [List.length_take]; omega
  rw [← hlen]
  generalize xs.take 60 = ys at *
  have hl : ys.length ≤ 9223372036854775807 := by omega
  clear hlen hn HT e60
  refine (snap_any A c ys f b a _ H.out hl).mono ?_
  rintro e w2 ⟨rfl, hb2⟩
  have hcells := (CELLS.out).below hb2 (by omega)
  have CELLS := Lib.hid hcells
  have HB := Lib.hid (HB.out.trans (hb2.mono (by omega)))
  have H := Lib.hid (IntsAt.below H.out hb2 (Nat.le_refl _))
  have hs := Nat.le_trans hs hb2.size
  clear hb2
  simp only [CellsAt, Nat.zero_add, Nat.reduceAdd, and_true] at hcells
  obtain ⟨k0, k1, k2⟩ := hcells
  cases hok : (snapR f b a ys).2 with
  | false =>
    have h1 : (snapR f b a ys).1 = 0 := by
      unfold snapR at hok ⊢
      split
      · rename_i hu
        rw [if_pos hu] at hok
        exact ((snap_best f b a ys).no hok).1
      · rfl
    rw [h1]
    go_wp2_with fail
    go_ret
    exact ⟨rfl, HB.out⟩
  | true =>
    have hu : usb ys f b a = true := by
      cases hh : usb ys f b a with
      | true => rfl
      | false => simp [snapR, hh] at hok
    have he : snapR f b a ys = snapV f b a ys := by simp [snapR, hu]
    rw [he] at hok ⊢
    have hgood := ((snap_best f b a ys).yes hok).1
    obtain ⟨u0, u1, u2, u3⟩ := usb_of hu
    have HN := Lib.hid (fun hfo (hg : tooC o b a ys = none) => snap_nearest (f := f) (b := b) (a := a) (o := o) (xs := ys) u1 hfo hg hok)
    generalize (snapV f b a ys).1 = x at *
    have hux : usb ys x b a = true := by simp [usb, u0, u2, u3, hgood.1]
    have HC := Lib.hid (show closeV x b a ys = (0, false) by simp [closeV, hux, tcV, hgood.2])
    have HR := Lib.hid (show snapR x b a ys = (x, true) by simp [snapR, hux, snap_stays hgood])
    have HUO := Lib.hid (fun (hfo : fr o = true) => show closeV o b a ys = tcV o b a ys by simp [closeV, usb, u0, u2, u3, hfo])
    have gf := fr_of u1
    have gx := fr_of hgood.1
    clear he hu hgood u0 u1 u2 u3 hux hok
    go_wp2_with fail
    refine (close_any A c ys x b a _ H.out hl).mono ?_
    rintro e w' ⟨rfl, rfl⟩
    rw [HC.out]
    go_wp2_with fail
    refine (snap_any A c ys x b a _ H.out hl).mono ?_
    rintro e w2 ⟨rfl, hb2⟩
    rw [HR.out]
    have hcells := (CELLS.out).below hb2 (by omega)
    have CELLS := Lib.hid hcells
    have HB := Lib.hid (HB.out.trans (hb2.mono (by omega)))
    have H := Lib.hid (IntsAt.below H.out hb2 (Nat.le_refl _))
    have hs := Nat.le_trans hs hb2.size
    clear hb2
    simp only [CellsAt, Nat.zero_add, Nat.reduceAdd, and_true] at hcells
    obtain ⟨k0, k1, k2⟩ := hcells
    by_cases ho : 0 ≤ o ∧ o ≤ 5184000
    · have HCO := Lib.hid (HUO.out (fr_mk ho.1 ho.2))
      go_wp2_with fail
      refine (close_any A c ys o b a _ H.out hl).mono ?_
      rintro e w' ⟨rfl, rfl⟩
      rw [HCO.out]
      have hb : (tcV o b a ys).2 = true ∨ max (x - f) (f - x) < max (o - f) (f - o) ∨ (max (x - f) (f - x) = max (o - f) (f - o) ∧ x ≤ o) := by
        cases htc : tooC o b a ys with
        | some cc => left; simp [tcV, htc]
        | none =>
          right
          have := HN.out (fr_mk ho.1 ho.2) htc
          unfold nearer at this
          rcases sz_eq (x - f) with e1 | e1 <;> rcases sz_eq (o - f) with e2 | e2 <;> omega
      have HOR := Lib.hid hb
      clear hb
      generalize tcV o b a ys = t at *
      go_wp2_with fail
      go_quiet (fail)
      obtain ⟨t1, t2⟩ := t
      generalize max (x - f) (f - x) = d at *
      generalize max (o - f) (f - o) = e at *
      cases t2 with
      | true =>
        go_wp2_with fail
        go_ret
        exact ⟨rfl, below_drewN HB.out _⟩
      | false =>
        have hor : d < e ∨ (d = e ∧ x ≤ o) := by rcases HOR.out with h | h; cases h; exact h
        by_cases hlt : d < e
        · clear hor
          go_wp2_with fail
          go_ret
          exact ⟨rfl, below_drewN HB.out _⟩
        · obtain ⟨rfl, hxo⟩ := hor.resolve_left hlt
          go_wp2_with fail
          go_ret
          exact ⟨rfl, below_drewN HB.out _⟩
    · by_cases ho2 : 0 ≤ o
      · go_wp2_with fail
        go_ret
        exact ⟨rfl, HB.out⟩
      · go_wp2_with fail
        go_ret
        exact ⟨rfl, HB.out⟩
end Go.Proofs.YtnnhbnkelgmaaaaDoor
