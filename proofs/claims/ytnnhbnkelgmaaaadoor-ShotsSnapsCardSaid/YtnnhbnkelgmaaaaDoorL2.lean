/-
  Close and Snap at every input, in one contract each; the law ShotsClose at every input. Its conditions are its hypotheses.
-/
import Derived.Test.YtnnhbnkelgmaaaaDoorC5
namespace Go.Proofs.YtnnhbnkelgmaaaaDoor
open Go.RowKit
set_option linter.unusedVariables false
set_option linter.unusedSimpArgs false
def closeV (f b a : Int) (xs : List Int) : Int × Bool := if usb xs f b a = true then tcV f b a xs else (0, false)
def snapR (f b a : Int) (xs : List Int) : Int × Bool := if usb xs f b a = true then snapV f b a xs else (0, false)
theorem close_any (A : Option Addr) (c : Nat) (xs : List Int) (f b a : Int) (w : World) (h : IntsAt w A xs) (hl : xs.length ≤ 9223372036854775807) :
    Calls Tryd.prog 16 #[.slice A xs.length c, .int .i64 f, .int .i64 b, .int .i64 a] w fun e w' => e = .returned (.tuple #[.int .i64 (closeV f b a xs).1, .bool (closeV f b a xs).2]) ∧ w = w' := by
  cases hu : usb xs f b a with
  | false => rw [show closeV f b a xs = (0, false) by simp [closeV, hu]]; exact close_no A c xs f b a w h hl hu
  | true => rw [show closeV f b a xs = tcV f b a xs by simp [closeV, hu]]; exact close_yes A c xs f b a w h hl hu
theorem closer_any (A : Option Addr) (c : Nat) (xs : List Int) (f b a : Int) (w : World) (h : IntsAt w A xs) (hl : xs.length ≤ 9223372036854775807) :
    Calls Tryd.prog 17 #[.slice A xs.length c, .int .i64 f, .int .i64 b, .int .i64 a] w fun e w' => e = .returned (.tuple #[.int .i64 (closeV f b a xs).1, .bool (closeV f b a xs).2]) ∧ w = w' := by
  cases hu : usb xs f b a with
  | false => rw [show closeV f b a xs = (0, false) by simp [closeV, hu]]; exact closer_no A c xs f b a w h hl hu
  | true => rw [show closeV f b a xs = tcV f b a xs by simp [closeV, hu]]; exact closer_yes A c xs f b a w h hl hu
theorem snap_any (A : Option Addr) (c : Nat) (xs : List Int) (f b a : Int) (w : World) (h : IntsAt w A xs) (hl : xs.length ≤ 9223372036854775807) :
    Calls Tryd.prog 18 #[.slice A xs.length c, .int .i64 f, .int .i64 b, .int .i64 a] w fun e w' => e = .returned (.tuple #[.int .i64 (snapR f b a xs).1, .bool (snapR f b a xs).2]) ∧ Below w.heap.size w w' := by
  cases hu : usb xs f b a with
  | false => rw [show snapR f b a xs = (0, false) by simp [snapR, hu]]; exact (snap_no A c xs f b a w h hl hu).mono fun e w' ⟨he, hw⟩ => ⟨he, by rw [← hw]; exact Below.refl _ _⟩
  | true => rw [show snapR f b a xs = snapV f b a xs by simp [snapR, hu]]; exact snap_yes A c xs f b a w h hl hu
theorem snapr_any (A : Option Addr) (c : Nat) (xs : List Int) (f b a : Int) (w : World) (h : IntsAt w A xs) (hl : xs.length ≤ 9223372036854775807) :
    Calls Tryd.prog 19 #[.slice A xs.length c, .int .i64 f, .int .i64 b, .int .i64 a] w fun e w' => e = .returned (.tuple #[.int .i64 (snapR f b a xs).1, .bool (snapR f b a xs).2]) ∧ Below w.heap.size w w' := by
  cases hu : usb xs f b a with
  | false => rw [show snapR f b a xs = (0, false) by simp [snapR, hu]]; exact (snapr_no A c xs f b a w h hl hu).mono fun e w' ⟨he, hw⟩ => ⟨he, by rw [← hw]; exact Below.refl _ _⟩
  | true => rw [show snapR f b a xs = snapV f b a xs by simp [snapR, hu]]; exact snapr_yes A c xs f b a w h hl hu
theorem close_law (A : Option Addr) (c : Nat) (xs : List Int) (f b a : Int) (w : World) (h : IntsAt w A xs) (hn : xs.length ≤ c) (hc : c ≤ maxLen) (ht : Tab w) :
    Calls Tryd.prog 4 #[.slice A xs.length c, .agg #[.int .i64 f, .int .i64 b, .int .i64 a]] w fun e w' => e = .returned (.bool true) ∧ Below w.heap.size w w' := by
  have H := Lib.hid h
  clear h
  have hm : c ≤ 9223372036854775807 := by simpa [maxLen] using hc
  clear hc
  obtain ⟨B, hB⟩ : ∃ B, B = w.heap.size := ⟨_, rfl⟩
  have HS := Lib.hid hB
  have HT := Lib.hid ht
  rw [← hB]
  clear ht
  have e60 : (min (xs.length : Int) 60).toNat = min xs.length 60 := by omega
  go_enter Tryd.func4, Tryd.ntmps4
  go_wp2_with fail
  rw [← hB]
  generalize hw1 : w.alloc _ = w1
  have hcells : CellsAt w1 B 0 [.int .i64 f, .int .i64 b, .int .i64 a] := by subst hw1; simp [CellsAt, go_sem, hB]
  have hb1 : Below B w w1 := by subst hw1; rw [hB]; exact (Below.refl _ _).alloc (Nat.le_refl _) _
  have hs : B < w1.heap.size := by subst hw1; simp [hB]
  have CELLS := Lib.hid hcells
  have HB := Lib.hid hb1
  clear hw1 hb1 hB
  simp only [CellsAt, Nat.zero_add, Nat.reduceAdd, and_true] at hcells
  refine (awake_any _ (HT.out.on (by rw [← HS.out]; exact HB.out))).mono ?_
  rintro e w2 ⟨rfl, hb2⟩
  have hcells := (CELLS.out).below hb2 (by omega)
  have CELLS := Lib.hid hcells
  have HB := Lib.hid (HB.out.trans (hb2.mono (by omega)))
  have hs := Nat.le_trans hs hb2.size
  clear hb2
  simp only [CellsAt, Nat.zero_add, Nat.reduceAdd, and_true] at hcells
  obtain ⟨k0, k1, k2⟩ := hcells
  go_wp2_with fail
  have H := Lib.hid ((H.out.below HB.out (by rw [HS.out]; exact Nat.le_refl _)).take 60)
  have hlen : (xs.take 60).length = min xs.length 60 := by rw [List.length_take]; omega
  rw [← hlen]
  generalize xs.take 60 = ys at *
  have hl : ys.length ≤ 9223372036854775807 := by omega
  clear hlen hn HT e60
  refine (close_any A c ys f b a _ H.out hl).mono ?_
  rintro e w' ⟨rfl, rfl⟩
  go_wp2_with fail
  refine (closer_any A c ys f b a _ H.out hl).mono ?_
  rintro e w' ⟨rfl, rfl⟩
  go_wp2_with fail
  generalize closeV f b a ys = u at *
  refine (snap_any A c ys f b a _ H.out hl).mono ?_
  rintro e w2 ⟨rfl, hb2⟩
  have hcells := (CELLS.out).below hb2 (by omega)
  have CELLS := Lib.hid hcells
  have HB := Lib.hid (HB.out.trans (hb2.mono (by omega)))
  have H := Lib.hid (IntsAt.below H.out hb2 (Nat.le_refl _))
  have hs := Nat.le_trans hs hb2.size
  clear hb2
  simp only [CellsAt, Nat.zero_add, Nat.reduceAdd, and_true] at hcells
  obtain ⟨k0, k1, k2⟩ := hcells
  go_wp2_with fail
  refine (snapr_any A c ys f b a _ H.out hl).mono ?_
  rintro e w2 ⟨rfl, hb2⟩
  have hcells := (CELLS.out).below hb2 (by omega)
  have CELLS := Lib.hid hcells
  have HB := Lib.hid (HB.out.trans (hb2.mono (by omega)))
  have H := Lib.hid (IntsAt.below H.out hb2 (Nat.le_refl _))
  have hs := Nat.le_trans hs hb2.size
  clear hb2
  simp only [CellsAt, Nat.zero_add, Nat.reduceAdd, and_true] at hcells
  obtain ⟨k0, k1, k2⟩ := hcells
  go_wp2_with fail
  generalize snapR f b a ys = v at *
  go_ret
  exact ⟨rfl, HB.out⟩

end Go.Proofs.YtnnhbnkelgmaaaaDoor
