/-
  The contract of awake: the chapter's examples hold. Its conditions are its hypotheses.
-/
import Derived.Test.YtneiljaknmeagaaGreatDoorBf
import Derived.Test.YtneiljaknmeagaaGreatDoorM6
namespace Go.Proofs.YtneiljaknmeagaaGreatDoor
open Go.RowKit Go.Joins
set_option linter.unusedVariables false
set_option linter.unusedSimpArgs false
def reelR1 : List UInt8 := [82, 49]
def awT1 : Tb := ⟨10, 1, 0, [1], []⟩
def awT2 : Tb := ⟨10, 2, 0, [1, 2], []⟩
def awT3 : Tb := ⟨10, 2, 1, [1, 2], [⟨reelR1, 1, 1, 610⟩]⟩
def awT4 : Tb := ⟨20, 2, 1, [1, 2], [⟨reelR1, 1, 1, 610⟩]⟩
def awT5 : Tb := ⟨610, 2, 2, [1, 2], [⟨reelR1, 2, 2, 1210⟩]⟩
def awTx : List UInt8 := [76, 79, 67, 75, 83, 32, 49, 48, 32, 50, 32, 49, 10, 83, 69, 83, 83, 73, 79, 78, 32, 49, 10, 83, 69, 83, 83, 73, 79, 78, 32, 50, 10, 76, 69, 65, 83, 69, 32, 82, 49, 32, 49, 32, 49, 32, 54, 49, 48, 10]
theorem aw1 : openR tb0 10 = (awT1, 1, 0) := by kernel_rfl
theorem aw2 : openR awT1 10 = (awT2, 2, 0) := by kernel_rfl
theorem aw3 : takeR awT2 10 1 reelR1 = (awT3, 1, 0) := by kernel_rfl
theorem aw4 : takeR awT3 20 2 reelR1 = (awT4, 0, 18) := by kernel_rfl
theorem aw5 : takeR awT4 610 2 reelR1 = (awT5, 2, 0) := by kernel_rfl
theorem aw6 : heldE awT5 611 1 reelR1 1 = 18 := by kernel_rfl
theorem awx : textT awT3 = awTx := by kernel_rfl
theorem asc_nil : Asc [] := List.Pairwise.nil
theorem asc_one (x : Ls) : Asc [x] := List.pairwise_singleton _ _
theorem aw_fit : Fit awT3 := by
  refine ⟨by decide, by decide, by decide, by decide, by decide, by decide, ?_⟩
  intro x hx
  simp [awT3] at hx
  subst hx
  exact ⟨by decide, by decide, by decide, by decide⟩
theorem aw_text (B0 p : Nat) (sv lv : Value) (w : World) (h : Rep B0 p sv lv awT3 w) (ht : Tab w) :
    Calls Tryz.prog 8 #[.pointer (some ⟨p, 0, none⟩)] w fun e w' => e = .returned (.string ⟨#[76, 79, 67, 75, 83, 32, 49, 48, 32, 50, 32, 49, 10, 83, 69, 83, 83, 73, 79, 78, 32, 49, 10, 83, 69, 83, 83, 73, 79, 78, 32, 50, 10, 76, 69, 65, 83, 69, 32, 82, 49, 32, 49, 32, 49, 32, 54, 49, 48, 10]⟩) ∧ Below w.heap.size w w' := by
  refine (text_any B0 p sv lv awT3 w h aw_fit ht).mono ?_
  rintro e w' ⟨h1, h2⟩
  rw [awx] at h1
  exact ⟨h1, h2⟩
set_option maxRecDepth 100000 in
set_option maxHeartbeats 2000000 in
theorem awake_any (w : World) (ht : Tab w) : Calls Tryz.prog 5 #[] w fun e w' => e = .returned (.bool true) ∧ Below w.heap.size w w' := by
  obtain ⟨B, hB⟩ : ∃ B, B = w.heap.size := ⟨_, rfl⟩
  have HB := Lib.hid hB
  have HT := Lib.hid (show Lib.TabBelow Tryz.prog B w "internal/strconv.uint64pow10" .u64 Lib.pow10Tab from hB ▸ Lib.tabBelow_of_tabIs ht)
  rw [← hB]
  clear hB ht
  go_enter Tryz.func5, Tryz.ntmps5
  go_wp2_with fail
  refine (new_any w).mono ?_
  rintro e w0 ⟨rfl, h0, b0, hz0⟩
  rw [← HB.out] at h0 b0 ⊢
  have H0 := Lib.hid h0
  have G0 := Lib.hid b0
  have F0 := Lib.hid (FrT.refl B B (.slice none 0 0) (.slice none 0 0) w0)
  clear h0 b0 hz0
  go_wp2_with fail
  refine (open_any B B _ _ tb0 10 w0 H0.out (by decide) (by decide) (by decide)).mono ?_
  rintro e w1 ⟨rfl, s1, l1, h1, f1⟩
  rw [aw1] at h1
  rw [aw1]
  have H1 := Lib.hid h1
  have F1 := Lib.hid (F0.out.trans f1)
  clear h1 f1
  go_wp2_with fail
  refine (open_any B B _ _ awT1 10 w1 H1.out (by decide) (by decide) (by decide)).mono ?_
  rintro e w2 ⟨rfl, s2, l2, h2, f2⟩
  rw [aw2] at h2
  rw [aw2]
  have H2 := Lib.hid h2
  have F2 := Lib.hid (F1.out.trans f2)
  clear h2 f2
  go_wp2_with fail
  refine (take_any B B _ _ awT2 10 1 reelR1 w2 H2.out asc_nil (by decide) (by decide) (by decide) (by decide)).mono ?_
  rintro e w3 ⟨rfl, s3, l3, h3, f3⟩
  rw [aw3] at h3
  rw [aw3]
  have H3 := Lib.hid h3
  have F3 := Lib.hid (F2.out.trans f3)
  clear h3 f3
  go_wp2_with fail
  refine (aw_text B B _ _ w3 H3.out ((HT.out.on (G0.out.trans F3.out.below)).here)).mono ?_
  rintro e w4 ⟨rfl, hb⟩
  have H4 := Lib.hid (H3.out.ext hb)
  have F4 := Lib.hid (F3.out.ext hb (Nat.le_trans H3.out.ge (Nat.le_of_lt H3.out.lt)))
  clear hb
  go_wp2_with fail
  refine (take_any B B _ _ awT3 20 2 reelR1 w4 H4.out (asc_one _) (by decide) (by decide) (by decide) (by decide)).mono ?_
  rintro e w5 ⟨rfl, s5, l5, h5, f5⟩
  rw [aw4] at h5
  rw [aw4]
  have H5 := Lib.hid h5
  have F5 := Lib.hid (F4.out.trans f5)
  clear h5 f5
  go_wp2_with fail
  refine (take_any B B _ _ awT4 610 2 reelR1 w5 H5.out (asc_one _) (by decide) (by decide) (by decide) (by decide)).mono ?_
  rintro e w6 ⟨rfl, s6, l6, h6, f6⟩
  rw [aw5] at h6
  rw [aw5]
  have H6 := Lib.hid h6
  have F6 := Lib.hid (F5.out.trans f6)
  clear h6 f6
  go_wp2_with fail
  refine (check_any B B _ _ awT5 611 1 reelR1 1 w6 H6.out (asc_one _) (by decide)).mono ?_
  rintro e w7 ⟨rfl, s7, l7, h7, f7⟩
  rw [aw6]
  have F7 := Lib.hid (F6.out.trans f7)
  clear h7 f7
  go_wp2_with fail
  go_ret
  exact ⟨rfl, G0.out.trans F7.out.below⟩
end Go.Proofs.YtneiljaknmeagaaGreatDoor
