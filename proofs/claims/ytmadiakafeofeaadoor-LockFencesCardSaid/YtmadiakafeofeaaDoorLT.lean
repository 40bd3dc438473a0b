/-
  The contract of the law LockTimes. Its conditions are its hypotheses.
-/
import Derived.Test.YtmadiakafeofeaaDoorLL
namespace Go.Proofs.YtmadiakafeofeaaDoor
open Go.RowKit Go.Joins
set_option linter.unusedVariables false
set_option linter.unusedSimpArgs false
set_option maxHeartbeats 1000000 in
theorem close_err (B p : Nat) (sv lv : Value) (T : Tb) (now ses : Int) (w : World) (h : Rep B p sv lv T w) (hl : T.lea.length ≤ 1000) (hE : (toldE T now != 0) = true) :
    Calls Tryd.prog 17 #[.pointer (some ⟨p, 0, none⟩), .int .i64 now, .int .i64 ses] w (Met B p sv lv w (.int .i64 (toldE T now)) (toldT T now)) := by
  have HBw := Lib.hid (Nat.le_trans h.ge (Nat.le_of_lt h.lt))
  have H1 := Lib.hid (h.ext (below_one w (.cells #[.int .i64 ses] 2)))
  have HTD := Lib.hid (told_any B p sv lv T now _ H1.out hl)
  have F1 := Lib.hid ((FrT.refl B p sv lv w).ext (below_one w (.cells #[.int .i64 ses] 2)) HBw.out)
  generalize toldE T now = E at *
  generalize toldT T now = U at *
  clear h hl
  go_enter Tryd.func17, Tryd.ntmps17
  go_wp2_with fail
  refine HTD.out.mono ?_
  clear HTD
  rintro e w2 ⟨rfl, s2, l2, h2, f2⟩
  have H2 := Lib.hid h2
  have F2 := Lib.hid (F1.out.trans f2)
  clear h2 f2
  go_wp2_with fail
  go_ret
  exact ⟨rfl, _, _, H2.out, F2.out⟩
theorem times_E {t : Int} (h0 : 0 ≤ t) (h1 : t ≤ 4999) : toldE (tOne 5000 5600 reelR1) t = 8 := by
  unfold toldE
  rw [if_neg (by omega), if_pos (show t < (tOne 5000 5600 reelR1).now from Int.lt_of_le_of_lt h1 (by decide))]
theorem times_T {t : Int} (h0 : 0 ≤ t) (h1 : t ≤ 4999) : toldT (tOne 5000 5600 reelR1) t = tOne 5000 5600 reelR1 := by
  unfold toldT
  rw [times_E h0 h1, if_neg (by decide)]
theorem times_open {t : Int} (h0 : 0 ≤ t) (h1 : t ≤ 4999) : openR (tOne 5000 5600 reelR1) t = (tOne 5000 5600 reelR1, 0, 8) := by
  unfold openR
  rw [times_E h0 h1, times_T h0 h1, if_neg (by decide)]
theorem times_take {t ses : Int} {reel : List UInt8} (h0 : 0 ≤ t) (h1 : t ≤ 4999) : takeR (tOne 5000 5600 reelR1) t ses reel = (tOne 5000 5600 reelR1, 0, 8) := by
  unfold takeR
  rw [times_E h0 h1, times_T h0 h1, if_neg (by decide)]
theorem times_held {t ses fen : Int} {reel : List UInt8} (h0 : 0 ≤ t) (h1 : t ≤ 4999) : heldE (tOne 5000 5600 reelR1) t ses reel fen = 8 := by
  unfold heldE
  rw [times_E h0 h1, if_neg (by decide)]
theorem times_renew {t ses fen : Int} {reel : List UInt8} (h0 : 0 ≤ t) (h1 : t ≤ 4999) : renewT (tOne 5000 5600 reelR1) t ses reel fen = tOne 5000 5600 reelR1 := by
  unfold renewT
  rw [times_held h0 h1, if_neg (by decide), times_T h0 h1]
theorem times_release {t ses fen : Int} {reel : List UInt8} (h0 : 0 ≤ t) (h1 : t ≤ 4999) : releaseT (tOne 5000 5600 reelR1) t ses reel fen = tOne 5000 5600 reelR1 := by
  unfold releaseT
  rw [times_held h0 h1, if_neg (by decide), times_T h0 h1]
theorem times_low : openR (tOne 5000 5600 reelR1) (-1) = (tOne 5000 5600 reelR1, 0, 2) := by kernel_rfl
theorem times_high : openR (tOne 5000 5600 reelR1) 10378368001 = (tOne 5000 5600 reelR1, 0, 2) := by kernel_rfl
theorem times_o : openR tb0 5000 = (tNone 5000 0, 1, 0) := last_open (by decide) (by decide)
theorem times_t : takeR (tNone 5000 0) 5000 1 reelR1 = (tOne 5000 5600 reelR1, 1, 0) := last_take (by decide) (by decide) (by kernel_rfl)
theorem times_fit : Fit (tOne 5000 5600 reelR1) := by
  refine ⟨by decide, by decide, by decide, by decide, by decide, by decide, ?_⟩
  intro x hx
  simp [tOne] at hx
  subst hx
  exact ⟨by decide, by decide, by decide, by decide⟩
abbrev actV (k : Int) (r : Bool) (l u f : Int) (s : ByteArray) : Value := .agg #[.int .u8 k, .bool r, .int .i64 l, .int .i64 u, .int .i64 f, .string s]
set_option maxRecDepth 100000 in
set_option maxHeartbeats 4000000 in
theorem times_law (k : Int) (r : Bool) (l u f : Int) (s : ByteArray) (back : Int) (w : World) (hs : s.size ≤ 9223372036854775807) (ht : Tab w) :
    Calls Tryd.prog 5 #[actV k r l u f s, .int .i64 back] w fun e w' => e = .returned (.bool true) ∧ Below w.heap.size w w' := by
  have hr := and_bd back 4095 (by decide)
  rw [show ((4095 : Nat) : Int) = 4095 from rfl] at hr
  obtain ⟨r0, r1⟩ := hr
  have e20 : (min (s.size : Int) 20).toNat = min s.size 20 := by omega
  have HC := Lib.hid (cut20 s)
  have HT := Lib.hid ht
  clear ht
  obtain ⟨D, hD⟩ : ∃ D, D = w.heap.size := ⟨_, rfl⟩
  rw [← hD]
  go_enter Tryd.func5, Tryd.ntmps5
  go_wp2_with fail
  rw [← hD]
  generalize hw0 : World.alloc _ _ = w0
  have HA := Lib.hid (show Held w0 D [.int .u8 k, .bool r, .int .i64 l, .int .i64 u, .int .i64 f, .string s] by subst hw0; exact Held.new hD)
  have G0 := Lib.hid (show Below D w w0 by subst hw0; rw [hD]; exact below_one _ _)
  have HTB := Lib.hid (show Lib.TabBelow Tryd.prog D w "internal/strconv.uint64pow10" .u64 Lib.pow10Tab from hD ▸ Lib.tabBelow_of_tabIs HT.out)
  clear hw0 hD HT
  refine (awake_any w0 ((HTB.out.on G0.out).here)).mono ?_
  rintro e w1 ⟨rfl, hb⟩
  have G1 := Lib.hid (G0.out.trans (hb.mono (Nat.le_of_lt HA.out.lt)))
  have HA1 := Lib.hid (HA.out.ext hb)
  clear hb HA G0
  go_wp2_with fail
  refine (new_any w1).mono ?_
  rintro e w2 ⟨rfl, h2, b2, hz2⟩
  obtain ⟨B, hB⟩ : ∃ B, B = w1.heap.size := ⟨_, rfl⟩
  rw [← hB] at h2 b2 ⊢
  have hDB : D < B := by rw [hB]; exact HA1.out.lt
  have H2 := Lib.hid h2
  have G2 := Lib.hid (show Below D w w2 from G1.out.trans (b2.mono (Nat.le_of_lt hDB)))
  have F2 := Lib.hid (FrT.refl B B (.slice none 0 0) (.slice none 0 0) w2)
  have HA2 := Lib.hid (HA1.out.below b2 hDB)
  clear h2 b2 hz2 hB HA1 G1
  go_wp2_with fail
  refine (open_any B B _ _ tb0 5000 w2 H2.out (by decide) (by decide) (by decide)).mono ?_
  rintro e w3 ⟨rfl, s3, l3, h3, f3⟩
  rw [times_o] at h3
  rw [times_o]
  have H3 := Lib.hid h3
  have F3 := Lib.hid (F2.out.trans f3)
  clear h3 f3
  go_wp2_with fail
  refine (take_any B B _ _ (tNone 5000 0) 5000 1 reelR1 w3 H3.out asc_nil (by decide) (by decide) (by decide) (by decide)).mono ?_
  rintro e w4 ⟨rfl, s4, l4, h4, f4⟩
  rw [times_t] at h4
  rw [times_t]
  have H4 := Lib.hid h4
  have F4 := Lib.hid (F3.out.trans f4)
  clear h4 f4
  go_wp2_with fail
  refine (text_any B B _ _ (tOne 5000 5600 reelR1) w4 H4.out times_fit ((HTB.out.on (G2.out.trans (F4.out.below.mono (Nat.le_of_lt hDB)))).here)).mono ?_
  rintro e w5 ⟨rfl, hb⟩
  have H5 := Lib.hid (H4.out.ext hb)
  have F5 := Lib.hid (F4.out.ext hb (Nat.le_trans H4.out.ge (Nat.le_of_lt H4.out.lt)))
  generalize hS : sB (textT (tOne 5000 5600 reelR1)) = S
  have HS := Lib.hid hS
  clear hb hS
  have HA5 := Lib.hid (HA2.out.below F5.out.below hDB)
  have q := HA5.out.cell
  have hDw := HA5.out.lt
  have b0 : 0 ≤ 4999 - bits BinOp.and IntKind.i64 back 4095 := by omega
  have b1 : 4999 - bits BinOp.and IntKind.i64 back 4095 ≤ 4999 := by omega
  go_wp2_with fail
  rw [HC.out]
  generalize List.take 20 _ = reel at *
  generalize 4999 - bits BinOp.and IntKind.i64 back 4095 = t at *
  clear q hs e20 HC r0 r1
  refine (open_any B B _ _ (tOne 5000 5600 reelR1) t w5 H5.out (by decide) (by decide) (by decide)).mono ?_
  rintro e w6 ⟨rfl, s6, l6, h6, f6⟩
  rw [times_open b0 b1] at h6
  rw [times_open b0 b1]
  have H6 := Lib.hid h6
  have F6 := Lib.hid (F5.out.trans f6)
  clear h6 f6
  have HA6 := Lib.hid (HA2.out.below F6.out.below hDB)
  have q := HA6.out.cell
  have hDw6 := HA6.out.lt
  go_wp2_with fail
  refine (take_any B B _ _ (tOne 5000 5600 reelR1) t u reel w6 H6.out (asc_one _) (by decide) (by decide) (by decide) (by decide)).mono ?_
  rintro e w7 ⟨rfl, s7, l7, h7, f7⟩
  clear q
  rw [times_take b0 b1] at h7
  rw [times_take b0 b1]
  have H7 := Lib.hid h7
  have F7 := Lib.hid (F6.out.trans f7)
  clear h7 f7
  go_wp2_with fail
  refine (close_err B B _ _ (tOne 5000 5600 reelR1) t 1 w7 H7.out (by decide) (by rw [times_E b0 b1]; decide)).mono ?_
  rintro e w8 ⟨rfl, s8, l8, h8, f8⟩
  rw [times_T b0 b1] at h8
  rw [times_E b0 b1]
  have H8 := Lib.hid h8
  have F8 := Lib.hid (F7.out.trans f8)
  clear h8 f8
  go_wp2_with fail
  refine (renew_any B B _ _ (tOne 5000 5600 reelR1) t 1 reelR1 1 w8 H8.out (asc_one _) (by decide)).mono ?_
  rintro e w9 ⟨rfl, s9, l9, h9, f9⟩
  rw [times_renew b0 b1] at h9
  rw [times_held b0 b1]
  have H9 := Lib.hid h9
  have F9 := Lib.hid (F8.out.trans f9)
  clear h9 f9
  go_wp2_with fail
  refine (release_any B B _ _ (tOne 5000 5600 reelR1) t 1 reelR1 1 w9 H9.out (asc_one _) (by decide)).mono ?_
  rintro e w10 ⟨rfl, s10, l10, h10, f10⟩
  rw [times_release b0 b1] at h10
  rw [times_held b0 b1]
  have H10 := Lib.hid h10
  have F10 := Lib.hid (F9.out.trans f10)
  clear h10 f10
  go_wp2_with fail
  refine (check_any B B _ _ (tOne 5000 5600 reelR1) t 1 reelR1 1 w10 H10.out (asc_one _) (by decide)).mono ?_
  rintro e w11 ⟨rfl, s11, l11, h11, f11⟩
  rw [times_T b0 b1] at h11
  rw [times_held b0 b1]
  have H11 := Lib.hid h11
  have F11 := Lib.hid (F10.out.trans f11)
  clear h11 f11
  go_wp2_with fail
  refine (open_any B B _ _ (tOne 5000 5600 reelR1) (-1) w11 H11.out (by decide) (by decide) (by decide)).mono ?_
  rintro e w12 ⟨rfl, s12, l12, h12, f12⟩
  rw [times_low] at h12
  rw [times_low]
  have H12 := Lib.hid h12
  have F12 := Lib.hid (F11.out.trans f12)
  clear h12 f12
  go_wp2_with fail
  refine (open_any B B _ _ (tOne 5000 5600 reelR1) 10378368001 w12 H12.out (by decide) (by decide) (by decide)).mono ?_
  rintro e w13 ⟨rfl, s13, l13, h13, f13⟩
  rw [times_high] at h13
  rw [times_high]
  have H13 := Lib.hid h13
  have F13 := Lib.hid (F12.out.trans f13)
  clear h13 f13
  go_wp2_with fail
  refine (text_any B B _ _ (tOne 5000 5600 reelR1) w13 H13.out times_fit ((HTB.out.on (G2.out.trans (F13.out.below.mono (Nat.le_of_lt hDB)))).here)).mono ?_
  rintro e w14 ⟨rfl, hb⟩
  rw [HS.out]
  have F14 := Lib.hid (F13.out.ext hb (Nat.le_trans H13.out.ge (Nat.le_of_lt H13.out.lt)))
  clear hb
  go_wp2_with fail
  go_ret
  exact ⟨by simp, G2.out.trans (F14.out.below.mono (Nat.le_of_lt hDB))⟩
end Go.Proofs.YtmadiakafeofeaaDoor
