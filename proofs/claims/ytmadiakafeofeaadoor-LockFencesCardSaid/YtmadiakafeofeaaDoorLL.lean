/-
  The contract of the law LockLasts. Its conditions are its hypotheses.
-/
import Derived.Test.YtmadiakafeofeaaDoorM9
namespace Go.Proofs.YtmadiakafeofeaaDoor
open Go.RowKit Go.Joins
set_option linter.unusedVariables false
set_option linter.unusedSimpArgs false
/-- A mask of low bits gives a number from 0 to the mask. -/
theorem and_bd (x : Int) (m : Nat) (hm : m < 9223372036854775808) : 0 ≤ bits BinOp.and IntKind.i64 x (m : Int) ∧ bits BinOp.and IntKind.i64 x (m : Int) ≤ m := by
  have h1 : (BitVec.ofInt IntKind.i64.bits x &&& BitVec.ofInt IntKind.i64.bits (m : Int)).toNat ≤ m := by
    rw [BitVec.toNat_and]
    refine Nat.le_trans Nat.and_le_right ?_
    have : IntKind.i64.bits = 64 := rfl
    rw [BitVec.toNat_ofInt, this]
    omega
  have e : bits BinOp.and IntKind.i64 x (m : Int) = IntKind.i64.wrap ((BitVec.ofInt IntKind.i64.bits x &&& BitVec.ofInt IntKind.i64.bits (m : Int)).toNat : Int) := rfl
  rw [e, IntKind.wrap_i64]
  omega
theorem fpos_self (x : Ls) : fpos x.reel [x] = 0 := by
  rw [fpos, cmp_self, if_neg (by decide)]
theorem fhas_self (x : Ls) : fhas x.reel [x] = true := by
  unfold fhas
  rw [fpos_self]
  simp
theorem alive_one (x : Ls) (t : Int) : alive t [x] = if t < x.unt then [x] else [] := by
  unfold alive
  by_cases h : t < x.unt <;> simp [h]
def tOne (t u : Int) (reel : List UInt8) : Tb := ⟨t, 1, 1, [1], [⟨reel, 1, 1, u⟩]⟩
def tNone (t n : Int) : Tb := ⟨t, 1, n, [1], []⟩
theorem toldE_ok {T : Tb} {s : Int} (h0 : 0 ≤ s) (h1 : s ≤ 10378368000) (h2 : T.now ≤ s) : toldE T s = 0 := by
  unfold toldE
  rw [if_neg (by omega), if_neg (by omega)]
theorem toldT_ok {T : Tb} {s : Int} (h0 : 0 ≤ s) (h1 : s ≤ 10378368000) (h2 : T.now ≤ s) : toldT T s = { T with now := s, lea := alive s T.lea } := by
  unfold toldT
  rw [if_pos (toldE_ok h0 h1 h2)]
theorem last_open {s : Int} (h0 : 0 ≤ s) (h1 : s ≤ 10378368000) : openR tb0 s = (tNone s 0, 1, 0) := by
  unfold openR
  rw [toldE_ok (T := tb0) h0 h1 h0, toldT_ok (T := tb0) h0 h1 h0]
  rfl
theorem last_take {s : Int} {reel : List UInt8} (h0 : 0 ≤ s) (h1 : s ≤ 10378368000) (hn : nmB reel = true) : takeR (tNone s 0) s 1 reel = (tOne s (s + 600) reel, 1, 0) := by
  unfold takeR
  rw [toldE_ok (T := tNone s 0) h0 h1 (Int.le_refl _), toldT_ok (T := tNone s 0) h0 h1 (Int.le_refl _), if_pos rfl, if_pos (by simp [tNone]), if_pos hn]
  rfl
theorem last_none {s : Int} {reel : List UInt8} (h0 : 0 ≤ s) (h1 : s ≤ 10378368000) (hn : nmB reel = false) : takeR (tNone s 0) s 1 reel = (tNone s 0, 0, 5) := by
  unfold takeR
  rw [toldE_ok (T := tNone s 0) h0 h1 (Int.le_refl _), toldT_ok (T := tNone s 0) h0 h1 (Int.le_refl _), if_pos rfl, if_pos (by simp [tNone]), if_neg (by simp [hn])]
  rfl
theorem last_hold (t u s : Int) (reel : List UInt8) : holdV (tOne t u reel) s reel = if u ≤ s then (ls0, false) else (⟨reel, 1, 1, u⟩, true) := by
  unfold holdV
  have e1 : fhas reel (tOne t u reel).lea = true := fhas_self ⟨reel, 1, 1, u⟩
  have e2 : fpos reel (tOne t u reel).lea = 0 := fpos_self ⟨reel, 1, 1, u⟩
  rw [if_pos e1, e2]
  rfl
theorem last_heldI (t u : Int) (reel : List UInt8) : heldI (tOne t u reel) 1 reel 1 = some 0 := by
  unfold heldI
  have e1 : fhas reel (tOne t u reel).lea = true := fhas_self ⟨reel, 1, 1, u⟩
  have e2 : fpos reel (tOne t u reel).lea = 0 := fpos_self ⟨reel, 1, 1, u⟩
  rw [if_pos e1, e2]
  rfl
theorem last_told {t u s : Int} {reel : List UInt8} (h0 : 0 ≤ s) (h1 : s ≤ 10378368000) (h2 : t ≤ s) : toldT (tOne t u reel) s = if s < u then tOne s u reel else tNone s 1 := by
  rw [toldT_ok (T := tOne t u reel) h0 h1 h2]
  simp only [tOne, alive_one]
  split <;> rfl
theorem last_heldE {t u s : Int} {reel : List UInt8} (h0 : 0 ≤ s) (h1 : s ≤ 10378368000) (h2 : t ≤ s) : heldE (tOne t u reel) s 1 reel 1 = if s < u then 0 else 18 := by
  unfold heldE
  rw [toldE_ok (T := tOne t u reel) h0 h1 h2, if_pos rfl, last_told h0 h1 h2]
  split
  · rw [last_heldI]; rfl
  · rfl
theorem last_heldK {t u s : Int} {reel : List UInt8} (h0 : 0 ≤ s) (h1 : s ≤ 10378368000) (h2 : t ≤ s) : heldK (tOne t u reel) s 1 reel 1 = 0 := by
  unfold heldK
  rw [toldE_ok (T := tOne t u reel) h0 h1 h2, if_pos rfl, last_told h0 h1 h2]
  split
  · rw [last_heldI]; rfl
  · rfl
theorem last_renew {t u s : Int} {reel : List UInt8} (h0 : 0 ≤ s) (h1 : s ≤ 10378368000) (h2 : t ≤ s) : renewT (tOne t u reel) s 1 reel 1 = if s < u then tOne s (s + 600) reel else tNone s 1 := by
  unfold renewT
  rw [last_heldE h0 h1 h2, last_heldK h0 h1 h2, last_told h0 h1 h2]
  split <;> rfl
theorem last_release {t u s : Int} {reel : List UInt8} (h0 : 0 ≤ s) (h1 : s ≤ 10378368000) (h2 : t ≤ s) (h3 : s < u) : releaseT (tOne t u reel) s 1 reel 1 = tNone s 1 := by
  unfold releaseT
  rw [last_heldE h0 h1 h2, last_heldK h0 h1 h2, last_told h0 h1 h2, if_pos h3, if_pos rfl, if_pos h3]
  rfl
theorem last_gone {s : Int} {reel : List UInt8} (h0 : 0 ≤ s) (h1 : s ≤ 10378368000) : heldE (tNone s 1) s 1 reel 1 = 18 := by
  unfold heldE
  rw [toldE_ok (T := tNone s 1) h0 h1 (Int.le_refl _), if_pos rfl, toldT_ok (T := tNone s 1) h0 h1 (Int.le_refl _)]
  rfl
theorem cut20 (s : ByteArray) : (s.extract 0 (min s.size 20)) = sB (s.data.toList.take 20) := ByteArray.ext (by
  apply Array.ext'
  simp [sB, Nat.min_comm])
set_option maxRecDepth 100000 in
set_option maxHeartbeats 2000000 in
theorem lasts_law (now later : Int) (reel0 : ByteArray) (w : World) (hs : reel0.size ≤ 9223372036854775807) (ht : Tab w) :
    Calls Tryd.prog 4 #[.int .i64 now, .int .i64 later, .string reel0] w fun e w' => e = .returned (.bool true) ∧ Below w.heap.size w w' := by
  have hn := and_bd now 16777215 (by decide)
  have hr := and_bd later 1023 (by decide)
  rw [show ((16777215 : Nat) : Int) = 16777215 from rfl] at hn
  rw [show ((1023 : Nat) : Int) = 1023 from rfl] at hr
  obtain ⟨n0, n1⟩ := hn
  obtain ⟨r0, r1⟩ := hr
  have e20 : (min (reel0.size : Int) 20).toNat = min reel0.size 20 := by omega
  have HC := Lib.hid (cut20 reel0)
  have HT := Lib.hid ht
  clear ht
  go_enter Tryd.func4, Tryd.ntmps4
  go_wp2_with fail
  refine (awake_any w HT.out).mono ?_
  rintro e w1 ⟨rfl, hb⟩
  have G1 := Lib.hid hb
  clear hb
  go_wp2_with fail
  rw [HC.out]
  generalize List.take 20 _ = reel at *
  generalize bits BinOp.and IntKind.i64 now 16777215 = s at *
  clear hs e20 HC
  refine (new_any w1).mono ?_
  rintro e w2 ⟨rfl, h2, b2, hz2⟩
  obtain ⟨B, hB⟩ : ∃ B, B = w1.heap.size := ⟨_, rfl⟩
  rw [← hB] at h2 b2 ⊢
  have HB := Lib.hid hB
  have H2 := Lib.hid h2
  have G2 := Lib.hid (show Below w.heap.size w w2 from G1.out.trans (b2.mono (by rw [hB]; exact G1.out.size)))
  have F2 := Lib.hid (FrT.refl B B (.slice none 0 0) (.slice none 0 0) w2)
  have hwB : w.heap.size ≤ B := by rw [hB]; exact G1.out.size
  clear h2 b2 hz2 hB
  go_wp2_with fail
  refine (open_any B B _ _ tb0 s w2 H2.out (by decide) (by decide) (by decide)).mono ?_
  rintro e w3 ⟨rfl, s3, l3, h3, f3⟩
  rw [last_open n0 (by omega)] at h3 ⊢
  have H3 := Lib.hid h3
  have F3 := Lib.hid (F2.out.trans f3)
  clear h3 f3
  go_wp2_with fail
  cases hnm : nmB reel with
  | false =>
    refine (take_any B B _ _ (tNone s 0) s 1 reel w3 H3.out asc_nil (by simp [tNone]) (by simp [tNone]) (by simp [tNone]) (by simp [tNone])).mono ?_
    rintro e w4 ⟨rfl, s4, l4, h4, f4⟩
    rw [last_none n0 (by omega) hnm] at h4 ⊢
    have H4 := Lib.hid h4
    have F4 := Lib.hid (F3.out.trans f4)
    clear h4 f4 hnm
    go_wp2_with fail
    refine (leases_any B B _ _ (tNone s 0) s w4 H4.out (by simp [tNone])).mono ?_
    rintro e w5 ⟨⟨v, rfl, hv⟩, hb⟩
    obtain ⟨A, c, rfl, _⟩ := row_of_ownK hv
    have G5 := Lib.hid ((G2.out.trans (F4.out.below.mono hwB)).trans (hb.mono (Nat.le_trans hwB (Nat.le_trans (by have := F4.out.below.size; have := H2.out.lt; omega) (Nat.le_refl _)))))
    have e0 : (alive s (tNone s 0).lea).length = 0 := rfl
    clear hv hb
    go_wp2_with fail
    go_ret
    exact ⟨by simp [e0], G5.out⟩
  | true =>
    refine (take_any B B _ _ (tNone s 0) s 1 reel w3 H3.out asc_nil (by simp [tNone]) (by simp [tNone]) (by simp [tNone]) (by simp [tNone])).mono ?_
    rintro e w4 ⟨rfl, s4, l4, h4, f4⟩
    rw [last_take n0 (by omega) hnm] at h4 ⊢
    have H4 := Lib.hid h4
    have F4 := Lib.hid (F3.out.trans f4)
    clear h4 f4 hnm
    have bt1 : s ≤ s + bits BinOp.and IntKind.i64 later 1023 := by omega
    have bt2 : s + bits BinOp.and IntKind.i64 later 1023 ≤ s + 1023 := by omega
    go_wp2_with fail
    generalize s + bits BinOp.and IntKind.i64 later 1023 = t at *
    refine (holder_any B B _ _ (tOne s (s + 600) reel) t reel w4 H4.out (asc_one _) (by simp [tOne])).mono ?_
    rintro e w5 ⟨rfl, hb⟩
    rw [last_hold]
    have H5 := Lib.hid (H4.out.ext hb)
    have F5 := Lib.hid (F4.out.ext hb (Nat.le_trans H4.out.ge (Nat.le_of_lt H4.out.lt)))
    clear hb
    have hBw5 : B ≤ w5.heap.size := Nat.le_trans H5.out.ge (Nat.le_of_lt H5.out.lt)
    by_cases hlt : t < s + 600
    · rw [if_neg (by omega)]
      unfold lsA
      go_wp2_with fail
      generalize hw6 : World.alloc w5 _ = w6
      have hb : Below w5.heap.size w5 w6 := by subst hw6; exact below_one _ _
      have H6 := Lib.hid (H5.out.ext hb)
      have F6 := Lib.hid (F5.out.ext hb hBw5)
      clear hb hw6
      refine (renew_any B B _ _ (tOne s (s + 600) reel) t 1 reel 1 w6 H6.out (asc_one _) (by simp [tOne])).mono ?_
      rintro e w7 ⟨rfl, s7, l7, h7, f7⟩
      rw [last_renew (by omega) (by omega) bt1, if_pos (by omega)] at h7
      rw [last_heldE (by omega) (by omega) bt1, if_pos (by omega)]
      have H7 := Lib.hid h7
      have F7 := Lib.hid (F6.out.trans f7)
      clear h7 f7
      go_wp2_with fail
      refine (holder_any B B _ _ (tOne t (t + 600) reel) (t + 600 - 1) reel w7 H7.out (asc_one _) (by simp [tOne])).mono ?_
      rintro e w8 ⟨rfl, hb⟩
      rw [last_hold, if_neg (by omega)]
      unfold lsA
      have H8 := Lib.hid (H7.out.ext hb)
      have F8 := Lib.hid (F7.out.ext hb (Nat.le_trans H7.out.ge (Nat.le_of_lt H7.out.lt)))
      clear hb
      have hBw8 : B ≤ w8.heap.size := Nat.le_trans H8.out.ge (Nat.le_of_lt H8.out.lt)
      go_wp2_with fail
      generalize hw9 : World.alloc w8 _ = w9
      obtain ⟨X, hX⟩ : ∃ X, X = w8.heap.size := ⟨_, rfl⟩
      rw [← hX]
      have hb : Below w8.heap.size w8 w9 := by subst hw9; exact below_one _ _
      have HX := Lib.hid (show Held w9 X [.string (sB reel), .int .i64 1, .int .i64 1, .int .i64 (t + 600)] by subst hw9; exact Held.new hX)
      have H9 := Lib.hid (H8.out.ext hb)
      have F9 := Lib.hid (F8.out.ext hb hBw8)
      clear hb hw9 hX
      refine (holder_any B B _ _ (tOne t (t + 600) reel) (t + 600) reel w9 H9.out (asc_one _) (by simp [tOne])).mono ?_
      rintro e w10 ⟨rfl, hb⟩
      rw [last_hold, if_pos (by omega)]
      unfold lsA ls0
      have H10 := Lib.hid (H9.out.ext hb)
      have F10 := Lib.hid (F9.out.ext hb (Nat.le_trans H9.out.ge (Nat.le_of_lt H9.out.lt)))
      have HX10 := Lib.hid (HX.out.ext hb)
      clear hb
      have hBw10 : B ≤ w10.heap.size := Nat.le_trans H10.out.ge (Nat.le_of_lt H10.out.lt)
      have q := HX10.out.cell
      have hXw := HX10.out.lt
      go_wp2_with fail
      generalize hw11 : World.alloc w10 _ = w11
      have hb : Below w10.heap.size w10 w11 := by subst hw11; exact below_one _ _
      have H11 := Lib.hid (H10.out.ext hb)
      have F11 := Lib.hid (F10.out.ext hb hBw10)
      clear hb hw11 q
      refine (release_any B B _ _ (tOne t (t + 600) reel) t 1 reel 1 w11 H11.out (asc_one _) (by simp [tOne])).mono ?_
      rintro e w12 ⟨rfl, s12, l12, h12, f12⟩
      rw [last_release (by omega) (by omega) (Int.le_refl _) (by omega)] at h12
      rw [last_heldE (by omega) (by omega) (Int.le_refl _), if_pos (by omega)]
      have H12 := Lib.hid h12
      have F12 := Lib.hid (F11.out.trans f12)
      clear h12 f12
      go_wp2_with fail
      refine (release_any B B _ _ (tNone t 1) t 1 reel 1 w12 H12.out asc_nil (by simp [tNone])).mono ?_
      rintro e w13 ⟨rfl, s13, l13, h13, f13⟩
      rw [last_gone (by omega) (by omega)]
      have F13 := Lib.hid (F12.out.trans f13)
      clear h13 f13
      go_wp2_with fail
      go_ret
      exact ⟨by simp, G2.out.trans (F13.out.below.mono hwB)⟩
    · rw [if_pos (by omega)]
      unfold lsA ls0
      go_wp2_with fail
      generalize hw6 : World.alloc w5 _ = w6
      have hb : Below w5.heap.size w5 w6 := by subst hw6; exact below_one _ _
      have H6 := Lib.hid (H5.out.ext hb)
      have F6 := Lib.hid (F5.out.ext hb hBw5)
      clear hb hw6
      refine (renew_any B B _ _ (tOne s (s + 600) reel) t 1 reel 1 w6 H6.out (asc_one _) (by simp [tOne])).mono ?_
      rintro e w7 ⟨rfl, s7, l7, h7, f7⟩
      rw [last_heldE (by omega) (by omega) bt1, if_neg (by omega)]
      have F7 := Lib.hid (F6.out.trans f7)
      clear h7 f7
      go_wp2_with fail
      go_ret
      exact ⟨by simp, G2.out.trans (F7.out.below.mono hwB)⟩
end Go.Proofs.YtmadiakafeofeaaDoor
