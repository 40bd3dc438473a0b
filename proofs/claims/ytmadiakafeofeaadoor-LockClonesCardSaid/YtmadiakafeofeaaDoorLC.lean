/-
  The contract of the law LockClones. Its conditions are its hypotheses.
-/
import Derived.Test.YtmadiakafeofeaaDoorLT
import Derived.Test.YtmadiakafeofeaaDoorMC
namespace Go.Proofs.YtmadiakafeofeaaDoor
open Go.RowKit Go.Joins
set_option linter.unusedVariables false
set_option linter.unusedSimpArgs false
theorem clo_o : openR tb0 1 = (tNone 1 0, 1, 0) := last_open (by decide) (by decide)
theorem clo_t : takeR (tNone 1 0) 1 1 reelR1 = (tOne 1 601 reelR1, 1, 0) := last_take (by decide) (by decide) (by kernel_rfl)
theorem clo_fit : Fit (tOne 1 601 reelR1) := by
  refine ⟨by decide, by decide, by decide, by decide, by decide, by decide, ?_⟩
  intro x hx
  simp [tOne] at hx
  subst hx
  exact ⟨by decide, by decide, by decide, by decide⟩
theorem clo_l : alive 1 (tOne 1 601 reelR1).lea = [⟨reelR1, 1, 1, 601⟩] := by kernel_rfl
set_option maxRecDepth 100000 in
set_option maxHeartbeats 4000000 in
theorem clones_law (k : Int) (r : Bool) (l u f : Int) (s : ByteArray) (w : World) (hs : s.size ≤ 9223372036854775807) (ht : Tab w) :
    Calls Tryd.prog 6 #[actV k r l u f s] w fun e w' => e = .returned (.bool true) ∧ Below w.heap.size w w' := by
  have e20 : (min (s.size : Int) 20).toNat = min s.size 20 := by omega
  have HC := Lib.hid (cut20 s)
  have HT := Lib.hid ht
  clear ht
  obtain ⟨D, hD⟩ : ∃ D, D = w.heap.size := ⟨_, rfl⟩
  rw [← hD]
  go_enter Tryd.func6, Tryd.ntmps6
  go_wp2_with fail
  rw [← hD]
  generalize hw0 : World.alloc _ _ = w0
  have HA := Lib.hid (show Held w0 D [.int .u8 k, .bool r, .int .i64 l, .int .i64 u, .int .i64 f, .string s] by subst hw0; exact Held.new hD)
  have G0 := Lib.hid (show Below D w w0 by subst hw0; rw [hD]; exact below_one _ _)
  have HTB := Lib.hid (show Lib.TabBelow Tryd.prog D w "internal/strconv.uint64pow10" .u64 Lib.pow10Tab from hD ▸ Lib.tabBelow_of_tabIs HT.out)
  clear hw0 hD HT
  refine (awake_any w0 ((HTB.out.on G0.out).here)).mono ?_
  rintro e w1 ⟨rfl, hb⟩
  have G1 := Lib.hid (G0.out.trans (hb.mono (Nat.le_of_lt HA.out.lt)))
  have HA1 := Lib.hid (HA.out.ext hb)
  clear hb HA G0
  have q := HA1.out.cell
  have hDw := HA1.out.lt
  go_wp2_with fail
  rw [HC.out]
  generalize List.take 20 _ = reel at *
  clear q hs e20 HC
  refine (new_any w1).mono ?_
  rintro e w2 ⟨rfl, h2, b2, hz2⟩
  obtain ⟨B, hB⟩ : ∃ B, B = w1.heap.size := ⟨_, rfl⟩
  rw [← hB] at h2 b2 ⊢
  have hDB : D < B := by rw [hB]; exact HA1.out.lt
  have H2 := Lib.hid h2
  have G2 := Lib.hid (show Below D w w2 from G1.out.trans (b2.mono (Nat.le_of_lt hDB)))
  have F2 := Lib.hid (FrT.refl B B (.slice none 0 0) (.slice none 0 0) w2)
  clear h2 b2 hz2 hB HA1 G1 hDw
  go_wp2_with fail
  refine (open_any B B _ _ tb0 1 w2 H2.out (by decide) (by decide) (by decide)).mono ?_
  rintro e w3 ⟨rfl, s3, l3, h3, f3⟩
  rw [clo_o] at h3
  have H3 := Lib.hid h3
  have F3 := Lib.hid (F2.out.trans f3)
  clear h3 f3
  go_wp2_with fail
  refine (take_any B B _ _ (tNone 1 0) 1 1 reelR1 w3 H3.out asc_nil (by decide) (by decide) (by decide) (by decide)).mono ?_
  rintro e w4 ⟨rfl, s4, l4, h4, f4⟩
  rw [clo_t] at h4
  have H4 := Lib.hid h4
  have F4 := Lib.hid (F3.out.trans f4)
  clear h4 f4
  go_wp2_with fail
  refine (text_any B B _ _ (tOne 1 601 reelR1) w4 H4.out clo_fit ((HTB.out.on (G2.out.trans (F4.out.below.mono (Nat.le_of_lt hDB)))).here)).mono ?_
  rintro e w5 ⟨rfl, hb⟩
  have H5 := Lib.hid (H4.out.ext hb)
  have F5 := Lib.hid (F4.out.ext hb (Nat.le_trans H4.out.ge (Nat.le_of_lt H4.out.lt)))
  have G5 := Lib.hid (show Below D w w5 from G2.out.trans (F5.out.below.mono (Nat.le_of_lt hDB)))
  generalize hS : sB (textT (tOne 1 601 reelR1)) = S
  have HS := Lib.hid hS
  have hBw5 : B ≤ w5.heap.size := Nat.le_trans H5.out.ge (Nat.le_of_lt H5.out.lt)
  clear hb hS F2 F3 F4 F5 H2 H3 H4
  go_wp2_with fail
  refine (cloneT_any B B _ _ (tOne 1 601 reelR1) w5 H5.out (by decide) (by decide)).mono ?_
  rintro e w6 ⟨rfl, ⟨s6, l6, h6⟩, b6⟩
  obtain ⟨C, hC⟩ : ∃ C, C = w5.heap.size := ⟨_, rfl⟩
  rw [← hC] at h6 b6 ⊢
  have HCC := Lib.hid hC
  have hDC : D ≤ C := by omega
  have H6 := Lib.hid h6
  have K6 := Lib.hid b6
  clear h6 b6 hC
  obtain ⟨U1, hU1⟩ : ∃ U1, U1 = (takeR (tOne 1 601 reelR1) 2 1 reel).1 := ⟨_, rfl⟩
  have A1 := Lib.hid (show Asc U1.lea by rw [hU1]; exact take_asc (asc_one _))
  obtain ⟨a1, a2, a3, a4, a5⟩ := take_len (tOne 1 601 reelR1) 2 1 reel
  rw [← hU1] at a1 a2 a3 a4 a5
  have HU1 := Lib.hid hU1
  have n1 : U1.lea.length ≤ 2 := a1
  obtain ⟨U2, hU2⟩ : ∃ U2, U2 = releaseT U1 3 1 reelR1 1 := ⟨_, rfl⟩
  obtain ⟨c1, c2, c3, c4⟩ := release_len U1 3 1 reelR1 1
  rw [← hU2] at c1 c2 c3 c4
  have HU2 := Lib.hid hU2
  have n2 : U2.lea.length ≤ 2 := by omega
  have n3 : U2.ls = 1 := c4.trans a5
  have N3 := Lib.hid n3
  clear a1 a2 a3 a4 a5 c1 c2 c3 c4 hU1 hU2 n3
  go_wp2_with fail
  refine (take_any C C _ _ (tOne 1 601 reelR1) 2 1 reel w6 H6.out (asc_one _) (by decide) (by decide) (by decide) (by decide)).mono ?_
  rintro e w7 ⟨rfl, s7, l7, h7, f7⟩
  rw [← HU1.out] at h7
  have H7 := Lib.hid h7
  have K7 := Lib.hid (K6.out.trans f7.below)
  clear h7 f7 K6 H6
  go_wp2_with fail
  refine (release_any C C _ _ U1 3 1 reelR1 1 w7 H7.out A1.out (by omega)).mono ?_
  rintro e w8 ⟨rfl, s8, l8, h8, f8⟩
  rw [← HU2.out] at h8
  have H8 := Lib.hid h8
  have K8 := Lib.hid (K7.out.trans f8.below)
  clear h8 f8 K7 H7
  go_wp2_with fail
  refine (open_any C C _ _ U2 4 w8 H8.out (by omega) (by rw [N3.out]; decide) (by rw [N3.out]; decide)).mono ?_
  rintro e w9 ⟨rfl, s9, l9, h9, f9⟩
  have K9 := Lib.hid (K8.out.trans f9.below)
  clear h9 f9 K8 H8
  have H9 := Lib.hid (H5.out.ext (HCC.out ▸ K9.out))
  go_wp2_with fail
  refine (leases_any B B _ _ (tOne 1 601 reelR1) 1 w9 H9.out (by decide)).mono ?_
  rintro e w10 ⟨⟨v, rfl, hv⟩, b10⟩
  rw [clo_l] at hv
  obtain ⟨g, cap, rfl, hgE, hgw⟩ := hv.form (by decide)
  have HE := Lib.hid hv
  have hEC : C ≤ w9.heap.size := by have := K9.out.size; have := HCC.out; omega
  have hCg : C ≤ g := by omega
  have K10 := Lib.hid (K9.out.trans (b10.mono hEC))
  clear hv b10 K9 H9 hgE
  go_wp2_with fail
  go_loopw [7] (fun i wr => ∃ k : Nat, k ≤ 1 ∧ i = .int .i64 k ∧ Hid (k = 0 → wr = w10) ∧ Hid (Below C w5 wr)) (fun i _ => 1 - (intOf i).toNat)
  case atStart => exact ⟨0, by omega, rfl, Lib.hid (fun _ => rfl), K10⟩
  case round =>
    obtain ⟨k, hk, rfl, HZ, KK⟩ := hrel
    by_cases hlt : k < 1
    · obtain rfl : k = 0 := by omega
      obtain rfl := HZ.out rfl
      have q0 : wr.cell? ⟨g, 0, none⟩ = some (.string (sB reelR1)) := by
        have := HE.out.cells (g := g) rfl 0 _ rfl
        rwa [Addr.add_lit] at this
      have y0 : wr.frozen? ⟨g, 0, none⟩ = false := by
        obtain ⟨cur, hc⟩ := own_block HE.out (g := g) rfl
        exact unfrozen_of_block hc _
      clear HZ
      go_wp2_with fail
      go_roundw
      case rel => exact ⟨1, by omega, by go_num, Lib.hid (fun h => by omega), Lib.hid (KK.out.setCell (p := ⟨g, 0, none⟩) hCg _)⟩
      case measure => simp [intOf]
    · obtain rfl : k = 1 := by omega
      have H11 := Lib.hid (H5.out.ext (HCC.out ▸ KK.out))
      have G11 := Lib.hid (G5.out.trans (KK.out.mono hDC))
      clear hlt HZ
      go_wp2_with fail
      refine (text_any B B _ _ (tOne 1 601 reelR1) wr H11.out clo_fit ((HTB.out.on G11.out).here)).mono ?_
      rintro e w12 ⟨rfl, hb⟩
      rw [HS.out]
      have G12 := Lib.hid (G11.out.trans (hb.mono (Nat.le_trans (Nat.le_trans (Nat.le_of_lt hDB) H11.out.ge) (Nat.le_of_lt H11.out.lt))))
      have hDz : D ≤ w12.heap.size := by have := hb.size; have := H11.out.lt; have := H11.out.ge; omega
      clear hb
      go_wp2_with (first | (go_at_call 9; refine (open_nil _ _).mono ?_; rintro e w' ⟨rfl, rfl⟩) | (go_at_call 10; refine (take_nil _ _ _ _).mono ?_; rintro e w' ⟨rfl, rfl⟩))
      refine (holder_nil _ _ w12).mono ?_
      rintro e w13 ⟨rfl, hb⟩
      unfold lsA ls0
      have G13 := Lib.hid (G12.out.trans (hb.mono hDz))
      have hDy : D ≤ w13.heap.size := by have := hb.size; omega
      clear hb
      go_wp2_with fail
      generalize hw14 : World.alloc w13 _ = w14
      have hb : Below w13.heap.size w13 w14 := by subst hw14; exact below_one _ _
      have G14 := Lib.hid (G13.out.trans (hb.mono hDy))
      have hDx : D ≤ w14.heap.size := by have := hb.size; omega
      clear hb hw14
      refine (close_nil _ _ w14).mono ?_
      rintro e w15 ⟨rfl, hb⟩
      have G15 := Lib.hid (G14.out.trans (hb.mono hDx))
      clear hb
      go_wp2_with (first | (go_at_call 14; refine (renew_nil _ _ _ _ _).mono ?_; rintro e w' ⟨rfl, rfl⟩) | (go_at_call 15; refine (release_nil _ _ _ _ _).mono ?_; rintro e w' ⟨rfl, rfl⟩) | (go_at_call 11; refine (check_nil _ _ _ _ _).mono ?_; rintro e w' ⟨rfl, rfl⟩) | (go_at_call 13; refine (leases_nil _ _).mono ?_; rintro e w' ⟨rfl, rfl⟩) | (go_at_call 19; refine (sessions_nil _).mono ?_; rintro e w' ⟨rfl, rfl⟩) | (go_at_call 16; refine (text_nil _).mono ?_; rintro e w' ⟨rfl, rfl⟩) | (go_at_call 18; refine (clone_nil _).mono ?_; rintro e w' ⟨rfl, rfl⟩))
      go_ret
      exact ⟨by simp, G15.out⟩
end Go.Proofs.YtmadiakafeofeaaDoor
