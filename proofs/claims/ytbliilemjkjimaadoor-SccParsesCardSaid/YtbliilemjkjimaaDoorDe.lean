/-
  The contract of pairs of the reference of layer 31. Its conditions are its hypotheses.
-/
import Derived.Test.YtbliilemjkjimaaDoorDd
namespace Go.Proofs.YtbliilemjkjimaaDoor
open Go.RowKit Go.Joins
set_option linter.unusedVariables false
set_option linter.unusedSimpArgs false
theorem value_is {c : UInt8} {z : Int} (h : valV c = z) (w : World) : Calls Tryd.prog 67 #[.int .u8 c.toNat] w fun e w' => e = .returned (.int .i64 z) ∧ w = w' := by rw [← h]; exact value_any c w
/-- The pairs of the digits behind place i + 1: the first m of them. -/
def DigAt (s : ByteArray) (i m : Nat) (us : List UInt8) : Prop := us.length = m ∧ ∀ q, q < m → bv (bt s (i + 1 + 2 * q)) (bt s (i + 2 + 2 * q)) = us[q]?
theorem DigAt.snoc {s : ByteArray} {i m : Nat} {us : List UInt8} {u : UInt8} (h : DigAt s i m us) (hu : bv (bt s (i + 1 + 2 * m)) (bt s (i + 2 + 2 * m)) = some u) : DigAt s i (m + 1) (us ++ [u]) := by
  refine ⟨by simp [h.1], fun q hq => ?_⟩
  by_cases hm : q = m
  · subst hm
    rw [hu, List.getElem?_append_right (by rw [h.1]; exact Nat.le_refl _), h.1]
    simp
  · rw [h.2 q (by omega), List.getElem?_append_left (by rw [h.1]; omega)]
theorem DigAt.two {s : ByteArray} {i : Nat} {us : List UInt8} (h : DigAt s i 2 us) : ∃ u v, us = [u, v] ∧ bv (bt s (i + 1)) (bt s (i + 2)) = some u ∧ bv (bt s (i + 3)) (bt s (i + 4)) = some v := by
  obtain ⟨h1, h2⟩ := h
  match us, h1 with
  | [u, v], _ => exact ⟨u, v, rfl, h2 0 (by omega), h2 1 (by omega)⟩
set_option maxRecDepth 100000 in
set_option maxHeartbeats 2000000 in
theorem pairsr_any (s : ByteArray) (w : World) (hs : s.size ≤ 1000) :
    Calls Tryd.prog 43 #[.string s] w (PairsP s.data.toList w.heap.size w) := by
  obtain ⟨i0, hi, hz0, hz1, hz2⟩ := info_parts i5
  have HI0 := Lib.hid (And.intro hi (And.intro hz0 (And.intro hz1 hz2)))
  clear hi hz0 hz1 hz2
  obtain ⟨B, hB⟩ : ∃ B, B = w.heap.size := ⟨_, rfl⟩
  have HB := Lib.hid hB
  rw [← hB]
  clear hB
  by_cases he : s = ⟨#[]⟩
  · subst he
    have FB := Lib.hid (show Below B w w by rw [HB.out]; exact Below.refl _ _)
    go_enter Tryd.func43, Tryd.ntmps43
    go_wp2_with fail
    go_ret2
    exact PairsP.bad (k := 0) rfl FB.out
  · have HNE := Lib.hid (show s.data.toList ≠ [] from fun e => he (ByteArray.ext (Array.toList_inj.1 e)))
    have HPV := Lib.hid (show prV s.data.toList = prL 0 s.data.toList by rw [prV, if_neg HNE.out])
    have ht1 : s.toList.isEmpty = false := by rw [Lib.toList_data]; simpa using HNE.out
    have ht2 : (s.toList == []) = false := by rw [Lib.toList_data, beq_eq_false_iff_ne]; exact HNE.out
    have ht3 : ¬ s.toList = [] := by rw [Lib.toList_data]; exact HNE.out
    clear he
    go_enter Tryd.func43, Tryd.ntmps43
    go_wp2_with fail
    clear ht1 ht2 ht3
    go_loopw [4, 5] (fun o i wr => ∃ (ii : Nat) (Q : List Pr) (ov : Value), ov = o ∧ ii ≤ s.size ∧ i = .int .i64 ii ∧ Hid (2 * Q.length ≤ ii) ∧ Hid (wr.ownsRow B 5 1 ov (2 * Q.length) ((flat Q).map byteV)) ∧ Hid (Below B w wr) ∧ Hid (PrAt s ii Q)) (fun _ i _ => s.size - (intOf i).toNat)
    case atStart => exact ⟨0, [], _, rfl, by omega, rfl, Lib.hid (by simp), Lib.hid (World.ownsRow_nil _ _ _ _), Lib.hid (by rw [HB.out]; exact Below.refl _ _), Lib.hid (PrAt.start s)⟩
    case round =>
      obtain ⟨ii, Q, ov, rfl, hii, rfl, HQL, HO, G, HP⟩ := hrel
      by_cases hlt : ii < s.size
      · have g1 : (ii : Int) < (s.size : Int) := by omega
        have g0 : (0 : Int) ≤ (ii : Int) := by omega
        by_cases h5 : s.size < ii + 5
        · have HE := Lib.hid (HPV.out.trans (HP.out.fail (prL_short hlt h5)))
          have g2 : (s.size : Int) - (ii : Int) < 5 := by omega
          go_wp2_with fail
          go_ret2
          exact PairsP.bad HE.out G.out
        · have g2 : ¬ (s.size : Int) - (ii : Int) < 5 := by omega
          have ix := fun w' => idx_str (s := s) (x := (ii : Int)) (j := ii) rfl hlt w'
          by_cases h32 : bt s ii = 32
          · have t0 : (((bt s ii).toNat : Int) != 32) = false := by rw [h32]; rfl
            have H32 := Lib.hid h32
            clear h32
            go_wp2_with fail
            clear ix t0
            obtain ⟨bo, hbo⟩ : ∃ bo : UInt8, bo = bt s ii := ⟨_, rfl⟩
            go_loopw [4, 6] (fun o k wr => ∃ (m kk : Nat) (us : List UInt8) (ov : Value), ov = o ∧ m ≤ 2 ∧ Hid (kk = ii + 1 + 2 * m) ∧ kk ≤ 5 + ii ∧ k = .int .i64 kk ∧ Hid (wr.ownsRow B 5 1 ov (2 * Q.length + m) ((flat Q ++ us).map byteV)) ∧ Hid (Below B w wr) ∧ Hid (DigAt s ii m us)) (fun _ k _ => ii + 7 - (intOf k).toNat)
            case atStart => exact ⟨0, ii + 1, [], _, rfl, by omega, Lib.hid (by omega), by omega, by go_num, by simpa using HO, G, Lib.hid ⟨rfl, fun q h => by omega⟩⟩
            case round =>
              obtain ⟨m, kk, us, ov, rfl, hm, HK, hk5, rfl, HO, G, HD⟩ := hrel
              have hkk := HK.out
              have hBw : B ≤ wr.heap.size := by have := G.out.size; have := HB.out; omega
              by_cases hm2 : m < 2
              · have g3 : (kk : Int) < (ii : Int) + 5 := by omega
                have g4 : (kk : Int) + 1 < (s.size : Int) := by omega
                have ix1 := fun w' => idx_str (s := s) (x := (kk : Int)) (j := kk) rfl (by omega) w'
                have ix2 := fun w' => idx_str (s := s) (x := (kk : Int) + 1) (j := kk + 1) (by omega) (by omega) w'
                have s1 : IntKind.i64.wrap ((kk : Int) + 1) = (kk : Int) + 1 := IntWalk.i64_in _ (by omega)
                have g6 : (0 : Int) ≤ (kk : Int) := by omega
                have g7 : (0 : Int) ≤ (kk : Int) + 1 := by omega
                have g8 : (kk : Int) < (s.size : Int) := by omega
                have HBV := Lib.hid (show bt s (ii + 1 + 2 * m) = bt s kk ∧ bt s (ii + 2 + 2 * m) = bt s (kk + 1) by rw [hkk]; exact ⟨rfl, by congr 1; omega⟩)
                have HBAD := Lib.hid (show bv (bt s kk) (bt s (kk + 1)) = none → prV s.data.toList = .error ii from fun h => HPV.out.trans (HP.out.fail (prL_digit (by omega) (by
                  have : m = 0 ∨ m = 1 := by omega
                  rcases this with rfl | rfl
                  · left; rw [← h, hkk]
                  · right; rw [← h, hkk])))) 
                clear hkk
                generalize bt s kk = ca at *
                generalize bt s (kk + 1) = cb at *
                have HA := Lib.hid (fun w' => value_is (c := ca) rfl w')
                have HBB := Lib.hid (fun w' => value_is (c := cb) rfl w')
                rcases valV_hv ca with ⟨ha, ha2⟩ | ⟨x, ha, ha2, hx⟩
                · have HE := Lib.hid (HBAD.out (bv_none_l ha2))
                  generalize valV ca = za at *
                  generalize valV cb = zb at *
                  clear ha2
                  go_wp2_with fail
                  go_quiet (first | (go_at_call_of 67 (Value.int .u8 ca.toNat); exact quiet_left (HA.out _)) | (go_at_call_of 67 (Value.int .u8 cb.toNat); exact quiet_left (HBB.out _)))
                  generalize hw4 : wr.drewN _ = w4
                  have G4 := Lib.hid (show Below B w w4 by subst hw4; exact below_drewN G.out _)
                  clear hw4
                  go_wp2_with fail
                  go_ret2
                  exact PairsP.bad HE.out G4.out
                · rcases valV_hv cb with ⟨hb, hb2⟩ | ⟨y, hb, hb2, hy⟩
                  · have HE := Lib.hid (HBAD.out (bv_none_r hb2))
                    rw [ha] at HA
                    generalize valV cb = zb at *
                    clear ha ha2 hb2
                    go_wp2_with fail
                    go_quiet (first | (go_at_call_of 67 (Value.int .u8 ca.toNat); exact quiet_left (HA.out _)) | (go_at_call_of 67 (Value.int .u8 cb.toNat); exact quiet_left (HBB.out _)))
                    generalize hw4 : wr.drewN _ = w4
                    have G4 := Lib.hid (show Below B w w4 by subst hw4; exact below_drewN G.out _)
                    clear hw4
                    go_wp2_with fail
                    go_ret2
                    exact PairsP.bad HE.out G4.out
                  · have HBS := Lib.hid (bv_some ha2 hb2)
                    rw [ha] at HA
                    rw [hb] at HBB
                    have hx' : (x : Int) ≤ 15 := by omega
                    have hy' : (y : Int) ≤ 15 := by omega
                    clear ha ha2 hb hb2
                    go_wp2_with fail
                    go_quiet (first | (go_at_call_of 67 (Value.int .u8 ca.toNat); exact quiet_left (HA.out _)) | (go_at_call_of 67 (Value.int .u8 cb.toNat); exact quiet_left (HBB.out _)))
                    generalize hw4 : wr.drewN _ = w4
                    have G4 := Lib.hid (show Below B w w4 by subst hw4; exact below_drewN G.out _)
                    have HO4 := Lib.hid (show w4.ownsRow B 5 1 ov (2 * Q.length + m) ((flat Q ++ us).map byteV) by subst hw4; exact ownsRow_below HO.out (below_drewN (Below.refl _ _) _) (Nat.le_refl _))
                    have hB4 : B ≤ w4.heap.size := by subst hw4; exact hBw
                    have HU := Lib.hid (show byteV (UInt8.ofNat (16 * x + y)) = .int .u8 (16 * (x : Int) + (y : Int)) by
                      unfold byteV
                      rw [UInt8.toNat_ofNat']
                      congr 1
                      omega)
                    clear hw4
                    go_wp2_with (at_builtin; go_loud (refine wpList_append_own _ rfl _ _ 22 rfl B 5 i0 (.int .u8 0) 1 1 Tryd.underlying22 HI0.out.1 HI0.out.2.1 HI0.out.2.2.1 HI0.out.2.2.2 rfl (by decide) ov (2 * Q.length + m) ((flat Q ++ us).map byteV) rfl (HO4.out.alloc _) ⟨w4.heap.size, 0, none⟩ 1 1 [.int .u8 (16 * (x : Int) + (y : Int))] rfl rfl (CellsAt.all (by simp [CellsAt, go_sem])) (by simp [Value.oneCell']) (by simp only [maxLen]; have := HQL.out; omega) (by have := HQL.out; omega) (by simp; omega) ?_))
                    intro o' w5 ho hgr _
                    have G5 := Lib.hid (show Below B w w5 from ((G4.out.alloc hB4 _).grown hgr (by simp; omega) (own_base HO4.out)))
                    have HO5 := Lib.hid (show w5.ownsRow B 5 1 o' (2 * Q.length + (m + 1)) ((flat Q ++ (us ++ [UInt8.ofNat (16 * x + y)])).map byteV) by
                      rw [show (flat Q ++ (us ++ [UInt8.ofNat (16 * x + y)])).map byteV = (flat Q).map byteV ++ (us.map byteV ++ [Value.int .u8 (16 * (x : Int) + (y : Int))]) by simp only [List.map_append, List.map_cons, List.map_nil, HU.out], ← Nat.add_assoc]
                      exact ho)
                    clear ho hgr
                    go_wp2_with fail
                    go_roundw
                    case rel => exact ⟨m + 1, kk + 2, us ++ [UInt8.ofNat (16 * x + y)], _, rfl, by omega, Lib.hid (by have := HK.out; omega), by have := HK.out; omega, by go_num, HO5, G5, Lib.hid (HD.out.snoc (by rw [HBV.out.1, HBV.out.2]; exact HBS.out))⟩
                    case measure => simp [intOf]; omega
              · have hm3 : m = 2 := by omega
                subst hm3
                have g3 : ¬ (kk : Int) < (ii : Int) + 5 := by omega
                obtain ⟨u, v, rfl, hu, hv⟩ := HD.out.two
                have HN := Lib.hid (HP.out.next (by omega) H32.out hu hv)
                have HO5 := Lib.hid (show wr.ownsRow B 5 1 ov (2 * (Q ++ [(u, v)]).length) ((flat (Q ++ [(u, v)])).map byteV) by
                  have h1 := HO.out
                  rw [flat_app, List.length_append]
                  exact h1)
                have HQ2 := Lib.hid (show 2 * (Q ++ [(u, v)]).length ≤ ii + 5 by have := HQL.out; simp; omega)
                clear hkk hu hv
                go_wp2_with fail
                go_roundw
                case rel => exact ⟨ii + 5, Q ++ [(u, v)], _, rfl, by omega, by go_num, HQ2, HO5, G, HN⟩
                case measure => simp [intOf]; omega
          · have t0 : (((bt s ii).toNat : Int) != 32) = true := bne_byte h32
            have HE := Lib.hid (HPV.out.trans (HP.out.fail (prL_blank (by omega) h32)))
            clear h32
            go_wp2_with fail
            go_ret2
            exact PairsP.bad HE.out G.out
      · have g1 : ¬ (ii : Int) < (s.size : Int) := by omega
        have HE := Lib.hid (HPV.out.trans (HP.out.done (by omega)))
        go_wp2_with fail
        go_ret2
        exact PairsP.good HE.out HO.out G.out
end Go.Proofs.YtbliilemjkjimaaDoor
