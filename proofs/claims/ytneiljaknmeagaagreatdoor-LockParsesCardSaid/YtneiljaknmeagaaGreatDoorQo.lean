/-
  The contract of Parse in the reference. Its conditions are its hypotheses.
-/
import Derived.Test.YtneiljaknmeagaaGreatDoorQd
import Derived.Test.YtneiljaknmeagaaGreatDoorQr
import Derived.Test.YtneiljaknmeagaaGreatDoorQn
import Derived.Test.YtneiljaknmeagaaGreatDoorAp
namespace Go.Proofs.YtneiljaknmeagaaGreatDoor
open Go.RowKit Go.Joins
set_option linter.unusedVariables false
set_option linter.unusedSimpArgs false
def PhiLeY (P g fo gb go n fc cp ll lc : Nat) (LA : Option Addr) (x : Ls) (E : Nat) (M : List Ls) : Nat → Value → Prop
  | 124, v => v = .pointer (some ⟨P, 4, none⟩)
  | 125, v => v = .slice LA ll lc
  | 126, v => v = .slice (some ⟨g, fo, none⟩) n fc
  | 127, v => v = .pointer (some ⟨g, fo + 1, none⟩)
  | 128, v => v = .string (sB x.reel)
  | 129, v => v = .slice (some ⟨gb, go, none⟩) 3 cp
  | 130, v => v = .pointer (some ⟨gb, go, none⟩)
  | 131, v => v = .int .i64 x.ses
  | 132, v => v = .slice (some ⟨gb, go, none⟩) 3 cp
  | 133, v => v = .pointer (some ⟨gb, go + 1, none⟩)
  | 134, v => v = .int .i64 x.fen
  | 135, v => v = .slice (some ⟨gb, go, none⟩) 3 cp
  | 136, v => v = .pointer (some ⟨gb, go + 2, none⟩)
  | 137, v => v = .int .i64 x.unt
  | 138, v => v = lsA x
  | 141, v => v = .pointer (some ⟨P, 4, none⟩)
  | _, _ => True
def PhiLe (P g fo gb go n fc cp ll lc : Nat) (LA : Option Addr) (x : Ls) (E : Nat) (M : List Ls) (sl : Nat) (v : Value) (w : World) : Prop := PhiLeY P g fo gb go n fc cp ll lc LA x E M sl v ∧ (sl = 139 → ∃ h, v = .slice (some ⟨h, 0, none⟩) 1 1 ∧ E ≤ h ∧ Held w h (lsV x)) ∧ (sl = 140 → ∃ gg cap, v = .slice (some ⟨gg, 0, none⟩) (ll + 1) cap ∧ w.ownsRow P 49 4 v (ll + 1) (M.flatMap lsV))
theorem PhiLe.ext (P g fo gb go n fc cp ll lc : Nat) (LA : Option Addr) (x : Ls) (E : Nat) (M : List Ls) {w w' : World} (hb : Below w.heap.size w w') : ∀ sl v, PhiLe P g fo gb go n fc cp ll lc LA x E M sl v w → PhiLe P g fo gb go n fc cp ll lc LA x E M sl v w' := fun sl v h => ⟨h.1, fun e => let ⟨h1, h2, h3, h4⟩ := h.2.1 e; ⟨h1, h2, h3, h4.ext hb⟩, fun e => let ⟨g1, g2, g3, g4⟩ := h.2.2 e; ⟨g1, g2, g3, own_ext g4 hb⟩⟩
/-- Behind the append. -/
def PostLe (P : Nat) (w0 : World) (v : Value) (w : World) : Prop := Below P w0 w ∧ ∀ h, h < w0.heap.size → v.ownBlock ≠ some h → w.heap[h]? = w0.heap[h]?
set_option maxRecDepth 100000 in
theorem slice_at {w : World} {g o n c k : Nat} {kk : Int} (hkk : kk = (k : Int)) {xs : List (List UInt8)} (hr : RowAt w (some ⟨g, o, none⟩) (xs.map strV)) (us : List (List UInt8)) (hd : xs.drop k = us) (hn : n = us.length + k) (hc : n ≤ c) :
    ∃ A c1, (∀ w', (Instr.slice 60 (.slice (some ⟨g, o, none⟩) n c) (some (.int .i64 kk)) none none).run Tryz.prog w' = .ok (.slice A us.length c1) w') ∧ RowAt w A (us.map strV) := by
  subst hkk
  by_cases hk : c = k
  · refine ⟨some ⟨g, o, none⟩, 0, fun w' => ?_, ?_⟩
    · have hu : us.length = 0 := by omega
      have h1 : (0 : Int) ≤ (k : Int) := by omega
      have h2 : (k : Int) ≤ (n : Int) := by omega
      rw [run_slice_l (ht := Tryz.underlying60) (h0 := h1) (h1 := h2)]
      simp [go_sem, sliced, hk, hn, hu]
    · have hu : us = [] := List.eq_nil_of_length_eq_zero (by omega)
      rw [hu]
      exact RowAt.nil _ _
  · refine ⟨some ⟨g, o + k, none⟩, c - k, fun w' => ?_, ?_⟩
    · have h1 : (0 : Int) ≤ (k : Int) := by omega
      have h2 : (k : Int) ≤ (n : Int) := by omega
      rw [run_slice_l (ht := Tryz.underlying60) (h0 := h1) (h1 := h2)]
      simp [go_sem, sliced, hk, hn]
    · intro j u hj
      rw [← hd, List.map_drop, List.getElem?_drop] at hj
      obtain ⟨b', o', e, hc'⟩ := hr (k + j) u hj
      cases e
      exact ⟨g, o + k, rfl, by rw [Nat.add_assoc]; exact hc'⟩
theorem wayN (k n : Nat) (w0 : List UInt8) (T : Tb) : (k = 0 ∧ w0 = locksW ∧ n = 4) ∨ (k = 0 ∧ w0 ≠ locksW) ∨ (k = 0 ∧ w0 = locksW ∧ n ≠ 4) ∨ (0 < k ∧ w0 = sessionW ∧ n = 2 ∧ T.lea = []) ∨ (0 < k ∧ w0 = sessionW ∧ n ≠ 2) ∨ (0 < k ∧ w0 = sessionW ∧ n = 2 ∧ T.lea ≠ []) ∨ (0 < k ∧ w0 = leaW ∧ n = 5) ∨ (0 < k ∧ w0 = leaW ∧ n ≠ 5) ∨ (0 < k ∧ w0 ≠ sessionW ∧ w0 ≠ leaW) := by
  rcases Nat.eq_zero_or_pos k with h0 | h0
  · by_cases h1 : w0 = locksW
    · by_cases h4 : n = 4
      · exact .inl ⟨h0, h1, h4⟩
      · exact .inr (.inr (.inl ⟨h0, h1, h4⟩))
    · exact .inr (.inl ⟨h0, h1⟩)
  · refine .inr (.inr (.inr ?_))
    by_cases h2 : w0 = sessionW
    · by_cases h5 : n = 2
      · by_cases h7 : T.lea = []
        · exact .inl ⟨h0, h2, h5, h7⟩
        · exact .inr (.inr (.inl ⟨h0, h2, h5, h7⟩))
      · exact .inr (.inl ⟨h0, h2, h5⟩)
    · refine .inr (.inr (.inr ?_))
      by_cases h3 : w0 = leaW
      · by_cases h6 : n = 5
        · exact .inl ⟨h0, h3, h6⟩
        · exact .inr (.inl ⟨h0, h3, h6⟩)
      · exact .inr (.inr ⟨h0, h2, h3⟩)
set_option maxRecDepth 100000 in
set_option maxHeartbeats 8000000 in
theorem parser_any (s : List UInt8) (w : World) (hs : s.length ≤ 900) :
    Calls Tryz.prog 7 #[.string (sB s)] w (ParrP s w.heap.size w) := by
  obtain ⟨R, hR⟩ : ∃ R, R = parT s := ⟨_, rfl⟩
  have HR := Lib.hid hR
  unfold ParrP
  rw [← hR]
  obtain ⟨B, hB⟩ : ∃ B, B = w.heap.size := ⟨_, rfl⟩
  have HB := Lib.hid hB
  rw [← hB]
  have HRW := Lib.hid (fun W => rowsr_any (sB s) W (by rw [sB_size]; omega))
  unfold RowsQ at HRW
  rw [sB_list] at HRW
  clear hR
  go_enter Tryz.func7, Tryz.ntmps7
  go_wp2_with fail
  rw [← hB]
  generalize hw1 : World.alloc _ _ = w1
  have F1 := Lib.hid (show Held w1 B [.int .i64 0, .int .i64 0, .int .i64 0, .slice none 0 0, .slice none 0 0] by subst hw1; exact Held.new hB)
  have G1 := Lib.hid (show Below B w w1 by subst hw1; rw [hB]; exact below_one _ _)
  have hB1 : B < w1.heap.size := F1.out.lt
  clear hw1 hB
  refine (HRW.out w1).mono ?_
  rintro e w2 ⟨⟨v, rfl, ho⟩, hb⟩
  have HO := Lib.hid ho
  have F2 := Lib.hid (F1.out.ext hb)
  have G2 := Lib.hid (G1.out.trans (hb.mono (Nat.le_of_lt hB1)))
  obtain ⟨A, c, rfl, hr, _, _, hfl⟩ := row_of_ownK ho
  have HRA := Lib.hid hr
  have hB2 : B < w2.heap.size := F2.out.lt
  have y2 := F2.out.free
  have q2 := F2.out.cell
  clear ho hb hr hfl F1 G1 hB1
  by_cases hl : s.getLast? = some 10
  · obtain ⟨k1, k2⟩ := rows_yes hl
    have t1 : decide ((wordsC 10 s).getLast? = some []) = true := decide_eq_true k1
    have HL := Lib.hid hl
    rw [k2] at HRA HO ⊢
    have hne := wordsC_ne 10 s.dropLast
    have hlen : 0 < (wordsC 10 s.dropLast).length := List.length_pos_iff.2 hne
    have t2 : (((wordsC 10 s.dropLast).length : Int) == 0) = false := by rw [beq_eq_false_iff_ne]; omega
    have HLN := Lib.hid (show (wordsC 10 s.dropLast).length ≤ 900 by have := wordsG_le 10 s.dropLast; rw [List.length_dropLast] at this; omega)
    generalize hLL : wordsC 10 s.dropLast = L at *
    rw [t1]
    clear k1 k2 hne hl t1 HRW y2 q2
    have HLL := Lib.hid hLL
    clear hLL
    go_wp2_with fail
    obtain ⟨P, hP⟩ : ∃ P, P = w2.heap.size := ⟨_, rfl⟩
    rw [← hP]
    generalize hw3 : World.alloc _ _ = w3
    have R3 := Lib.hid (show RepR P P (.slice none 0 0) (.slice none 0 0) tb0 w3 from ⟨Nat.le_refl _, by subst hw3; exact heap_at w2 _ hP, World.ownsRow_nil _ _ _ _, World.ownsRow_nil _ _ _ _⟩)
    have G3 := Lib.hid (show Below P w2 w3 by subst hw3; rw [hP]; exact below_one _ _)
    have HP := Lib.hid hP
    have hBP : B < P := by omega
    clear hw3 hP hB2
    go_loopw [27] (fun i wr => ∃ (k : Nat) (T : Tb) (sv lv : Value), k ≤ L.length ∧ i = .int .i64 k ∧ Hid (lnsR 0 L tb0 = lnsR k (L.drop k) T) ∧ Hid (RepR P P sv lv T wr) ∧ Hid (InR T) ∧ Hid (T.ses.length ≤ k ∧ T.lea.length ≤ k) ∧ Hid (Below P w2 wr)) (fun i _ => L.length - (intOf i).toNat)
    case atStart => exact ⟨0, tb0, _, _, by omega, rfl, Lib.hid rfl, R3, Lib.hid inR_zero, Lib.hid ⟨by decide, by decide⟩, G3⟩
    case round =>
      obtain ⟨k, T, sv, lv, hk, rfl, HK, HT, HIN, HLE, G⟩ := hrel
      have hPw : P < wr.heap.size := HT.out.lt
      have FB := Lib.hid (show Held wr B [Value.int .i64 0, .int .i64 0, .int .i64 0, .slice none 0 0, .slice none 0 0] from F2.out.below G.out hBP)
      have GB := Lib.hid (show Below B w wr from G2.out.trans (G.out.mono (Nat.le_of_lt hBP)))
      by_cases hlt : k < L.length
      · have hlt2 : (k : Int) < (L.length : Int) := by omega
        obtain ⟨SA, sc, rfl, hsr, hsc, hsm⟩ := ints_of_own HT.out.2.2.1
        obtain ⟨LA, lc, rfl, hlr, hlc, hlm, hfl⟩ := row_of_ownK HT.out.2.2.2
        have hLb : L.length ≤ 900 := HLN.out
        have hkb : (k : Int) ≤ 900 := by omega
        have hsl : T.ses.length ≤ 1000 := by have := HLE.out.1; have := HLN.out; omega
        have hll : T.lea.length ≤ 1000 := by have := HLE.out.2; have := HLN.out; omega
        clear hsr hlr hfl hsc hsm hlc hlm
        obtain ⟨u, hu⟩ : ∃ u, L[k]? = some u := ⟨_, List.getElem?_eq_getElem hlt⟩
        have HUL := Lib.hid (show u.length ≤ 900 by
          have h1 : u ∈ wordsC 10 s.dropLast := by rw [HLL.out]; exact List.mem_of_getElem? hu
          have h2 := words_in h1
          rw [List.length_dropLast] at h2
          omega)
        obtain ⟨rb, ro, rfl, hc⟩ := (HRA.out.below G.out (by have := HP.out; omega)) k (strV u) (by rw [List.getElem?_map, hu]; rfl)
        unfold strV at hc
        have HFD := Lib.hid (fieldsr_any (sB u) wr (by rw [sB_size]; have := HUL.out; omega))
        rw [sB_list] at HFD
        have HKS0 := Lib.hid (show lnsR 0 L tb0 = (match stepR k (wordsC 32 u) T with | some T' => lnsR (k + 1) (L.drop (k + 1)) T' | none => none) by
          rw [HK.out, List.drop_eq_getElem_cons hlt, lnsR]
          rw [(List.getElem?_eq_some_iff.1 hu).2]
          cases stepR k (wordsC 32 u) T <;> rfl)
        have HUS0 := Lib.hid (show ∀ x ∈ wordsC 32 u, x.length ≤ 100000 from fun x hx => Nat.le_trans (words_in hx) (by have := HUL.out; omega))
        obtain ⟨w0, us, hW⟩ : ∃ w0 us, wordsC 32 u = w0 :: us := by
          cases h : wordsC 32 u with
          | nil => exact absurd h (wordsC_ne 32 u)
          | cons a b => exact ⟨a, b, rfl⟩
        rw [hW] at HFD HKS0 HUS0
        have HKS := HKS0
        have HUS := Lib.hid (fun x (hx : x ∈ us) => HUS0.out x (List.mem_cons_of_mem _ hx))
        have HUSL := Lib.hid (show us.length ≤ 1000 by
          have h1 := wordsG_le 32 u
          rw [hW, List.length_cons] at h1
          have := HUL.out
          omega)
        obtain ⟨n, hn⟩ : ∃ n, n = (w0 :: us).length := ⟨_, rfl⟩
        have HNN := Lib.hid hn
        unfold FldsP at HFD
        rw [← hn] at HFD
        clear hn hW hu HUS0 HKS0
        go_wp2_with fail
        refine HFD.out.mono ?_
        rintro e w3 ⟨⟨fv, rfl, hof⟩, hb3⟩
        have HT3 := Lib.hid (HT.out.ext hb3)
        have G3' := Lib.hid (G.out.trans (hb3.mono (Nat.le_of_lt hPw)))
        have F3 := Lib.hid (FB.out.ext hb3)
        have G3B := Lib.hid (GB.out.trans (hb3.mono (by omega)))
        have hw3 : wr.heap.size ≤ w3.heap.size := hb3.size
        obtain ⟨FA, fc, rfl, hfr, hfc, _, _⟩ := row_of_ownK hof
        obtain ⟨g, fo, rfl, e0⟩ := hfr 0 (strV w0) rfl
        rw [Nat.add_zero] at e0
        unfold strV at e0
        have hn1 : n = us.length + 1 := HNN.out
        obtain ⟨A1, c1, hs1, hr1⟩ := slice_at (k := 1) (kk := 1) rfl (n := n) (c := fc) hfr us rfl (by omega) hfc
        have hg3 : g < w3.heap.size := World.block_lt_of_cell? w3 _ e0
        have HNS := Lib.hid (numsr_any A1 c1 us w3 hr1 (by have := HUSL.out; omega) HUS.out)
        have HFR := Lib.hid hfr
        have HFC := Lib.hid hfc
        have HN1 := Lib.hid hn1
        have hn0 : 0 < n := by omega
        clear hb3 hof hc HFD hr1 hfr hfc hn1
        go_wp2_with fail
        refine HNS.out.mono ?_
        rintro e w4 ⟨⟨v4, b4, rfl, hor⟩, hb4⟩
        have HT4 := Lib.hid (HT3.out.ext hb4)
        have G4 := Lib.hid (G3'.out.trans (hb4.mono (by omega)))
        have F4 := Lib.hid (F3.out.ext hb4)
        have G4B := Lib.hid (G3B.out.trans (hb4.mono (by omega)))
        have hfr4 := HFR.out.ext hb4
        have hfc := HFC.out
        have e0' : w4.cell? ⟨g, fo, none⟩ = some (.string (sB w0)) := (hb4.cell hg3).trans e0
        have q4 := F4.out.cell
        have y4 := F4.out.free
        have hB4 := F4.out.lt
        have p4 := HT4.out.block.cell
        have hw4 : w3.heap.size ≤ w4.heap.size := hb4.size
        clear hb4 e0 hs1 HNS
        rcases (show (k = 0 ∧ w0 = locksW ∧ n = 4) ∨ (k = 0 ∧ w0 ≠ locksW) ∨ (k = 0 ∧ w0 = locksW ∧ n ≠ 4) ∨ (0 < k ∧ w0 = sessionW ∧ n = 2 ∧ T.lea = []) ∨ (0 < k ∧ w0 = sessionW ∧ n ≠ 2) ∨ (0 < k ∧ w0 = sessionW ∧ n = 2 ∧ T.lea ≠ []) ∨ (0 < k ∧ w0 = leaW ∧ n = 5) ∨ (0 < k ∧ w0 = leaW ∧ n ≠ 5) ∨ (0 < k ∧ w0 ≠ sessionW ∧ w0 ≠ leaW) from wayN k n w0 T) with ⟨wk, wA, wn⟩ | ⟨wk, wA⟩ | ⟨wk, wA, wn⟩ | ⟨wk, wB, wn, we⟩ | ⟨wk, wB, wn⟩ | ⟨wk, wB, wn, we⟩ | ⟨wk, wC, wn⟩ | ⟨wk, wC, wn⟩ | ⟨wk, wB, wC⟩
        · have t0 : ((k : Int) == 0) = true := by rw [beq_iff_eq]; omega
          have d0 : decide ((0 : Int) < (k : Int)) = false := by rw [decide_eq_false_iff_not]; omega
          have d1 : decide (0 < k) = false := by rw [decide_eq_false_iff_not]; omega
          have tA : ((sB w0).toList == [76, 79, 67, 75, 83]) = true := by rw [word_eq]; exact decide_eq_true wA
          have m4 : ((n : Int) == 4) = true := by rw [beq_iff_eq]; omega
          rcases hor with ⟨rfl, ns, hnn, hon⟩ | ⟨rfl, hnn⟩
          · have hlen := numsP_len hnn
            obtain ⟨a, b, c, rfl⟩ : ∃ a b c, ns = [a, b, c] := by
              have h4 : us.length = 3 := by have := HNN.out; rw [List.length_cons] at this; omega
              rw [h4] at hlen
              match ns, hlen with
              | [a, b, c], _ => exact ⟨a, b, c, rfl⟩
            obtain ⟨T5, hT5⟩ : ∃ T5 : Tb, T5 = ⟨a, b, c, T.ses, T.lea⟩ := ⟨_, rfl⟩
            have HS := Lib.hid (show stepR k (w0 :: us) T = some T5 by
              unfold stepR
              rw [if_pos ⟨by omega, by rw [wA]; rfl, by rw [← HNN.out]; exact wn⟩]
              rw [show (w0 :: us).drop 1 = us from rfl, hnn, hT5])
            have HK5 := Lib.hid (show lnsR 0 L tb0 = lnsR (k + 1) (L.drop (k + 1)) T5 by rw [HKS.out, HS.out])
            have HI5 := Lib.hid (inR_step HIN.out HS.out)
            have HLE5 := Lib.hid (show T5.ses.length ≤ k + 1 ∧ T5.lea.length ≤ k + 1 by rw [hT5]; exact ⟨by have := HLE.out.1; show T.ses.length ≤ k + 1; omega, by have := HLE.out.2; show T.lea.length ≤ k + 1; omega⟩)
            obtain ⟨NA, cp, rfl, hi, _, _⟩ := ints_of_own hon
            obtain ⟨gb, go, rfl, c0⟩ := ints3 hi (k := 0) rfl
            rw [Nat.add_zero] at c0
            have c1 : w4.cell? ⟨gb, go + 1, none⟩ = some (.int .i64 b) := by obtain ⟨_, _, e, h⟩ := ints3 hi (k := 1) rfl; cases e; exact h
            have c2 : w4.cell? ⟨gb, go + 2, none⟩ = some (.int .i64 c) := by obtain ⟨_, _, e, h⟩ := ints3 hi (k := 2) rfl; cases e; exact h
            have hgb : w3.heap.size ≤ gb := (hon.lt gb rfl).1
            have hne : P ≠ gb := by omega
            have q := HT4.out.block.cell
            have y := HT4.out.block.free
            have HT5 := Lib.hid hT5
            clear hon hi hlen hnn hT5 hgb
            try clear we
            try clear wn
            try clear wA
            try clear wB
            try clear wC
            try clear wk
            go_wp2_with fail
            go_region
            generalize hw6 : World.drew _ = w6
            have R7 : Hid (RepR P P (.slice SA T.ses.length sc) (.slice LA T.lea.length lc) T5 w6) := Lib.hid (by
              rw [← hw6, HT5.out]
              exact (((HT4.out.setNow a).setLs b).setLf c).ext (Below.refl _ _).drew)
            have G6 : Hid (Below P w2 w6) := Lib.hid (by
              rw [← hw6]
              exact (((G4.out.setCell (p := ⟨P, 0, none⟩) (Nat.le_refl _) (.int .i64 a)).setCell (p := ⟨P, 1, none⟩) (Nat.le_refl _) (.int .i64 b)).setCell (p := ⟨P, 2, none⟩) (Nat.le_refl _) (.int .i64 c)).drew)
            clear hw6 t0 d0 d1 tA m4
            clear q y c0 c1 c2
            simp only [Exit.inBlock, Exit.then]
            go_step
            go_wp2_with fail
            go_roundw
            case rel => exact ⟨k + 1, T5, _, _, by omega, by go_num, HK5, R7, HI5, HLE5, G6⟩
            case measure => simp [intOf]; omega
          · have HS := Lib.hid (show stepR k (w0 :: us) T = none by
              unfold stepR
              rw [if_pos ⟨by omega, by rw [wA]; rfl, by rw [← HNN.out]; exact wn⟩]
              rw [show (w0 :: us).drop 1 = us from rfl, hnn])
            have HN := Lib.hid (show R = none from HR.out.trans (ref_none2 (by rw [HLL.out, HKS.out, HS.out])))
            try clear nA
            try clear nB
            try clear nC
            try clear we
            try clear wn
            try clear wA
            try clear wB
            try clear wC
            try clear wk
            go_wp2_with (with_reducible refine stop_at ?_)
            unfold StopAt
            generalize hw9 : World.setCell _ _ _ = w9
            have F9 := Lib.hid (show Held w9 B [Value.int .i64 0, .int .i64 0, .int .i64 0, .slice none 0 0, .slice none 0 0] by rw [← hw9]; exact ((((F4.out.set 0 _).set 1 _).set 2 _).set 3 _).set 4 _)
            have G9 := Lib.hid (show Below B w w9 by rw [← hw9]; exact ((((G4B.out.setCell (p := ⟨B, 0, none⟩) (Nat.le_refl _) _).setCell (p := ⟨B, 1, none⟩) (Nat.le_refl _) _).setCell (p := ⟨B, 2, none⟩) (Nat.le_refl _) _).setCell (p := ⟨B, 3, none⟩) (Nat.le_refl _) _).setCell (p := ⟨B, 4, none⟩) (Nat.le_refl _) _)
            have r0 : w9.cell? ⟨B, 0, none⟩ = some (Value.int .i64 0) := F9.out.cell 0
            have r1 : w9.cell? ⟨B, 1, none⟩ = some (.int .i64 0) := F9.out.cell 1
            have r2 : w9.cell? ⟨B, 2, none⟩ = some (.int .i64 0) := F9.out.cell 2
            have r3 : w9.cell? ⟨B, 3, none⟩ = some (.slice none 0 0) := F9.out.cell 3
            have r4 : w9.cell? ⟨B, 4, none⟩ = some (.slice none 0 0) := F9.out.cell 4
            refine bodyPost_ret (by simp [results, Tryz.results7, r0, r1, r2, r3, r4, go_sem]; try rfl) rfl ?_
            exact ⟨.inr ⟨HN.out, rfl⟩, G9.out⟩
        · have t0 : ((k : Int) == 0) = true := by rw [beq_iff_eq]; omega
          have d0 : decide ((0 : Int) < (k : Int)) = false := by rw [decide_eq_false_iff_not]; omega
          have d1 : decide (0 < k) = false := by rw [decide_eq_false_iff_not]; omega
          have tA : ((sB w0).toList == [76, 79, 67, 75, 83]) = false := by rw [word_eq]; exact decide_eq_false wA
          have nA : ¬ (k = 0 ∧ (w0 :: us).head? = some locksW ∧ (w0 :: us).length = 4) := by
            intro h
            have h1 := h.1
            have h2 : w0 = locksW := Option.some.inj h.2.1
            have h3 : (w0 :: us).length = 4 := h.2.2
            rw [← HNN.out] at h3
            first
              | omega
              | exact wA h2
              | exact wB h2
              | exact wC h2
              | (rw [wA] at h2; exact absurd h2 (by decide))
              | (rw [wB] at h2; exact absurd h2 (by decide))
              | (rw [wC] at h2; exact absurd h2 (by decide))
              | exact we h.2.2.2
          have nB : ¬ (0 < k ∧ (w0 :: us).head? = some sessionW ∧ (w0 :: us).length = 2 ∧ T.lea = []) := by
            intro h
            have h1 := h.1
            have h2 : w0 = sessionW := Option.some.inj h.2.1
            have h3 : (w0 :: us).length = 2 := h.2.2.1
            rw [← HNN.out] at h3
            first
              | omega
              | exact wA h2
              | exact wB h2
              | exact wC h2
              | (rw [wA] at h2; exact absurd h2 (by decide))
              | (rw [wB] at h2; exact absurd h2 (by decide))
              | (rw [wC] at h2; exact absurd h2 (by decide))
              | exact we h.2.2.2
          have nC : ¬ (0 < k ∧ (w0 :: us).head? = some leaW ∧ (w0 :: us).length = 5) := by
            intro h
            have h1 := h.1
            have h2 : w0 = leaW := Option.some.inj h.2.1
            have h3 : (w0 :: us).length = 5 := h.2.2
            rw [← HNN.out] at h3
            first
              | omega
              | exact wA h2
              | exact wB h2
              | exact wC h2
              | (rw [wA] at h2; exact absurd h2 (by decide))
              | (rw [wB] at h2; exact absurd h2 (by decide))
              | (rw [wC] at h2; exact absurd h2 (by decide))
              | exact we h.2.2.2
          have HS := Lib.hid (show stepR k (w0 :: us) T = none by
            unfold stepR
            rw [if_neg nA, if_neg nB, if_neg nC])
          have HN := Lib.hid (show R = none from HR.out.trans (ref_none2 (by rw [HLL.out, HKS.out, HS.out])))
          try clear nA
          try clear nB
          try clear nC
          try clear we
          try clear wn
          try clear wA
          try clear wB
          try clear wC
          try clear wk
          go_wp2_with (with_reducible refine stop_at ?_)
          unfold StopAt
          generalize hw9 : World.setCell _ _ _ = w9
          have F9 := Lib.hid (show Held w9 B [Value.int .i64 0, .int .i64 0, .int .i64 0, .slice none 0 0, .slice none 0 0] by rw [← hw9]; exact ((((F4.out.set 0 _).set 1 _).set 2 _).set 3 _).set 4 _)
          have G9 := Lib.hid (show Below B w w9 by rw [← hw9]; exact ((((G4B.out.setCell (p := ⟨B, 0, none⟩) (Nat.le_refl _) _).setCell (p := ⟨B, 1, none⟩) (Nat.le_refl _) _).setCell (p := ⟨B, 2, none⟩) (Nat.le_refl _) _).setCell (p := ⟨B, 3, none⟩) (Nat.le_refl _) _).setCell (p := ⟨B, 4, none⟩) (Nat.le_refl _) _)
          have r0 : w9.cell? ⟨B, 0, none⟩ = some (Value.int .i64 0) := F9.out.cell 0
          have r1 : w9.cell? ⟨B, 1, none⟩ = some (.int .i64 0) := F9.out.cell 1
          have r2 : w9.cell? ⟨B, 2, none⟩ = some (.int .i64 0) := F9.out.cell 2
          have r3 : w9.cell? ⟨B, 3, none⟩ = some (.slice none 0 0) := F9.out.cell 3
          have r4 : w9.cell? ⟨B, 4, none⟩ = some (.slice none 0 0) := F9.out.cell 4
          refine bodyPost_ret (by simp [results, Tryz.results7, r0, r1, r2, r3, r4, go_sem]; try rfl) rfl ?_
          exact ⟨.inr ⟨HN.out, rfl⟩, G9.out⟩
        · have t0 : ((k : Int) == 0) = true := by rw [beq_iff_eq]; omega
          have d0 : decide ((0 : Int) < (k : Int)) = false := by rw [decide_eq_false_iff_not]; omega
          have d1 : decide (0 < k) = false := by rw [decide_eq_false_iff_not]; omega
          have tA : ((sB w0).toList == [76, 79, 67, 75, 83]) = true := by rw [word_eq]; exact decide_eq_true wA
          have m4 : ((n : Int) == 4) = false := by rw [beq_eq_false_iff_ne]; omega
          have nA : ¬ (k = 0 ∧ (w0 :: us).head? = some locksW ∧ (w0 :: us).length = 4) := by
            intro h
            have h1 := h.1
            have h2 : w0 = locksW := Option.some.inj h.2.1
            have h3 : (w0 :: us).length = 4 := h.2.2
            rw [← HNN.out] at h3
            first
              | omega
              | exact wA h2
              | exact wB h2
              | exact wC h2
              | (rw [wA] at h2; exact absurd h2 (by decide))
              | (rw [wB] at h2; exact absurd h2 (by decide))
              | (rw [wC] at h2; exact absurd h2 (by decide))
              | exact we h.2.2.2
          have nB : ¬ (0 < k ∧ (w0 :: us).head? = some sessionW ∧ (w0 :: us).length = 2 ∧ T.lea = []) := by
            intro h
            have h1 := h.1
            have h2 : w0 = sessionW := Option.some.inj h.2.1
            have h3 : (w0 :: us).length = 2 := h.2.2.1
            rw [← HNN.out] at h3
            first
              | omega
              | exact wA h2
              | exact wB h2
              | exact wC h2
              | (rw [wA] at h2; exact absurd h2 (by decide))
              | (rw [wB] at h2; exact absurd h2 (by decide))
              | (rw [wC] at h2; exact absurd h2 (by decide))
              | exact we h.2.2.2
          have nC : ¬ (0 < k ∧ (w0 :: us).head? = some leaW ∧ (w0 :: us).length = 5) := by
            intro h
            have h1 := h.1
            have h2 : w0 = leaW := Option.some.inj h.2.1
            have h3 : (w0 :: us).length = 5 := h.2.2
            rw [← HNN.out] at h3
            first
              | omega
              | exact wA h2
              | exact wB h2
              | exact wC h2
              | (rw [wA] at h2; exact absurd h2 (by decide))
              | (rw [wB] at h2; exact absurd h2 (by decide))
              | (rw [wC] at h2; exact absurd h2 (by decide))
              | exact we h.2.2.2
          have HS := Lib.hid (show stepR k (w0 :: us) T = none by
            unfold stepR
            rw [if_neg nA, if_neg nB, if_neg nC])
          have HN := Lib.hid (show R = none from HR.out.trans (ref_none2 (by rw [HLL.out, HKS.out, HS.out])))
          try clear nA
          try clear nB
          try clear nC
          try clear we
          try clear wn
          try clear wA
          try clear wB
          try clear wC
          try clear wk
          go_wp2_with (with_reducible refine stop_at ?_)
          unfold StopAt
          generalize hw9 : World.setCell _ _ _ = w9
          have F9 := Lib.hid (show Held w9 B [Value.int .i64 0, .int .i64 0, .int .i64 0, .slice none 0 0, .slice none 0 0] by rw [← hw9]; exact ((((F4.out.set 0 _).set 1 _).set 2 _).set 3 _).set 4 _)
          have G9 := Lib.hid (show Below B w w9 by rw [← hw9]; exact ((((G4B.out.setCell (p := ⟨B, 0, none⟩) (Nat.le_refl _) _).setCell (p := ⟨B, 1, none⟩) (Nat.le_refl _) _).setCell (p := ⟨B, 2, none⟩) (Nat.le_refl _) _).setCell (p := ⟨B, 3, none⟩) (Nat.le_refl _) _).setCell (p := ⟨B, 4, none⟩) (Nat.le_refl _) _)
          have r0 : w9.cell? ⟨B, 0, none⟩ = some (Value.int .i64 0) := F9.out.cell 0
          have r1 : w9.cell? ⟨B, 1, none⟩ = some (.int .i64 0) := F9.out.cell 1
          have r2 : w9.cell? ⟨B, 2, none⟩ = some (.int .i64 0) := F9.out.cell 2
          have r3 : w9.cell? ⟨B, 3, none⟩ = some (.slice none 0 0) := F9.out.cell 3
          have r4 : w9.cell? ⟨B, 4, none⟩ = some (.slice none 0 0) := F9.out.cell 4
          refine bodyPost_ret (by simp [results, Tryz.results7, r0, r1, r2, r3, r4, go_sem]; try rfl) rfl ?_
          exact ⟨.inr ⟨HN.out, rfl⟩, G9.out⟩
        · have t0 : ((k : Int) == 0) = false := by rw [beq_eq_false_iff_ne]; omega
          have d0 : (0 : Int) < (k : Int) := by omega
          have d1 : 0 < k := by omega
          have tB : ((sB w0).toList == [83, 69, 83, 83, 73, 79, 78]) = true := by rw [word_eq]; exact decide_eq_true wB
          have tC : ((sB w0).toList == [76, 69, 65, 83, 69]) = false := by rw [word_eq, wB]; exact decide_eq_false (by decide)
          have m2 : ((n : Int) == 2) = true := by rw [beq_iff_eq]; omega
          have te : ((T.lea.length : Int) == 0) = true := by rw [we]; rfl
          have nA : ¬ (k = 0 ∧ (w0 :: us).head? = some locksW ∧ (w0 :: us).length = 4) := by
            intro h
            have h1 := h.1
            have h2 : w0 = locksW := Option.some.inj h.2.1
            have h3 : (w0 :: us).length = 4 := h.2.2
            rw [← HNN.out] at h3
            first
              | omega
              | exact wA h2
              | exact wB h2
              | exact wC h2
              | (rw [wA] at h2; exact absurd h2 (by decide))
              | (rw [wB] at h2; exact absurd h2 (by decide))
              | (rw [wC] at h2; exact absurd h2 (by decide))
              | exact we h.2.2.2
          rcases hor with ⟨rfl, ns, hnn, hon⟩ | ⟨rfl, hnn⟩
          · have hlen := numsP_len hnn
            obtain ⟨x, rfl⟩ : ∃ a, ns = [a] := by
              have h4 : us.length = 1 := by have := HNN.out; rw [List.length_cons] at this; omega
              rw [h4] at hlen
              match ns, hlen with
              | [a], _ => exact ⟨a, rfl⟩
            obtain ⟨T5, hT5⟩ : ∃ T5 : Tb, T5 = ⟨T.now, T.ls, T.lf, T.ses ++ [x], T.lea⟩ := ⟨_, rfl⟩
            have HS := Lib.hid (show stepR k (w0 :: us) T = some T5 by
              unfold stepR
              rw [if_neg nA, if_pos ⟨by omega, by rw [wB]; rfl, by rw [← HNN.out]; exact wn, we⟩]
              rw [show (w0 :: us).drop 1 = us from rfl, hnn, hT5])
            have HK5 := Lib.hid (show lnsR 0 L tb0 = lnsR (k + 1) (L.drop (k + 1)) T5 by rw [HKS.out, HS.out])
            have HI5 := Lib.hid (inR_step HIN.out HS.out)
            have HLE5 := Lib.hid (show T5.ses.length ≤ k + 1 ∧ T5.lea.length ≤ k + 1 by rw [hT5]; exact ⟨by have := HLE.out.1; show (T.ses ++ [x]).length ≤ k + 1; rw [List.length_append, List.length_singleton]; omega, by have := HLE.out.2; show T.lea.length ≤ k + 1; omega⟩)
            obtain ⟨NA, cp, rfl, hi, _, _⟩ := ints_of_own hon
            obtain ⟨gb, go, rfl, c0⟩ := ints3 hi (k := 0) rfl
            rw [Nat.add_zero] at c0
            have hgb : gb < w4.heap.size := World.block_lt_of_cell? w4 _ c0
            have hgb3 : w3.heap.size ≤ gb := (hon.lt gb rfl).1
            have hne : P ≠ gb := by omega
            have HT5 := Lib.hid hT5
            have HT5w := HT4
            have G5w := G4
            clear hon hi hlen hnn hT5 nA hgb3
            try clear we
            try clear wn
            try clear wA
            try clear wB
            try clear wC
            try clear wk
            have q3 : w4.cell? ⟨P, 3, none⟩ = some (.slice SA T.ses.length sc) := HT5w.out.block.cell 3
            have y3 : w4.frozen? ⟨P, 3, none⟩ = false := HT5w.out.block.free 3
            have hpw := HT5w.out.lt
            have hBw : P ≤ w4.heap.size := Nat.le_of_lt hpw
            have HOW := Lib.hid HT5w.out.2.2.1
            have hnep : (Value.slice SA T.ses.length sc).ownBlock ≠ some P := HT5w.out.nes
            obtain ⟨i0, hi0, hz0, hz1, hz2⟩ := info_parts infoI
            go_wp2_with fail
            go_region_law
              ((refine step_append_lies _ (by rfl) _ _ _ (by rfl) P 2 i0 _ 1 8 Tryz.underlying27 hi0 hz0 hz1 hz2 rfl (by omega) (.slice SA T.ses.length sc) T.ses.length (T.ses.map (Value.int .i64)) (by rfl) ((HOW.out.alloc _).drew)
                    ⟨w4.heap.size, 0, none⟩ 1 1 [.int .i64 x] (by rfl) (by rfl) (World.news_of_block (cs := #[.int .i64 x]) (t := 2) (fr := (0, 0)) (heap_alloc_new w4 _)) (by simp [Value.oneCell'])
                    (by omega) (by simp only [maxLen]; omega) (by omega) (by simp; omega) (w4.heap.size + 1) (by simp) ?_; intro gg cap w8 hown3 hgrow hat hlt; have y8 : w8.frozen? ⟨P, 3, none⟩ = false := (hgrow.frozen_far _ (by simp; omega) (Ne.symm hnep)).trans ((World.frozen?_alloc_past (w := w4) _ P 3 hpw).trans y3); have q8 : w8.cell? ⟨P, 3, none⟩ = some (.slice SA T.ses.length sc) := (hgrow.cell_far _ (by simp; omega) (Ne.symm hnep)).trans ((World.cell?_alloc_past (w := w4) _ P 3 hpw).trans q3)))
            all_goals
              have hb : Below w4.heap.size w4 (w4.alloc (.cells #[.int .i64 x] 2)).drew := (below_one _ _).drew
              have R6 := Lib.hid (RepR.setS (T := T) (S := T.ses ++ [x]) (Nat.le_refl P) ((hgrow.block P (by simp; omega) (Ne.symm hnep)).trans ((hb.block P hpw).trans HT5w.out.2.1)) (by
                rw [List.map_append, List.length_append]
                exact hown3) (own_same HT5w.out.2.2.2 (fun g' hg' => by
                have hg2' := (HT5w.out.2.2.2.lt g' hg').2
                exact (hgrow.block g' (by simp; omega) (fun e => HT5w.out.apart e.symm hg')).trans (hb.block g' hg2'))))
              have G6 := Lib.hid (((G5w.out.trans (hb.mono hBw)).grown hgrow (by simp; omega) (own_base HOW.out)).setCell (p := ⟨P, 3, none⟩) (Nat.le_refl _) (.slice (some ⟨gg, 0, none⟩) (T.ses.length + 1) cap))
              generalize hw6 : World.setCell w8 _ _ = w6
              have R7 : Hid (RepR P P _ _ T5 w6) := Lib.hid (by
                rw [← hw6, HT5.out]
                exact R6.out)
              have G7 : Hid (Below P w2 w6) := Lib.hid (by
                rw [← hw6]
                exact G6.out)
              clear hgrow hown3 hb y8 q8 hw6 R6 G6 t0 d0 d1 tB tC m2 te
              simp only [Exit.inBlock, Exit.then]
              go_step
              go_wp2_with fail
              go_roundw
              case rel => exact ⟨k + 1, T5, _, _, by omega, by go_num, HK5, R7, HI5, HLE5, G7⟩
              case measure => simp [intOf]; omega
          · have HS := Lib.hid (show stepR k (w0 :: us) T = none by
              unfold stepR
              rw [if_neg nA, if_pos ⟨by omega, by rw [wB]; rfl, by rw [← HNN.out]; exact wn, we⟩]
              rw [show (w0 :: us).drop 1 = us from rfl, hnn])
            have HN := Lib.hid (show R = none from HR.out.trans (ref_none2 (by rw [HLL.out, HKS.out, HS.out])))
            try clear nA
            try clear nB
            try clear nC
            try clear we
            try clear wn
            try clear wA
            try clear wB
            try clear wC
            try clear wk
            go_wp2_with (with_reducible refine stop_at ?_)
            unfold StopAt
            generalize hw9 : World.setCell _ _ _ = w9
            have F9 := Lib.hid (show Held w9 B [Value.int .i64 0, .int .i64 0, .int .i64 0, .slice none 0 0, .slice none 0 0] by rw [← hw9]; exact ((((F4.out.set 0 _).set 1 _).set 2 _).set 3 _).set 4 _)
            have G9 := Lib.hid (show Below B w w9 by rw [← hw9]; exact ((((G4B.out.setCell (p := ⟨B, 0, none⟩) (Nat.le_refl _) _).setCell (p := ⟨B, 1, none⟩) (Nat.le_refl _) _).setCell (p := ⟨B, 2, none⟩) (Nat.le_refl _) _).setCell (p := ⟨B, 3, none⟩) (Nat.le_refl _) _).setCell (p := ⟨B, 4, none⟩) (Nat.le_refl _) _)
            have r0 : w9.cell? ⟨B, 0, none⟩ = some (Value.int .i64 0) := F9.out.cell 0
            have r1 : w9.cell? ⟨B, 1, none⟩ = some (.int .i64 0) := F9.out.cell 1
            have r2 : w9.cell? ⟨B, 2, none⟩ = some (.int .i64 0) := F9.out.cell 2
            have r3 : w9.cell? ⟨B, 3, none⟩ = some (.slice none 0 0) := F9.out.cell 3
            have r4 : w9.cell? ⟨B, 4, none⟩ = some (.slice none 0 0) := F9.out.cell 4
            refine bodyPost_ret (by simp [results, Tryz.results7, r0, r1, r2, r3, r4, go_sem]; try rfl) rfl ?_
            exact ⟨.inr ⟨HN.out, rfl⟩, G9.out⟩
        · have t0 : ((k : Int) == 0) = false := by rw [beq_eq_false_iff_ne]; omega
          have d0 : (0 : Int) < (k : Int) := by omega
          have d1 : 0 < k := by omega
          have tB : ((sB w0).toList == [83, 69, 83, 83, 73, 79, 78]) = true := by rw [word_eq]; exact decide_eq_true wB
          have tC : ((sB w0).toList == [76, 69, 65, 83, 69]) = false := by rw [word_eq, wB]; exact decide_eq_false (by decide)
          have m2 : ((n : Int) == 2) = false := by rw [beq_eq_false_iff_ne]; omega
          have nA : ¬ (k = 0 ∧ (w0 :: us).head? = some locksW ∧ (w0 :: us).length = 4) := by
            intro h
            have h1 := h.1
            have h2 : w0 = locksW := Option.some.inj h.2.1
            have h3 : (w0 :: us).length = 4 := h.2.2
            rw [← HNN.out] at h3
            first
              | omega
              | exact wA h2
              | exact wB h2
              | exact wC h2
              | (rw [wA] at h2; exact absurd h2 (by decide))
              | (rw [wB] at h2; exact absurd h2 (by decide))
              | (rw [wC] at h2; exact absurd h2 (by decide))
              | exact we h.2.2.2
          have nB : ¬ (0 < k ∧ (w0 :: us).head? = some sessionW ∧ (w0 :: us).length = 2 ∧ T.lea = []) := by
            intro h
            have h1 := h.1
            have h2 : w0 = sessionW := Option.some.inj h.2.1
            have h3 : (w0 :: us).length = 2 := h.2.2.1
            rw [← HNN.out] at h3
            first
              | omega
              | exact wA h2
              | exact wB h2
              | exact wC h2
              | (rw [wA] at h2; exact absurd h2 (by decide))
              | (rw [wB] at h2; exact absurd h2 (by decide))
              | (rw [wC] at h2; exact absurd h2 (by decide))
              | exact we h.2.2.2
          have nC : ¬ (0 < k ∧ (w0 :: us).head? = some leaW ∧ (w0 :: us).length = 5) := by
            intro h
            have h1 := h.1
            have h2 : w0 = leaW := Option.some.inj h.2.1
            have h3 : (w0 :: us).length = 5 := h.2.2
            rw [← HNN.out] at h3
            first
              | omega
              | exact wA h2
              | exact wB h2
              | exact wC h2
              | (rw [wA] at h2; exact absurd h2 (by decide))
              | (rw [wB] at h2; exact absurd h2 (by decide))
              | (rw [wC] at h2; exact absurd h2 (by decide))
              | exact we h.2.2.2
          have HS := Lib.hid (show stepR k (w0 :: us) T = none by
            unfold stepR
            rw [if_neg nA, if_neg nB, if_neg nC])
          have HN := Lib.hid (show R = none from HR.out.trans (ref_none2 (by rw [HLL.out, HKS.out, HS.out])))
          try clear nA
          try clear nB
          try clear nC
          try clear we
          try clear wn
          try clear wA
          try clear wB
          try clear wC
          try clear wk
          go_wp2_with (with_reducible refine stop_at ?_)
          unfold StopAt
          generalize hw9 : World.setCell _ _ _ = w9
          have F9 := Lib.hid (show Held w9 B [Value.int .i64 0, .int .i64 0, .int .i64 0, .slice none 0 0, .slice none 0 0] by rw [← hw9]; exact ((((F4.out.set 0 _).set 1 _).set 2 _).set 3 _).set 4 _)
          have G9 := Lib.hid (show Below B w w9 by rw [← hw9]; exact ((((G4B.out.setCell (p := ⟨B, 0, none⟩) (Nat.le_refl _) _).setCell (p := ⟨B, 1, none⟩) (Nat.le_refl _) _).setCell (p := ⟨B, 2, none⟩) (Nat.le_refl _) _).setCell (p := ⟨B, 3, none⟩) (Nat.le_refl _) _).setCell (p := ⟨B, 4, none⟩) (Nat.le_refl _) _)
          have r0 : w9.cell? ⟨B, 0, none⟩ = some (Value.int .i64 0) := F9.out.cell 0
          have r1 : w9.cell? ⟨B, 1, none⟩ = some (.int .i64 0) := F9.out.cell 1
          have r2 : w9.cell? ⟨B, 2, none⟩ = some (.int .i64 0) := F9.out.cell 2
          have r3 : w9.cell? ⟨B, 3, none⟩ = some (.slice none 0 0) := F9.out.cell 3
          have r4 : w9.cell? ⟨B, 4, none⟩ = some (.slice none 0 0) := F9.out.cell 4
          refine bodyPost_ret (by simp [results, Tryz.results7, r0, r1, r2, r3, r4, go_sem]; try rfl) rfl ?_
          exact ⟨.inr ⟨HN.out, rfl⟩, G9.out⟩
        · have t0 : ((k : Int) == 0) = false := by rw [beq_eq_false_iff_ne]; omega
          have d0 : (0 : Int) < (k : Int) := by omega
          have d1 : 0 < k := by omega
          have tB : ((sB w0).toList == [83, 69, 83, 83, 73, 79, 78]) = true := by rw [word_eq]; exact decide_eq_true wB
          have tC : ((sB w0).toList == [76, 69, 65, 83, 69]) = false := by rw [word_eq, wB]; exact decide_eq_false (by decide)
          have m2 : ((n : Int) == 2) = true := by rw [beq_iff_eq]; omega
          have te : ((T.lea.length : Int) == 0) = false := by
            rw [beq_eq_false_iff_ne]
            have := List.length_pos_iff.2 we
            omega
          have nA : ¬ (k = 0 ∧ (w0 :: us).head? = some locksW ∧ (w0 :: us).length = 4) := by
            intro h
            have h1 := h.1
            have h2 : w0 = locksW := Option.some.inj h.2.1
            have h3 : (w0 :: us).length = 4 := h.2.2
            rw [← HNN.out] at h3
            first
              | omega
              | exact wA h2
              | exact wB h2
              | exact wC h2
              | (rw [wA] at h2; exact absurd h2 (by decide))
              | (rw [wB] at h2; exact absurd h2 (by decide))
              | (rw [wC] at h2; exact absurd h2 (by decide))
              | exact we h.2.2.2
          have nB : ¬ (0 < k ∧ (w0 :: us).head? = some sessionW ∧ (w0 :: us).length = 2 ∧ T.lea = []) := by
            intro h
            have h1 := h.1
            have h2 : w0 = sessionW := Option.some.inj h.2.1
            have h3 : (w0 :: us).length = 2 := h.2.2.1
            rw [← HNN.out] at h3
            first
              | omega
              | exact wA h2
              | exact wB h2
              | exact wC h2
              | (rw [wA] at h2; exact absurd h2 (by decide))
              | (rw [wB] at h2; exact absurd h2 (by decide))
              | (rw [wC] at h2; exact absurd h2 (by decide))
              | exact we h.2.2.2
          have nC : ¬ (0 < k ∧ (w0 :: us).head? = some leaW ∧ (w0 :: us).length = 5) := by
            intro h
            have h1 := h.1
            have h2 : w0 = leaW := Option.some.inj h.2.1
            have h3 : (w0 :: us).length = 5 := h.2.2
            rw [← HNN.out] at h3
            first
              | omega
              | exact wA h2
              | exact wB h2
              | exact wC h2
              | (rw [wA] at h2; exact absurd h2 (by decide))
              | (rw [wB] at h2; exact absurd h2 (by decide))
              | (rw [wC] at h2; exact absurd h2 (by decide))
              | exact we h.2.2.2
          rcases hor with ⟨rfl, ns, hnn, hon⟩ | ⟨rfl, hnn⟩
          · clear hnn hon
            have HS := Lib.hid (show stepR k (w0 :: us) T = none by
              unfold stepR
              rw [if_neg nA, if_neg nB, if_neg nC])
            have HN := Lib.hid (show R = none from HR.out.trans (ref_none2 (by rw [HLL.out, HKS.out, HS.out])))
            try clear nA
            try clear nB
            try clear nC
            try clear we
            try clear wn
            try clear wA
            try clear wB
            try clear wC
            try clear wk
            go_wp2_with (with_reducible refine stop_at ?_)
            unfold StopAt
            generalize hw9 : World.setCell _ _ _ = w9
            have F9 := Lib.hid (show Held w9 B [Value.int .i64 0, .int .i64 0, .int .i64 0, .slice none 0 0, .slice none 0 0] by rw [← hw9]; exact ((((F4.out.set 0 _).set 1 _).set 2 _).set 3 _).set 4 _)
            have G9 := Lib.hid (show Below B w w9 by rw [← hw9]; exact ((((G4B.out.setCell (p := ⟨B, 0, none⟩) (Nat.le_refl _) _).setCell (p := ⟨B, 1, none⟩) (Nat.le_refl _) _).setCell (p := ⟨B, 2, none⟩) (Nat.le_refl _) _).setCell (p := ⟨B, 3, none⟩) (Nat.le_refl _) _).setCell (p := ⟨B, 4, none⟩) (Nat.le_refl _) _)
            have r0 : w9.cell? ⟨B, 0, none⟩ = some (Value.int .i64 0) := F9.out.cell 0
            have r1 : w9.cell? ⟨B, 1, none⟩ = some (.int .i64 0) := F9.out.cell 1
            have r2 : w9.cell? ⟨B, 2, none⟩ = some (.int .i64 0) := F9.out.cell 2
            have r3 : w9.cell? ⟨B, 3, none⟩ = some (.slice none 0 0) := F9.out.cell 3
            have r4 : w9.cell? ⟨B, 4, none⟩ = some (.slice none 0 0) := F9.out.cell 4
            refine bodyPost_ret (by simp [results, Tryz.results7, r0, r1, r2, r3, r4, go_sem]; try rfl) rfl ?_
            exact ⟨.inr ⟨HN.out, rfl⟩, G9.out⟩
          · clear hnn
            have HS := Lib.hid (show stepR k (w0 :: us) T = none by
              unfold stepR
              rw [if_neg nA, if_neg nB, if_neg nC])
            have HN := Lib.hid (show R = none from HR.out.trans (ref_none2 (by rw [HLL.out, HKS.out, HS.out])))
            try clear nA
            try clear nB
            try clear nC
            try clear we
            try clear wn
            try clear wA
            try clear wB
            try clear wC
            try clear wk
            go_wp2_with (with_reducible refine stop_at ?_)
            unfold StopAt
            generalize hw9 : World.setCell _ _ _ = w9
            have F9 := Lib.hid (show Held w9 B [Value.int .i64 0, .int .i64 0, .int .i64 0, .slice none 0 0, .slice none 0 0] by rw [← hw9]; exact ((((F4.out.set 0 _).set 1 _).set 2 _).set 3 _).set 4 _)
            have G9 := Lib.hid (show Below B w w9 by rw [← hw9]; exact ((((G4B.out.setCell (p := ⟨B, 0, none⟩) (Nat.le_refl _) _).setCell (p := ⟨B, 1, none⟩) (Nat.le_refl _) _).setCell (p := ⟨B, 2, none⟩) (Nat.le_refl _) _).setCell (p := ⟨B, 3, none⟩) (Nat.le_refl _) _).setCell (p := ⟨B, 4, none⟩) (Nat.le_refl _) _)
            have r0 : w9.cell? ⟨B, 0, none⟩ = some (Value.int .i64 0) := F9.out.cell 0
            have r1 : w9.cell? ⟨B, 1, none⟩ = some (.int .i64 0) := F9.out.cell 1
            have r2 : w9.cell? ⟨B, 2, none⟩ = some (.int .i64 0) := F9.out.cell 2
            have r3 : w9.cell? ⟨B, 3, none⟩ = some (.slice none 0 0) := F9.out.cell 3
            have r4 : w9.cell? ⟨B, 4, none⟩ = some (.slice none 0 0) := F9.out.cell 4
            refine bodyPost_ret (by simp [results, Tryz.results7, r0, r1, r2, r3, r4, go_sem]; try rfl) rfl ?_
            exact ⟨.inr ⟨HN.out, rfl⟩, G9.out⟩
        · have t0 : ((k : Int) == 0) = false := by rw [beq_eq_false_iff_ne]; omega
          have d0 : (0 : Int) < (k : Int) := by omega
          have d1 : 0 < k := by omega
          have tC : ((sB w0).toList == [76, 69, 65, 83, 69]) = true := by rw [word_eq]; exact decide_eq_true wC
          have tB : ((sB w0).toList == [83, 69, 83, 83, 73, 79, 78]) = false := by rw [word_eq, wC]; exact decide_eq_false (by decide)
          have m5 : ((n : Int) == 5) = true := by rw [beq_iff_eq]; omega
          have nA : ¬ (k = 0 ∧ (w0 :: us).head? = some locksW ∧ (w0 :: us).length = 4) := by
            intro h
            have h1 := h.1
            have h2 : w0 = locksW := Option.some.inj h.2.1
            have h3 : (w0 :: us).length = 4 := h.2.2
            rw [← HNN.out] at h3
            first
              | omega
              | exact wA h2
              | exact wB h2
              | exact wC h2
              | (rw [wA] at h2; exact absurd h2 (by decide))
              | (rw [wB] at h2; exact absurd h2 (by decide))
              | (rw [wC] at h2; exact absurd h2 (by decide))
              | exact we h.2.2.2
          have nB : ¬ (0 < k ∧ (w0 :: us).head? = some sessionW ∧ (w0 :: us).length = 2 ∧ T.lea = []) := by
            intro h
            have h1 := h.1
            have h2 : w0 = sessionW := Option.some.inj h.2.1
            have h3 : (w0 :: us).length = 2 := h.2.2.1
            rw [← HNN.out] at h3
            first
              | omega
              | exact wA h2
              | exact wB h2
              | exact wC h2
              | (rw [wA] at h2; exact absurd h2 (by decide))
              | (rw [wB] at h2; exact absurd h2 (by decide))
              | (rw [wC] at h2; exact absurd h2 (by decide))
              | exact we h.2.2.2
          obtain ⟨r1, us1, hus⟩ : ∃ r1 us1, us = r1 :: us1 := by
            cases us with
            | nil => have := HNN.out; rw [List.length_cons, List.length_nil] at this; omega
            | cons a b => exact ⟨a, b, rfl⟩
          have hl1 : us1.length = 3 := by have := HNN.out; rw [hus, List.length_cons, List.length_cons] at this; omega
          obtain ⟨A2, c2, hs2, hr2⟩ := slice_at (k := 2) (kk := 2) rfl (n := n) (c := fc) hfr4 us1 (by rw [hus]; rfl) (by omega) hfc
          have e1 : w4.cell? ⟨g, fo + 1, none⟩ = some (.string (sB r1)) := by
            obtain ⟨b', o', e', h'⟩ := hfr4 1 (strV r1) (by rw [hus]; rfl)
            cases e'
            exact h'
          have hg41 : g < w4.heap.size := World.block_lt_of_cell? w4 _ e1
          have HNS2 := Lib.hid (numsr_any A2 c2 us1 w4 hr2 (by omega) (fun u' hu' => HUS.out u' (by rw [hus]; exact List.mem_cons_of_mem _ hu')))
          have HUS1 := Lib.hid hus
          have HL1 := Lib.hid hl1
          clear hr2 hfr4 hus hl1
          have WC := Lib.hid wC
          have WK := Lib.hid wk
          have WNN := Lib.hid wn
          clear wC wk wn
          have NA := Lib.hid nA
          have NB := Lib.hid nB
          clear nA nB
          go_wp2_with fail
          refine HNS2.out.mono ?_
          rintro e w5 ⟨⟨v5, b5, rfl, hor5⟩, hb5⟩
          have HT5w := Lib.hid (HT4.out.ext hb5)
          have G5w := Lib.hid (G4.out.trans (hb5.mono (by omega)))
          have F5 := Lib.hid (F4.out.ext hb5)
          have G5B := Lib.hid (G4B.out.trans (hb5.mono (by omega)))
          have e1' : w5.cell? ⟨g, fo + 1, none⟩ = some (.string (sB r1)) := (hb5.cell hg41).trans e1
          have q5 := F5.out.cell
          have y5 := F5.out.free
          have hB5 := F5.out.lt
          have hg5 : g < w5.heap.size := World.block_lt_of_cell? w5 _ e1'
          have hw45 : w4.heap.size ≤ w5.heap.size := hb5.size
          clear hb5 e1 hs2 q4 y4 HNS2
          have wC := WC.out
          have wk := WK.out
          have wn := WNN.out
          have nA := NA.out
          have nB := NB.out
          rcases hor5 with ⟨rfl, ns, hnn2, hon⟩ | ⟨rfl, hnn2⟩
          · have hlen := numsP_len hnn2
            obtain ⟨na, nb, nc, rfl⟩ : ∃ na nb nc, ns = [na, nb, nc] := by
              rw [HL1.out] at hlen
              match ns, hlen with
              | [na, nb, nc], _ => exact ⟨na, nb, nc, rfl⟩
            obtain ⟨x, hx⟩ : ∃ x : Ls, x = ⟨r1, na, nb, nc⟩ := ⟨_, rfl⟩
            obtain ⟨T5, hT5⟩ : ∃ T5 : Tb, T5 = ⟨T.now, T.ls, T.lf, T.ses, T.lea ++ [x]⟩ := ⟨_, rfl⟩
            have HS := Lib.hid (show stepR k (w0 :: us) T = some T5 by
              unfold stepR
              rw [if_neg nA, if_neg nB, if_pos ⟨by omega, by rw [wC]; rfl, by rw [← HNN.out]; exact wn⟩]
              rw [show (w0 :: us).drop 2 = us1 by rw [HUS1.out]; rfl, hnn2, hT5, hx, HUS1.out]
              rfl)
            have HK5 := Lib.hid (show lnsR 0 L tb0 = lnsR (k + 1) (L.drop (k + 1)) T5 by rw [HKS.out, HS.out])
            have HI5 := Lib.hid (inR_step HIN.out HS.out)
            have HLE5 := Lib.hid (show T5.ses.length ≤ k + 1 ∧ T5.lea.length ≤ k + 1 by rw [hT5]; exact ⟨by have := HLE.out.1; show T.ses.length ≤ k + 1; omega, by have := HLE.out.2; show (T.lea ++ [x]).length ≤ k + 1; rw [List.length_append, List.length_singleton]; omega⟩)
            obtain ⟨NA, cp, rfl, hi, _, _⟩ := ints_of_own hon
            obtain ⟨gb, go, rfl, k0⟩ := ints3 hi (k := 0) rfl
            rw [Nat.add_zero] at k0
            have k1 : w5.cell? ⟨gb, go + 1, none⟩ = some (.int .i64 nb) := by obtain ⟨_, _, e, h⟩ := ints3 hi (k := 1) rfl; cases e; exact h
            have k2 : w5.cell? ⟨gb, go + 2, none⟩ = some (.int .i64 nc) := by obtain ⟨_, _, e, h⟩ := ints3 hi (k := 2) rfl; cases e; exact h
            have hgb : gb < w5.heap.size := World.block_lt_of_cell? w5 _ k0
            have hgb3 : w4.heap.size ≤ gb := (hon.lt gb rfl).1
            have hne : P ≠ gb := by omega
            have HT5 := Lib.hid hT5
            obtain ⟨xr, hxr⟩ : ∃ y, y = r1 := ⟨_, rfl⟩
            rw [show r1 = x.reel by rw [hx]] at e1'
            rw [show na = x.ses by rw [hx]] at k0
            rw [show nb = x.fen by rw [hx]] at k1
            rw [show nc = x.unt by rw [hx]] at k2
            have hn15 : (1 : Int) < (n : Int) := by omega
            clear hon hi hlen hnn2 hT5 nA nB hgb3 hx hxr xr q5 y5 wC wk wn
            have q3 : w5.cell? ⟨P, 4, none⟩ = some (.slice LA T.lea.length lc) := HT5w.out.block.cell 4
            have y3 : w5.frozen? ⟨P, 4, none⟩ = false := HT5w.out.block.free 4
            have hpw := HT5w.out.lt
            have hBw : P ≤ w5.heap.size := Nat.le_of_lt hpw
            have HOW := Lib.hid HT5w.out.2.2.2
            have hnep : (Value.slice LA T.lea.length lc).ownBlock ≠ some P := HT5w.out.nel
            obtain ⟨i0, hi0, hz0, hz1, hz2⟩ := info_parts infoL
            go_wp2_with fail
            refine wp_region_seen 18 (by kernel_rfl) (twoJ 16 (fun w' => Below w5.heap.size w5 w') (PostLe P w5 (.slice LA T.lea.length lc))) (PhiLe P g fo gb go n fc cp T.lea.length lc LA x w5.heap.size (T.lea ++ [x])) 148 rfl (by kernel_rfl) (by kernel_rfl) (by kernel_rfl) (by kernel_rfl) (by kernel_rfl) (by unfold twoJ; rw [if_neg (by decide)]; exact (Below.refl _ _).drew) ?hops ?hend
            case hops =>
              refine ⟨?o0, ?o1, ?o2, ?o3, ?o4, ?o5, ?o6, ?o7, ?o8, ?o9, ?o10, ?o11, ?o12, ?o13, ?o14, ?o15, ?o16, ?o17, trivial⟩
              case o0 =>
                refine OpOkJ.early 8 rfl (by kernel_rfl) (by decide) ?_
                intro ev w8 hI hdep hfree
                have a6 : ev 6 = .pointer (some ⟨P, 0, none⟩) := hfree 6 (by kernel_rfl)
                clear hdep hfree
                try dsimp only
                simp [OpRuns, execOp, evalOf, a6, go_sem]
                first | exact ⟨hI, rfl, fun e => absurd e (by decide), fun e => absurd e (by decide)⟩ | exact ⟨hI, rfl⟩ | exact hI
              case o1 =>
                refine OpOkJ.early 8 rfl (by kernel_rfl) (by decide) ?_
                intro ev w8 hI hdep hfree
                have a124 : ev 124 = .pointer (some ⟨P, 4, none⟩) := (hdep 0 124 (by kernel_rfl) (by kernel_rfl)).1
                clear hdep hfree
                have y0 : w8.cell? ⟨P, 4, none⟩ = some (.slice LA T.lea.length lc) := (hI.cell (p := ⟨P, 4, none⟩) hpw).trans q3
                try dsimp only
                simp [OpRuns, execOp, evalOf, a124, y0, go_sem]
                first | exact ⟨hI, rfl, fun e => absurd e (by decide), fun e => absurd e (by decide)⟩ | exact ⟨hI, rfl⟩ | exact hI
              case o2 =>
                refine OpOkJ.early 8 rfl (by kernel_rfl) (by decide) ?_
                intro ev w8 hI hdep hfree
                have a9 : ev 9 = .slice (some ⟨g, fo, none⟩) n fc := hfree 9 (by kernel_rfl)
                clear hdep hfree
                try dsimp only
                simp [OpRuns, execOp, evalOf, a9, go_sem]
                first | exact ⟨hI, rfl, fun e => absurd e (by decide), fun e => absurd e (by decide)⟩ | exact ⟨hI, rfl⟩ | exact hI
              case o3 =>
                refine OpOkJ.early 8 rfl (by kernel_rfl) (by decide) ?_
                intro ev w8 hI hdep hfree
                have a126 : ev 126 = .slice (some ⟨g, fo, none⟩) n fc := (hdep 2 126 (by kernel_rfl) (by kernel_rfl)).1
                clear hdep hfree
                try dsimp only
                simp [OpRuns, execOp, evalOf, a126, hn15, go_sem]
                first | exact ⟨hI, rfl, fun e => absurd e (by decide), fun e => absurd e (by decide)⟩ | exact ⟨hI, rfl⟩ | exact hI
              case o4 =>
                refine OpOkJ.early 8 rfl (by kernel_rfl) (by decide) ?_
                intro ev w8 hI hdep hfree
                have a127 : ev 127 = .pointer (some ⟨g, fo + 1, none⟩) := (hdep 3 127 (by kernel_rfl) (by kernel_rfl)).1
                clear hdep hfree
                have y0 : w8.cell? ⟨g, fo + 1, none⟩ = some (.string (sB x.reel)) := (hI.cell (p := ⟨g, fo + 1, none⟩) hg5).trans e1'
                try dsimp only
                simp [OpRuns, execOp, evalOf, a127, y0, go_sem]
                first | exact ⟨hI, rfl, fun e => absurd e (by decide), fun e => absurd e (by decide)⟩ | exact ⟨hI, rfl⟩ | exact hI
              case o5 =>
                refine OpOkJ.early 8 rfl (by kernel_rfl) (by decide) ?_
                intro ev w8 hI hdep hfree
                have a10 : ev 10 = .slice (some ⟨gb, go, none⟩) 3 cp := hfree 10 (by kernel_rfl)
                clear hdep hfree
                try dsimp only
                simp [OpRuns, execOp, evalOf, a10, go_sem]
                first | exact ⟨hI, rfl, fun e => absurd e (by decide), fun e => absurd e (by decide)⟩ | exact ⟨hI, rfl⟩ | exact hI
              case o6 =>
                refine OpOkJ.early 8 rfl (by kernel_rfl) (by decide) ?_
                intro ev w8 hI hdep hfree
                have a129 : ev 129 = .slice (some ⟨gb, go, none⟩) 3 cp := (hdep 5 129 (by kernel_rfl) (by kernel_rfl)).1
                clear hdep hfree
                try dsimp only
                simp [OpRuns, execOp, evalOf, a129, go_sem]
                first | exact ⟨hI, rfl, fun e => absurd e (by decide), fun e => absurd e (by decide)⟩ | exact ⟨hI, rfl⟩ | exact hI
              case o7 =>
                refine OpOkJ.early 8 rfl (by kernel_rfl) (by decide) ?_
                intro ev w8 hI hdep hfree
                have a130 : ev 130 = .pointer (some ⟨gb, go, none⟩) := (hdep 6 130 (by kernel_rfl) (by kernel_rfl)).1
                clear hdep hfree
                have y0 : w8.cell? ⟨gb, go, none⟩ = some (.int .i64 x.ses) := (hI.cell (p := ⟨gb, go, none⟩) hgb).trans k0
                try dsimp only
                simp [OpRuns, execOp, evalOf, a130, y0, go_sem]
                first | exact ⟨hI, rfl, fun e => absurd e (by decide), fun e => absurd e (by decide)⟩ | exact ⟨hI, rfl⟩ | exact hI
              case o8 =>
                refine OpOkJ.early 8 rfl (by kernel_rfl) (by decide) ?_
                intro ev w8 hI hdep hfree
                have a10 : ev 10 = .slice (some ⟨gb, go, none⟩) 3 cp := hfree 10 (by kernel_rfl)
                clear hdep hfree
                try dsimp only
                simp [OpRuns, execOp, evalOf, a10, go_sem]
                first | exact ⟨hI, rfl, fun e => absurd e (by decide), fun e => absurd e (by decide)⟩ | exact ⟨hI, rfl⟩ | exact hI
              case o9 =>
                refine OpOkJ.early 8 rfl (by kernel_rfl) (by decide) ?_
                intro ev w8 hI hdep hfree
                have a132 : ev 132 = .slice (some ⟨gb, go, none⟩) 3 cp := (hdep 8 132 (by kernel_rfl) (by kernel_rfl)).1
                clear hdep hfree
                try dsimp only
                simp [OpRuns, execOp, evalOf, a132, go_sem]
                first | exact ⟨hI, rfl, fun e => absurd e (by decide), fun e => absurd e (by decide)⟩ | exact ⟨hI, rfl⟩ | exact hI
              case o10 =>
                refine OpOkJ.early 8 rfl (by kernel_rfl) (by decide) ?_
                intro ev w8 hI hdep hfree
                have a133 : ev 133 = .pointer (some ⟨gb, go + 1, none⟩) := (hdep 9 133 (by kernel_rfl) (by kernel_rfl)).1
                clear hdep hfree
                have y0 : w8.cell? ⟨gb, go + 1, none⟩ = some (.int .i64 x.fen) := (hI.cell (p := ⟨gb, go + 1, none⟩) hgb).trans k1
                try dsimp only
                simp [OpRuns, execOp, evalOf, a133, y0, go_sem]
                first | exact ⟨hI, rfl, fun e => absurd e (by decide), fun e => absurd e (by decide)⟩ | exact ⟨hI, rfl⟩ | exact hI
              case o11 =>
                refine OpOkJ.early 8 rfl (by kernel_rfl) (by decide) ?_
                intro ev w8 hI hdep hfree
                have a10 : ev 10 = .slice (some ⟨gb, go, none⟩) 3 cp := hfree 10 (by kernel_rfl)
                clear hdep hfree
                try dsimp only
                simp [OpRuns, execOp, evalOf, a10, go_sem]
                first | exact ⟨hI, rfl, fun e => absurd e (by decide), fun e => absurd e (by decide)⟩ | exact ⟨hI, rfl⟩ | exact hI
              case o12 =>
                refine OpOkJ.early 8 rfl (by kernel_rfl) (by decide) ?_
                intro ev w8 hI hdep hfree
                have a135 : ev 135 = .slice (some ⟨gb, go, none⟩) 3 cp := (hdep 11 135 (by kernel_rfl) (by kernel_rfl)).1
                clear hdep hfree
                try dsimp only
                simp [OpRuns, execOp, evalOf, a135, go_sem]
                first | exact ⟨hI, rfl, fun e => absurd e (by decide), fun e => absurd e (by decide)⟩ | exact ⟨hI, rfl⟩ | exact hI
              case o13 =>
                refine OpOkJ.early 8 rfl (by kernel_rfl) (by decide) ?_
                intro ev w8 hI hdep hfree
                have a136 : ev 136 = .pointer (some ⟨gb, go + 2, none⟩) := (hdep 12 136 (by kernel_rfl) (by kernel_rfl)).1
                clear hdep hfree
                have y0 : w8.cell? ⟨gb, go + 2, none⟩ = some (.int .i64 x.unt) := (hI.cell (p := ⟨gb, go + 2, none⟩) hgb).trans k2
                try dsimp only
                simp [OpRuns, execOp, evalOf, a136, y0, go_sem]
                first | exact ⟨hI, rfl, fun e => absurd e (by decide), fun e => absurd e (by decide)⟩ | exact ⟨hI, rfl⟩ | exact hI
              case o14 =>
                refine OpOkJ.early 8 rfl (by kernel_rfl) (by decide) ?_
                intro ev w8 hI hdep hfree
                have a128 : ev 128 = .string (sB x.reel) := (hdep 4 128 (by kernel_rfl) (by kernel_rfl)).1
                have a131 : ev 131 = .int .i64 x.ses := (hdep 7 131 (by kernel_rfl) (by kernel_rfl)).1
                have a134 : ev 134 = .int .i64 x.fen := (hdep 10 134 (by kernel_rfl) (by kernel_rfl)).1
                have a137 : ev 137 = .int .i64 x.unt := (hdep 13 137 (by kernel_rfl) (by kernel_rfl)).1
                clear hdep hfree
                try dsimp only
                simp [OpRuns, execOp, evalOf, a128, a131, a134, a137, go_sem]
                first | exact ⟨hI, rfl, fun e => absurd e (by decide), fun e => absurd e (by decide)⟩ | exact ⟨hI, rfl⟩ | exact hI
              case o15 =>
                refine OpOkJ.early 8 rfl (by kernel_rfl) (by decide) ?_
                intro ev w8 hI hdep hfree
                have a138 : ev 138 = lsA x := (hdep 14 138 (by kernel_rfl) (by kernel_rfl)).1
                unfold lsA at a138
                have HSZ : w5.heap.size ≤ w8.heap.size := hI.size
                clear hdep hfree
                try dsimp only
                simp [OpRuns, execOp, evalOf, a138, go_sem]
                exact ⟨hI.alloc HSZ _, PhiLe.ext P g fo gb go n fc cp T.lea.length lc LA x w5.heap.size (T.lea ++ [x]) (below_one _ _), trivial, (fun _ => ⟨_, rfl, HSZ, Held.new rfl⟩), fun e => absurd e (by decide)⟩
              case o16 =>
                refine OpOkJ.pivot rfl (of_decide_eq_true (by kernel_rfl)) ?_
                intro ev w8 hI hdep hfree
                have a125 : ev 125 = .slice LA T.lea.length lc := (hdep 1 125 (by kernel_rfl) (by kernel_rfl)).1
                obtain ⟨h, a139, hE, HH⟩ := (hdep 15 139 (by kernel_rfl) (by kernel_rfl)).2.1 rfl
                have HSZ : w5.heap.size ≤ w8.heap.size := hI.size
                clear hdep hfree
                obtain ⟨th, hth⟩ := HH
                have hhl : h < w8.heap.size := (Array.getElem?_eq_some_iff.1 hth).1
                obtain ⟨gg, cap, w9, hr, hown, hgrow, hat, hlt⟩ := run_append_lies (P := Tryz.prog) w8 28 28 P 49 i0 _ 4 40 Tryz.underlying28 hi0 hz0 hz1 hz2 rfl (by omega) (.slice LA T.lea.length lc) T.lea.length (T.lea.flatMap lsV) (own_ext HOW.out hI) ⟨h, 0, none⟩ 1 1 (lsV x) rfl (World.news_of_block hth) (by simp [Value.oneCell', lsV]) (by omega) (by simp only [maxLen]; omega) (by omega) (Nat.le_trans hBw HSZ) _ rfl
                have hne8 : (Value.slice LA T.lea.length lc).ownBlock ≠ some h := fun e => by have := (HOW.out.lt h e).2; omega
                try dsimp only
                simp only [OpRuns, execOp, evalOf, resolve, invoke, builtin, Sem.run_bind, Sem.run_pure, Result.andThen_ok, List.map_toArray, List.map_cons, List.map_nil, a125, a139, hr]
                refine ⟨⟨((hI.mono hBw).grown hgrow (Nat.le_trans hBw HSZ) (own_base HOW.out)), fun h' hl' hn' => (hgrow.block h' (Nat.lt_of_lt_of_le hl' HSZ) (fun e => hn' e.symm)).trans (hI.block h' hl')⟩, ?_, ?_⟩
                · intro j s u hj hd hphi
                  refine ⟨hphi.1, fun e => ?_, fun e => ?_⟩
                  · obtain ⟨h1, h2, h3, t1, h4⟩ := hphi.2.1 e
                    have hl1 : h1 < w8.heap.size := (Array.getElem?_eq_some_iff.1 h4).1
                    exact ⟨h1, h2, h3, t1, (hgrow.block h1 hl1 (fun e => by have := (HOW.out.lt h1 e.symm).2; omega)).trans h4⟩
                  · exfalso
                    rw [e] at hd
                    exact dst_only (t := 16) (d := 140) (by kernel_rfl) j hj hd
                · intro d hd
                  cases hd
                  exact ⟨trivial, (fun e => absurd e (by decide)), fun _ => ⟨gg, cap, rfl, by rw [List.flatMap_append]; simpa using hown⟩⟩
              case o17 =>
                refine OpOkJ.both rfl (by decide) ?_ ?_
                · intro ev w8 hI hdep hfree
                  have a6 : ev 6 = .pointer (some ⟨P, 0, none⟩) := hfree 6 (by kernel_rfl)
                  clear hdep hfree
                  try dsimp only
                  simp [OpRuns, execOp, evalOf, a6, go_sem]
                  first | exact ⟨hI, rfl, fun e => absurd e (by decide), fun e => absurd e (by decide)⟩ | exact ⟨hI, rfl⟩ | exact hI
                · intro ev w8 hI hdep hfree
                  have a6 : ev 6 = .pointer (some ⟨P, 0, none⟩) := hfree 6 (by kernel_rfl)
                  clear hdep hfree
                  try dsimp only
                  simp [OpRuns, execOp, evalOf, a6, go_sem]
                  first | exact ⟨hI, rfl, fun e => absurd e (by decide), fun e => absurd e (by decide)⟩ | exact ⟨hI, rfl⟩ | exact hI
            case hend =>
              intro listed a w8 hall hdf hsz hJ hPhi hkept
              have hI1 : PostLe P w5 (.slice LA T.lea.length lc) w8 := by
                have := hJ
                unfold twoJ at this
                rwa [if_pos (hall 16 (by omega))] at this
              obtain ⟨gg, cap, x140, hown⟩ := (hPhi 16 140 (by omega) (by kernel_rfl)).2.2 rfl
              have x141 : a.tmps.getD 141 undef = .pointer (some ⟨P, 4, none⟩) := (hPhi 17 141 (by omega) (by kernel_rfl)).1
              replace hdf : a.defers = [] := hdf
              replace hsz : a.tmps.size = 148 := hsz
              rw [x140] at hown
              have x0 : a.tmps.getD 0 undef = Value.string (sB s) := hkept 0 (kept_front (by kernel_rfl))
              have x1 : a.tmps.getD 1 undef = undef := hkept 1 (kept_front (by kernel_rfl))
              have x2 : a.tmps.getD 2 undef = Value.pointer (some { block := B, off := 0 }) := hkept 2 (kept_front (by kernel_rfl))
              have x3 : a.tmps.getD 3 undef = u3 := hkept 3 (kept_front (by kernel_rfl))
              have x4 : a.tmps.getD 4 undef = Value.slice (some { block := rb, off := ro }) L.length c := hkept 4 (kept_front (by kernel_rfl))
              have x5 : a.tmps.getD 5 undef = Value.bool true := hkept 5 (kept_front (by kernel_rfl))
              have x6 : a.tmps.getD 6 undef = Value.pointer (some { block := P, off := 0 }) := hkept 6 (kept_front (by kernel_rfl))
              have x12 : a.tmps.getD 12 undef = Value.tuple #[Value.slice (some { block := rb, off := ro }) L.length c, Value.bool true] := hkept 12 (kept_front (by kernel_rfl))
              have x13 : a.tmps.getD 13 undef = Value.string (sB s) := hkept 13 (kept_front (by kernel_rfl))
              have x14 : a.tmps.getD 14 undef = Value.tuple #[Value.slice (some { block := rb, off := ro }) L.length c, Value.bool true] := hkept 14 (kept_front (by kernel_rfl))
              have x15 : a.tmps.getD 15 undef = Value.slice (some { block := rb, off := ro }) L.length c := hkept 15 (kept_front (by kernel_rfl))
              have x16 : a.tmps.getD 16 undef = Value.bool true := hkept 16 (kept_front (by kernel_rfl))
              have x17 : a.tmps.getD 17 undef = Value.bool true := hkept 17 (kept_front (by kernel_rfl))
              have x18 : a.tmps.getD 18 undef = Value.bool false := hkept 18 (kept_front (by kernel_rfl))
              have x19 : a.tmps.getD 19 undef = Value.bool false := hkept 19 (kept_front (by kernel_rfl))
              have x20 : a.tmps.getD 20 undef = Value.slice (some { block := rb, off := ro }) L.length c := hkept 20 (kept_front (by kernel_rfl))
              have x21 : a.tmps.getD 21 undef = Value.int IntKind.i64 (↑L.length : Int) := hkept 21 (kept_front (by kernel_rfl))
              have x22 : a.tmps.getD 22 undef = Value.bool false := hkept 22 (kept_front (by kernel_rfl))
              have x23 : a.tmps.getD 23 undef = Value.bool false := hkept 23 (kept_front (by kernel_rfl))
              have x24 : a.tmps.getD 24 undef = undef := hkept 24 (kept_front (by kernel_rfl))
              have x25 : a.tmps.getD 25 undef = Value.slice (some { block := rb, off := ro }) L.length c := hkept 25 (kept_front (by kernel_rfl))
              have x26 : a.tmps.getD 26 undef = Value.int IntKind.i64 (↑L.length : Int) := hkept 26 (kept_front (by kernel_rfl))
              have x27 : a.tmps.getD 27 undef = Value.int IntKind.i64 (↑k : Int) := hkept 27 (kept_front (by kernel_rfl))
              have x143 : a.tmps.getD 143 undef = undef := hkept 143 (kept_front (by kernel_rfl))
              have x144 : a.tmps.getD 144 undef = undef := hkept 144 (kept_front (by kernel_rfl))
              have x145 : a.tmps.getD 145 undef = undef := hkept 145 (kept_front (by kernel_rfl))
              have x146 : a.tmps.getD 146 undef = undef := hkept 146 (kept_front (by kernel_rfl))
              have x147 : a.tmps.getD 147 undef = undef := hkept 147 (kept_front (by kernel_rfl))
              have ea := act_lit hsz hdf
              simp only [getDs] at ea
              rw [x140, x141, x0, x1, x2, x3, x4, x5, x6, x12, x13, x14, x15, x16, x17, x18, x19, x20, x21, x22, x23, x24, x25, x26, x27, x143, x144, x145, x146, x147] at ea
              rw [ea]
              clear ea x140 x141 x0 x1 x2 x3 x4 x5 x6 x12 x13 x14 x15 x16 x17 x18 x19 x20 x21 x22 x23 x24 x25 x26 x27 x143 x144 x145 x146 x147 hPhi hkept hdf hsz hall hJ
              generalize a.tmps.getD 7 undef = v7
              generalize a.tmps.getD 8 undef = v8
              generalize a.tmps.getD 9 undef = v9
              generalize a.tmps.getD 10 undef = v10
              generalize a.tmps.getD 11 undef = v11
              generalize a.tmps.getD 28 undef = v28
              generalize a.tmps.getD 29 undef = v29
              generalize a.tmps.getD 30 undef = v30
              generalize a.tmps.getD 31 undef = v31
              generalize a.tmps.getD 32 undef = v32
              generalize a.tmps.getD 33 undef = v33
              generalize a.tmps.getD 34 undef = v34
              generalize a.tmps.getD 35 undef = v35
              generalize a.tmps.getD 36 undef = v36
              generalize a.tmps.getD 37 undef = v37
              generalize a.tmps.getD 38 undef = v38
              generalize a.tmps.getD 39 undef = v39
              generalize a.tmps.getD 40 undef = v40
              generalize a.tmps.getD 41 undef = v41
              generalize a.tmps.getD 42 undef = v42
              generalize a.tmps.getD 43 undef = v43
              generalize a.tmps.getD 44 undef = v44
              generalize a.tmps.getD 45 undef = v45
              generalize a.tmps.getD 46 undef = v46
              generalize a.tmps.getD 47 undef = v47
              generalize a.tmps.getD 48 undef = v48
              generalize a.tmps.getD 49 undef = v49
              generalize a.tmps.getD 50 undef = v50
              generalize a.tmps.getD 51 undef = v51
              generalize a.tmps.getD 52 undef = v52
              generalize a.tmps.getD 53 undef = v53
              generalize a.tmps.getD 54 undef = v54
              generalize a.tmps.getD 55 undef = v55
              generalize a.tmps.getD 56 undef = v56
              generalize a.tmps.getD 57 undef = v57
              generalize a.tmps.getD 58 undef = v58
              generalize a.tmps.getD 59 undef = v59
              generalize a.tmps.getD 60 undef = v60
              generalize a.tmps.getD 61 undef = v61
              generalize a.tmps.getD 62 undef = v62
              generalize a.tmps.getD 63 undef = v63
              generalize a.tmps.getD 64 undef = v64
              generalize a.tmps.getD 65 undef = v65
              generalize a.tmps.getD 66 undef = v66
              generalize a.tmps.getD 67 undef = v67
              generalize a.tmps.getD 68 undef = v68
              generalize a.tmps.getD 69 undef = v69
              generalize a.tmps.getD 70 undef = v70
              generalize a.tmps.getD 71 undef = v71
              generalize a.tmps.getD 72 undef = v72
              generalize a.tmps.getD 73 undef = v73
              generalize a.tmps.getD 74 undef = v74
              generalize a.tmps.getD 75 undef = v75
              generalize a.tmps.getD 76 undef = v76
              generalize a.tmps.getD 77 undef = v77
              generalize a.tmps.getD 78 undef = v78
              generalize a.tmps.getD 79 undef = v79
              generalize a.tmps.getD 80 undef = v80
              generalize a.tmps.getD 81 undef = v81
              generalize a.tmps.getD 82 undef = v82
              generalize a.tmps.getD 83 undef = v83
              generalize a.tmps.getD 84 undef = v84
              generalize a.tmps.getD 85 undef = v85
              generalize a.tmps.getD 86 undef = v86
              generalize a.tmps.getD 87 undef = v87
              generalize a.tmps.getD 88 undef = v88
              generalize a.tmps.getD 89 undef = v89
              generalize a.tmps.getD 90 undef = v90
              generalize a.tmps.getD 91 undef = v91
              generalize a.tmps.getD 92 undef = v92
              generalize a.tmps.getD 93 undef = v93
              generalize a.tmps.getD 94 undef = v94
              generalize a.tmps.getD 95 undef = v95
              generalize a.tmps.getD 96 undef = v96
              generalize a.tmps.getD 97 undef = v97
              generalize a.tmps.getD 98 undef = v98
              generalize a.tmps.getD 99 undef = v99
              generalize a.tmps.getD 100 undef = v100
              generalize a.tmps.getD 101 undef = v101
              generalize a.tmps.getD 102 undef = v102
              generalize a.tmps.getD 103 undef = v103
              generalize a.tmps.getD 104 undef = v104
              generalize a.tmps.getD 105 undef = v105
              generalize a.tmps.getD 106 undef = v106
              generalize a.tmps.getD 107 undef = v107
              generalize a.tmps.getD 108 undef = v108
              generalize a.tmps.getD 109 undef = v109
              generalize a.tmps.getD 110 undef = v110
              generalize a.tmps.getD 111 undef = v111
              generalize a.tmps.getD 112 undef = v112
              generalize a.tmps.getD 113 undef = v113
              generalize a.tmps.getD 114 undef = v114
              generalize a.tmps.getD 115 undef = v115
              generalize a.tmps.getD 116 undef = v116
              generalize a.tmps.getD 117 undef = v117
              generalize a.tmps.getD 118 undef = v118
              generalize a.tmps.getD 119 undef = v119
              generalize a.tmps.getD 120 undef = v120
              generalize a.tmps.getD 121 undef = v121
              generalize a.tmps.getD 122 undef = v122
              generalize a.tmps.getD 123 undef = v123
              generalize a.tmps.getD 124 undef = v124
              generalize a.tmps.getD 125 undef = v125
              generalize a.tmps.getD 126 undef = v126
              generalize a.tmps.getD 127 undef = v127
              generalize a.tmps.getD 128 undef = v128
              generalize a.tmps.getD 129 undef = v129
              generalize a.tmps.getD 130 undef = v130
              generalize a.tmps.getD 131 undef = v131
              generalize a.tmps.getD 132 undef = v132
              generalize a.tmps.getD 133 undef = v133
              generalize a.tmps.getD 134 undef = v134
              generalize a.tmps.getD 135 undef = v135
              generalize a.tmps.getD 136 undef = v136
              generalize a.tmps.getD 137 undef = v137
              generalize a.tmps.getD 138 undef = v138
              generalize a.tmps.getD 139 undef = v139
              generalize a.tmps.getD 142 undef = v142
              clear a
              have hPlt : P < w8.heap.size := Nat.lt_of_lt_of_le hpw hI1.1.size
              have hP8 : w8.heap[P]? = w5.heap[P]? := hI1.2 P hpw hnep
              have q8 : w8.cell? ⟨P, 4, none⟩ = some (.slice LA T.lea.length lc) := (World.cell?_of_block hP8).trans q3
              have y8 : w8.frozen? ⟨P, 4, none⟩ = false := (World.frozen?_of_block hP8).trans y3
              have R6 := Lib.hid (RepR.setL (T := T) (L := T.lea ++ [x]) (Nat.le_refl P) (hP8.trans HT5w.out.2.1) (own_same HT5w.out.2.2.1 (fun g' hg' => hI1.2 g' (HT5w.out.2.2.1.lt g' hg').2 (fun e => HT5w.out.apart hg' e))) (by
                rw [List.length_append]
                exact hown))
              have G6 := Lib.hid ((G5w.out.trans hI1.1).setCell (p := ⟨P, 4, none⟩) (Nat.le_refl _) (.slice (some ⟨gg, 0, none⟩) (T.lea.length + 1) cap))
              clear hI1 hown q3 y3 k0 k1 k2 e1' hn15 t0 d0 d1 tB tC m5
              go_wp2_with fail
              generalize hw6 : World.setCell w8 _ _ = w6
              have R7 : Hid (RepR P P _ _ T5 w6) := Lib.hid (by
                rw [← hw6, HT5.out]
                exact R6.out)
              have G7 : Hid (Below P w2 w6) := Lib.hid (by
                rw [← hw6]
                exact G6.out)
              clear R6 G6 q8 y8 hw6
              go_roundw
              case rel => exact ⟨k + 1, T5, _, _, by omega, by go_num, HK5, R7, HI5, HLE5, G7⟩
              case measure => simp [intOf]; omega
          · replace hnn2 : numsP mRf (us.drop 1) = none := by rw [HUS1.out]; exact hnn2
            have HS := Lib.hid (show stepR k (w0 :: us) T = none by
              unfold stepR
              rw [if_neg nA, if_neg nB, if_pos ⟨by omega, by rw [wC]; rfl, by rw [← HNN.out]; exact wn⟩]
              rw [show (w0 :: us).drop 2 = us.drop 1 from rfl, hnn2])
            have HN := Lib.hid (show R = none from HR.out.trans (ref_none2 (by rw [HLL.out, HKS.out, HS.out])))
            clear nA nB hnn2 wC wk wn
            go_wp2_with (with_reducible refine stop_at ?_)
            unfold StopAt
            generalize hw9 : World.setCell _ _ _ = w9
            have F9 := Lib.hid (show Held w9 B [Value.int .i64 0, .int .i64 0, .int .i64 0, .slice none 0 0, .slice none 0 0] by rw [← hw9]; exact ((((F5.out.set 0 _).set 1 _).set 2 _).set 3 _).set 4 _)
            have G9 := Lib.hid (show Below B w w9 by rw [← hw9]; exact ((((G5B.out.setCell (p := ⟨B, 0, none⟩) (Nat.le_refl _) _).setCell (p := ⟨B, 1, none⟩) (Nat.le_refl _) _).setCell (p := ⟨B, 2, none⟩) (Nat.le_refl _) _).setCell (p := ⟨B, 3, none⟩) (Nat.le_refl _) _).setCell (p := ⟨B, 4, none⟩) (Nat.le_refl _) _)
            have r0 : w9.cell? ⟨B, 0, none⟩ = some (Value.int .i64 0) := F9.out.cell 0
            have r1 : w9.cell? ⟨B, 1, none⟩ = some (.int .i64 0) := F9.out.cell 1
            have r2 : w9.cell? ⟨B, 2, none⟩ = some (.int .i64 0) := F9.out.cell 2
            have r3 : w9.cell? ⟨B, 3, none⟩ = some (.slice none 0 0) := F9.out.cell 3
            have r4 : w9.cell? ⟨B, 4, none⟩ = some (.slice none 0 0) := F9.out.cell 4
            refine bodyPost_ret (by simp [results, Tryz.results7, r0, r1, r2, r3, r4, go_sem]; try rfl) rfl ?_
            exact ⟨.inr ⟨HN.out, rfl⟩, G9.out⟩
        · have t0 : ((k : Int) == 0) = false := by rw [beq_eq_false_iff_ne]; omega
          have d0 : (0 : Int) < (k : Int) := by omega
          have d1 : 0 < k := by omega
          have tC : ((sB w0).toList == [76, 69, 65, 83, 69]) = true := by rw [word_eq]; exact decide_eq_true wC
          have tB : ((sB w0).toList == [83, 69, 83, 83, 73, 79, 78]) = false := by rw [word_eq, wC]; exact decide_eq_false (by decide)
          have m5 : ((n : Int) == 5) = false := by rw [beq_eq_false_iff_ne]; omega
          have nA : ¬ (k = 0 ∧ (w0 :: us).head? = some locksW ∧ (w0 :: us).length = 4) := by
            intro h
            have h1 := h.1
            have h2 : w0 = locksW := Option.some.inj h.2.1
            have h3 : (w0 :: us).length = 4 := h.2.2
            rw [← HNN.out] at h3
            first
              | omega
              | exact wA h2
              | exact wB h2
              | exact wC h2
              | (rw [wA] at h2; exact absurd h2 (by decide))
              | (rw [wB] at h2; exact absurd h2 (by decide))
              | (rw [wC] at h2; exact absurd h2 (by decide))
              | exact we h.2.2.2
          have nB : ¬ (0 < k ∧ (w0 :: us).head? = some sessionW ∧ (w0 :: us).length = 2 ∧ T.lea = []) := by
            intro h
            have h1 := h.1
            have h2 : w0 = sessionW := Option.some.inj h.2.1
            have h3 : (w0 :: us).length = 2 := h.2.2.1
            rw [← HNN.out] at h3
            first
              | omega
              | exact wA h2
              | exact wB h2
              | exact wC h2
              | (rw [wA] at h2; exact absurd h2 (by decide))
              | (rw [wB] at h2; exact absurd h2 (by decide))
              | (rw [wC] at h2; exact absurd h2 (by decide))
              | exact we h.2.2.2
          have nC : ¬ (0 < k ∧ (w0 :: us).head? = some leaW ∧ (w0 :: us).length = 5) := by
            intro h
            have h1 := h.1
            have h2 : w0 = leaW := Option.some.inj h.2.1
            have h3 : (w0 :: us).length = 5 := h.2.2
            rw [← HNN.out] at h3
            first
              | omega
              | exact wA h2
              | exact wB h2
              | exact wC h2
              | (rw [wA] at h2; exact absurd h2 (by decide))
              | (rw [wB] at h2; exact absurd h2 (by decide))
              | (rw [wC] at h2; exact absurd h2 (by decide))
              | exact we h.2.2.2
          have HS := Lib.hid (show stepR k (w0 :: us) T = none by
            unfold stepR
            rw [if_neg nA, if_neg nB, if_neg nC])
          have HN := Lib.hid (show R = none from HR.out.trans (ref_none2 (by rw [HLL.out, HKS.out, HS.out])))
          try clear nA
          try clear nB
          try clear nC
          try clear we
          try clear wn
          try clear wA
          try clear wB
          try clear wC
          try clear wk
          go_wp2_with (with_reducible refine stop_at ?_)
          unfold StopAt
          generalize hw9 : World.setCell _ _ _ = w9
          have F9 := Lib.hid (show Held w9 B [Value.int .i64 0, .int .i64 0, .int .i64 0, .slice none 0 0, .slice none 0 0] by rw [← hw9]; exact ((((F4.out.set 0 _).set 1 _).set 2 _).set 3 _).set 4 _)
          have G9 := Lib.hid (show Below B w w9 by rw [← hw9]; exact ((((G4B.out.setCell (p := ⟨B, 0, none⟩) (Nat.le_refl _) _).setCell (p := ⟨B, 1, none⟩) (Nat.le_refl _) _).setCell (p := ⟨B, 2, none⟩) (Nat.le_refl _) _).setCell (p := ⟨B, 3, none⟩) (Nat.le_refl _) _).setCell (p := ⟨B, 4, none⟩) (Nat.le_refl _) _)
          have r0 : w9.cell? ⟨B, 0, none⟩ = some (Value.int .i64 0) := F9.out.cell 0
          have r1 : w9.cell? ⟨B, 1, none⟩ = some (.int .i64 0) := F9.out.cell 1
          have r2 : w9.cell? ⟨B, 2, none⟩ = some (.int .i64 0) := F9.out.cell 2
          have r3 : w9.cell? ⟨B, 3, none⟩ = some (.slice none 0 0) := F9.out.cell 3
          have r4 : w9.cell? ⟨B, 4, none⟩ = some (.slice none 0 0) := F9.out.cell 4
          refine bodyPost_ret (by simp [results, Tryz.results7, r0, r1, r2, r3, r4, go_sem]; try rfl) rfl ?_
          exact ⟨.inr ⟨HN.out, rfl⟩, G9.out⟩
        · have t0 : ((k : Int) == 0) = false := by rw [beq_eq_false_iff_ne]; omega
          have d0 : (0 : Int) < (k : Int) := by omega
          have d1 : 0 < k := by omega
          have tB : ((sB w0).toList == [83, 69, 83, 83, 73, 79, 78]) = false := by rw [word_eq]; exact decide_eq_false wB
          have tC : ((sB w0).toList == [76, 69, 65, 83, 69]) = false := by rw [word_eq]; exact decide_eq_false wC
          have nA : ¬ (k = 0 ∧ (w0 :: us).head? = some locksW ∧ (w0 :: us).length = 4) := by
            intro h
            have h1 := h.1
            have h2 : w0 = locksW := Option.some.inj h.2.1
            have h3 : (w0 :: us).length = 4 := h.2.2
            rw [← HNN.out] at h3
            first
              | omega
              | exact wA h2
              | exact wB h2
              | exact wC h2
              | (rw [wA] at h2; exact absurd h2 (by decide))
              | (rw [wB] at h2; exact absurd h2 (by decide))
              | (rw [wC] at h2; exact absurd h2 (by decide))
              | exact we h.2.2.2
          have nB : ¬ (0 < k ∧ (w0 :: us).head? = some sessionW ∧ (w0 :: us).length = 2 ∧ T.lea = []) := by
            intro h
            have h1 := h.1
            have h2 : w0 = sessionW := Option.some.inj h.2.1
            have h3 : (w0 :: us).length = 2 := h.2.2.1
            rw [← HNN.out] at h3
            first
              | omega
              | exact wA h2
              | exact wB h2
              | exact wC h2
              | (rw [wA] at h2; exact absurd h2 (by decide))
              | (rw [wB] at h2; exact absurd h2 (by decide))
              | (rw [wC] at h2; exact absurd h2 (by decide))
              | exact we h.2.2.2
          have nC : ¬ (0 < k ∧ (w0 :: us).head? = some leaW ∧ (w0 :: us).length = 5) := by
            intro h
            have h1 := h.1
            have h2 : w0 = leaW := Option.some.inj h.2.1
            have h3 : (w0 :: us).length = 5 := h.2.2
            rw [← HNN.out] at h3
            first
              | omega
              | exact wA h2
              | exact wB h2
              | exact wC h2
              | (rw [wA] at h2; exact absurd h2 (by decide))
              | (rw [wB] at h2; exact absurd h2 (by decide))
              | (rw [wC] at h2; exact absurd h2 (by decide))
              | exact we h.2.2.2
          have HS := Lib.hid (show stepR k (w0 :: us) T = none by
            unfold stepR
            rw [if_neg nA, if_neg nB, if_neg nC])
          have HN := Lib.hid (show R = none from HR.out.trans (ref_none2 (by rw [HLL.out, HKS.out, HS.out])))
          try clear nA
          try clear nB
          try clear nC
          try clear we
          try clear wn
          try clear wA
          try clear wB
          try clear wC
          try clear wk
          go_wp2_with (with_reducible refine stop_at ?_)
          unfold StopAt
          generalize hw9 : World.setCell _ _ _ = w9
          have F9 := Lib.hid (show Held w9 B [Value.int .i64 0, .int .i64 0, .int .i64 0, .slice none 0 0, .slice none 0 0] by rw [← hw9]; exact ((((F4.out.set 0 _).set 1 _).set 2 _).set 3 _).set 4 _)
          have G9 := Lib.hid (show Below B w w9 by rw [← hw9]; exact ((((G4B.out.setCell (p := ⟨B, 0, none⟩) (Nat.le_refl _) _).setCell (p := ⟨B, 1, none⟩) (Nat.le_refl _) _).setCell (p := ⟨B, 2, none⟩) (Nat.le_refl _) _).setCell (p := ⟨B, 3, none⟩) (Nat.le_refl _) _).setCell (p := ⟨B, 4, none⟩) (Nat.le_refl _) _)
          have r0 : w9.cell? ⟨B, 0, none⟩ = some (Value.int .i64 0) := F9.out.cell 0
          have r1 : w9.cell? ⟨B, 1, none⟩ = some (.int .i64 0) := F9.out.cell 1
          have r2 : w9.cell? ⟨B, 2, none⟩ = some (.int .i64 0) := F9.out.cell 2
          have r3 : w9.cell? ⟨B, 3, none⟩ = some (.slice none 0 0) := F9.out.cell 3
          have r4 : w9.cell? ⟨B, 4, none⟩ = some (.slice none 0 0) := F9.out.cell 4
          refine bodyPost_ret (by simp [results, Tryz.results7, r0, r1, r2, r3, r4, go_sem]; try rfl) rfl ?_
          exact ⟨.inr ⟨HN.out, rfl⟩, G9.out⟩
      · obtain rfl : k = L.length := by omega
        have HEND := Lib.hid (show lnsR 0 (wordsC 10 s.dropLast) tb0 = some T by rw [HLL.out, HK.out, List.drop_length]; rfl)
        have HRT := Lib.hid HT.out.put
        have HSN := Lib.hid (sound_any T sv lv wr HRT.out HIN.out (by have := HLE.out.1; have := HLN.out; omega) (by have := HLE.out.2; have := HLN.out; omega))
        obtain ⟨⟨SA, sc, rfl, _⟩, LA, lc, rfl, _, _, _⟩ := HRT.out
        have q := HT.out.block.cell
        clear hlt
        go_wp2_with fail
        refine HSN.out.mono ?_
        rintro e w5 ⟨⟨b, rfl, hor⟩, hb5⟩
        have HT5 := Lib.hid (HT.out.ext hb5)
        have F5 := Lib.hid (FB.out.ext hb5)
        have G5 := Lib.hid (GB.out.trans (hb5.mono (by omega)))
        have y5 := F5.out.free
        have q5 := F5.out.cell
        have hB5 : B < w5.heap.size := F5.out.lt
        have p5 := HT5.out.block.cell
        have hP5 := HT5.out.lt
        clear hb5 q
        rcases hor with ⟨rfl, hs5⟩ | ⟨rfl, hs5⟩
        · have HY := Lib.hid (show R = some T from HR.out.trans (ref_some HL.out HEND.out hs5))
          clear hs5
          go_wp2_with (with_reducible refine stop_at ?_)
          unfold StopAt
          generalize hw9 : World.setCell _ _ _ = w9
          have F9 := Lib.hid (show Held w9 B [Value.int .i64 T.now, .int .i64 T.ls, .int .i64 T.lf, .slice SA T.ses.length sc, .slice LA T.lea.length lc] by rw [← hw9]; exact ((((F5.out.set 0 _).set 1 _).set 2 _).set 3 _).set 4 _)
          have G9 := Lib.hid (show Below B w w9 by rw [← hw9]; exact ((((G5.out.setCell (p := ⟨B, 0, none⟩) (Nat.le_refl _) _).setCell (p := ⟨B, 1, none⟩) (Nat.le_refl _) _).setCell (p := ⟨B, 2, none⟩) (Nat.le_refl _) _).setCell (p := ⟨B, 3, none⟩) (Nat.le_refl _) _).setCell (p := ⟨B, 4, none⟩) (Nat.le_refl _) _)
          have r0 : w9.cell? ⟨B, 0, none⟩ = some (Value.int .i64 T.now) := F9.out.cell 0
          have r1 : w9.cell? ⟨B, 1, none⟩ = some (.int .i64 T.ls) := F9.out.cell 1
          have r2 : w9.cell? ⟨B, 2, none⟩ = some (.int .i64 T.lf) := F9.out.cell 2
          have r3 : w9.cell? ⟨B, 3, none⟩ = some (.slice SA T.ses.length sc) := F9.out.cell 3
          have r4 : w9.cell? ⟨B, 4, none⟩ = some (.slice LA T.lea.length lc) := F9.out.cell 4
          refine bodyPost_ret (by simp [results, Tryz.results7, r0, r1, r2, r3, r4, go_sem]; try rfl) rfl ?_
          have R9 := Lib.hid (show RepR P P _ _ T w9 by rw [← hw9]; exact ((((HT5.out.far hBP 0 _).far hBP 1 _).far hBP 2 _).far hBP 3 _).far hBP 4 _)
          exact ⟨.inl ⟨_, _, T, HY.out, rfl, R9.out.put⟩, G9.out⟩
        · have HN := Lib.hid (show R = none from HR.out.trans (ref_none HEND.out hs5))
          clear hs5
          go_wp2_with (with_reducible refine stop_at ?_)
          unfold StopAt
          generalize hw9 : World.setCell _ _ _ = w9
          have F9 := Lib.hid (show Held w9 B [Value.int .i64 0, .int .i64 0, .int .i64 0, .slice none 0 0, .slice none 0 0] by rw [← hw9]; exact ((((F5.out.set 0 _).set 1 _).set 2 _).set 3 _).set 4 _)
          have G9 := Lib.hid (show Below B w w9 by rw [← hw9]; exact ((((G5.out.setCell (p := ⟨B, 0, none⟩) (Nat.le_refl _) _).setCell (p := ⟨B, 1, none⟩) (Nat.le_refl _) _).setCell (p := ⟨B, 2, none⟩) (Nat.le_refl _) _).setCell (p := ⟨B, 3, none⟩) (Nat.le_refl _) _).setCell (p := ⟨B, 4, none⟩) (Nat.le_refl _) _)
          have r0 : w9.cell? ⟨B, 0, none⟩ = some (Value.int .i64 0) := F9.out.cell 0
          have r1 : w9.cell? ⟨B, 1, none⟩ = some (.int .i64 0) := F9.out.cell 1
          have r2 : w9.cell? ⟨B, 2, none⟩ = some (.int .i64 0) := F9.out.cell 2
          have r3 : w9.cell? ⟨B, 3, none⟩ = some (.slice none 0 0) := F9.out.cell 3
          have r4 : w9.cell? ⟨B, 4, none⟩ = some (.slice none 0 0) := F9.out.cell 4
          refine bodyPost_ret (by simp [results, Tryz.results7, r0, r1, r2, r3, r4, go_sem]; try rfl) rfl ?_
          exact ⟨.inr ⟨HN.out, rfl⟩, G9.out⟩
  · have HN := Lib.hid (show R = none from HR.out.trans (ref_none3 hl))
    by_cases k1 : (wordsC 10 s).getLast? = some []
    · have k2 : (wordsC 10 s).dropLast = [] := (rows_no hl).resolve_left (fun h => h k1)
      have t1 : decide ((wordsC 10 s).getLast? = some []) = true := decide_eq_true k1
      have t2 : (((wordsC 10 s).dropLast.length : Int) == 0) = true := by rw [k2]; rfl
      rw [t1]
      clear k1 k2 hl t1 HRW HO
      generalize (wordsC 10 s).dropLast = L0 at *
      go_wp2_with (with_reducible refine stop_at ?_)
      unfold StopAt
      generalize hw9 : World.setCell _ _ _ = w9
      have F9 := Lib.hid (show Held w9 B [.int .i64 0, .int .i64 0, .int .i64 0, .slice none 0 0, .slice none 0 0] by rw [← hw9]; exact ((((F2.out.set 0 _).set 1 _).set 2 _).set 3 _).set 4 _)
      have G9 := Lib.hid (show Below B w w9 by rw [← hw9]; exact ((((G2.out.setCell (p := ⟨B, 0, none⟩) (Nat.le_refl _) _).setCell (p := ⟨B, 1, none⟩) (Nat.le_refl _) _).setCell (p := ⟨B, 2, none⟩) (Nat.le_refl _) _).setCell (p := ⟨B, 3, none⟩) (Nat.le_refl _) _).setCell (p := ⟨B, 4, none⟩) (Nat.le_refl _) _)
      have r0 : w9.cell? ⟨B, 0, none⟩ = some (.int .i64 0) := F9.out.cell 0
      have r1 : w9.cell? ⟨B, 1, none⟩ = some (.int .i64 0) := F9.out.cell 1
      have r2 : w9.cell? ⟨B, 2, none⟩ = some (.int .i64 0) := F9.out.cell 2
      have r3 : w9.cell? ⟨B, 3, none⟩ = some (.slice none 0 0) := F9.out.cell 3
      have r4 : w9.cell? ⟨B, 4, none⟩ = some (.slice none 0 0) := F9.out.cell 4
      refine bodyPost_ret (by simp [results, Tryz.results7, r0, r1, r2, r3, r4, go_sem]; try rfl) rfl ?_
      exact ⟨.inr ⟨HN.out, rfl⟩, G9.out⟩
    · have t1 : decide ((wordsC 10 s).getLast? = some []) = false := decide_eq_false k1
      rw [t1]
      clear k1 hl t1 HRW HO
      generalize (wordsC 10 s).dropLast = L0 at *
      go_wp2_with (with_reducible refine stop_at ?_)
      unfold StopAt
      generalize hw9 : World.setCell _ _ _ = w9
      have F9 := Lib.hid (show Held w9 B [.int .i64 0, .int .i64 0, .int .i64 0, .slice none 0 0, .slice none 0 0] by rw [← hw9]; exact ((((F2.out.set 0 _).set 1 _).set 2 _).set 3 _).set 4 _)
      have G9 := Lib.hid (show Below B w w9 by rw [← hw9]; exact ((((G2.out.setCell (p := ⟨B, 0, none⟩) (Nat.le_refl _) _).setCell (p := ⟨B, 1, none⟩) (Nat.le_refl _) _).setCell (p := ⟨B, 2, none⟩) (Nat.le_refl _) _).setCell (p := ⟨B, 3, none⟩) (Nat.le_refl _) _).setCell (p := ⟨B, 4, none⟩) (Nat.le_refl _) _)
      have r0 : w9.cell? ⟨B, 0, none⟩ = some (.int .i64 0) := F9.out.cell 0
      have r1 : w9.cell? ⟨B, 1, none⟩ = some (.int .i64 0) := F9.out.cell 1
      have r2 : w9.cell? ⟨B, 2, none⟩ = some (.int .i64 0) := F9.out.cell 2
      have r3 : w9.cell? ⟨B, 3, none⟩ = some (.slice none 0 0) := F9.out.cell 3
      have r4 : w9.cell? ⟨B, 4, none⟩ = some (.slice none 0 0) := F9.out.cell 4
      refine bodyPost_ret (by simp [results, Tryz.results7, r0, r1, r2, r3, r4, go_sem]; try rfl) rfl ?_
      exact ⟨.inr ⟨HN.out, rfl⟩, G9.out⟩
end Go.Proofs.YtneiljaknmeagaaGreatDoor
