/-
  The contract of the law SpanCounts. Its conditions are its hypotheses.
-/
import Derived.Test.YtloioincminhiaaDoorU3
import Derived.Test.YtloioincminhiaaDoorL2
namespace Go.Proofs.YtloioincminhiaaDoor
open Go.RowKit Go.Joins
set_option linter.unusedVariables false
set_option linter.unusedSimpArgs false
theorem ln_bd {L : List Spn} (h : (lnS L).2 = 0) : 0 ≤ (lnS L).1 ∧ (lnS L).1 ≤ 4151347200000 := by
  by_cases h0 : chkS L = 0
  · have e : lnS L = (lenS L, 0) := by unfold lnS; rw [if_pos h0]
    rw [e]
    obtain ⟨h1, hc, hb⟩ := chkS_ok.1 h0
    obtain ⟨h2, h3⟩ := lenS_bd (L := L) (fun s hs => ⟨(hb s hs).1, can_pos hc s hs, (hb s hs).2⟩)
    refine ⟨h2, Int.le_trans h3 ?_⟩
    have h4 : (L.length : Int) * 10378368000 ≤ 400 * 10378368000 := Int.mul_le_mul_of_nonneg_right (by omega) (by decide)
    exact Int.le_trans h4 (by decide)
  · have e : lnS L = (0, chkS L) := by unfold lnS; rw [if_neg h0]
    rw [e]
    exact ⟨Int.le_refl _, by show (0 : Int) ≤ 4151347200000; decide⟩
theorem ln_len {L : List Spn} (h : (lnS L).2 = 0) : L.length ≤ 400 := by
  by_cases h0 : chkS L = 0
  · exact (chkS_ok.1 h0).1
  · have e : lnS L = (0, chkS L) := by unfold lnS; rw [if_neg h0]
    rw [e] at h
    exact absurd h h0
set_option maxRecDepth 100000 in
set_option maxHeartbeats 8000000 in
theorem counts_law (A : Option Addr) (c : Nat) (L : List Spn) (A2 : Option Addr) (c2 : Nat) (L2 : List Spn) (w : World) (h : SpAt w A L) (hl : L.length ≤ 9223372036854775807) (hf : Frm A c) (h2 : SpAt w A2 L2) (hl2 : L2.length ≤ 9223372036854775807) (hf2 : Frm A2 c2) (ht : Tab w) :
    Calls Tryd.prog 7 #[.slice A L.length c, .slice A2 L2.length c2] w fun e w' => e = .returned (.bool true) ∧ Below w.heap.size w w' := by
  have HL := Lib.hid h
  have HL2 := Lib.hid h2
  have HT := Lib.hid ht
  have HF := Lib.hid hf
  have HF2 := Lib.hid hf2
  obtain ⟨B, hB⟩ : ∃ B, B = w.heap.size := ⟨_, rfl⟩
  have HB := Lib.hid hB
  rw [← hB]
  clear h h2 ht hB hf hf2
  go_enter Tryd.func7, Tryd.ntmps7
  go_wp2_with fail
  refine (awake_any w HT.out).mono ?_
  rintro e w1 ⟨rfl, hb⟩
  have G := Lib.hid (show Below B w w1 from HB.out ▸ hb)
  have hs : B ≤ w1.heap.size := by have := hb.size; have := HB.out; omega
  have HL := Lib.hid (HL.out.ext hb)
  have HL2 := Lib.hid (HL2.out.ext hb)
  clear hb
  go_wp2_with fail
  refine (few2_any w1.heap.size 2 A A2 c L.length c2 L2.length _ (by simp [go_sem]) (by simp [go_sem])).mono ?_
  rintro e w2 ⟨rfl, rfl⟩
  by_cases h8 : L.length ≤ 800 ∧ L2.length ≤ 800
  · obtain ⟨h8, h9⟩ := h8
    rw [decide_eq_true h8, decide_eq_true h9]
    generalize hw2 : World.alloc w1 _ = w2
    have G := Lib.hid (show Below B w w2 by subst hw2; exact G.out.alloc hs _)
    have HL := Lib.hid (show SpAt w2 A L by subst hw2; exact HL.out.ext (below_one _ _))
    have HL2 := Lib.hid (show SpAt w2 A2 L2 by subst hw2; exact HL2.out.ext (below_one _ _))
    have hs : B ≤ w2.heap.size := by have := G.out.size; have := HB.out; omega
    clear hw2
    obtain ⟨⟨UL, UE⟩, hU⟩ : ∃ R, R = uniS L L2 := ⟨_, rfl⟩
    have HU := Lib.hid hU
    clear hU
    go_wp2_with fail
    refine (uni_any A c L A2 c2 L2 w2 HL.out HL2.out (by omega) (by omega) HF.out HF2.out).mono ?_
    rintro e w3 ⟨⟨v, rfl, ho⟩, hb⟩
    rw [← HU.out] at ho ⊢
    dsimp only at ho ⊢
    obtain ⟨AU, cU, e3, hr3, _⟩ := own_form ho
    subst e3
    have G := Lib.hid (G.out.trans (hb.mono hs))
    have HL := Lib.hid (HL.out.ext hb)
    have HL2 := Lib.hid (HL2.out.ext hb)
    have hs : B ≤ (World.heap w3).size := by have := G.out.size; have := HB.out; omega
    clear hb
    have RU := Lib.hid hr3
    clear ho hr3
    obtain ⟨⟨IL, IE⟩, hI⟩ : ∃ R, R = intS L L2 := ⟨_, rfl⟩
    have HI := Lib.hid hI
    clear hI
    go_wp2_with fail
    refine (int_any A c L A2 c2 L2 w3 HL.out HL2.out (by omega) (by omega)).mono ?_
    rintro e w4 ⟨⟨v, rfl, ho⟩, hb⟩
    rw [← HI.out] at ho ⊢
    dsimp only at ho ⊢
    obtain ⟨AI, cI, e3, hr3, _⟩ := own_form ho
    subst e3
    have G := Lib.hid (G.out.trans (hb.mono hs))
    have HL := Lib.hid (HL.out.ext hb)
    have HL2 := Lib.hid (HL2.out.ext hb)
    have RU := Lib.hid (RU.out.ext hb)
    have hs : B ≤ (World.heap w4).size := by have := G.out.size; have := HB.out; omega
    clear hb
    have RI := Lib.hid hr3
    clear ho hr3
    obtain ⟨⟨SL, SE⟩, hS⟩ : ∃ R, R = subS L L2 := ⟨_, rfl⟩
    have HS := Lib.hid hS
    clear hS
    go_wp2_with fail
    refine (sub_any A c L A2 c2 L2 w4 HL.out HL2.out (by omega) (by omega)).mono ?_
    rintro e w5 ⟨⟨v, rfl, ho⟩, hb⟩
    rw [← HS.out] at ho ⊢
    dsimp only at ho ⊢
    obtain ⟨AS, cS, e3, hr3, _⟩ := own_form ho
    subst e3
    have G := Lib.hid (G.out.trans (hb.mono hs))
    have HL := Lib.hid (HL.out.ext hb)
    have HL2 := Lib.hid (HL2.out.ext hb)
    have RU := Lib.hid (RU.out.ext hb)
    have RI := Lib.hid (RI.out.ext hb)
    have hs : B ≤ (World.heap w5).size := by have := G.out.size; have := HB.out; omega
    clear hb
    have RS := Lib.hid hr3
    clear ho hr3
    by_cases e1 : UE = 0
    · by_cases e2 : IE = 0
      · by_cases e3 : SE = 0
        · subst e1 e2 e3
          obtain ⟨k1, k2, k3, k4, k5, s1, s2⟩ := count_law (A := L) (B := L2) (by rw [← HU.out]) (by rw [← HI.out]) (by rw [← HS.out])
          rw [← HU.out, ← HI.out] at s1
          rw [← HS.out, ← HI.out] at s2
          rw [← HU.out] at k3
          rw [← HI.out] at k4
          rw [← HS.out] at k5
          have b1 := ln_bd k1
          have b2 := ln_bd k2
          have b3 := ln_bd k3
          have b4 := ln_bd k4
          have b5 := ln_bd k5
          have m1 := ln_len (L := UL) k3
          have m2 := ln_len (L := IL) k4
          have m3 := ln_len (L := SL) k5
          dsimp only at s1 s2 k3 k4 k5 b3 b4 b5
          obtain ⟨x1, y1⟩ : ∃ x1, lnS L = (x1, 0) := ⟨(lnS L).1, by rw [← k1]⟩
          obtain ⟨x2, y2⟩ : ∃ x2, lnS L2 = (x2, 0) := ⟨(lnS L2).1, by rw [← k2]⟩
          obtain ⟨x3, y3⟩ : ∃ x3, lnS UL = (x3, 0) := ⟨(lnS UL).1, by rw [← k3]⟩
          obtain ⟨x4, y4⟩ : ∃ x4, lnS IL = (x4, 0) := ⟨(lnS IL).1, by rw [← k4]⟩
          obtain ⟨x5, y5⟩ : ∃ x5, lnS SL = (x5, 0) := ⟨(lnS SL).1, by rw [← k5]⟩
          rw [y1] at b1
          rw [y2] at b2
          rw [y3] at b3
          rw [y4] at b4
          rw [y5] at b5
          rw [y1, y2, y3, y4] at s1
          rw [y1, y4, y5] at s2
          dsimp only at b1 b2 b3 b4 b5 s1 s2
          have Y1 := Lib.hid y1
          have Y2 := Lib.hid y2
          have Y3 := Lib.hid y3
          have Y4 := Lib.hid y4
          have Y5 := Lib.hid y5
          have v1 : IntKind.i64.wrap (x3 + x4) = x3 + x4 := by rw [IntKind.wrap_i64]; omega
          have v2 : IntKind.i64.wrap (x1 + x2) = x3 + x4 := by rw [IntKind.wrap_i64]; omega
          have v3 : IntKind.i64.wrap (x5 + x4) = x1 := by rw [IntKind.wrap_i64]; omega
          clear k1 k2 k3 k4 k5 y1 y2 y3 y4 y5 s1 s2 b1 b2 b3 b4 b5
          go_wp2_with fail
          refine (len_any A c L w5 HL.out (by omega)).mono ?_
          rintro e w6 ⟨rfl, hb⟩
          rw [Y1.out]
          have G := Lib.hid (G.out.trans (hb.mono hs))
          have HL := Lib.hid (HL.out.ext hb)
          have HL2 := Lib.hid (HL2.out.ext hb)
          have RU := Lib.hid (RU.out.ext hb)
          have RI := Lib.hid (RI.out.ext hb)
          have RS := Lib.hid (RS.out.ext hb)
          have hs : B ≤ (World.heap w6).size := by have := G.out.size; have := HB.out; omega
          clear hb
          go_wp2_with fail
          refine (len_any A2 c2 L2 w6 HL2.out (by omega)).mono ?_
          rintro e w7 ⟨rfl, hb⟩
          rw [Y2.out]
          have G := Lib.hid (G.out.trans (hb.mono hs))
          have HL := Lib.hid (HL.out.ext hb)
          have HL2 := Lib.hid (HL2.out.ext hb)
          have RU := Lib.hid (RU.out.ext hb)
          have RI := Lib.hid (RI.out.ext hb)
          have RS := Lib.hid (RS.out.ext hb)
          have hs : B ≤ (World.heap w7).size := by have := G.out.size; have := HB.out; omega
          clear hb
          go_wp2_with fail
          refine (len_any AU cU UL w7 RU.out (by omega)).mono ?_
          rintro e w8 ⟨rfl, hb⟩
          rw [Y3.out]
          have G := Lib.hid (G.out.trans (hb.mono hs))
          have HL := Lib.hid (HL.out.ext hb)
          have HL2 := Lib.hid (HL2.out.ext hb)
          have RU := Lib.hid (RU.out.ext hb)
          have RI := Lib.hid (RI.out.ext hb)
          have RS := Lib.hid (RS.out.ext hb)
          have hs : B ≤ (World.heap w8).size := by have := G.out.size; have := HB.out; omega
          clear hb
          go_wp2_with fail
          refine (len_any AI cI IL w8 RI.out (by omega)).mono ?_
          rintro e w9 ⟨rfl, hb⟩
          rw [Y4.out]
          have G := Lib.hid (G.out.trans (hb.mono hs))
          have HL := Lib.hid (HL.out.ext hb)
          have HL2 := Lib.hid (HL2.out.ext hb)
          have RU := Lib.hid (RU.out.ext hb)
          have RI := Lib.hid (RI.out.ext hb)
          have RS := Lib.hid (RS.out.ext hb)
          have hs : B ≤ (World.heap w9).size := by have := G.out.size; have := HB.out; omega
          clear hb
          go_wp2_with fail
          refine (len_any AS cS SL w9 RS.out (by omega)).mono ?_
          rintro e w10 ⟨rfl, hb⟩
          rw [Y5.out]
          have G := Lib.hid (G.out.trans (hb.mono hs))
          have HL := Lib.hid (HL.out.ext hb)
          have HL2 := Lib.hid (HL2.out.ext hb)
          have RU := Lib.hid (RU.out.ext hb)
          have RI := Lib.hid (RI.out.ext hb)
          have RS := Lib.hid (RS.out.ext hb)
          have hs : B ≤ (World.heap w10).size := by have := G.out.size; have := HB.out; omega
          clear hb
          go_wp2_with fail
          go_ret
          exact ⟨rfl, G.out⟩
        · have e4 : (SE == 0) = false := by simpa using e3
          subst e1 e2
          go_wp2_with fail
          go_ret
          exact ⟨rfl, G.out⟩
      · have e4 : (IE == 0) = false := by simpa using e2
        subst e1
        go_wp2_with fail
        go_ret
        exact ⟨rfl, G.out⟩
    · have e4 : (UE == 0) = false := by simpa using e1
      go_wp2_with fail
      go_ret
      exact ⟨rfl, G.out⟩
  · have hfw : (decide (L.length ≤ 800) && decide (L2.length ≤ 800)) = false := by
      cases h1 : decide (L.length ≤ 800) with
      | false => rfl
      | true =>
        cases h3 : decide (L2.length ≤ 800) with
        | false => rfl
        | true => exact absurd ⟨by simpa using h1, by simpa using h3⟩ h8
    rw [hfw]
    go_wp2_with fail
    go_ret
    exact ⟨rfl, G.out.alloc hs _⟩
end Go.Proofs.YtloioincminhiaaDoor
