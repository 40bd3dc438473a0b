/-
  The contract of the law SpanMembers. Its conditions are its hypotheses.
-/
import Derived.Test.YtloioincminhiaaDoorU3
import Derived.Test.YtloioincminhiaaDoorL2
namespace Go.Proofs.YtloioincminhiaaDoor
open Go.RowKit Go.Joins
set_option linter.unusedVariables false
set_option linter.unusedSimpArgs false
theorem memB_or {n : Int} {U L M : List Spn} (h : MemS n U ↔ MemS n L ∨ MemS n M) : memB n U = (memB n L || memB n M) := by
  rw [Bool.eq_iff_iff, Bool.or_eq_true, memB_iff, memB_iff, memB_iff, h]
theorem memB_and {n : Int} {U L M : List Spn} (h : MemS n U ↔ MemS n L ∧ MemS n M) : memB n U = (memB n L && memB n M) := by
  rw [Bool.eq_iff_iff, Bool.and_eq_true, memB_iff, memB_iff, memB_iff, h]
theorem memB_diff {n : Int} {U L M : List Spn} (h : MemS n U ↔ MemS n L ∧ ¬ MemS n M) : memB n U = (memB n L && !memB n M) := by
  rw [Bool.eq_iff_iff, Bool.and_eq_true, memB_iff, memB_iff, h, Bool.not_eq_true', ← Bool.not_eq_true, memB_iff]
set_option maxRecDepth 100000 in
set_option maxHeartbeats 8000000 in
theorem members_law (A : Option Addr) (c : Nat) (L : List Spn) (A2 : Option Addr) (c2 : Nat) (L2 : List Spn) (n : Int) (w : World) (h : SpAt w A L) (hl : L.length ≤ 9223372036854775807) (hf : Frm A c) (h2 : SpAt w A2 L2) (hl2 : L2.length ≤ 9223372036854775807) (hf2 : Frm A2 c2) (ht : Tab w) :
    Calls Tryd.prog 8 #[.slice A L.length c, .slice A2 L2.length c2, .int .i64 n] w fun e w' => e = .returned (.bool true) ∧ Below w.heap.size w w' := by
  have HL := Lib.hid h
  have HL2 := Lib.hid h2
  have HT := Lib.hid ht
  have HF := Lib.hid hf
  have HF2 := Lib.hid hf2
  obtain ⟨B, hB⟩ : ∃ B, B = w.heap.size := ⟨_, rfl⟩
  have HB := Lib.hid hB
  rw [← hB]
  clear h h2 ht hB hf hf2
  go_enter Tryd.func8, Tryd.ntmps8
  go_wp2_with fail
  refine (awake_any w HT.out).mono ?_
  rintro e w1 ⟨rfl, hb⟩
  have G := Lib.hid (show Below B w w1 from HB.out ▸ hb)
  have hs : B ≤ w1.heap.size := by have := hb.size; have := HB.out; omega
  have HL := Lib.hid (HL.out.ext hb)
  have HL2 := Lib.hid (HL2.out.ext hb)
  clear hb
  go_wp2_with fail
  refine (few2_any w1.heap.size 2 A A2 c L.length c2 L2.length _ (by simp [go_sem]) (by simp [go_sem])).mono ?_
  rintro e w2 ⟨rfl, rfl⟩
  by_cases h8 : L.length ≤ 800 ∧ L2.length ≤ 800
  · obtain ⟨h8, h9⟩ := h8
    rw [decide_eq_true h8, decide_eq_true h9]
    generalize hw2 : World.alloc w1 _ = w2
    have G := Lib.hid (show Below B w w2 by subst hw2; exact G.out.alloc hs _)
    have HL := Lib.hid (show SpAt w2 A L by subst hw2; exact HL.out.ext (below_one _ _))
    have HL2 := Lib.hid (show SpAt w2 A2 L2 by subst hw2; exact HL2.out.ext (below_one _ _))
    have hs : B ≤ w2.heap.size := by have := G.out.size; have := HB.out; omega
    clear hw2
    obtain ⟨⟨UL, UE⟩, hU⟩ : ∃ R, R = uniS L L2 := ⟨_, rfl⟩
    have HU := Lib.hid hU
    clear hU
    go_wp2_with fail
    refine (uni_any A c L A2 c2 L2 w2 HL.out HL2.out (by omega) (by omega) HF.out HF2.out).mono ?_
    rintro e w3 ⟨⟨v, rfl, ho⟩, hb⟩
    rw [← HU.out] at ho ⊢
    dsimp only at ho ⊢
    obtain ⟨AU, cU, e3, hr3, _⟩ := own_form ho
    subst e3
    have G := Lib.hid (G.out.trans (hb.mono hs))
    have HL := Lib.hid (HL.out.ext hb)
    have HL2 := Lib.hid (HL2.out.ext hb)
    have hs : B ≤ (World.heap w3).size := by have := G.out.size; have := HB.out; omega
    clear hb
    have RU := Lib.hid hr3
    clear ho hr3
    obtain ⟨⟨IL, IE⟩, hI⟩ : ∃ R, R = intS L L2 := ⟨_, rfl⟩
    have HI := Lib.hid hI
    clear hI
    go_wp2_with fail
    refine (int_any A c L A2 c2 L2 w3 HL.out HL2.out (by omega) (by omega)).mono ?_
    rintro e w4 ⟨⟨v, rfl, ho⟩, hb⟩
    rw [← HI.out] at ho ⊢
    dsimp only at ho ⊢
    obtain ⟨AI, cI, e3, hr3, _⟩ := own_form ho
    subst e3
    have G := Lib.hid (G.out.trans (hb.mono hs))
    have HL := Lib.hid (HL.out.ext hb)
    have HL2 := Lib.hid (HL2.out.ext hb)
    have RU := Lib.hid (RU.out.ext hb)
    have hs : B ≤ (World.heap w4).size := by have := G.out.size; have := HB.out; omega
    clear hb
    have RI := Lib.hid hr3
    clear ho hr3
    obtain ⟨⟨SL, SE⟩, hS⟩ : ∃ R, R = subS L L2 := ⟨_, rfl⟩
    have HS := Lib.hid hS
    clear hS
    go_wp2_with fail
    refine (sub_any A c L A2 c2 L2 w4 HL.out HL2.out (by omega) (by omega)).mono ?_
    rintro e w5 ⟨⟨v, rfl, ho⟩, hb⟩
    rw [← HS.out] at ho ⊢
    dsimp only at ho ⊢
    obtain ⟨AS, cS, e3, hr3, _⟩ := own_form ho
    subst e3
    have G := Lib.hid (G.out.trans (hb.mono hs))
    have HL := Lib.hid (HL.out.ext hb)
    have HL2 := Lib.hid (HL2.out.ext hb)
    have RU := Lib.hid (RU.out.ext hb)
    have RI := Lib.hid (RI.out.ext hb)
    have hs : B ≤ (World.heap w5).size := by have := G.out.size; have := HB.out; omega
    clear hb
    have RS := Lib.hid hr3
    clear ho hr3
    have MU := Lib.hid (fun (h : UE = 0) => (show chkS UL = 0 ∧ memB n UL = (memB n L || memB n L2) from by
      obtain ⟨_, _, h1, h2⟩ := uniS_ok (A := L) (B := L2) (by rw [← HU.out]; exact h)
      rw [← HU.out] at h1 h2
      exact ⟨h1, memB_or (h2 n)⟩))
    have MI := Lib.hid (fun (h : IE = 0) => (show chkS IL = 0 ∧ memB n IL = (memB n L && memB n L2) from by
      obtain ⟨_, _, h1, h2⟩ := intS_ok (A := L) (B := L2) (by rw [← HI.out]; exact h)
      rw [← HI.out] at h1 h2
      exact ⟨h1, memB_and (h2 n)⟩))
    have MS := Lib.hid (fun (h : SE = 0) => (show chkS SL = 0 ∧ memB n SL = (memB n L && !memB n L2) from by
      obtain ⟨_, _, h1, h2⟩ := subS_ok (A := L) (B := L2) (by rw [← HS.out]; exact h)
      rw [← HS.out] at h1 h2
      exact ⟨h1, memB_diff (h2 n)⟩))
    go_wp2_with fail
    refine (within_any A c L n w5 HL.out (by omega)).mono ?_
    rintro e w6 ⟨rfl, hb⟩
    have G := Lib.hid (G.out.trans (hb.mono hs))
    have HL := Lib.hid (HL.out.ext hb)
    have HL2 := Lib.hid (HL2.out.ext hb)
    have RU := Lib.hid (RU.out.ext hb)
    have RI := Lib.hid (RI.out.ext hb)
    have RS := Lib.hid (RS.out.ext hb)
    have hs : B ≤ (World.heap w6).size := by have := G.out.size; have := HB.out; omega
    clear hb
    go_wp2_with fail
    refine (within_any A2 c2 L2 n w6 HL2.out (by omega)).mono ?_
    rintro e w7 ⟨rfl, hb⟩
    have G := Lib.hid (G.out.trans (hb.mono hs))
    have HL := Lib.hid (HL.out.ext hb)
    have HL2 := Lib.hid (HL2.out.ext hb)
    have RU := Lib.hid (RU.out.ext hb)
    have RI := Lib.hid (RI.out.ext hb)
    have RS := Lib.hid (RS.out.ext hb)
    have hs : B ≤ (World.heap w7).size := by have := G.out.size; have := HB.out; omega
    clear hb
    cases hm1 : memB n L
    all_goals cases hm2 : memB n L2
    all_goals
      rw [hm1, hm2] at MU MI MS
      try rw [hm1]
      try rw [hm2]
      by_cases eU : UE = 0
      · subst eU
        by_cases eI : IE = 0
        · subst eI
          by_cases eS : SE = 0
          · subst eS
            obtain ⟨xU1, xU2⟩ := MU.out rfl
            have XU1 := Lib.hid xU1
            have XU2 := Lib.hid xU2
            have lU := (chkS_ok.1 xU1).1
            clear xU1 xU2
            obtain ⟨xI1, xI2⟩ := MI.out rfl
            have XI1 := Lib.hid xI1
            have XI2 := Lib.hid xI2
            have lI := (chkS_ok.1 xI1).1
            clear xI1 xI2
            obtain ⟨xS1, xS2⟩ := MS.out rfl
            have XS1 := Lib.hid xS1
            have XS2 := Lib.hid xS2
            have lS := (chkS_ok.1 xS1).1
            clear xS1 xS2
            go_wp2_with fail
            refine (within_any AU cU UL n w7 RU.out (by omega)).mono ?_
            rintro e w8 ⟨rfl, hb⟩
            rw [XU2.out]
            have G := Lib.hid (G.out.trans (hb.mono hs))
            have HL := Lib.hid (HL.out.ext hb)
            have HL2 := Lib.hid (HL2.out.ext hb)
            have RU := Lib.hid (RU.out.ext hb)
            have RI := Lib.hid (RI.out.ext hb)
            have RS := Lib.hid (RS.out.ext hb)
            have hs : B ≤ (World.heap w8).size := by have := G.out.size; have := HB.out; omega
            clear hb
            go_wp2_with fail
            refine (chk_any AU cU UL w8 RU.out (by omega)).mono ?_
            rintro e w9 ⟨rfl, hb⟩
            rw [XU1.out]
            have G := Lib.hid (G.out.trans (hb.mono hs))
            have HL := Lib.hid (HL.out.ext hb)
            have HL2 := Lib.hid (HL2.out.ext hb)
            have RU := Lib.hid (RU.out.ext hb)
            have RI := Lib.hid (RI.out.ext hb)
            have RS := Lib.hid (RS.out.ext hb)
            have hs : B ≤ (World.heap w9).size := by have := G.out.size; have := HB.out; omega
            clear hb
            go_wp2_with fail
            refine (within_any AI cI IL n w9 RI.out (by omega)).mono ?_
            rintro e w10 ⟨rfl, hb⟩
            rw [XI2.out]
            have G := Lib.hid (G.out.trans (hb.mono hs))
            have HL := Lib.hid (HL.out.ext hb)
            have HL2 := Lib.hid (HL2.out.ext hb)
            have RU := Lib.hid (RU.out.ext hb)
            have RI := Lib.hid (RI.out.ext hb)
            have RS := Lib.hid (RS.out.ext hb)
            have hs : B ≤ (World.heap w10).size := by have := G.out.size; have := HB.out; omega
            clear hb
            go_wp2_with fail
            refine (chk_any AI cI IL w10 RI.out (by omega)).mono ?_
            rintro e w11 ⟨rfl, hb⟩
            rw [XI1.out]
            have G := Lib.hid (G.out.trans (hb.mono hs))
            have HL := Lib.hid (HL.out.ext hb)
            have HL2 := Lib.hid (HL2.out.ext hb)
            have RU := Lib.hid (RU.out.ext hb)
            have RI := Lib.hid (RI.out.ext hb)
            have RS := Lib.hid (RS.out.ext hb)
            have hs : B ≤ (World.heap w11).size := by have := G.out.size; have := HB.out; omega
            clear hb
            go_wp2_with fail
            refine (within_any AS cS SL n w11 RS.out (by omega)).mono ?_
            rintro e w12 ⟨rfl, hb⟩
            rw [XS2.out]
            have G := Lib.hid (G.out.trans (hb.mono hs))
            have HL := Lib.hid (HL.out.ext hb)
            have HL2 := Lib.hid (HL2.out.ext hb)
            have RU := Lib.hid (RU.out.ext hb)
            have RI := Lib.hid (RI.out.ext hb)
            have RS := Lib.hid (RS.out.ext hb)
            have hs : B ≤ (World.heap w12).size := by have := G.out.size; have := HB.out; omega
            clear hb
            go_wp2_with fail
            refine (chk_any AS cS SL w12 RS.out (by omega)).mono ?_
            rintro e w13 ⟨rfl, hb⟩
            rw [XS1.out]
            have G := Lib.hid (G.out.trans (hb.mono hs))
            have HL := Lib.hid (HL.out.ext hb)
            have HL2 := Lib.hid (HL2.out.ext hb)
            have RU := Lib.hid (RU.out.ext hb)
            have RI := Lib.hid (RI.out.ext hb)
            have RS := Lib.hid (RS.out.ext hb)
            have hs : B ≤ (World.heap w13).size := by have := G.out.size; have := HB.out; omega
            clear hb
            go_wp2_with fail
            go_ret
            exact ⟨rfl, G.out⟩
          · have gS : (SE == 0) = false := by simpa using eS
            obtain ⟨xU1, xU2⟩ := MU.out rfl
            have XU1 := Lib.hid xU1
            have XU2 := Lib.hid xU2
            have lU := (chkS_ok.1 xU1).1
            clear xU1 xU2
            obtain ⟨xI1, xI2⟩ := MI.out rfl
            have XI1 := Lib.hid xI1
            have XI2 := Lib.hid xI2
            have lI := (chkS_ok.1 xI1).1
            clear xI1 xI2
            go_wp2_with fail
            refine (within_any AU cU UL n w7 RU.out (by omega)).mono ?_
            rintro e w8 ⟨rfl, hb⟩
            rw [XU2.out]
            have G := Lib.hid (G.out.trans (hb.mono hs))
            have HL := Lib.hid (HL.out.ext hb)
            have HL2 := Lib.hid (HL2.out.ext hb)
            have RU := Lib.hid (RU.out.ext hb)
            have RI := Lib.hid (RI.out.ext hb)
            have RS := Lib.hid (RS.out.ext hb)
            have hs : B ≤ (World.heap w8).size := by have := G.out.size; have := HB.out; omega
            clear hb
            go_wp2_with fail
            refine (chk_any AU cU UL w8 RU.out (by omega)).mono ?_
            rintro e w9 ⟨rfl, hb⟩
            rw [XU1.out]
            have G := Lib.hid (G.out.trans (hb.mono hs))
            have HL := Lib.hid (HL.out.ext hb)
            have HL2 := Lib.hid (HL2.out.ext hb)
            have RU := Lib.hid (RU.out.ext hb)
            have RI := Lib.hid (RI.out.ext hb)
            have RS := Lib.hid (RS.out.ext hb)
            have hs : B ≤ (World.heap w9).size := by have := G.out.size; have := HB.out; omega
            clear hb
            go_wp2_with fail
            refine (within_any AI cI IL n w9 RI.out (by omega)).mono ?_
            rintro e w10 ⟨rfl, hb⟩
            rw [XI2.out]
            have G := Lib.hid (G.out.trans (hb.mono hs))
            have HL := Lib.hid (HL.out.ext hb)
            have HL2 := Lib.hid (HL2.out.ext hb)
            have RU := Lib.hid (RU.out.ext hb)
            have RI := Lib.hid (RI.out.ext hb)
            have RS := Lib.hid (RS.out.ext hb)
            have hs : B ≤ (World.heap w10).size := by have := G.out.size; have := HB.out; omega
            clear hb
            go_wp2_with fail
            refine (chk_any AI cI IL w10 RI.out (by omega)).mono ?_
            rintro e w11 ⟨rfl, hb⟩
            rw [XI1.out]
            have G := Lib.hid (G.out.trans (hb.mono hs))
            have HL := Lib.hid (HL.out.ext hb)
            have HL2 := Lib.hid (HL2.out.ext hb)
            have RU := Lib.hid (RU.out.ext hb)
            have RI := Lib.hid (RI.out.ext hb)
            have RS := Lib.hid (RS.out.ext hb)
            have hs : B ≤ (World.heap w11).size := by have := G.out.size; have := HB.out; omega
            clear hb
            go_wp2_with fail
            go_ret
            exact ⟨rfl, G.out⟩
        · have gI : (IE == 0) = false := by simpa using eI
          by_cases eS : SE = 0
          · subst eS
            obtain ⟨xU1, xU2⟩ := MU.out rfl
            have XU1 := Lib.hid xU1
            have XU2 := Lib.hid xU2
            have lU := (chkS_ok.1 xU1).1
            clear xU1 xU2
            obtain ⟨xS1, xS2⟩ := MS.out rfl
            have XS1 := Lib.hid xS1
            have XS2 := Lib.hid xS2
            have lS := (chkS_ok.1 xS1).1
            clear xS1 xS2
            go_wp2_with fail
            refine (within_any AU cU UL n w7 RU.out (by omega)).mono ?_
            rintro e w8 ⟨rfl, hb⟩
            rw [XU2.out]
            have G := Lib.hid (G.out.trans (hb.mono hs))
            have HL := Lib.hid (HL.out.ext hb)
            have HL2 := Lib.hid (HL2.out.ext hb)
            have RU := Lib.hid (RU.out.ext hb)
            have RI := Lib.hid (RI.out.ext hb)
            have RS := Lib.hid (RS.out.ext hb)
            have hs : B ≤ (World.heap w8).size := by have := G.out.size; have := HB.out; omega
            clear hb
            go_wp2_with fail
            refine (chk_any AU cU UL w8 RU.out (by omega)).mono ?_
            rintro e w9 ⟨rfl, hb⟩
            rw [XU1.out]
            have G := Lib.hid (G.out.trans (hb.mono hs))
            have HL := Lib.hid (HL.out.ext hb)
            have HL2 := Lib.hid (HL2.out.ext hb)
            have RU := Lib.hid (RU.out.ext hb)
            have RI := Lib.hid (RI.out.ext hb)
            have RS := Lib.hid (RS.out.ext hb)
            have hs : B ≤ (World.heap w9).size := by have := G.out.size; have := HB.out; omega
            clear hb
            go_wp2_with fail
            refine (within_any AS cS SL n w9 RS.out (by omega)).mono ?_
            rintro e w10 ⟨rfl, hb⟩
            rw [XS2.out]
            have G := Lib.hid (G.out.trans (hb.mono hs))
            have HL := Lib.hid (HL.out.ext hb)
            have HL2 := Lib.hid (HL2.out.ext hb)
            have RU := Lib.hid (RU.out.ext hb)
            have RI := Lib.hid (RI.out.ext hb)
            have RS := Lib.hid (RS.out.ext hb)
            have hs : B ≤ (World.heap w10).size := by have := G.out.size; have := HB.out; omega
            clear hb
            go_wp2_with fail
            refine (chk_any AS cS SL w10 RS.out (by omega)).mono ?_
            rintro e w11 ⟨rfl, hb⟩
            rw [XS1.out]
            have G := Lib.hid (G.out.trans (hb.mono hs))
            have HL := Lib.hid (HL.out.ext hb)
            have HL2 := Lib.hid (HL2.out.ext hb)
            have RU := Lib.hid (RU.out.ext hb)
            have RI := Lib.hid (RI.out.ext hb)
            have RS := Lib.hid (RS.out.ext hb)
            have hs : B ≤ (World.heap w11).size := by have := G.out.size; have := HB.out; omega
            clear hb
            go_wp2_with fail
            go_ret
            exact ⟨rfl, G.out⟩
          · have gS : (SE == 0) = false := by simpa using eS
            obtain ⟨xU1, xU2⟩ := MU.out rfl
            have XU1 := Lib.hid xU1
            have XU2 := Lib.hid xU2
            have lU := (chkS_ok.1 xU1).1
            clear xU1 xU2
            go_wp2_with fail
            refine (within_any AU cU UL n w7 RU.out (by omega)).mono ?_
            rintro e w8 ⟨rfl, hb⟩
            rw [XU2.out]
            have G := Lib.hid (G.out.trans (hb.mono hs))
            have HL := Lib.hid (HL.out.ext hb)
            have HL2 := Lib.hid (HL2.out.ext hb)
            have RU := Lib.hid (RU.out.ext hb)
            have RI := Lib.hid (RI.out.ext hb)
            have RS := Lib.hid (RS.out.ext hb)
            have hs : B ≤ (World.heap w8).size := by have := G.out.size; have := HB.out; omega
            clear hb
            go_wp2_with fail
            refine (chk_any AU cU UL w8 RU.out (by omega)).mono ?_
            rintro e w9 ⟨rfl, hb⟩
            rw [XU1.out]
            have G := Lib.hid (G.out.trans (hb.mono hs))
            have HL := Lib.hid (HL.out.ext hb)
            have HL2 := Lib.hid (HL2.out.ext hb)
            have RU := Lib.hid (RU.out.ext hb)
            have RI := Lib.hid (RI.out.ext hb)
            have RS := Lib.hid (RS.out.ext hb)
            have hs : B ≤ (World.heap w9).size := by have := G.out.size; have := HB.out; omega
            clear hb
            go_wp2_with fail
            go_ret
            exact ⟨rfl, G.out⟩
      · have gU : (UE == 0) = false := by simpa using eU
        by_cases eI : IE = 0
        · subst eI
          by_cases eS : SE = 0
          · subst eS
            obtain ⟨xI1, xI2⟩ := MI.out rfl
            have XI1 := Lib.hid xI1
            have XI2 := Lib.hid xI2
            have lI := (chkS_ok.1 xI1).1
            clear xI1 xI2
            obtain ⟨xS1, xS2⟩ := MS.out rfl
            have XS1 := Lib.hid xS1
            have XS2 := Lib.hid xS2
            have lS := (chkS_ok.1 xS1).1
            clear xS1 xS2
            go_wp2_with fail
            refine (within_any AI cI IL n w7 RI.out (by omega)).mono ?_
            rintro e w8 ⟨rfl, hb⟩
            rw [XI2.out]
            have G := Lib.hid (G.out.trans (hb.mono hs))
            have HL := Lib.hid (HL.out.ext hb)
            have HL2 := Lib.hid (HL2.out.ext hb)
            have RU := Lib.hid (RU.out.ext hb)
            have RI := Lib.hid (RI.out.ext hb)
            have RS := Lib.hid (RS.out.ext hb)
            have hs : B ≤ (World.heap w8).size := by have := G.out.size; have := HB.out; omega
            clear hb
            go_wp2_with fail
            refine (chk_any AI cI IL w8 RI.out (by omega)).mono ?_
            rintro e w9 ⟨rfl, hb⟩
            rw [XI1.out]
            have G := Lib.hid (G.out.trans (hb.mono hs))
            have HL := Lib.hid (HL.out.ext hb)
            have HL2 := Lib.hid (HL2.out.ext hb)
            have RU := Lib.hid (RU.out.ext hb)
            have RI := Lib.hid (RI.out.ext hb)
            have RS := Lib.hid (RS.out.ext hb)
            have hs : B ≤ (World.heap w9).size := by have := G.out.size; have := HB.out; omega
            clear hb
            go_wp2_with fail
            refine (within_any AS cS SL n w9 RS.out (by omega)).mono ?_
            rintro e w10 ⟨rfl, hb⟩
            rw [XS2.out]
            have G := Lib.hid (G.out.trans (hb.mono hs))
            have HL := Lib.hid (HL.out.ext hb)
            have HL2 := Lib.hid (HL2.out.ext hb)
            have RU := Lib.hid (RU.out.ext hb)
            have RI := Lib.hid (RI.out.ext hb)
            have RS := Lib.hid (RS.out.ext hb)
            have hs : B ≤ (World.heap w10).size := by have := G.out.size; have := HB.out; omega
            clear hb
            go_wp2_with fail
            refine (chk_any AS cS SL w10 RS.out (by omega)).mono ?_
            rintro e w11 ⟨rfl, hb⟩
            rw [XS1.out]
            have G := Lib.hid (G.out.trans (hb.mono hs))
            have HL := Lib.hid (HL.out.ext hb)
            have HL2 := Lib.hid (HL2.out.ext hb)
            have RU := Lib.hid (RU.out.ext hb)
            have RI := Lib.hid (RI.out.ext hb)
            have RS := Lib.hid (RS.out.ext hb)
            have hs : B ≤ (World.heap w11).size := by have := G.out.size; have := HB.out; omega
            clear hb
            go_wp2_with fail
            go_ret
            exact ⟨rfl, G.out⟩
          · have gS : (SE == 0) = false := by simpa using eS
            obtain ⟨xI1, xI2⟩ := MI.out rfl
            have XI1 := Lib.hid xI1
            have XI2 := Lib.hid xI2
            have lI := (chkS_ok.1 xI1).1
            clear xI1 xI2
            go_wp2_with fail
            refine (within_any AI cI IL n w7 RI.out (by omega)).mono ?_
            rintro e w8 ⟨rfl, hb⟩
            rw [XI2.out]
            have G := Lib.hid (G.out.trans (hb.mono hs))
            have HL := Lib.hid (HL.out.ext hb)
            have HL2 := Lib.hid (HL2.out.ext hb)
            have RU := Lib.hid (RU.out.ext hb)
            have RI := Lib.hid (RI.out.ext hb)
            have RS := Lib.hid (RS.out.ext hb)
            have hs : B ≤ (World.heap w8).size := by have := G.out.size; have := HB.out; omega
            clear hb
            go_wp2_with fail
            refine (chk_any AI cI IL w8 RI.out (by omega)).mono ?_
            rintro e w9 ⟨rfl, hb⟩
            rw [XI1.out]
            have G := Lib.hid (G.out.trans (hb.mono hs))
            have HL := Lib.hid (HL.out.ext hb)
            have HL2 := Lib.hid (HL2.out.ext hb)
            have RU := Lib.hid (RU.out.ext hb)
            have RI := Lib.hid (RI.out.ext hb)
            have RS := Lib.hid (RS.out.ext hb)
            have hs : B ≤ (World.heap w9).size := by have := G.out.size; have := HB.out; omega
            clear hb
            go_wp2_with fail
            go_ret
            exact ⟨rfl, G.out⟩
        · have gI : (IE == 0) = false := by simpa using eI
          by_cases eS : SE = 0
          · subst eS
            obtain ⟨xS1, xS2⟩ := MS.out rfl
            have XS1 := Lib.hid xS1
            have XS2 := Lib.hid xS2
            have lS := (chkS_ok.1 xS1).1
            clear xS1 xS2
            go_wp2_with fail
            refine (within_any AS cS SL n w7 RS.out (by omega)).mono ?_
            rintro e w8 ⟨rfl, hb⟩
            rw [XS2.out]
            have G := Lib.hid (G.out.trans (hb.mono hs))
            have HL := Lib.hid (HL.out.ext hb)
            have HL2 := Lib.hid (HL2.out.ext hb)
            have RU := Lib.hid (RU.out.ext hb)
            have RI := Lib.hid (RI.out.ext hb)
            have RS := Lib.hid (RS.out.ext hb)
            have hs : B ≤ (World.heap w8).size := by have := G.out.size; have := HB.out; omega
            clear hb
            go_wp2_with fail
            refine (chk_any AS cS SL w8 RS.out (by omega)).mono ?_
            rintro e w9 ⟨rfl, hb⟩
            rw [XS1.out]
            have G := Lib.hid (G.out.trans (hb.mono hs))
            have HL := Lib.hid (HL.out.ext hb)
            have HL2 := Lib.hid (HL2.out.ext hb)
            have RU := Lib.hid (RU.out.ext hb)
            have RI := Lib.hid (RI.out.ext hb)
            have RS := Lib.hid (RS.out.ext hb)
            have hs : B ≤ (World.heap w9).size := by have := G.out.size; have := HB.out; omega
            clear hb
            go_wp2_with fail
            go_ret
            exact ⟨rfl, G.out⟩
          · have gS : (SE == 0) = false := by simpa using eS
            go_wp2_with fail
            go_ret
            exact ⟨rfl, G.out⟩
  · have hfw : (decide (L.length ≤ 800) && decide (L2.length ≤ 800)) = false := by
      cases h1 : decide (L.length ≤ 800) with
      | false => rfl
      | true =>
        cases h3 : decide (L2.length ≤ 800) with
        | false => rfl
        | true => exact absurd ⟨by simpa using h1, by simpa using h3⟩ h8
    rw [hfw]
    go_wp2_with fail
    go_ret
    exact ⟨rfl, G.out.alloc hs _⟩
end Go.Proofs.YtloioincminhiaaDoor
