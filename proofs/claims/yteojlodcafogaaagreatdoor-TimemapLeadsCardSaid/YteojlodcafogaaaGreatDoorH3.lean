/-
  The contract of the law TimemapLeads. Its conditions are its hypotheses.
-/
import Derived.Test.YteojlodcafogaaaGreatDoorH1
namespace Go.Proofs.YteojlodcafogaaaGreatDoor
open Go.RowKit Go.Joins
set_option linter.unusedVariables false
set_option linter.unusedSimpArgs false
theorem lead_1 (L : List Pc) (s : Spn) (t : Int) : (preP L s).2 ≠ 0 ∨ ((preP L s).2 = 0 ∧ (atP L t).2 = false ∧ memB t (preP L s).1 = false) ∨ ((preP L s).2 = 0 ∧ (atP L t).2 = true ∧ (atP L t).1 < s.i ∧ memB t (preP L s).1 = false) ∨ ((preP L s).2 = 0 ∧ (atP L t).2 = true ∧ s.i ≤ (atP L t).1 ∧ s.o ≤ (atP L t).1 ∧ memB t (preP L s).1 = false) ∨ ((preP L s).2 = 0 ∧ (atP L t).2 = true ∧ s.i ≤ (atP L t).1 ∧ (atP L t).1 < s.o ∧ memB t (preP L s).1 = true) := by
  by_cases h : (preP L s).2 = 0
  · have hl := leads_pre L s t h
    rw [← memB_iff] at hl
    cases hm : memB t (preP L s).1 with
    | true =>
      obtain ⟨h1, h2, h3⟩ := hl.1 hm
      exact .inr (.inr (.inr (.inr ⟨h, h1, h2, h3, rfl⟩)))
    | false =>
      have hn : ¬ ((atP L t).2 = true ∧ s.i ≤ (atP L t).1 ∧ (atP L t).1 < s.o) := fun hh => by rw [hl.2 hh] at hm; cases hm
      cases hb : (atP L t).2 with
      | false => exact .inr (.inl ⟨h, rfl, rfl⟩)
      | true =>
        by_cases h1 : (atP L t).1 < s.i
        · exact .inr (.inr (.inl ⟨h, rfl, h1, rfl⟩))
        · exact .inr (.inr (.inr (.inl ⟨h, rfl, by omega, by apply Int.not_lt.1; intro h2; exact hn ⟨hb, by omega, h2⟩, rfl⟩)))
  · exact .inl h
theorem lead_2 (L : List Pc) (s : Spn) (t : Int) : (imgP L s).2 ≠ 0 ∨ ((imgP L s).2 = 0 ∧ (atP L t).2 = false) ∨ ((imgP L s).2 = 0 ∧ (atP L t).2 = true ∧ t < s.i) ∨ ((imgP L s).2 = 0 ∧ (atP L t).2 = true ∧ s.i ≤ t ∧ s.o ≤ t) ∨ ((imgP L s).2 = 0 ∧ (atP L t).2 = true ∧ s.i ≤ t ∧ t < s.o ∧ memB (atP L t).1 (imgP L s).1 = true) := by
  by_cases h : (imgP L s).2 = 0
  · cases hb : (atP L t).2 with
    | false => exact .inr (.inl ⟨h, rfl⟩)
    | true =>
      by_cases h1 : t < s.i
      · exact .inr (.inr (.inl ⟨h, rfl, h1⟩))
      · by_cases h2 : s.o ≤ t
        · exact .inr (.inr (.inr (.inl ⟨h, rfl, by omega, h2⟩)))
        · exact .inr (.inr (.inr (.inr ⟨h, rfl, by omega, by omega, memB_iff.2 (leads_img L s t h hb (by omega) (by omega))⟩)))
  · exact .inl h
theorem lead_3 (L : List Pc) (t : Int) : (domP L).2 ≠ 0 ∨ ((domP L).2 = 0 ∧ memB t (domP L).1 = (atP L t).2) := by
  by_cases h : (domP L).2 = 0
  · refine .inr ⟨h, ?_⟩
    have hl := leads_dom L t h
    rw [← memB_iff] at hl
    cases hb : (atP L t).2 with
    | true => exact hl.2 hb
    | false =>
      cases hm : memB t (domP L).1 with
      | false => rfl
      | true => exact absurd (hl.1 hm) (by rw [hb]; decide)
  · exact .inl h
set_option maxRecDepth 100000 in
set_option maxHeartbeats 4000000 in
theorem leads6_law (A : Option Addr) (c : Nat) (L : List Pc) (s : Spn) (t : Int) (w : World) (h : PcAt w A L) (hf : Frp L) (hl : L.length ≤ 9223372036854775807) (hnt : -9223372036854775808 ≤ t ∧ t ≤ 9223372036854775807) (ht : Wd w) :
    Calls Tryz.prog 8 #[.slice A L.length c, spA s, .int .i64 t] w fun e w' => e = .returned (.bool true) ∧ Below w.heap.size w w' := by
  have HL := Lib.hid h
  have HF := Lib.hid hf
  have HT := Lib.hid ht
  obtain ⟨B, hB⟩ : ∃ B, B = w.heap.size := ⟨_, rfl⟩
  have HB := Lib.hid hB
  rw [← hB]
  clear h hf ht hB
  have HAT := Lib.hid (fun W (h : PcAt W A L) (hl : L.length ≤ 1000000000) => at_any A c L t W h HF.out hl)
  have HPR := Lib.hid (fun W (h : PcAt W A L) (hl : L.length ≤ 1000000000) => pre_any A c L s W h HF.out hl)
  have HIM := Lib.hid (fun W (h : PcAt W A L) (hl : L.length ≤ 1000000000) => img_any A c L s W h HF.out hl)
  have HDM := Lib.hid (fun W (h : PcAt W A L) (hl : L.length ≤ 1000000000) => domain_any A c L W h HF.out hl)
  unfold RetP at HPR HIM HDM
  have HPL := Lib.hid (preP_le L s)
  have HIL := Lib.hid (imgP_le L s)
  have HDL := Lib.hid (domP_le L)
  have HC1 := lead_1 L s t
  have HC2 := lead_2 L s t
  have HC3 := lead_3 L t
  obtain ⟨⟨pn, pb⟩, hat⟩ : ∃ p, p = atP L t := ⟨_, rfl⟩
  obtain ⟨⟨PL, PE⟩, hp⟩ : ∃ p, p = preP L s := ⟨_, rfl⟩
  obtain ⟨⟨IL, IE⟩, him⟩ : ∃ p, p = imgP L s := ⟨_, rfl⟩
  obtain ⟨⟨DL, DE⟩, hd⟩ : ∃ p, p = domP L := ⟨_, rfl⟩
  rw [← hat] at HAT HC1 HC2 HC3
  rw [← hp] at HPR HPL HC1
  rw [← him] at HIM HIL HC2
  rw [← hd] at HDM HDL HC3
  dsimp only at HC1 HC2 HC3
  have HC1 := Lib.hid HC1
  have HC2 := Lib.hid HC2
  have HC3 := Lib.hid HC3
  clear hat hp him hd
  go_enter Tryz.func8, Tryz.ntmps8
  go_wp2_with fail
  rw [← HB.out]
  generalize hw0 : World.alloc w _ = w1
  have HS := Lib.hid (show Held w1 B [.int .i64 s.i, .int .i64 s.o] by subst hw0; exact Held.new HB.out)
  have b0 := Lib.hid (show Below w.heap.size w w1 by subst hw0; exact below_one _ _)
  have G := Lib.hid (show Below B w w1 from HB.out ▸ b0.out)
  have hs : B ≤ w1.heap.size := by have := G.out.size; have := HB.out; omega
  have HL := Lib.hid (HL.out.ext b0.out)
  clear hw0 b0
  refine (awake6_any w1 (HT.out.on (HB.out ▸ G.out))).mono ?_
  rintro e w2 ⟨rfl, hb⟩
  have G := Lib.hid (G.out.trans (hb.mono hs))
  have hs : B ≤ (World.heap w2).size := by have := G.out.size; have := HB.out; omega
  have HL := Lib.hid (HL.out.ext hb)
  have HS := Lib.hid (HS.out.ext hb)
  clear hb
  go_wp2_with fail
  refine (few1p_any w2.heap.size 1 A c L.length _ (by simp [go_sem])).mono ?_
  rintro e w3 ⟨rfl, rfl⟩
  by_cases h8 : L.length ≤ 128
  · rw [decide_eq_true h8]
    generalize hw2 : World.alloc w2 _ = w3
    have G := Lib.hid (show Below B w w3 by subst hw2; exact G.out.alloc hs _)
    have hs : B ≤ w3.heap.size := by have := G.out.size; have := HB.out; omega
    have be := Lib.hid (show Below w2.heap.size w2 w3 by subst hw2; exact below_one _ _)
    have HL := Lib.hid (HL.out.ext be.out)
    have HS := Lib.hid (HS.out.ext be.out)
    clear hw2 be
    go_wp2_with fail
    refine (HAT.out w3 HL.out (by omega)).mono ?_
    rintro e w4 ⟨rfl, hb⟩
    have G := Lib.hid (G.out.trans (hb.mono hs))
    have hs : B ≤ (World.heap w4).size := by have := G.out.size; have := HB.out; omega
    have HL := Lib.hid (HL.out.ext hb)
    have HS := Lib.hid (HS.out.ext hb)
    clear hb
    obtain ⟨s0, s1⟩ := two_of HS.out
    go_wp2_with fail
    refine (HPR.out w4 HL.out (by omega)).mono ?_
    rintro e w5 ⟨⟨v, rfl, ho⟩, hb⟩
    dsimp only at ho ⊢
    obtain ⟨A3, c3, e3, hr3, _⟩ := own_form ho
    subst e3
    clear ho
    clear s0 s1
    have G := Lib.hid (G.out.trans (hb.mono hs))
    have hs : B ≤ (World.heap w5).size := by have := G.out.size; have := HB.out; omega
    have HL := Lib.hid (HL.out.ext hb)
    have HS := Lib.hid (HS.out.ext hb)
    clear hb
    have R3 := Lib.hid hr3
    clear hr3
    clear HAT HPR
    rcases HC1.out with hc | ⟨hc, hb, hm⟩ | ⟨hc, hb, h3, hm⟩ | ⟨hc, hb, h3, h4, hm⟩ | ⟨hc, hb, h3, h4, hm⟩
    · clear HC1
      have hc2 : (PE == 0) = false := by simpa using hc
      try clear s0 s1
      obtain ⟨s0, s1⟩ := two_of HS.out
      go_wp2_with fail
      refine (HIM.out w5 HL.out (by omega)).mono ?_
      rintro e w6 ⟨⟨v, rfl, ho⟩, hb⟩
      dsimp only at ho ⊢
      obtain ⟨A5, c5, e5, hr5, _⟩ := own_form ho
      subst e5
      clear ho
      clear s0 s1
      have G := Lib.hid (G.out.trans (hb.mono hs))
      have hs : B ≤ (World.heap w6).size := by have := G.out.size; have := HB.out; omega
      have HL := Lib.hid (HL.out.ext hb)
      have HS := Lib.hid (HS.out.ext hb)
      have R3 := Lib.hid (R3.out.ext hb)
      clear hb
      have R5 := Lib.hid hr5
      clear hr5
      clear HIM
      rcases HC2.out with hc | ⟨hc, hb2⟩ | ⟨hc, hb2, h5⟩ | ⟨hc, hb2, h5, h6⟩ | ⟨hc, hb2, h5, h6, hm⟩
      · clear HC2
        have hc3 : (IE == 0) = false := by simpa using hc
        try clear s0 s1
        go_wp2_with fail
        refine (HDM.out w6 HL.out (by omega)).mono ?_
        rintro e w7 ⟨⟨v, rfl, ho⟩, hb⟩
        dsimp only at ho ⊢
        obtain ⟨A7, c7, e7, hr7, _⟩ := own_form ho
        subst e7
        clear ho
        have G := Lib.hid (G.out.trans (hb.mono hs))
        have hs : B ≤ (World.heap w7).size := by have := G.out.size; have := HB.out; omega
        have HL := Lib.hid (HL.out.ext hb)
        have HS := Lib.hid (HS.out.ext hb)
        have R3 := Lib.hid (R3.out.ext hb)
        have R5 := Lib.hid (R5.out.ext hb)
        clear hb
        have R7 := Lib.hid hr7
        clear hr7
        clear HDM
        try clear s0 s1
        rcases HC3.out with hc | ⟨hc, hm⟩
        · have hc4 : (DE == 0) = false := by simpa using hc
          go_wp2_with fail
          go_ret
          exact ⟨rfl, G.out⟩
        · subst hc
          go_wp2_with fail
          refine (within6_any A7 c7 DL t w7 R7.out (by have := HDL.out; (try dsimp only at this); omega)).mono ?_
          rintro e w8 ⟨rfl, hb⟩
          have G := Lib.hid (G.out.trans (hb.mono hs))
          have hs : B ≤ (World.heap w8).size := by have := G.out.size; have := HB.out; omega
          have HL := Lib.hid (HL.out.ext hb)
          have HS := Lib.hid (HS.out.ext hb)
          have R3 := Lib.hid (R3.out.ext hb)
          have R5 := Lib.hid (R5.out.ext hb)
          have R7 := Lib.hid (R7.out.ext hb)
          clear hb
          rw [hm]
          clear hm
          go_wp2_with fail
          go_ret
          exact ⟨by simp, G.out⟩
      · clear HC2
        subst hc hb2
        obtain ⟨s0, s1⟩ := two_of HS.out
        go_wp2_with fail
        refine (HDM.out w6 HL.out (by omega)).mono ?_
        rintro e w7 ⟨⟨v, rfl, ho⟩, hb⟩
        dsimp only at ho ⊢
        obtain ⟨A7, c7, e7, hr7, _⟩ := own_form ho
        subst e7
        clear ho
        have G := Lib.hid (G.out.trans (hb.mono hs))
        have hs : B ≤ (World.heap w7).size := by have := G.out.size; have := HB.out; omega
        have HL := Lib.hid (HL.out.ext hb)
        have HS := Lib.hid (HS.out.ext hb)
        have R3 := Lib.hid (R3.out.ext hb)
        have R5 := Lib.hid (R5.out.ext hb)
        clear hb
        have R7 := Lib.hid hr7
        clear hr7
        clear HDM
        try clear s0 s1
        rcases HC3.out with hc | ⟨hc, hm⟩
        · have hc4 : (DE == 0) = false := by simpa using hc
          go_wp2_with fail
          go_ret
          exact ⟨rfl, G.out⟩
        · subst hc
          go_wp2_with fail
          refine (within6_any A7 c7 DL t w7 R7.out (by have := HDL.out; (try dsimp only at this); omega)).mono ?_
          rintro e w8 ⟨rfl, hb⟩
          have G := Lib.hid (G.out.trans (hb.mono hs))
          have hs : B ≤ (World.heap w8).size := by have := G.out.size; have := HB.out; omega
          have HL := Lib.hid (HL.out.ext hb)
          have HS := Lib.hid (HS.out.ext hb)
          have R3 := Lib.hid (R3.out.ext hb)
          have R5 := Lib.hid (R5.out.ext hb)
          have R7 := Lib.hid (R7.out.ext hb)
          clear hb
          rw [hm]
          clear hm
          go_wp2_with fail
          go_ret
          exact ⟨by simp, G.out⟩
      · clear HC2
        subst hc hb2
        obtain ⟨s0, s1⟩ := two_of HS.out
        go_wp2_with fail
        refine (HDM.out w6 HL.out (by omega)).mono ?_
        rintro e w7 ⟨⟨v, rfl, ho⟩, hb⟩
        dsimp only at ho ⊢
        obtain ⟨A7, c7, e7, hr7, _⟩ := own_form ho
        subst e7
        clear ho
        have G := Lib.hid (G.out.trans (hb.mono hs))
        have hs : B ≤ (World.heap w7).size := by have := G.out.size; have := HB.out; omega
        have HL := Lib.hid (HL.out.ext hb)
        have HS := Lib.hid (HS.out.ext hb)
        have R3 := Lib.hid (R3.out.ext hb)
        have R5 := Lib.hid (R5.out.ext hb)
        clear hb
        have R7 := Lib.hid hr7
        clear hr7
        clear HDM
        try clear s0 s1
        rcases HC3.out with hc | ⟨hc, hm⟩
        · have hc4 : (DE == 0) = false := by simpa using hc
          go_wp2_with fail
          go_ret
          exact ⟨rfl, G.out⟩
        · subst hc
          go_wp2_with fail
          refine (within6_any A7 c7 DL t w7 R7.out (by have := HDL.out; (try dsimp only at this); omega)).mono ?_
          rintro e w8 ⟨rfl, hb⟩
          have G := Lib.hid (G.out.trans (hb.mono hs))
          have hs : B ≤ (World.heap w8).size := by have := G.out.size; have := HB.out; omega
          have HL := Lib.hid (HL.out.ext hb)
          have HS := Lib.hid (HS.out.ext hb)
          have R3 := Lib.hid (R3.out.ext hb)
          have R5 := Lib.hid (R5.out.ext hb)
          have R7 := Lib.hid (R7.out.ext hb)
          clear hb
          rw [hm]
          clear hm
          go_wp2_with fail
          go_ret
          exact ⟨by simp, G.out⟩
      · clear HC2
        subst hc hb2
        obtain ⟨s0, s1⟩ := two_of HS.out
        go_wp2_with fail
        refine (HDM.out w6 HL.out (by omega)).mono ?_
        rintro e w7 ⟨⟨v, rfl, ho⟩, hb⟩
        dsimp only at ho ⊢
        obtain ⟨A7, c7, e7, hr7, _⟩ := own_form ho
        subst e7
        clear ho
        have G := Lib.hid (G.out.trans (hb.mono hs))
        have hs : B ≤ (World.heap w7).size := by have := G.out.size; have := HB.out; omega
        have HL := Lib.hid (HL.out.ext hb)
        have HS := Lib.hid (HS.out.ext hb)
        have R3 := Lib.hid (R3.out.ext hb)
        have R5 := Lib.hid (R5.out.ext hb)
        clear hb
        have R7 := Lib.hid hr7
        clear hr7
        clear HDM
        try clear s0 s1
        rcases HC3.out with hc | ⟨hc, hm⟩
        · have hc4 : (DE == 0) = false := by simpa using hc
          go_wp2_with fail
          go_ret
          exact ⟨rfl, G.out⟩
        · subst hc
          go_wp2_with fail
          refine (within6_any A7 c7 DL t w7 R7.out (by have := HDL.out; (try dsimp only at this); omega)).mono ?_
          rintro e w8 ⟨rfl, hb⟩
          have G := Lib.hid (G.out.trans (hb.mono hs))
          have hs : B ≤ (World.heap w8).size := by have := G.out.size; have := HB.out; omega
          have HL := Lib.hid (HL.out.ext hb)
          have HS := Lib.hid (HS.out.ext hb)
          have R3 := Lib.hid (R3.out.ext hb)
          have R5 := Lib.hid (R5.out.ext hb)
          have R7 := Lib.hid (R7.out.ext hb)
          clear hb
          rw [hm]
          clear hm
          go_wp2_with fail
          go_ret
          exact ⟨by simp, G.out⟩
      · clear HC2
        subst hc hb2
        obtain ⟨s0, s1⟩ := two_of HS.out
        go_wp2_with fail
        refine (within6_any A5 c5 IL pn w6 R5.out (by have := HIL.out; (try dsimp only at this); omega)).mono ?_
        rintro e w7 ⟨rfl, hb⟩
        have G := Lib.hid (G.out.trans (hb.mono hs))
        have hs : B ≤ (World.heap w7).size := by have := G.out.size; have := HB.out; omega
        have HL := Lib.hid (HL.out.ext hb)
        have HS := Lib.hid (HS.out.ext hb)
        have R3 := Lib.hid (R3.out.ext hb)
        have R5 := Lib.hid (R5.out.ext hb)
        clear hb
        rw [hm]
        clear hm
        go_wp2_with fail
        refine (HDM.out w7 HL.out (by omega)).mono ?_
        rintro e w8 ⟨⟨v, rfl, ho⟩, hb⟩
        dsimp only at ho ⊢
        obtain ⟨A7, c7, e7, hr7, _⟩ := own_form ho
        subst e7
        clear ho
        have G := Lib.hid (G.out.trans (hb.mono hs))
        have hs : B ≤ (World.heap w8).size := by have := G.out.size; have := HB.out; omega
        have HL := Lib.hid (HL.out.ext hb)
        have HS := Lib.hid (HS.out.ext hb)
        have R3 := Lib.hid (R3.out.ext hb)
        have R5 := Lib.hid (R5.out.ext hb)
        clear hb
        have R7 := Lib.hid hr7
        clear hr7
        clear HDM
        try clear s0 s1
        rcases HC3.out with hc | ⟨hc, hm⟩
        · have hc4 : (DE == 0) = false := by simpa using hc
          go_wp2_with fail
          go_ret
          exact ⟨rfl, G.out⟩
        · subst hc
          go_wp2_with fail
          refine (within6_any A7 c7 DL t w8 R7.out (by have := HDL.out; (try dsimp only at this); omega)).mono ?_
          rintro e w9 ⟨rfl, hb⟩
          have G := Lib.hid (G.out.trans (hb.mono hs))
          have hs : B ≤ (World.heap w9).size := by have := G.out.size; have := HB.out; omega
          have HL := Lib.hid (HL.out.ext hb)
          have HS := Lib.hid (HS.out.ext hb)
          have R3 := Lib.hid (R3.out.ext hb)
          have R5 := Lib.hid (R5.out.ext hb)
          have R7 := Lib.hid (R7.out.ext hb)
          clear hb
          rw [hm]
          clear hm
          go_wp2_with fail
          go_ret
          exact ⟨by simp, G.out⟩
    · clear HC1
      subst hc hb
      obtain ⟨s0, s1⟩ := two_of HS.out
      go_wp2_with fail
      refine (within6_any A3 c3 PL t w5 R3.out (by have := HPL.out; (try dsimp only at this); omega)).mono ?_
      rintro e w6 ⟨rfl, hb⟩
      have G := Lib.hid (G.out.trans (hb.mono hs))
      have hs : B ≤ (World.heap w6).size := by have := G.out.size; have := HB.out; omega
      have HL := Lib.hid (HL.out.ext hb)
      have HS := Lib.hid (HS.out.ext hb)
      have R3 := Lib.hid (R3.out.ext hb)
      clear hb
      rw [hm]
      clear s0 s1 hm
      obtain ⟨s0, s1⟩ := two_of HS.out
      try clear s0 s1
      obtain ⟨s0, s1⟩ := two_of HS.out
      go_wp2_with fail
      refine (HIM.out w6 HL.out (by omega)).mono ?_
      rintro e w7 ⟨⟨v, rfl, ho⟩, hb⟩
      dsimp only at ho ⊢
      obtain ⟨A5, c5, e5, hr5, _⟩ := own_form ho
      subst e5
      clear ho
      clear s0 s1
      have G := Lib.hid (G.out.trans (hb.mono hs))
      have hs : B ≤ (World.heap w7).size := by have := G.out.size; have := HB.out; omega
      have HL := Lib.hid (HL.out.ext hb)
      have HS := Lib.hid (HS.out.ext hb)
      have R3 := Lib.hid (R3.out.ext hb)
      clear hb
      have R5 := Lib.hid hr5
      clear hr5
      clear HIM
      rcases HC2.out with hc | ⟨hc, hb2⟩ | ⟨hc, hb2, h5⟩ | ⟨hc, hb2, h5, h6⟩ | ⟨hc, hb2, h5, h6, hm⟩
      · clear HC2
        have hc3 : (IE == 0) = false := by simpa using hc
        try clear s0 s1
        go_wp2_with fail
        refine (HDM.out w7 HL.out (by omega)).mono ?_
        rintro e w8 ⟨⟨v, rfl, ho⟩, hb⟩
        dsimp only at ho ⊢
        obtain ⟨A7, c7, e7, hr7, _⟩ := own_form ho
        subst e7
        clear ho
        have G := Lib.hid (G.out.trans (hb.mono hs))
        have hs : B ≤ (World.heap w8).size := by have := G.out.size; have := HB.out; omega
        have HL := Lib.hid (HL.out.ext hb)
        have HS := Lib.hid (HS.out.ext hb)
        have R3 := Lib.hid (R3.out.ext hb)
        have R5 := Lib.hid (R5.out.ext hb)
        clear hb
        have R7 := Lib.hid hr7
        clear hr7
        clear HDM
        try clear s0 s1
        rcases HC3.out with hc | ⟨hc, hm⟩
        · have hc4 : (DE == 0) = false := by simpa using hc
          go_wp2_with fail
          go_ret
          exact ⟨rfl, G.out⟩
        · subst hc
          go_wp2_with fail
          refine (within6_any A7 c7 DL t w8 R7.out (by have := HDL.out; (try dsimp only at this); omega)).mono ?_
          rintro e w9 ⟨rfl, hb⟩
          have G := Lib.hid (G.out.trans (hb.mono hs))
          have hs : B ≤ (World.heap w9).size := by have := G.out.size; have := HB.out; omega
          have HL := Lib.hid (HL.out.ext hb)
          have HS := Lib.hid (HS.out.ext hb)
          have R3 := Lib.hid (R3.out.ext hb)
          have R5 := Lib.hid (R5.out.ext hb)
          have R7 := Lib.hid (R7.out.ext hb)
          clear hb
          rw [hm]
          clear hm
          go_wp2_with fail
          go_ret
          exact ⟨by simp, G.out⟩
      · clear HC2
        subst hc
        obtain ⟨s0, s1⟩ := two_of HS.out
        go_wp2_with fail
        refine (HDM.out w7 HL.out (by omega)).mono ?_
        rintro e w8 ⟨⟨v, rfl, ho⟩, hb⟩
        dsimp only at ho ⊢
        obtain ⟨A7, c7, e7, hr7, _⟩ := own_form ho
        subst e7
        clear ho
        have G := Lib.hid (G.out.trans (hb.mono hs))
        have hs : B ≤ (World.heap w8).size := by have := G.out.size; have := HB.out; omega
        have HL := Lib.hid (HL.out.ext hb)
        have HS := Lib.hid (HS.out.ext hb)
        have R3 := Lib.hid (R3.out.ext hb)
        have R5 := Lib.hid (R5.out.ext hb)
        clear hb
        have R7 := Lib.hid hr7
        clear hr7
        clear HDM
        try clear s0 s1
        rcases HC3.out with hc | ⟨hc, hm⟩
        · have hc4 : (DE == 0) = false := by simpa using hc
          go_wp2_with fail
          go_ret
          exact ⟨rfl, G.out⟩
        · subst hc
          go_wp2_with fail
          refine (within6_any A7 c7 DL t w8 R7.out (by have := HDL.out; (try dsimp only at this); omega)).mono ?_
          rintro e w9 ⟨rfl, hb⟩
          have G := Lib.hid (G.out.trans (hb.mono hs))
          have hs : B ≤ (World.heap w9).size := by have := G.out.size; have := HB.out; omega
          have HL := Lib.hid (HL.out.ext hb)
          have HS := Lib.hid (HS.out.ext hb)
          have R3 := Lib.hid (R3.out.ext hb)
          have R5 := Lib.hid (R5.out.ext hb)
          have R7 := Lib.hid (R7.out.ext hb)
          clear hb
          rw [hm]
          clear hm
          go_wp2_with fail
          go_ret
          exact ⟨by simp, G.out⟩
      · clear HC2
        exact absurd hb2 (by decide)
      · clear HC2
        exact absurd hb2 (by decide)
      · clear HC2
        exact absurd hb2 (by decide)
    · clear HC1
      subst hc hb
      obtain ⟨s0, s1⟩ := two_of HS.out
      go_wp2_with fail
      refine (within6_any A3 c3 PL t w5 R3.out (by have := HPL.out; (try dsimp only at this); omega)).mono ?_
      rintro e w6 ⟨rfl, hb⟩
      have G := Lib.hid (G.out.trans (hb.mono hs))
      have hs : B ≤ (World.heap w6).size := by have := G.out.size; have := HB.out; omega
      have HL := Lib.hid (HL.out.ext hb)
      have HS := Lib.hid (HS.out.ext hb)
      have R3 := Lib.hid (R3.out.ext hb)
      clear hb
      rw [hm]
      clear s0 s1 hm
      obtain ⟨s0, s1⟩ := two_of HS.out
      try clear s0 s1
      obtain ⟨s0, s1⟩ := two_of HS.out
      go_wp2_with fail
      refine (HIM.out w6 HL.out (by omega)).mono ?_
      rintro e w7 ⟨⟨v, rfl, ho⟩, hb⟩
      dsimp only at ho ⊢
      obtain ⟨A5, c5, e5, hr5, _⟩ := own_form ho
      subst e5
      clear ho
      clear s0 s1
      have G := Lib.hid (G.out.trans (hb.mono hs))
      have hs : B ≤ (World.heap w7).size := by have := G.out.size; have := HB.out; omega
      have HL := Lib.hid (HL.out.ext hb)
      have HS := Lib.hid (HS.out.ext hb)
      have R3 := Lib.hid (R3.out.ext hb)
      clear hb
      have R5 := Lib.hid hr5
      clear hr5
      clear HIM
      rcases HC2.out with hc | ⟨hc, hb2⟩ | ⟨hc, hb2, h5⟩ | ⟨hc, hb2, h5, h6⟩ | ⟨hc, hb2, h5, h6, hm⟩
      · clear HC2
        have hc3 : (IE == 0) = false := by simpa using hc
        try clear s0 s1
        go_wp2_with fail
        refine (HDM.out w7 HL.out (by omega)).mono ?_
        rintro e w8 ⟨⟨v, rfl, ho⟩, hb⟩
        dsimp only at ho ⊢
        obtain ⟨A7, c7, e7, hr7, _⟩ := own_form ho
        subst e7
        clear ho
        have G := Lib.hid (G.out.trans (hb.mono hs))
        have hs : B ≤ (World.heap w8).size := by have := G.out.size; have := HB.out; omega
        have HL := Lib.hid (HL.out.ext hb)
        have HS := Lib.hid (HS.out.ext hb)
        have R3 := Lib.hid (R3.out.ext hb)
        have R5 := Lib.hid (R5.out.ext hb)
        clear hb
        have R7 := Lib.hid hr7
        clear hr7
        clear HDM
        try clear s0 s1
        rcases HC3.out with hc | ⟨hc, hm⟩
        · have hc4 : (DE == 0) = false := by simpa using hc
          go_wp2_with fail
          go_ret
          exact ⟨rfl, G.out⟩
        · subst hc
          go_wp2_with fail
          refine (within6_any A7 c7 DL t w8 R7.out (by have := HDL.out; (try dsimp only at this); omega)).mono ?_
          rintro e w9 ⟨rfl, hb⟩
          have G := Lib.hid (G.out.trans (hb.mono hs))
          have hs : B ≤ (World.heap w9).size := by have := G.out.size; have := HB.out; omega
          have HL := Lib.hid (HL.out.ext hb)
          have HS := Lib.hid (HS.out.ext hb)
          have R3 := Lib.hid (R3.out.ext hb)
          have R5 := Lib.hid (R5.out.ext hb)
          have R7 := Lib.hid (R7.out.ext hb)
          clear hb
          rw [hm]
          clear hm
          go_wp2_with fail
          go_ret
          exact ⟨by simp, G.out⟩
      · clear HC2
        exact absurd hb2 (by decide)
      · clear HC2
        subst hc
        obtain ⟨s0, s1⟩ := two_of HS.out
        go_wp2_with fail
        refine (HDM.out w7 HL.out (by omega)).mono ?_
        rintro e w8 ⟨⟨v, rfl, ho⟩, hb⟩
        dsimp only at ho ⊢
        obtain ⟨A7, c7, e7, hr7, _⟩ := own_form ho
        subst e7
        clear ho
        have G := Lib.hid (G.out.trans (hb.mono hs))
        have hs : B ≤ (World.heap w8).size := by have := G.out.size; have := HB.out; omega
        have HL := Lib.hid (HL.out.ext hb)
        have HS := Lib.hid (HS.out.ext hb)
        have R3 := Lib.hid (R3.out.ext hb)
        have R5 := Lib.hid (R5.out.ext hb)
        clear hb
        have R7 := Lib.hid hr7
        clear hr7
        clear HDM
        try clear s0 s1
        rcases HC3.out with hc | ⟨hc, hm⟩
        · have hc4 : (DE == 0) = false := by simpa using hc
          go_wp2_with fail
          go_ret
          exact ⟨rfl, G.out⟩
        · subst hc
          go_wp2_with fail
          refine (within6_any A7 c7 DL t w8 R7.out (by have := HDL.out; (try dsimp only at this); omega)).mono ?_
          rintro e w9 ⟨rfl, hb⟩
          have G := Lib.hid (G.out.trans (hb.mono hs))
          have hs : B ≤ (World.heap w9).size := by have := G.out.size; have := HB.out; omega
          have HL := Lib.hid (HL.out.ext hb)
          have HS := Lib.hid (HS.out.ext hb)
          have R3 := Lib.hid (R3.out.ext hb)
          have R5 := Lib.hid (R5.out.ext hb)
          have R7 := Lib.hid (R7.out.ext hb)
          clear hb
          rw [hm]
          clear hm
          go_wp2_with fail
          go_ret
          exact ⟨by simp, G.out⟩
      · clear HC2
        subst hc
        obtain ⟨s0, s1⟩ := two_of HS.out
        go_wp2_with fail
        refine (HDM.out w7 HL.out (by omega)).mono ?_
        rintro e w8 ⟨⟨v, rfl, ho⟩, hb⟩
        dsimp only at ho ⊢
        obtain ⟨A7, c7, e7, hr7, _⟩ := own_form ho
        subst e7
        clear ho
        have G := Lib.hid (G.out.trans (hb.mono hs))
        have hs : B ≤ (World.heap w8).size := by have := G.out.size; have := HB.out; omega
        have HL := Lib.hid (HL.out.ext hb)
        have HS := Lib.hid (HS.out.ext hb)
        have R3 := Lib.hid (R3.out.ext hb)
        have R5 := Lib.hid (R5.out.ext hb)
        clear hb
        have R7 := Lib.hid hr7
        clear hr7
        clear HDM
        try clear s0 s1
        rcases HC3.out with hc | ⟨hc, hm⟩
        · have hc4 : (DE == 0) = false := by simpa using hc
          go_wp2_with fail
          go_ret
          exact ⟨rfl, G.out⟩
        · subst hc
          go_wp2_with fail
          refine (within6_any A7 c7 DL t w8 R7.out (by have := HDL.out; (try dsimp only at this); omega)).mono ?_
          rintro e w9 ⟨rfl, hb⟩
          have G := Lib.hid (G.out.trans (hb.mono hs))
          have hs : B ≤ (World.heap w9).size := by have := G.out.size; have := HB.out; omega
          have HL := Lib.hid (HL.out.ext hb)
          have HS := Lib.hid (HS.out.ext hb)
          have R3 := Lib.hid (R3.out.ext hb)
          have R5 := Lib.hid (R5.out.ext hb)
          have R7 := Lib.hid (R7.out.ext hb)
          clear hb
          rw [hm]
          clear hm
          go_wp2_with fail
          go_ret
          exact ⟨by simp, G.out⟩
      · clear HC2
        subst hc
        obtain ⟨s0, s1⟩ := two_of HS.out
        go_wp2_with fail
        refine (within6_any A5 c5 IL pn w7 R5.out (by have := HIL.out; (try dsimp only at this); omega)).mono ?_
        rintro e w8 ⟨rfl, hb⟩
        have G := Lib.hid (G.out.trans (hb.mono hs))
        have hs : B ≤ (World.heap w8).size := by have := G.out.size; have := HB.out; omega
        have HL := Lib.hid (HL.out.ext hb)
        have HS := Lib.hid (HS.out.ext hb)
        have R3 := Lib.hid (R3.out.ext hb)
        have R5 := Lib.hid (R5.out.ext hb)
        clear hb
        rw [hm]
        clear hm
        go_wp2_with fail
        refine (HDM.out w8 HL.out (by omega)).mono ?_
        rintro e w9 ⟨⟨v, rfl, ho⟩, hb⟩
        dsimp only at ho ⊢
        obtain ⟨A7, c7, e7, hr7, _⟩ := own_form ho
        subst e7
        clear ho
        have G := Lib.hid (G.out.trans (hb.mono hs))
        have hs : B ≤ (World.heap w9).size := by have := G.out.size; have := HB.out; omega
        have HL := Lib.hid (HL.out.ext hb)
        have HS := Lib.hid (HS.out.ext hb)
        have R3 := Lib.hid (R3.out.ext hb)
        have R5 := Lib.hid (R5.out.ext hb)
        clear hb
        have R7 := Lib.hid hr7
        clear hr7
        clear HDM
        try clear s0 s1
        rcases HC3.out with hc | ⟨hc, hm⟩
        · have hc4 : (DE == 0) = false := by simpa using hc
          go_wp2_with fail
          go_ret
          exact ⟨rfl, G.out⟩
        · subst hc
          go_wp2_with fail
          refine (within6_any A7 c7 DL t w9 R7.out (by have := HDL.out; (try dsimp only at this); omega)).mono ?_
          rintro e w10 ⟨rfl, hb⟩
          have G := Lib.hid (G.out.trans (hb.mono hs))
          have hs : B ≤ (World.heap w10).size := by have := G.out.size; have := HB.out; omega
          have HL := Lib.hid (HL.out.ext hb)
          have HS := Lib.hid (HS.out.ext hb)
          have R3 := Lib.hid (R3.out.ext hb)
          have R5 := Lib.hid (R5.out.ext hb)
          have R7 := Lib.hid (R7.out.ext hb)
          clear hb
          rw [hm]
          clear hm
          go_wp2_with fail
          go_ret
          exact ⟨by simp, G.out⟩
    · clear HC1
      subst hc hb
      obtain ⟨s0, s1⟩ := two_of HS.out
      go_wp2_with fail
      refine (within6_any A3 c3 PL t w5 R3.out (by have := HPL.out; (try dsimp only at this); omega)).mono ?_
      rintro e w6 ⟨rfl, hb⟩
      have G := Lib.hid (G.out.trans (hb.mono hs))
      have hs : B ≤ (World.heap w6).size := by have := G.out.size; have := HB.out; omega
      have HL := Lib.hid (HL.out.ext hb)
      have HS := Lib.hid (HS.out.ext hb)
      have R3 := Lib.hid (R3.out.ext hb)
      clear hb
      rw [hm]
      clear s0 s1 hm
      obtain ⟨s0, s1⟩ := two_of HS.out
      try clear s0 s1
      obtain ⟨s0, s1⟩ := two_of HS.out
      go_wp2_with fail
      refine (HIM.out w6 HL.out (by omega)).mono ?_
      rintro e w7 ⟨⟨v, rfl, ho⟩, hb⟩
      dsimp only at ho ⊢
      obtain ⟨A5, c5, e5, hr5, _⟩ := own_form ho
      subst e5
      clear ho
      clear s0 s1
      have G := Lib.hid (G.out.trans (hb.mono hs))
      have hs : B ≤ (World.heap w7).size := by have := G.out.size; have := HB.out; omega
      have HL := Lib.hid (HL.out.ext hb)
      have HS := Lib.hid (HS.out.ext hb)
      have R3 := Lib.hid (R3.out.ext hb)
      clear hb
      have R5 := Lib.hid hr5
      clear hr5
      clear HIM
      rcases HC2.out with hc | ⟨hc, hb2⟩ | ⟨hc, hb2, h5⟩ | ⟨hc, hb2, h5, h6⟩ | ⟨hc, hb2, h5, h6, hm⟩
      · clear HC2
        have hc3 : (IE == 0) = false := by simpa using hc
        try clear s0 s1
        go_wp2_with fail
        refine (HDM.out w7 HL.out (by omega)).mono ?_
        rintro e w8 ⟨⟨v, rfl, ho⟩, hb⟩
        dsimp only at ho ⊢
        obtain ⟨A7, c7, e7, hr7, _⟩ := own_form ho
        subst e7
        clear ho
        have G := Lib.hid (G.out.trans (hb.mono hs))
        have hs : B ≤ (World.heap w8).size := by have := G.out.size; have := HB.out; omega
        have HL := Lib.hid (HL.out.ext hb)
        have HS := Lib.hid (HS.out.ext hb)
        have R3 := Lib.hid (R3.out.ext hb)
        have R5 := Lib.hid (R5.out.ext hb)
        clear hb
        have R7 := Lib.hid hr7
        clear hr7
        clear HDM
        try clear s0 s1
        rcases HC3.out with hc | ⟨hc, hm⟩
        · have hc4 : (DE == 0) = false := by simpa using hc
          go_wp2_with fail
          go_ret
          exact ⟨rfl, G.out⟩
        · subst hc
          go_wp2_with fail
          refine (within6_any A7 c7 DL t w8 R7.out (by have := HDL.out; (try dsimp only at this); omega)).mono ?_
          rintro e w9 ⟨rfl, hb⟩
          have G := Lib.hid (G.out.trans (hb.mono hs))
          have hs : B ≤ (World.heap w9).size := by have := G.out.size; have := HB.out; omega
          have HL := Lib.hid (HL.out.ext hb)
          have HS := Lib.hid (HS.out.ext hb)
          have R3 := Lib.hid (R3.out.ext hb)
          have R5 := Lib.hid (R5.out.ext hb)
          have R7 := Lib.hid (R7.out.ext hb)
          clear hb
          rw [hm]
          clear hm
          go_wp2_with fail
          go_ret
          exact ⟨by simp, G.out⟩
      · clear HC2
        exact absurd hb2 (by decide)
      · clear HC2
        subst hc
        obtain ⟨s0, s1⟩ := two_of HS.out
        go_wp2_with fail
        refine (HDM.out w7 HL.out (by omega)).mono ?_
        rintro e w8 ⟨⟨v, rfl, ho⟩, hb⟩
        dsimp only at ho ⊢
        obtain ⟨A7, c7, e7, hr7, _⟩ := own_form ho
        subst e7
        clear ho
        have G := Lib.hid (G.out.trans (hb.mono hs))
        have hs : B ≤ (World.heap w8).size := by have := G.out.size; have := HB.out; omega
        have HL := Lib.hid (HL.out.ext hb)
        have HS := Lib.hid (HS.out.ext hb)
        have R3 := Lib.hid (R3.out.ext hb)
        have R5 := Lib.hid (R5.out.ext hb)
        clear hb
        have R7 := Lib.hid hr7
        clear hr7
        clear HDM
        try clear s0 s1
        rcases HC3.out with hc | ⟨hc, hm⟩
        · have hc4 : (DE == 0) = false := by simpa using hc
          go_wp2_with fail
          go_ret
          exact ⟨rfl, G.out⟩
        · subst hc
          go_wp2_with fail
          refine (within6_any A7 c7 DL t w8 R7.out (by have := HDL.out; (try dsimp only at this); omega)).mono ?_
          rintro e w9 ⟨rfl, hb⟩
          have G := Lib.hid (G.out.trans (hb.mono hs))
          have hs : B ≤ (World.heap w9).size := by have := G.out.size; have := HB.out; omega
          have HL := Lib.hid (HL.out.ext hb)
          have HS := Lib.hid (HS.out.ext hb)
          have R3 := Lib.hid (R3.out.ext hb)
          have R5 := Lib.hid (R5.out.ext hb)
          have R7 := Lib.hid (R7.out.ext hb)
          clear hb
          rw [hm]
          clear hm
          go_wp2_with fail
          go_ret
          exact ⟨by simp, G.out⟩
      · clear HC2
        subst hc
        obtain ⟨s0, s1⟩ := two_of HS.out
        go_wp2_with fail
        refine (HDM.out w7 HL.out (by omega)).mono ?_
        rintro e w8 ⟨⟨v, rfl, ho⟩, hb⟩
        dsimp only at ho ⊢
        obtain ⟨A7, c7, e7, hr7, _⟩ := own_form ho
        subst e7
        clear ho
        have G := Lib.hid (G.out.trans (hb.mono hs))
        have hs : B ≤ (World.heap w8).size := by have := G.out.size; have := HB.out; omega
        have HL := Lib.hid (HL.out.ext hb)
        have HS := Lib.hid (HS.out.ext hb)
        have R3 := Lib.hid (R3.out.ext hb)
        have R5 := Lib.hid (R5.out.ext hb)
        clear hb
        have R7 := Lib.hid hr7
        clear hr7
        clear HDM
        try clear s0 s1
        rcases HC3.out with hc | ⟨hc, hm⟩
        · have hc4 : (DE == 0) = false := by simpa using hc
          go_wp2_with fail
          go_ret
          exact ⟨rfl, G.out⟩
        · subst hc
          go_wp2_with fail
          refine (within6_any A7 c7 DL t w8 R7.out (by have := HDL.out; (try dsimp only at this); omega)).mono ?_
          rintro e w9 ⟨rfl, hb⟩
          have G := Lib.hid (G.out.trans (hb.mono hs))
          have hs : B ≤ (World.heap w9).size := by have := G.out.size; have := HB.out; omega
          have HL := Lib.hid (HL.out.ext hb)
          have HS := Lib.hid (HS.out.ext hb)
          have R3 := Lib.hid (R3.out.ext hb)
          have R5 := Lib.hid (R5.out.ext hb)
          have R7 := Lib.hid (R7.out.ext hb)
          clear hb
          rw [hm]
          clear hm
          go_wp2_with fail
          go_ret
          exact ⟨by simp, G.out⟩
      · clear HC2
        subst hc
        obtain ⟨s0, s1⟩ := two_of HS.out
        go_wp2_with fail
        refine (within6_any A5 c5 IL pn w7 R5.out (by have := HIL.out; (try dsimp only at this); omega)).mono ?_
        rintro e w8 ⟨rfl, hb⟩
        have G := Lib.hid (G.out.trans (hb.mono hs))
        have hs : B ≤ (World.heap w8).size := by have := G.out.size; have := HB.out; omega
        have HL := Lib.hid (HL.out.ext hb)
        have HS := Lib.hid (HS.out.ext hb)
        have R3 := Lib.hid (R3.out.ext hb)
        have R5 := Lib.hid (R5.out.ext hb)
        clear hb
        rw [hm]
        clear hm
        go_wp2_with fail
        refine (HDM.out w8 HL.out (by omega)).mono ?_
        rintro e w9 ⟨⟨v, rfl, ho⟩, hb⟩
        dsimp only at ho ⊢
        obtain ⟨A7, c7, e7, hr7, _⟩ := own_form ho
        subst e7
        clear ho
        have G := Lib.hid (G.out.trans (hb.mono hs))
        have hs : B ≤ (World.heap w9).size := by have := G.out.size; have := HB.out; omega
        have HL := Lib.hid (HL.out.ext hb)
        have HS := Lib.hid (HS.out.ext hb)
        have R3 := Lib.hid (R3.out.ext hb)
        have R5 := Lib.hid (R5.out.ext hb)
        clear hb
        have R7 := Lib.hid hr7
        clear hr7
        clear HDM
        try clear s0 s1
        rcases HC3.out with hc | ⟨hc, hm⟩
        · have hc4 : (DE == 0) = false := by simpa using hc
          go_wp2_with fail
          go_ret
          exact ⟨rfl, G.out⟩
        · subst hc
          go_wp2_with fail
          refine (within6_any A7 c7 DL t w9 R7.out (by have := HDL.out; (try dsimp only at this); omega)).mono ?_
          rintro e w10 ⟨rfl, hb⟩
          have G := Lib.hid (G.out.trans (hb.mono hs))
          have hs : B ≤ (World.heap w10).size := by have := G.out.size; have := HB.out; omega
          have HL := Lib.hid (HL.out.ext hb)
          have HS := Lib.hid (HS.out.ext hb)
          have R3 := Lib.hid (R3.out.ext hb)
          have R5 := Lib.hid (R5.out.ext hb)
          have R7 := Lib.hid (R7.out.ext hb)
          clear hb
          rw [hm]
          clear hm
          go_wp2_with fail
          go_ret
          exact ⟨by simp, G.out⟩
    · clear HC1
      subst hc hb
      obtain ⟨s0, s1⟩ := two_of HS.out
      go_wp2_with fail
      refine (within6_any A3 c3 PL t w5 R3.out (by have := HPL.out; (try dsimp only at this); omega)).mono ?_
      rintro e w6 ⟨rfl, hb⟩
      have G := Lib.hid (G.out.trans (hb.mono hs))
      have hs : B ≤ (World.heap w6).size := by have := G.out.size; have := HB.out; omega
      have HL := Lib.hid (HL.out.ext hb)
      have HS := Lib.hid (HS.out.ext hb)
      have R3 := Lib.hid (R3.out.ext hb)
      clear hb
      rw [hm]
      clear s0 s1 hm
      obtain ⟨s0, s1⟩ := two_of HS.out
      try clear s0 s1
      obtain ⟨s0, s1⟩ := two_of HS.out
      go_wp2_with fail
      refine (HIM.out w6 HL.out (by omega)).mono ?_
      rintro e w7 ⟨⟨v, rfl, ho⟩, hb⟩
      dsimp only at ho ⊢
      obtain ⟨A5, c5, e5, hr5, _⟩ := own_form ho
      subst e5
      clear ho
      clear s0 s1
      have G := Lib.hid (G.out.trans (hb.mono hs))
      have hs : B ≤ (World.heap w7).size := by have := G.out.size; have := HB.out; omega
      have HL := Lib.hid (HL.out.ext hb)
      have HS := Lib.hid (HS.out.ext hb)
      have R3 := Lib.hid (R3.out.ext hb)
      clear hb
      have R5 := Lib.hid hr5
      clear hr5
      clear HIM
      rcases HC2.out with hc | ⟨hc, hb2⟩ | ⟨hc, hb2, h5⟩ | ⟨hc, hb2, h5, h6⟩ | ⟨hc, hb2, h5, h6, hm⟩
      · clear HC2
        have hc3 : (IE == 0) = false := by simpa using hc
        try clear s0 s1
        go_wp2_with fail
        refine (HDM.out w7 HL.out (by omega)).mono ?_
        rintro e w8 ⟨⟨v, rfl, ho⟩, hb⟩
        dsimp only at ho ⊢
        obtain ⟨A7, c7, e7, hr7, _⟩ := own_form ho
        subst e7
        clear ho
        have G := Lib.hid (G.out.trans (hb.mono hs))
        have hs : B ≤ (World.heap w8).size := by have := G.out.size; have := HB.out; omega
        have HL := Lib.hid (HL.out.ext hb)
        have HS := Lib.hid (HS.out.ext hb)
        have R3 := Lib.hid (R3.out.ext hb)
        have R5 := Lib.hid (R5.out.ext hb)
        clear hb
        have R7 := Lib.hid hr7
        clear hr7
        clear HDM
        try clear s0 s1
        rcases HC3.out with hc | ⟨hc, hm⟩
        · have hc4 : (DE == 0) = false := by simpa using hc
          go_wp2_with fail
          go_ret
          exact ⟨rfl, G.out⟩
        · subst hc
          go_wp2_with fail
          refine (within6_any A7 c7 DL t w8 R7.out (by have := HDL.out; (try dsimp only at this); omega)).mono ?_
          rintro e w9 ⟨rfl, hb⟩
          have G := Lib.hid (G.out.trans (hb.mono hs))
          have hs : B ≤ (World.heap w9).size := by have := G.out.size; have := HB.out; omega
          have HL := Lib.hid (HL.out.ext hb)
          have HS := Lib.hid (HS.out.ext hb)
          have R3 := Lib.hid (R3.out.ext hb)
          have R5 := Lib.hid (R5.out.ext hb)
          have R7 := Lib.hid (R7.out.ext hb)
          clear hb
          rw [hm]
          clear hm
          go_wp2_with fail
          go_ret
          exact ⟨by simp, G.out⟩
      · clear HC2
        exact absurd hb2 (by decide)
      · clear HC2
        subst hc
        obtain ⟨s0, s1⟩ := two_of HS.out
        go_wp2_with fail
        refine (HDM.out w7 HL.out (by omega)).mono ?_
        rintro e w8 ⟨⟨v, rfl, ho⟩, hb⟩
        dsimp only at ho ⊢
        obtain ⟨A7, c7, e7, hr7, _⟩ := own_form ho
        subst e7
        clear ho
        have G := Lib.hid (G.out.trans (hb.mono hs))
        have hs : B ≤ (World.heap w8).size := by have := G.out.size; have := HB.out; omega
        have HL := Lib.hid (HL.out.ext hb)
        have HS := Lib.hid (HS.out.ext hb)
        have R3 := Lib.hid (R3.out.ext hb)
        have R5 := Lib.hid (R5.out.ext hb)
        clear hb
        have R7 := Lib.hid hr7
        clear hr7
        clear HDM
        try clear s0 s1
        rcases HC3.out with hc | ⟨hc, hm⟩
        · have hc4 : (DE == 0) = false := by simpa using hc
          go_wp2_with fail
          go_ret
          exact ⟨rfl, G.out⟩
        · subst hc
          go_wp2_with fail
          refine (within6_any A7 c7 DL t w8 R7.out (by have := HDL.out; (try dsimp only at this); omega)).mono ?_
          rintro e w9 ⟨rfl, hb⟩
          have G := Lib.hid (G.out.trans (hb.mono hs))
          have hs : B ≤ (World.heap w9).size := by have := G.out.size; have := HB.out; omega
          have HL := Lib.hid (HL.out.ext hb)
          have HS := Lib.hid (HS.out.ext hb)
          have R3 := Lib.hid (R3.out.ext hb)
          have R5 := Lib.hid (R5.out.ext hb)
          have R7 := Lib.hid (R7.out.ext hb)
          clear hb
          rw [hm]
          clear hm
          go_wp2_with fail
          go_ret
          exact ⟨by simp, G.out⟩
      · clear HC2
        subst hc
        obtain ⟨s0, s1⟩ := two_of HS.out
        go_wp2_with fail
        refine (HDM.out w7 HL.out (by omega)).mono ?_
        rintro e w8 ⟨⟨v, rfl, ho⟩, hb⟩
        dsimp only at ho ⊢
        obtain ⟨A7, c7, e7, hr7, _⟩ := own_form ho
        subst e7
        clear ho
        have G := Lib.hid (G.out.trans (hb.mono hs))
        have hs : B ≤ (World.heap w8).size := by have := G.out.size; have := HB.out; omega
        have HL := Lib.hid (HL.out.ext hb)
        have HS := Lib.hid (HS.out.ext hb)
        have R3 := Lib.hid (R3.out.ext hb)
        have R5 := Lib.hid (R5.out.ext hb)
        clear hb
        have R7 := Lib.hid hr7
        clear hr7
        clear HDM
        try clear s0 s1
        rcases HC3.out with hc | ⟨hc, hm⟩
        · have hc4 : (DE == 0) = false := by simpa using hc
          go_wp2_with fail
          go_ret
          exact ⟨rfl, G.out⟩
        · subst hc
          go_wp2_with fail
          refine (within6_any A7 c7 DL t w8 R7.out (by have := HDL.out; (try dsimp only at this); omega)).mono ?_
          rintro e w9 ⟨rfl, hb⟩
          have G := Lib.hid (G.out.trans (hb.mono hs))
          have hs : B ≤ (World.heap w9).size := by have := G.out.size; have := HB.out; omega
          have HL := Lib.hid (HL.out.ext hb)
          have HS := Lib.hid (HS.out.ext hb)
          have R3 := Lib.hid (R3.out.ext hb)
          have R5 := Lib.hid (R5.out.ext hb)
          have R7 := Lib.hid (R7.out.ext hb)
          clear hb
          rw [hm]
          clear hm
          go_wp2_with fail
          go_ret
          exact ⟨by simp, G.out⟩
      · clear HC2
        subst hc
        obtain ⟨s0, s1⟩ := two_of HS.out
        go_wp2_with fail
        refine (within6_any A5 c5 IL pn w7 R5.out (by have := HIL.out; (try dsimp only at this); omega)).mono ?_
        rintro e w8 ⟨rfl, hb⟩
        have G := Lib.hid (G.out.trans (hb.mono hs))
        have hs : B ≤ (World.heap w8).size := by have := G.out.size; have := HB.out; omega
        have HL := Lib.hid (HL.out.ext hb)
        have HS := Lib.hid (HS.out.ext hb)
        have R3 := Lib.hid (R3.out.ext hb)
        have R5 := Lib.hid (R5.out.ext hb)
        clear hb
        rw [hm]
        clear hm
        go_wp2_with fail
        refine (HDM.out w8 HL.out (by omega)).mono ?_
        rintro e w9 ⟨⟨v, rfl, ho⟩, hb⟩
        dsimp only at ho ⊢
        obtain ⟨A7, c7, e7, hr7, _⟩ := own_form ho
        subst e7
        clear ho
        have G := Lib.hid (G.out.trans (hb.mono hs))
        have hs : B ≤ (World.heap w9).size := by have := G.out.size; have := HB.out; omega
        have HL := Lib.hid (HL.out.ext hb)
        have HS := Lib.hid (HS.out.ext hb)
        have R3 := Lib.hid (R3.out.ext hb)
        have R5 := Lib.hid (R5.out.ext hb)
        clear hb
        have R7 := Lib.hid hr7
        clear hr7
        clear HDM
        try clear s0 s1
        rcases HC3.out with hc | ⟨hc, hm⟩
        · have hc4 : (DE == 0) = false := by simpa using hc
          go_wp2_with fail
          go_ret
          exact ⟨rfl, G.out⟩
        · subst hc
          go_wp2_with fail
          refine (within6_any A7 c7 DL t w9 R7.out (by have := HDL.out; (try dsimp only at this); omega)).mono ?_
          rintro e w10 ⟨rfl, hb⟩
          have G := Lib.hid (G.out.trans (hb.mono hs))
          have hs : B ≤ (World.heap w10).size := by have := G.out.size; have := HB.out; omega
          have HL := Lib.hid (HL.out.ext hb)
          have HS := Lib.hid (HS.out.ext hb)
          have R3 := Lib.hid (R3.out.ext hb)
          have R5 := Lib.hid (R5.out.ext hb)
          have R7 := Lib.hid (R7.out.ext hb)
          clear hb
          rw [hm]
          clear hm
          go_wp2_with fail
          go_ret
          exact ⟨by simp, G.out⟩
  · rw [decide_eq_false h8]
    go_wp2_with fail
    go_ret
    exact ⟨rfl, G.out.alloc hs _⟩
end Go.Proofs.YteojlodcafogaaaGreatDoor
