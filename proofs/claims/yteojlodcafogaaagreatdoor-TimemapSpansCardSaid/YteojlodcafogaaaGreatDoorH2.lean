/-
  The contract of the law TimemapSpans. Its conditions are its hypotheses.
-/
import Derived.Test.YteojlodcafogaaaGreatDoorH1
namespace Go.Proofs.YteojlodcafogaaaGreatDoor
open Go.RowKit Go.Joins
set_option linter.unusedVariables false
set_option linter.unusedSimpArgs false
set_option maxRecDepth 100000 in
set_option maxHeartbeats 4000000 in
theorem spans6_law (A : Option Addr) (c : Nat) (L : List Pc) (s : Spn) (w : World) (h : PcAt w A L) (hf : Frp L) (hl : L.length ≤ 9223372036854775807) (ht : Wd w) :
    Calls Tryz.prog 6 #[.slice A L.length c, spA s] w fun e w' => e = .returned (.bool true) ∧ Below w.heap.size w w' := by
  have HL := Lib.hid h
  have HF := Lib.hid hf
  have HT := Lib.hid ht
  obtain ⟨B, hB⟩ : ∃ B, B = w.heap.size := ⟨_, rfl⟩
  have HB := Lib.hid hB
  rw [← hB]
  clear h hf ht hB
  have HAT := Lib.hid (fun W (h : PcAt W A L) (hl : L.length ≤ 1000000000) => pre_any A c L s W h HF.out hl)
  have HAR := Lib.hid (fun W (h : PcAt W A L) (hl : L.length ≤ 1000000000) => prer_any A c L s W h HF.out hl)
  have HDM := Lib.hid (fun W (h : PcAt W A L) (hl : L.length ≤ 1000000000) => img_any A c L s W h HF.out hl)
  have HDR := Lib.hid (fun W (h : PcAt W A L) (hl : L.length ≤ 1000000000) => imgr_any A c L s W h HF.out hl)
  unfold RetP at HAT HAR HDM HDR
  have HPL := Lib.hid (preP_le L s)
  have HDL := Lib.hid (imgP_le L s)
  obtain ⟨⟨PL, PE⟩, hp⟩ : ∃ p, p = preP L s := ⟨_, rfl⟩
  obtain ⟨⟨DL, DE⟩, hd⟩ : ∃ p, p = imgP L s := ⟨_, rfl⟩
  rw [← hp] at HAT HAR HPL
  rw [← hd] at HDM HDR HDL
  clear hp hd
  go_enter Tryz.func6, Tryz.ntmps6
  go_wp2_with fail
  rw [← HB.out]
  generalize hw0 : World.alloc w _ = w1
  have HS := Lib.hid (show Held w1 B [.int .i64 s.i, .int .i64 s.o] by subst hw0; exact Held.new HB.out)
  have b0 := Lib.hid (show Below w.heap.size w w1 by subst hw0; exact below_one _ _)
  have G := Lib.hid (show Below B w w1 from HB.out ▸ b0.out)
  have hs : B ≤ w1.heap.size := by have := G.out.size; have := HB.out; omega
  have HL := Lib.hid (HL.out.ext b0.out)
  clear hw0 b0
  refine (awake6_any w1 (HT.out.on (HB.out ▸ G.out))).mono ?_
  rintro e w2 ⟨rfl, hb⟩
  have G := Lib.hid (G.out.trans (hb.mono hs))
  have hs : B ≤ (World.heap w2).size := by have := G.out.size; have := HB.out; omega
  have HL := Lib.hid (HL.out.ext hb)
  have HS := Lib.hid (HS.out.ext hb)
  clear hb
  go_wp2_with fail
  refine (few1p_any w2.heap.size 1 A c L.length _ (by simp [go_sem])).mono ?_
  rintro e w3 ⟨rfl, rfl⟩
  by_cases h8 : L.length ≤ 128
  · rw [decide_eq_true h8]
    generalize hw2 : World.alloc w2 _ = w3
    have G := Lib.hid (show Below B w w3 by subst hw2; exact G.out.alloc hs _)
    have hs : B ≤ w3.heap.size := by have := G.out.size; have := HB.out; omega
    have be := Lib.hid (show Below w2.heap.size w2 w3 by subst hw2; exact below_one _ _)
    have HL := Lib.hid (HL.out.ext be.out)
    have HS := Lib.hid (HS.out.ext be.out)
    clear hw2 be
    obtain ⟨s0, s1⟩ := two_of HS.out
    go_wp2_with fail
    refine (HAT.out w3 HL.out (by omega)).mono ?_
    rintro e w4 ⟨⟨v, rfl, ho⟩, hb⟩
    dsimp only at ho ⊢
    obtain ⟨A3, c3, e3, hr3, _⟩ := own_form ho
    subst e3
    clear ho
    clear s0 s1
    have G := Lib.hid (G.out.trans (hb.mono hs))
    have hs : B ≤ (World.heap w4).size := by have := G.out.size; have := HB.out; omega
    have HL := Lib.hid (HL.out.ext hb)
    have HS := Lib.hid (HS.out.ext hb)
    clear hb
    have R3 := Lib.hid hr3
    clear hr3
    obtain ⟨s0, s1⟩ := two_of HS.out
    go_wp2_with fail
    refine (HAR.out w4 HL.out (by omega)).mono ?_
    rintro e w5 ⟨⟨v, rfl, ho⟩, hb⟩
    dsimp only at ho ⊢
    obtain ⟨A4, c4, e4, hr4, _⟩ := own_form ho
    subst e4
    clear ho
    clear s0 s1
    have G := Lib.hid (G.out.trans (hb.mono hs))
    have hs : B ≤ (World.heap w5).size := by have := G.out.size; have := HB.out; omega
    have HL := Lib.hid (HL.out.ext hb)
    have HS := Lib.hid (HS.out.ext hb)
    have R3 := Lib.hid (R3.out.ext hb)
    clear hb
    have R4 := Lib.hid hr4
    clear hr4
    obtain ⟨s0, s1⟩ := two_of HS.out
    go_wp2_with fail
    refine (HDM.out w5 HL.out (by omega)).mono ?_
    rintro e w6 ⟨⟨v, rfl, ho⟩, hb⟩
    dsimp only at ho ⊢
    obtain ⟨A5, c5, e5, hr5, _⟩ := own_form ho
    subst e5
    clear ho
    clear s0 s1
    have G := Lib.hid (G.out.trans (hb.mono hs))
    have hs : B ≤ (World.heap w6).size := by have := G.out.size; have := HB.out; omega
    have HL := Lib.hid (HL.out.ext hb)
    have HS := Lib.hid (HS.out.ext hb)
    have R3 := Lib.hid (R3.out.ext hb)
    have R4 := Lib.hid (R4.out.ext hb)
    clear hb
    have R5 := Lib.hid hr5
    clear hr5
    obtain ⟨s0, s1⟩ := two_of HS.out
    go_wp2_with fail
    refine (HDR.out w6 HL.out (by omega)).mono ?_
    rintro e w7 ⟨⟨v, rfl, ho⟩, hb⟩
    dsimp only at ho ⊢
    obtain ⟨A6, c6, e6, hr6, _⟩ := own_form ho
    subst e6
    clear ho
    clear s0 s1
    have G := Lib.hid (G.out.trans (hb.mono hs))
    have hs : B ≤ (World.heap w7).size := by have := G.out.size; have := HB.out; omega
    have HL := Lib.hid (HL.out.ext hb)
    have HS := Lib.hid (HS.out.ext hb)
    have R3 := Lib.hid (R3.out.ext hb)
    have R4 := Lib.hid (R4.out.ext hb)
    have R5 := Lib.hid (R5.out.ext hb)
    clear hb
    have R6 := Lib.hid hr6
    clear hr6
    clear HAT HAR HDM HDR
    go_wp2_with fail
    refine (same_any A3 c3 A4 c4 PL w7 R3.out R4.out (by have := HPL.out; (try dsimp only at this); omega)).mono ?_
    rintro e w8 ⟨rfl, hb⟩
    have G := Lib.hid (G.out.trans (hb.mono hs))
    have hs : B ≤ (World.heap w8).size := by have := G.out.size; have := HB.out; omega
    have HL := Lib.hid (HL.out.ext hb)
    have HS := Lib.hid (HS.out.ext hb)
    have R3 := Lib.hid (R3.out.ext hb)
    have R4 := Lib.hid (R4.out.ext hb)
    have R5 := Lib.hid (R5.out.ext hb)
    have R6 := Lib.hid (R6.out.ext hb)
    clear hb
    go_wp2_with fail
    refine (same_any A5 c5 A6 c6 DL w8 R5.out R6.out (by have := HDL.out; (try dsimp only at this); omega)).mono ?_
    rintro e w9 ⟨rfl, hb⟩
    have G := Lib.hid (G.out.trans (hb.mono hs))
    have hs : B ≤ (World.heap w9).size := by have := G.out.size; have := HB.out; omega
    have HL := Lib.hid (HL.out.ext hb)
    have HS := Lib.hid (HS.out.ext hb)
    have R3 := Lib.hid (R3.out.ext hb)
    have R4 := Lib.hid (R4.out.ext hb)
    have R5 := Lib.hid (R5.out.ext hb)
    have R6 := Lib.hid (R6.out.ext hb)
    clear hb
    go_wp2_with fail
    go_ret
    exact ⟨rfl, G.out⟩
  · rw [decide_eq_false h8]
    go_wp2_with fail
    go_ret
    exact ⟨rfl, G.out.alloc hs _⟩
end Go.Proofs.YteojlodcafogaaaGreatDoor
