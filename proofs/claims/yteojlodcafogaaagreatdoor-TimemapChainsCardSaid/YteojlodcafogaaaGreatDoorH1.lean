/-
  The contract of the law TimemapChecks. Its conditions are its hypotheses.
-/
import Derived.Test.YteojlodcafogaaaGreatDoorBj
namespace Go.Proofs.YteojlodcafogaaaGreatDoor
open Go.RowKit Go.Joins
set_option linter.unusedVariables false
set_option linter.unusedSimpArgs false
theorem few1p_any (g c : Nat) (A : Option Addr) (c' n : Nat) (w : World) (h : w.cell? ⟨g, 0, none⟩ = some (.slice A n c')) :
    Calls Tryz.prog 13 #[.slice (some ⟨g, 0, none⟩) 1 c] w fun e w' => e = .returned (.bool (decide (n ≤ 128))) ∧ w' = w := by
  have := few_any g [n] c w (fun k m hk => by
    match k, hk with
    | 0, hk => cases hk; exact ⟨A, c', h⟩) (by simp)
  simpa using this
theorem few2p_any (g c : Nat) (A A2 : Option Addr) (c' n c2 n2 : Nat) (w : World) (h : w.cell? ⟨g, 0, none⟩ = some (.slice A n c')) (h2 : w.cell? ⟨g, 1, none⟩ = some (.slice A2 n2 c2)) :
    Calls Tryz.prog 13 #[.slice (some ⟨g, 0, none⟩) 2 c] w fun e w' => e = .returned (.bool (decide (n ≤ 128) && decide (n2 ≤ 128))) ∧ w' = w := by
  have := few_any g [n, n2] c w (fun k m hk => by
    match k, hk with
    | 0, hk => cases hk; exact ⟨A, c', h⟩
    | 1, hk => cases hk; exact ⟨A2, c2, h2⟩) (by simp)
  simpa using this
theorem domP_le (L : List Pc) : (domP L).1.length ≤ 1000000 := by
  unfold domP
  split
  · rename_i h
    have := joinS_len (domL L)
    have := (dom_in h).1
    show (joinS (domL L)).length ≤ _
    omega
  · simp
theorem preP_le (L : List Pc) (s : Spn) : (preP L s).1.length ≤ 1000000 := by
  unfold preP
  split
  · rename_i h
    split
    · have := joinS_len (preL L s)
      have := (pre_in h s).1
      show (joinS (preL L s)).length ≤ _
      omega
    · simp
  · simp
theorem imgP_le (L : List Pc) (s : Spn) : (imgP L s).1.length ≤ 1000000 := by
  unfold imgP
  split
  · rename_i h
    split
    · split
      · simp
      · have := joinS_len (imgL L s)
        have := (img_in h s).1
        show (joinS (imgL L s)).length ≤ _
        omega
    · simp
  · simp
set_option maxRecDepth 100000 in
set_option maxHeartbeats 4000000 in
theorem checks6_law (A : Option Addr) (c : Nat) (L : List Pc) (t : Int) (w : World) (h : PcAt w A L) (hf : Frp L) (hl : L.length ≤ 9223372036854775807) (hnt : -9223372036854775808 ≤ t ∧ t ≤ 9223372036854775807) (ht : Wd w) :
    Calls Tryz.prog 5 #[.slice A L.length c, .int .i64 t] w fun e w' => e = .returned (.bool true) ∧ Below w.heap.size w w' := by
  have HL := Lib.hid h
  have HF := Lib.hid hf
  have HT := Lib.hid ht
  obtain ⟨B, hB⟩ : ∃ B, B = w.heap.size := ⟨_, rfl⟩
  have HB := Lib.hid hB
  rw [← hB]
  clear h hf ht hB
  have HAT := Lib.hid (fun W (h : PcAt W A L) (hl : L.length ≤ 1000000000) => at_any A c L t W h HF.out hl)
  have HAR := Lib.hid (fun W (h : PcAt W A L) (hl : L.length ≤ 1000000000) => atr_any A c L t W h HF.out hl)
  have HDM := Lib.hid (fun W (h : PcAt W A L) (hl : L.length ≤ 1000000000) => domain_any A c L W h HF.out hl)
  have HDR := Lib.hid (fun W (h : PcAt W A L) (hl : L.length ≤ 1000000000) => domainr_any A c L W h HF.out hl)
  have HCK := Lib.hid (fun W (h : PcAt W A L) (hl : L.length ≤ 1000000000) => chkp_any A c L W h HF.out hl)
  have HCR := Lib.hid (fun W (h : PcAt W A L) (hl : L.length ≤ 1000000000) => chkpr_any A c L W h HF.out hl)
  unfold RetP at HDM HDR
  obtain ⟨⟨pn, pb⟩, hp⟩ : ∃ p, p = atP L t := ⟨_, rfl⟩
  have HDL := Lib.hid (domP_le L)
  obtain ⟨⟨DL, DE⟩, hd⟩ : ∃ p, p = domP L := ⟨_, rfl⟩
  obtain ⟨E, hE⟩ : ∃ p, p = chkP L := ⟨_, rfl⟩
  rw [← hp] at HAT HAR
  rw [← hd] at HDM HDR HDL
  rw [← hE] at HCK HCR
  clear hp hd hE
  go_enter Tryz.func5, Tryz.ntmps5
  go_wp2_with fail
  have G := Lib.hid (Below.refl B w)
  have hs : B ≤ w.heap.size := by have := HB.out; omega
  refine (awake6_any w (HT.out.on (HB.out ▸ G.out))).mono ?_
  rintro e w1 ⟨rfl, hb⟩
  have G := Lib.hid (G.out.trans (hb.mono hs))
  have hs : B ≤ (World.heap w1).size := by have := G.out.size; have := HB.out; omega
  have HL := Lib.hid (HL.out.ext hb)
  clear hb
  go_wp2_with fail
  refine (few1p_any w1.heap.size 1 A c L.length _ (by simp [go_sem])).mono ?_
  rintro e w2 ⟨rfl, rfl⟩
  by_cases h8 : L.length ≤ 128
  · rw [decide_eq_true h8]
    generalize hw2 : World.alloc w1 _ = w2
    have G := Lib.hid (show Below B w w2 by subst hw2; exact G.out.alloc hs _)
    have hs : B ≤ w2.heap.size := by have := G.out.size; have := HB.out; omega
    have be := Lib.hid (show Below w1.heap.size w1 w2 by subst hw2; exact below_one _ _)
    have HL := Lib.hid (HL.out.ext be.out)
    clear hw2 be
    go_wp2_with fail
    refine (HAT.out w2 HL.out (by omega)).mono ?_
    rintro e w3 ⟨rfl, hb⟩
    have G := Lib.hid (G.out.trans (hb.mono hs))
    have hs : B ≤ (World.heap w3).size := by have := G.out.size; have := HB.out; omega
    have HL := Lib.hid (HL.out.ext hb)
    clear hb
    go_wp2_with fail
    refine (HAR.out w3 HL.out (by omega)).mono ?_
    rintro e w4 ⟨rfl, hb⟩
    have G := Lib.hid (G.out.trans (hb.mono hs))
    have hs : B ≤ (World.heap w4).size := by have := G.out.size; have := HB.out; omega
    have HL := Lib.hid (HL.out.ext hb)
    clear hb
    go_wp2_with fail
    refine (HDM.out w4 HL.out (by omega)).mono ?_
    rintro e w5 ⟨⟨v, rfl, ho⟩, hb⟩
    dsimp only at ho ⊢
    obtain ⟨A5, c5, e5, hr5, _⟩ := own_form ho
    subst e5
    clear ho
    have G := Lib.hid (G.out.trans (hb.mono hs))
    have hs : B ≤ (World.heap w5).size := by have := G.out.size; have := HB.out; omega
    have HL := Lib.hid (HL.out.ext hb)
    clear hb
    have R5 := Lib.hid hr5
    clear hr5
    go_wp2_with fail
    refine (HDR.out w5 HL.out (by omega)).mono ?_
    rintro e w6 ⟨⟨v, rfl, ho⟩, hb⟩
    dsimp only at ho ⊢
    obtain ⟨A6, c6, e6, hr6, _⟩ := own_form ho
    subst e6
    clear ho
    have G := Lib.hid (G.out.trans (hb.mono hs))
    have hs : B ≤ (World.heap w6).size := by have := G.out.size; have := HB.out; omega
    have HL := Lib.hid (HL.out.ext hb)
    have R5 := Lib.hid (R5.out.ext hb)
    clear hb
    have R6 := Lib.hid hr6
    clear hr6
    clear HAT HAR HDM HDR
    go_wp2_with fail
    refine (same_any A5 c5 A6 c6 DL w6 R5.out R6.out (by have := HDL.out; (try dsimp only at this); omega)).mono ?_
    rintro e w7 ⟨rfl, hb⟩
    have G := Lib.hid (G.out.trans (hb.mono hs))
    have hs : B ≤ (World.heap w7).size := by have := G.out.size; have := HB.out; omega
    have HL := Lib.hid (HL.out.ext hb)
    have R5 := Lib.hid (R5.out.ext hb)
    have R6 := Lib.hid (R6.out.ext hb)
    clear hb
    go_wp2_with fail
    refine (HCK.out w7 HL.out (by omega)).mono ?_
    rintro e w8 ⟨rfl, hb⟩
    have G := Lib.hid (G.out.trans (hb.mono hs))
    have hs : B ≤ (World.heap w8).size := by have := G.out.size; have := HB.out; omega
    have HL := Lib.hid (HL.out.ext hb)
    have R5 := Lib.hid (R5.out.ext hb)
    have R6 := Lib.hid (R6.out.ext hb)
    clear hb
    go_wp2_with fail
    refine (HCR.out w8 HL.out (by omega)).mono ?_
    rintro e w9 ⟨rfl, hb⟩
    have G := Lib.hid (G.out.trans (hb.mono hs))
    have hs : B ≤ (World.heap w9).size := by have := G.out.size; have := HB.out; omega
    have HL := Lib.hid (HL.out.ext hb)
    have R5 := Lib.hid (R5.out.ext hb)
    have R6 := Lib.hid (R6.out.ext hb)
    clear hb
    go_wp2_with fail
    go_ret
    exact ⟨rfl, G.out⟩
  · rw [decide_eq_false h8]
    go_wp2_with fail
    go_ret
    exact ⟨rfl, G.out.alloc hs _⟩
end Go.Proofs.YteojlodcafogaaaGreatDoor
