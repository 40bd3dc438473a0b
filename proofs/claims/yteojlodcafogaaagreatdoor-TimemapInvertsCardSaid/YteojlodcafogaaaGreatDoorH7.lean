/-
  The contract of the law TimemapInverts. Its conditions are its hypotheses.
-/
import Derived.Test.YteojlodcafogaaaGreatDoorH1
import Derived.Test.YteojlodcafogaaaGreatDoorJs
namespace Go.Proofs.YteojlodcafogaaaGreatDoor
open Go.RowKit Go.Joins
set_option linter.unusedVariables false
set_option linter.unusedSimpArgs false
theorem invP_le (L : List Pc) : (invP L).1.length ≤ 1000000 := by
  unfold invP
  split
  · rename_i h
    split
    · split
      · have h1 := jonP_len (invL L)
        have h2 := (chkP_ok.1 h).1
        have h3 := invL_len L
        show (jonP (invL L)).length ≤ _
        omega
      · simp
    · simp
  · simp
theorem chk_frp {L : List Pc} (h : chkP L = 0) : Frp L := fun x hx => by
  have := sgl_bd ((chkP_ok.1 h).2.1 x hx)
  exact ⟨⟨by omega, by omega⟩, by omega, by omega⟩
set_option maxRecDepth 100000 in
set_option maxHeartbeats 4000000 in
theorem inverts6_law (A : Option Addr) (c : Nat) (L : List Pc) (t : Int) (w : World) (h : PcAt w A L) (hf : Frp L) (hl : L.length ≤ 9223372036854775807) (hcp : L.length ≤ c) (hnt : -9223372036854775808 ≤ t ∧ t ≤ 9223372036854775807) (ht : Wd w) :
    Calls Tryz.prog 9 #[.slice A L.length c, .int .i64 t] w fun e w' => e = .returned (.bool true) ∧ Below w.heap.size w w' := by
  have HL := Lib.hid h
  have HF := Lib.hid hf
  have HT := Lib.hid ht
  obtain ⟨B, hB⟩ : ∃ B, B = w.heap.size := ⟨_, rfl⟩
  have HB := Lib.hid hB
  rw [← hB]
  clear h hf ht hB
  have HIV := Lib.hid (fun W (h : PcAt W A L) (hl : L.length ≤ 1000000) => inverse_any A c L W h HF.out hl)
  have HIR := Lib.hid (fun W (h : PcAt W A L) (hl : L.length ≤ 1000000) => inverser_any A c L W h HF.out hl hcp)
  have HAT := Lib.hid (fun W (h : PcAt W A L) (hl : L.length ≤ 1000000000) => at_any A c L t W h HF.out hl)
  unfold RetM at HIV HIR
  have HIO := Lib.hid (fun (h : (invP L).2 = 0) => (inv_ok h).2.2.1)
  have HIA := Lib.hid (fun (h : (invP L).2 = 0) (ha : (atP L t).2 = true) => inverts_led h t ha)
  have HML := Lib.hid (invP_le L)
  obtain ⟨⟨XL, XE⟩, hx⟩ : ∃ p, p = invP L := ⟨_, rfl⟩
  obtain ⟨⟨pn, pb⟩, hp⟩ : ∃ p, p = atP L t := ⟨_, rfl⟩
  rw [← hx] at HIV HIR HIO HIA HML
  rw [← hp] at HAT HIA
  clear hx hp
  go_enter Tryz.func9, Tryz.ntmps9
  go_wp2_with fail
  have G := Lib.hid (Below.refl B w)
  have hs : B ≤ w.heap.size := by have := HB.out; omega
  refine (awake6_any w (HT.out.on (HB.out ▸ G.out))).mono ?_
  rintro e w1 ⟨rfl, hb⟩
  have G := Lib.hid (G.out.trans (hb.mono hs))
  have hs : B ≤ (World.heap w1).size := by have := G.out.size; have := HB.out; omega
  have HL := Lib.hid (HL.out.ext hb)
  clear hb
  go_wp2_with fail
  refine (few1p_any w1.heap.size 1 A c L.length _ (by simp [go_sem])).mono ?_
  rintro e w2 ⟨rfl, rfl⟩
  by_cases h8 : L.length ≤ 128
  · rw [decide_eq_true h8]
    generalize hw2 : World.alloc w1 _ = w2
    have G := Lib.hid (show Below B w w2 by subst hw2; exact G.out.alloc hs _)
    have hs : B ≤ w2.heap.size := by have := G.out.size; have := HB.out; omega
    have be := Lib.hid (show Below w1.heap.size w1 w2 by subst hw2; exact below_one _ _)
    have HL := Lib.hid (HL.out.ext be.out)
    clear hw2 be
    go_wp2_with fail
    refine (HIV.out w2 HL.out (by omega)).mono ?_
    rintro e w3 ⟨⟨v, rfl, ho⟩, hb⟩
    dsimp only at ho ⊢
    obtain ⟨A5, c5, e5, hr5, _⟩ := own_formP ho
    subst e5
    clear ho
    have G := Lib.hid (G.out.trans (hb.mono hs))
    have hs : B ≤ (World.heap w3).size := by have := G.out.size; have := HB.out; omega
    have HL := Lib.hid (HL.out.ext hb)
    clear hb
    have R5 := Lib.hid hr5
    clear hr5
    go_wp2_with fail
    refine (HIR.out w3 HL.out (by omega)).mono ?_
    rintro e w4 ⟨⟨v, rfl, ho⟩, hb⟩
    dsimp only at ho ⊢
    obtain ⟨A6, c6, e6, hr6, _⟩ := own_formP ho
    subst e6
    clear ho
    have G := Lib.hid (G.out.trans (hb.mono hs))
    have hs : B ≤ (World.heap w4).size := by have := G.out.size; have := HB.out; omega
    have HL := Lib.hid (HL.out.ext hb)
    have R5 := Lib.hid (R5.out.ext hb)
    clear hb
    have R6 := Lib.hid hr6
    clear hr6
    clear HIV HIR
    go_wp2_with fail
    refine (samep_any A5 c5 A6 c6 XL w4 R5.out R6.out (by have := HML.out; (try dsimp only at this); omega)).mono ?_
    rintro e w5 ⟨rfl, hb⟩
    have G := Lib.hid (G.out.trans (hb.mono hs))
    have hs : B ≤ (World.heap w5).size := by have := G.out.size; have := HB.out; omega
    have HL := Lib.hid (HL.out.ext hb)
    have R5 := Lib.hid (R5.out.ext hb)
    have R6 := Lib.hid (R6.out.ext hb)
    clear hb
    go_wp2_with fail
    refine (HAT.out w5 HL.out (by omega)).mono ?_
    rintro e w6 ⟨rfl, hb⟩
    have G := Lib.hid (G.out.trans (hb.mono hs))
    have hs : B ≤ (World.heap w6).size := by have := G.out.size; have := HB.out; omega
    have HL := Lib.hid (HL.out.ext hb)
    have R5 := Lib.hid (R5.out.ext hb)
    have R6 := Lib.hid (R6.out.ext hb)
    clear hb
    clear HAT
    by_cases hx : XE = 0
    · subst hx
      cases pb with
      | false =>
        go_wp2_with fail
        go_ret
        exact ⟨rfl, G.out⟩
      | true =>
        have hm6 := HIA.out rfl rfl
        try dsimp only at hm6
        have hm3 := HIO.out rfl
        try dsimp only at hm3
        have HFX := Lib.hid (show Frp XL from chk_frp hm3)
        have HXA := Lib.hid (fun W (h : PcAt W A5 XL) => at_any A5 c5 XL pn W h HFX.out (by have := HML.out; (try dsimp only at this); omega))
        rw [hm6] at HXA
        clear hm6 hm3 HIA HIO
        go_wp2_with fail
        refine (HXA.out w6 R5.out).mono ?_
        rintro e w7 ⟨rfl, hb⟩
        have G := Lib.hid (G.out.trans (hb.mono hs))
        have hs : B ≤ (World.heap w7).size := by have := G.out.size; have := HB.out; omega
        have HL := Lib.hid (HL.out.ext hb)
        have R5 := Lib.hid (R5.out.ext hb)
        have R6 := Lib.hid (R6.out.ext hb)
        clear hb
        go_wp2_with fail
        go_ret
        exact ⟨rfl, G.out⟩
    · have hx2 : (XE == 0) = false := by simpa using hx
      go_wp2_with fail
      go_ret
      exact ⟨rfl, G.out⟩
  · rw [decide_eq_false h8]
    go_wp2_with fail
    go_ret
    exact ⟨rfl, G.out.alloc hs _⟩
end Go.Proofs.YteojlodcafogaaaGreatDoor
