/-
  The contract of the law TimemapShifts. Its conditions are its hypotheses.
-/
import Derived.Test.YteojlodcafogaaaGreatDoorH1
import Derived.Test.YteojlodcafogaaaGreatDoorG9
namespace Go.Proofs.YteojlodcafogaaaGreatDoor
open Go.RowKit Go.Joins
set_option linter.unusedVariables false
set_option linter.unusedSimpArgs false
theorem movP_le (L : List Pc) (n : Int) : (movP L n).1.length ≤ 1000000 := by
  unfold movP
  split
  · rename_i h
    have := (chkP_ok.1 h).1
    split
    · simp
    · split
      · simp
      · show (movL L n).length ≤ _
        unfold movL
        rw [List.length_map]
        omega
  · simp
theorem chk_frp {L : List Pc} (h : chkP L = 0) : Frp L := fun x hx => by
  have := sgl_bd ((chkP_ok.1 h).2.1 x hx)
  exact ⟨⟨by omega, by omega⟩, by omega, by omega⟩
set_option maxRecDepth 100000 in
set_option maxHeartbeats 4000000 in
theorem shifts6_law (A : Option Addr) (c : Nat) (L : List Pc) (n : Int) (t : Int) (w : World) (h : PcAt w A L) (hf : Frp L) (hl : L.length ≤ 9223372036854775807) (hfr : FrmP A c) (hnn : -9223372036854775808 ≤ n ∧ n ≤ 9223372036854775807) (hnt : -9223372036854775808 ≤ t ∧ t ≤ 9223372036854775807) (ht : Wd w) :
    Calls Tryz.prog 7 #[.slice A L.length c, .int .i64 n, .int .i64 t] w fun e w' => e = .returned (.bool true) ∧ Below w.heap.size w w' := by
  have HL := Lib.hid h
  have HF := Lib.hid hf
  have HT := Lib.hid ht
  obtain ⟨B, hB⟩ : ∃ B, B = w.heap.size := ⟨_, rfl⟩
  have HB := Lib.hid hB
  rw [← hB]
  clear h hf ht hB
  have HFR := Lib.hid hfr
  have HSH := Lib.hid (fun W (h : PcAt W A L) (hl : L.length ≤ 1000000) => shift_any A c L n W h HF.out HFR.out hl hnn)
  have HSR := Lib.hid (fun W (h : PcAt W A L) (hl : L.length ≤ 1000000) => shiftr_any A c L n W h HF.out hl hnn)
  have HAT := Lib.hid (fun W (h : PcAt W A L) (hl : L.length ≤ 1000000000) => at_any A c L t W h HF.out hl)
  unfold RetM at HSH HSR
  have HMO := Lib.hid (fun (h : (movP L n).2 = 0) (hm : L ≠ []) => mov_ok h hm)
  have HMA := Lib.hid (fun (h : (movP L n).2 = 0) (hm : L ≠ []) => shifts_led h hm t)
  have HML := Lib.hid (movP_le L n)
  obtain ⟨⟨XL, XE⟩, hx⟩ : ∃ p, p = movP L n := ⟨_, rfl⟩
  obtain ⟨⟨pn, pb⟩, hp⟩ : ∃ p, p = atP L t := ⟨_, rfl⟩
  rw [← hx] at HSH HSR HMO HMA HML
  rw [← hp] at HAT HMA
  clear hx hp hfr
  go_enter Tryz.func7, Tryz.ntmps7
  go_wp2_with fail
  have G := Lib.hid (Below.refl B w)
  have hs : B ≤ w.heap.size := by have := HB.out; omega
  refine (awake6_any w (HT.out.on (HB.out ▸ G.out))).mono ?_
  rintro e w1 ⟨rfl, hb⟩
  have G := Lib.hid (G.out.trans (hb.mono hs))
  have hs : B ≤ (World.heap w1).size := by have := G.out.size; have := HB.out; omega
  have HL := Lib.hid (HL.out.ext hb)
  clear hb
  go_wp2_with fail
  refine (few1p_any w1.heap.size 1 A c L.length _ (by simp [go_sem])).mono ?_
  rintro e w2 ⟨rfl, rfl⟩
  by_cases h8 : L.length ≤ 128
  · rw [decide_eq_true h8]
    generalize hw2 : World.alloc w1 _ = w2
    have G := Lib.hid (show Below B w w2 by subst hw2; exact G.out.alloc hs _)
    have hs : B ≤ w2.heap.size := by have := G.out.size; have := HB.out; omega
    have be := Lib.hid (show Below w1.heap.size w1 w2 by subst hw2; exact below_one _ _)
    have HL := Lib.hid (HL.out.ext be.out)
    clear hw2 be
    go_wp2_with fail
    refine (HSH.out w2 HL.out (by omega)).mono ?_
    rintro e w3 ⟨⟨v, rfl, ho⟩, hb⟩
    dsimp only at ho ⊢
    obtain ⟨A5, c5, e5, hr5, _⟩ := own_formP ho
    subst e5
    clear ho
    have G := Lib.hid (G.out.trans (hb.mono hs))
    have hs : B ≤ (World.heap w3).size := by have := G.out.size; have := HB.out; omega
    have HL := Lib.hid (HL.out.ext hb)
    clear hb
    have R5 := Lib.hid hr5
    clear hr5
    go_wp2_with fail
    refine (HSR.out w3 HL.out (by omega)).mono ?_
    rintro e w4 ⟨⟨v, rfl, ho⟩, hb⟩
    dsimp only at ho ⊢
    obtain ⟨A6, c6, e6, hr6, _⟩ := own_formP ho
    subst e6
    clear ho
    have G := Lib.hid (G.out.trans (hb.mono hs))
    have hs : B ≤ (World.heap w4).size := by have := G.out.size; have := HB.out; omega
    have HL := Lib.hid (HL.out.ext hb)
    have R5 := Lib.hid (R5.out.ext hb)
    clear hb
    have R6 := Lib.hid hr6
    clear hr6
    clear HSH HSR
    go_wp2_with fail
    refine (samep_any A5 c5 A6 c6 XL w4 R5.out R6.out (by have := HML.out; (try dsimp only at this); omega)).mono ?_
    rintro e w5 ⟨rfl, hb⟩
    have G := Lib.hid (G.out.trans (hb.mono hs))
    have hs : B ≤ (World.heap w5).size := by have := G.out.size; have := HB.out; omega
    have HL := Lib.hid (HL.out.ext hb)
    have R5 := Lib.hid (R5.out.ext hb)
    have R6 := Lib.hid (R6.out.ext hb)
    clear hb
    by_cases hx : XE = 0
    · subst hx
      by_cases t1 : t < 0
      · go_wp2_with fail
        go_ret
        exact ⟨rfl, G.out⟩
      by_cases t2 : 5184000 < t
      · go_wp2_with fail
        go_ret
        exact ⟨rfl, G.out⟩
      by_cases t3 : L = []
      · have t4 : ((L.length : Int) == 0) = true := by rw [t3]; rfl
        clear t3
        go_wp2_with fail
        go_ret
        exact ⟨rfl, G.out⟩
      have t4 : ((L.length : Int) == 0) = false := by rw [beq_eq_false_iff_ne]; have := List.length_pos_iff.2 t3; omega
      obtain ⟨hm1, hm2, hm3, hm4, hm5⟩ := HMO.out rfl t3
      try dsimp only at hm2
      have hm6 := HMA.out rfl t3
      try dsimp only at hm6
      have HFX := Lib.hid (show Frp XL from hm2 ▸ chk_frp hm3)
      have hm4 : -5184000 ≤ n := hm4
      have hm5 : n ≤ 5184000 := hm5
      have HXA := Lib.hid (fun W (h : PcAt W A5 XL) => at_any A5 c5 XL (t + n) W h HFX.out (by have := HML.out; (try dsimp only at this); omega))
      rw [hm6] at HXA
      clear t3 hm1 hm2 hm3 hm6
      go_wp2_with fail
      refine (HAT.out w5 HL.out (by omega)).mono ?_
      rintro e w6 ⟨rfl, hb⟩
      have G := Lib.hid (G.out.trans (hb.mono hs))
      have hs : B ≤ (World.heap w6).size := by have := G.out.size; have := HB.out; omega
      have HL := Lib.hid (HL.out.ext hb)
      have R5 := Lib.hid (R5.out.ext hb)
      have R6 := Lib.hid (R6.out.ext hb)
      clear hb
      go_wp2_with fail
      refine (HXA.out w6 R5.out).mono ?_
      rintro e w7 ⟨rfl, hb⟩
      have G := Lib.hid (G.out.trans (hb.mono hs))
      have hs : B ≤ (World.heap w7).size := by have := G.out.size; have := HB.out; omega
      have HL := Lib.hid (HL.out.ext hb)
      have R5 := Lib.hid (R5.out.ext hb)
      have R6 := Lib.hid (R6.out.ext hb)
      clear hb
      go_wp2_with fail
      go_ret
      exact ⟨rfl, G.out⟩
    · have hx2 : (XE == 0) = false := by simpa using hx
      go_wp2_with fail
      go_ret
      exact ⟨rfl, G.out⟩
  · rw [decide_eq_false h8]
    go_wp2_with fail
    go_ret
    exact ⟨rfl, G.out.alloc hs _⟩
end Go.Proofs.YteojlodcafogaaaGreatDoor
