/-
  The contract of the law TimemapChains. Its conditions are its hypotheses.
-/
import Derived.Test.YteojlodcafogaaaGreatDoorH1
import Derived.Test.YteojlodcafogaaaGreatDoorJ4
namespace Go.Proofs.YteojlodcafogaaaGreatDoor
open Go.RowKit Go.Joins
set_option linter.unusedVariables false
set_option linter.unusedSimpArgs false
theorem cmpP_le (L M : List Pc) : (cmpP L M).1.length ≤ 1000000 := by
  unfold cmpP
  split
  · split
    · split
      · split
        · simp
        · rename_i h
          show (jonP (crsP L M)).length ≤ _
          omega
      · simp
    · simp
  · simp
theorem chain_alts (L M : List Pc) (t : Int) (h : (cmpP L M).2 = 0) : ((atP (cmpP L M).1 t).2 = true ∧ (atP L t).2 = true ∧ (atP M (atP L t).1).2 = true ∧ (atP (cmpP L M).1 t).1 = (atP M (atP L t).1).1) ∨ ((atP (cmpP L M).1 t).2 = false ∧ (atP L t).2 = true ∧ (atP M (atP L t).1).2 = false) ∨ ((atP (cmpP L M).1 t).2 = false ∧ (atP L t).2 = false) := by
  obtain ⟨h1, h2⟩ := chains_led h t
  cases ha : (atP L t).2 with
  | false => rw [ha, Bool.false_and] at h1; exact .inr (.inr ⟨h1, rfl⟩)
  | true =>
    rw [ha, Bool.true_and] at h1
    cases hb : (atP M (atP L t).1).2 with
    | false => rw [hb] at h1; exact .inr (.inl ⟨h1, rfl, rfl⟩)
    | true => rw [hb] at h1; exact .inl ⟨h1, rfl, rfl, h2 h1⟩
theorem chk_frp {L : List Pc} (h : chkP L = 0) : Frp L := fun x hx => by
  have := sgl_bd ((chkP_ok.1 h).2.1 x hx)
  exact ⟨⟨by omega, by omega⟩, by omega, by omega⟩
set_option maxRecDepth 100000 in
set_option maxHeartbeats 4000000 in
theorem chains6_law (A : Option Addr) (c : Nat) (L : List Pc) (A2 : Option Addr) (c2 : Nat) (L2 : List Pc) (t : Int) (w : World) (h : PcAt w A L) (hf : Frp L) (hl : L.length ≤ 9223372036854775807) (h2 : PcAt w A2 L2) (hf2 : Frp L2) (hl2 : L2.length ≤ 9223372036854775807) (hnt : -9223372036854775808 ≤ t ∧ t ≤ 9223372036854775807) (ht : Wd w) :
    Calls Tryz.prog 11 #[.slice A L.length c, .slice A2 L2.length c2, .int .i64 t] w fun e w' => e = .returned (.bool true) ∧ Below w.heap.size w w' := by
  have HL := Lib.hid h
  have HF := Lib.hid hf
  have HL2 := Lib.hid h2
  have HF2 := Lib.hid hf2
  have HT := Lib.hid ht
  obtain ⟨B, hB⟩ : ∃ B, B = w.heap.size := ⟨_, rfl⟩
  have HB := Lib.hid hB
  rw [← hB]
  clear h hf ht hB h2 hf2
  have HCM := Lib.hid (fun W (h : PcAt W A L) (h2 : PcAt W A2 L2) (hl : L.length ≤ 1000000) (hl2 : L2.length ≤ 1000000) => compose_any A c L A2 c2 L2 W h h2 HF.out HF2.out hl hl2)
  have HAT := Lib.hid (fun W (h : PcAt W A L) (hl : L.length ≤ 1000000000) => at_any A c L t W h HF.out hl)
  unfold RetM at HCM
  have HCA := Lib.hid (chain_alts L L2 t)
  have HBD := Lib.hid (fun (h : (cmpP L L2).2 ≠ 0) => cmp_bad h)
  have HCK := Lib.hid (fun (h : (cmpP L L2).2 = 0) => (cmp_ok h).2.2.2.2.1)
  have HML := Lib.hid (cmpP_le L L2)
  obtain ⟨⟨XL, XE⟩, hx⟩ : ∃ p, p = cmpP L L2 := ⟨_, rfl⟩
  obtain ⟨⟨yn, yb⟩, hy⟩ : ∃ p, p = atP L t := ⟨_, rfl⟩
  rw [← hx] at HCM HML HBD HCK HCA
  rw [← hy] at HAT HCA
  try dsimp only at HCA
  have HAB := Lib.hid (fun W (h : PcAt W A2 L2) (hl : L2.length ≤ 1000000000) => at_any A2 c2 L2 yn W h HF2.out hl)
  obtain ⟨⟨zn, zb⟩, hz⟩ : ∃ p, p = atP L2 yn := ⟨_, rfl⟩
  rw [← hz] at HAB HCA
  clear hx hy hz
  go_enter Tryz.func11, Tryz.ntmps11
  go_wp2_with fail
  have G := Lib.hid (Below.refl B w)
  have hs : B ≤ w.heap.size := by have := HB.out; omega
  refine (awake6_any w (HT.out.on (HB.out ▸ G.out))).mono ?_
  rintro e w1 ⟨rfl, hb⟩
  have G := Lib.hid (G.out.trans (hb.mono hs))
  have hs : B ≤ (World.heap w1).size := by have := G.out.size; have := HB.out; omega
  have HL := Lib.hid (HL.out.ext hb)
  have HL2 := Lib.hid (HL2.out.ext hb)
  clear hb
  go_wp2_with fail
  refine (few2p_any w1.heap.size 2 A A2 c L.length c2 L2.length _ (by simp [go_sem]) (by simp [go_sem])).mono ?_
  rintro e w2 ⟨rfl, rfl⟩
  by_cases h8 : L.length ≤ 128 ∧ L2.length ≤ 128
  · obtain ⟨h8, h9⟩ := h8
    rw [decide_eq_true h8, decide_eq_true h9]
    generalize hw2 : World.alloc w1 _ = w2
    have G := Lib.hid (show Below B w w2 by subst hw2; exact G.out.alloc hs _)
    have hs : B ≤ w2.heap.size := by have := G.out.size; have := HB.out; omega
    have be := Lib.hid (show Below w1.heap.size w1 w2 by subst hw2; exact below_one _ _)
    have HL := Lib.hid (HL.out.ext be.out)
    have HL2 := Lib.hid (HL2.out.ext be.out)
    clear hw2 be
    go_wp2_with fail
    refine (HCM.out w2 HL.out HL2.out (by omega) (by omega)).mono ?_
    rintro e w3 ⟨⟨v, rfl, ho⟩, hb⟩
    dsimp only at ho ⊢
    obtain ⟨A5, c5, e5, hr5, _⟩ := own_formP ho
    subst e5
    clear ho
    have G := Lib.hid (G.out.trans (hb.mono hs))
    have hs : B ≤ (World.heap w3).size := by have := G.out.size; have := HB.out; omega
    have HL := Lib.hid (HL.out.ext hb)
    have HL2 := Lib.hid (HL2.out.ext hb)
    clear hb
    have R5 := Lib.hid hr5
    clear hr5
    clear HCM
    by_cases hx : XE = 0
    · subst hx
      have hck := HCK.out rfl
      try dsimp only at hck
      have HFX := Lib.hid (show Frp XL from chk_frp hck)
      have HXA := Lib.hid (fun W (h : PcAt W A5 XL) => at_any A5 c5 XL t W h HFX.out (by have := HML.out; (try dsimp only at this); omega))
      have HXC := Lib.hid (fun W (h : PcAt W A5 XL) => chkp_any A5 c5 XL W h HFX.out (by have := HML.out; (try dsimp only at this); omega))
      rw [hck] at HXC
      have HCB := Lib.hid (HCA.out rfl)
      clear HCA
      try dsimp only at HCB
      obtain ⟨⟨xn, xb⟩, hxx⟩ : ∃ p, p = atP XL t := ⟨_, rfl⟩
      rw [← hxx] at HXA HCB
      try dsimp only at HCB
      clear hck hxx HCK HBD
      go_wp2_with fail
      refine (HXA.out w3 R5.out).mono ?_
      rintro e w4 ⟨rfl, hb⟩
      have G := Lib.hid (G.out.trans (hb.mono hs))
      have hs : B ≤ (World.heap w4).size := by have := G.out.size; have := HB.out; omega
      have HL := Lib.hid (HL.out.ext hb)
      have HL2 := Lib.hid (HL2.out.ext hb)
      have R5 := Lib.hid (R5.out.ext hb)
      clear hb
      go_wp2_with fail
      refine (HAT.out w4 HL.out (by omega)).mono ?_
      rintro e w5 ⟨rfl, hb⟩
      have G := Lib.hid (G.out.trans (hb.mono hs))
      have hs : B ≤ (World.heap w5).size := by have := G.out.size; have := HB.out; omega
      have HL := Lib.hid (HL.out.ext hb)
      have HL2 := Lib.hid (HL2.out.ext hb)
      have R5 := Lib.hid (R5.out.ext hb)
      clear hb
      go_wp2_with fail
      refine (HAB.out w5 HL2.out (by omega)).mono ?_
      rintro e w6 ⟨rfl, hb⟩
      have G := Lib.hid (G.out.trans (hb.mono hs))
      have hs : B ≤ (World.heap w6).size := by have := G.out.size; have := HB.out; omega
      have HL := Lib.hid (HL.out.ext hb)
      have HL2 := Lib.hid (HL2.out.ext hb)
      have R5 := Lib.hid (R5.out.ext hb)
      clear hb
      go_wp2_with fail
      refine (HXC.out w6 R5.out).mono ?_
      rintro e w7 ⟨rfl, hb⟩
      have G := Lib.hid (G.out.trans (hb.mono hs))
      have hs : B ≤ (World.heap w7).size := by have := G.out.size; have := HB.out; omega
      have HL := Lib.hid (HL.out.ext hb)
      have HL2 := Lib.hid (HL2.out.ext hb)
      have R5 := Lib.hid (R5.out.ext hb)
      clear hb
      clear HXA HAT HAB HXC
      rcases HCB.out with ⟨e1, e2, e3, e4⟩ | ⟨e1, e2, e3⟩ | ⟨e1, e2⟩
      · (try dsimp only at e1 e2)
        (try dsimp only at e3 e4)
        subst e1 e2 e3 e4
        clear HCB
        go_wp2_with fail
        go_ret
        exact ⟨rfl, G.out⟩
      · (try dsimp only at e1 e2)
        (try dsimp only at e3)
        subst e1 e2 e3
        clear HCB
        go_wp2_with fail
        go_ret
        exact ⟨rfl, G.out⟩
      · (try dsimp only at e1 e2)
        subst e1 e2
        clear HCB
        go_wp2_with fail
        go_ret
        exact ⟨rfl, G.out⟩
    · have hx2 : (XE == 0) = false := by simpa using hx
      have hxl : XL = [] := HBD.out (by simpa using hx)
      subst hxl
      clear HBD HCK HCA
      go_wp2_with fail
      go_ret
      exact ⟨rfl, G.out⟩
  · rw [show (decide (L.length ≤ 128) && decide (L2.length ≤ 128)) = false by
      rw [Bool.and_eq_false_iff]
      by_cases h : L.length ≤ 128
      · exact .inr (decide_eq_false fun h2 => h8 ⟨h, h2⟩)
      · exact .inl (decide_eq_false h)]
    go_wp2_with fail
    go_ret
    exact ⟨rfl, G.out.alloc hs _⟩
end Go.Proofs.YteojlodcafogaaaGreatDoor
