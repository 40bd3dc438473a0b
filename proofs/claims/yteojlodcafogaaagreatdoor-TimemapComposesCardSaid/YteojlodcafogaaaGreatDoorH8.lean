/-
  The contract of the law TimemapComposes. Its conditions are its hypotheses.
-/
import Derived.Test.YteojlodcafogaaaGreatDoorH1
import Derived.Test.YteojlodcafogaaaGreatDoorJ5
import Derived.Test.YteojlodcafogaaaGreatDoorJ4
namespace Go.Proofs.YteojlodcafogaaaGreatDoor
open Go.RowKit Go.Joins
set_option linter.unusedVariables false
set_option linter.unusedSimpArgs false
theorem cmpP_le (L M : List Pc) : (cmpP L M).1.length ≤ 1000000 := by
  unfold cmpP
  split
  · split
    · split
      · split
        · simp
        · rename_i h
          show (jonP (crsP L M)).length ≤ _
          omega
      · simp
    · simp
  · simp
set_option maxRecDepth 100000 in
set_option maxHeartbeats 4000000 in
theorem composes6_law (A : Option Addr) (c : Nat) (L : List Pc) (A2 : Option Addr) (c2 : Nat) (L2 : List Pc) (w : World) (h : PcAt w A L) (hf : Frp L) (hl : L.length ≤ 9223372036854775807) (h2 : PcAt w A2 L2) (hf2 : Frp L2) (hl2 : L2.length ≤ 9223372036854775807) (ht : Wd w) :
    Calls Tryz.prog 10 #[.slice A L.length c, .slice A2 L2.length c2] w fun e w' => e = .returned (.bool true) ∧ Below w.heap.size w w' := by
  have HL := Lib.hid h
  have HF := Lib.hid hf
  have HL2 := Lib.hid h2
  have HF2 := Lib.hid hf2
  have HT := Lib.hid ht
  obtain ⟨B, hB⟩ : ∃ B, B = w.heap.size := ⟨_, rfl⟩
  have HB := Lib.hid hB
  rw [← hB]
  clear h hf ht hB h2 hf2
  have HCM := Lib.hid (fun W (h : PcAt W A L) (h2 : PcAt W A2 L2) (hl : L.length ≤ 1000000) (hl2 : L2.length ≤ 1000000) => compose_any A c L A2 c2 L2 W h h2 HF.out HF2.out hl hl2)
  have HCR := Lib.hid (fun W (h : PcAt W A L) (h2 : PcAt W A2 L2) (hl : L.length ≤ 1000000) (hl2 : L2.length ≤ 1000000) => composer_any A c L A2 c2 L2 W h h2 HF.out HF2.out hl hl2)
  unfold RetM at HCM HCR
  have HML := Lib.hid (cmpP_le L L2)
  obtain ⟨⟨XL, XE⟩, hx⟩ : ∃ p, p = cmpP L L2 := ⟨_, rfl⟩
  rw [← hx] at HCM HCR HML
  clear hx
  go_enter Tryz.func10, Tryz.ntmps10
  go_wp2_with fail
  have G := Lib.hid (Below.refl B w)
  have hs : B ≤ w.heap.size := by have := HB.out; omega
  refine (awake6_any w (HT.out.on (HB.out ▸ G.out))).mono ?_
  rintro e w1 ⟨rfl, hb⟩
  have G := Lib.hid (G.out.trans (hb.mono hs))
  have hs : B ≤ (World.heap w1).size := by have := G.out.size; have := HB.out; omega
  have HL := Lib.hid (HL.out.ext hb)
  have HL2 := Lib.hid (HL2.out.ext hb)
  clear hb
  go_wp2_with fail
  refine (few2p_any w1.heap.size 2 A A2 c L.length c2 L2.length _ (by simp [go_sem]) (by simp [go_sem])).mono ?_
  rintro e w2 ⟨rfl, rfl⟩
  by_cases h8 : L.length ≤ 128 ∧ L2.length ≤ 128
  · obtain ⟨h8, h9⟩ := h8
    rw [decide_eq_true h8, decide_eq_true h9]
    generalize hw2 : World.alloc w1 _ = w2
    have G := Lib.hid (show Below B w w2 by subst hw2; exact G.out.alloc hs _)
    have hs : B ≤ w2.heap.size := by have := G.out.size; have := HB.out; omega
    have be := Lib.hid (show Below w1.heap.size w1 w2 by subst hw2; exact below_one _ _)
    have HL := Lib.hid (HL.out.ext be.out)
    have HL2 := Lib.hid (HL2.out.ext be.out)
    clear hw2 be
    go_wp2_with fail
    refine (HCM.out w2 HL.out HL2.out (by omega) (by omega)).mono ?_
    rintro e w3 ⟨⟨v, rfl, ho⟩, hb⟩
    dsimp only at ho ⊢
    obtain ⟨A5, c5, e5, hr5, _⟩ := own_formP ho
    subst e5
    clear ho
    have G := Lib.hid (G.out.trans (hb.mono hs))
    have hs : B ≤ (World.heap w3).size := by have := G.out.size; have := HB.out; omega
    have HL := Lib.hid (HL.out.ext hb)
    have HL2 := Lib.hid (HL2.out.ext hb)
    clear hb
    have R5 := Lib.hid hr5
    clear hr5
    go_wp2_with fail
    refine (HCR.out w3 HL.out HL2.out (by omega) (by omega)).mono ?_
    rintro e w4 ⟨⟨v, rfl, ho⟩, hb⟩
    dsimp only at ho ⊢
    obtain ⟨A6, c6, e6, hr6, _⟩ := own_formP ho
    subst e6
    clear ho
    have G := Lib.hid (G.out.trans (hb.mono hs))
    have hs : B ≤ (World.heap w4).size := by have := G.out.size; have := HB.out; omega
    have HL := Lib.hid (HL.out.ext hb)
    have HL2 := Lib.hid (HL2.out.ext hb)
    have R5 := Lib.hid (R5.out.ext hb)
    clear hb
    have R6 := Lib.hid hr6
    clear hr6
    clear HCM HCR
    go_wp2_with fail
    refine (samep_any A5 c5 A6 c6 XL w4 R5.out R6.out (by have := HML.out; (try dsimp only at this); omega)).mono ?_
    rintro e w5 ⟨rfl, hb⟩
    have G := Lib.hid (G.out.trans (hb.mono hs))
    have hs : B ≤ (World.heap w5).size := by have := G.out.size; have := HB.out; omega
    have HL := Lib.hid (HL.out.ext hb)
    have HL2 := Lib.hid (HL2.out.ext hb)
    have R5 := Lib.hid (R5.out.ext hb)
    have R6 := Lib.hid (R6.out.ext hb)
    clear hb
    go_wp2_with fail
    go_ret
    exact ⟨rfl, G.out⟩
  · rw [show (decide (L.length ≤ 128) && decide (L2.length ≤ 128)) = false by
      rw [Bool.and_eq_false_iff]
      by_cases h : L.length ≤ 128
      · exact .inr (decide_eq_false fun h2 => h8 ⟨h, h2⟩)
      · exact .inl (decide_eq_false h)]
    go_wp2_with fail
    go_ret
    exact ⟨rfl, G.out.alloc hs _⟩
end Go.Proofs.YteojlodcafogaaaGreatDoor
