/-
  The contract of the law TimemapTexts. Its conditions are its hypotheses.
-/
import Derived.Test.YteojlodcafogaaaGreatDoorH1
import Derived.Test.YteojlodcafogaaaGreatDoorG7
namespace Go.Proofs.YteojlodcafogaaaGreatDoor
open Go.RowKit Go.Joins
set_option linter.unusedVariables false
set_option linter.unusedSimpArgs false
set_option maxRecDepth 100000 in
set_option maxHeartbeats 4000000 in
theorem texts6_law (A : Option Addr) (c : Nat) (L : List Pc) (w : World) (h : PcAt w A L) (hf : Frp L) (hl : L.length ≤ 9223372036854775807) (ht : Wd w) :
    Calls Tryz.prog 3 #[.slice A L.length c] w fun e w' => e = .returned (.bool true) ∧ Below w.heap.size w w' := by
  have HL := Lib.hid h
  have HF := Lib.hid hf
  have HT := Lib.hid ht
  obtain ⟨B, hB⟩ : ∃ B, B = w.heap.size := ⟨_, rfl⟩
  have HB := Lib.hid hB
  rw [← hB]
  clear h hf ht hB
  have HTX := Lib.hid (fun W (h : PcAt W A L) (hl : L.length ≤ 1000000) ht => textp_any A c L W h HF.out hl ht)
  have HTR := Lib.hid (fun W (h : PcAt W A L) (hl : L.length ≤ 1000000) => textpr_any A c L W h HF.out hl)
  unfold TextP at HTX HTR
  have HTL := txtP_len L
  have HPT := Lib.hid (fun (h : (txtP L).2 = 0) => prsP_text h)
  obtain ⟨⟨T, E⟩, hT⟩ : ∃ p, p = txtP L := ⟨_, rfl⟩
  rw [← hT] at HTX HTR HTL HPT
  dsimp only at HTL HPT
  have HPP := Lib.hid (fun W (h : Wd W) => parsep_any T W (by omega) h)
  unfold RetM at HPP
  clear hT HTL
  go_enter Tryz.func3, Tryz.ntmps3
  go_wp2_with fail
  have G := Lib.hid (Below.refl B w)
  have hs : B ≤ w.heap.size := by have := HB.out; omega
  refine (awake6_any w (HT.out.on (HB.out ▸ G.out))).mono ?_
  rintro e w1 ⟨rfl, hb⟩
  have G := Lib.hid (G.out.trans (hb.mono hs))
  have hs : B ≤ (World.heap w1).size := by have := G.out.size; have := HB.out; omega
  have HL := Lib.hid (HL.out.ext hb)
  clear hb
  go_wp2_with fail
  refine (few1p_any w1.heap.size 1 A c L.length _ (by simp [go_sem])).mono ?_
  rintro e w2 ⟨rfl, rfl⟩
  by_cases h8 : L.length ≤ 128
  · rw [decide_eq_true h8]
    generalize hw2 : World.alloc w1 _ = w2
    have G := Lib.hid (show Below B w w2 by subst hw2; exact G.out.alloc hs _)
    have hs : B ≤ w2.heap.size := by have := G.out.size; have := HB.out; omega
    have be := Lib.hid (show Below w1.heap.size w1 w2 by subst hw2; exact below_one _ _)
    have HL := Lib.hid (HL.out.ext be.out)
    clear hw2 be
    go_wp2_with fail
    refine (HTX.out w2 HL.out (by omega) (HT.out.on (HB.out ▸ G.out)).tab).mono ?_
    rintro e w3 ⟨rfl, hb⟩
    have G := Lib.hid (G.out.trans (hb.mono hs))
    have hs : B ≤ (World.heap w3).size := by have := G.out.size; have := HB.out; omega
    have HL := Lib.hid (HL.out.ext hb)
    clear hb
    go_wp2_with fail
    refine (HTR.out w3 HL.out (by omega)).mono ?_
    rintro e w4 ⟨rfl, hb⟩
    have G := Lib.hid (G.out.trans (hb.mono hs))
    have hs : B ≤ (World.heap w4).size := by have := G.out.size; have := HB.out; omega
    have HL := Lib.hid (HL.out.ext hb)
    clear hb
    clear HTX HTR
    by_cases hE : E = 0
    · subst hE
      rw [HPT.out rfl] at HPP
      have z4 : ((sB T).toList == (sB T).toList) = true := by simp
      go_wp2_with fail
      refine (HPP.out w4 (HT.out.on (HB.out ▸ G.out))).mono ?_
      rintro e w5 ⟨⟨v, rfl, ho⟩, hb⟩
      dsimp only at ho ⊢
      obtain ⟨A5, c5, e5, hr5, _⟩ := own_formP ho
      subst e5
      clear ho
      have G := Lib.hid (G.out.trans (hb.mono hs))
      have hs : B ≤ (World.heap w5).size := by have := G.out.size; have := HB.out; omega
      have HL := Lib.hid (HL.out.ext hb)
      clear hb
      have R5 := Lib.hid hr5
      clear hr5
      go_wp2_with fail
      refine (samep_any A5 c5 A c L w5 R5.out HL.out (by omega)).mono ?_
      rintro e w6 ⟨rfl, hb⟩
      have G := Lib.hid (G.out.trans (hb.mono hs))
      have hs : B ≤ (World.heap w6).size := by have := G.out.size; have := HB.out; omega
      have HL := Lib.hid (HL.out.ext hb)
      have R5 := Lib.hid (R5.out.ext hb)
      clear hb
      go_wp2_with fail
      go_ret
      exact ⟨rfl, G.out⟩
    · have hE2 : (E == 0) = false := by simpa using hE
      obtain ⟨⟨PL, PE⟩, hP⟩ : ∃ p, p = prsP T := ⟨_, rfl⟩
      rw [← hP] at HPP
      clear hP HPT
      have z4 : ((sB T).toList == (sB T).toList) = true := by simp
      go_wp2_with fail
      refine (HPP.out w4 (HT.out.on (HB.out ▸ G.out))).mono ?_
      rintro e w5 ⟨⟨v, rfl, ho⟩, hb⟩
      dsimp only at ho ⊢
      obtain ⟨A5, c5, e5, hr5, _⟩ := own_formP ho
      subst e5
      clear ho
      have G := Lib.hid (G.out.trans (hb.mono hs))
      have hs : B ≤ (World.heap w5).size := by have := G.out.size; have := HB.out; omega
      have HL := Lib.hid (HL.out.ext hb)
      clear hb
      have R5 := Lib.hid hr5
      clear hr5
      go_wp2_with fail
      go_ret
      exact ⟨rfl, G.out⟩
  · rw [decide_eq_false h8]
    go_wp2_with fail
    go_ret
    exact ⟨rfl, G.out.alloc hs _⟩
end Go.Proofs.YteojlodcafogaaaGreatDoor
