/-
  The contract of the law SpanUnions. Its conditions are its hypotheses.
-/
import Derived.Test.YtloioincminhiaaDoorU3
import Derived.Test.YtloioincminhiaaDoorL1
import Derived.Test.YtloioincminhiaaDoorV2
namespace Go.Proofs.YtloioincminhiaaDoor
open Go.RowKit Go.Joins
set_option linter.unusedVariables false
set_option linter.unusedSimpArgs false
theorem lim_len (L : List Spn) : (limS L).1.length ≤ 400 := by
  unfold limS
  split
  · simp
  · show L.length ≤ 400
    omega
theorem uni_len (L M : List Spn) : (uniS L M).1.length ≤ 400 := by
  unfold uniS
  split
  · exact lim_len _
  · simp
theorem int_len (L M : List Spn) : (intS L M).1.length ≤ 400 := by
  unfold intS
  split
  · exact lim_len _
  · simp
theorem sub_len (L M : List Spn) : (subS L M).1.length ≤ 400 := by
  unfold subS
  split
  · exact lim_len _
  · simp
set_option maxRecDepth 100000 in
set_option maxHeartbeats 8000000 in
theorem unions_law (A : Option Addr) (c : Nat) (L : List Spn) (A2 : Option Addr) (c2 : Nat) (L2 : List Spn) (w : World) (h : SpAt w A L) (hl : L.length ≤ 9223372036854775807) (hf : Frm A c) (h2 : SpAt w A2 L2) (hl2 : L2.length ≤ 9223372036854775807) (hf2 : Frm A2 c2) (ht : Tab w) :
    Calls Tryd.prog 6 #[.slice A L.length c, .slice A2 L2.length c2] w fun e w' => e = .returned (.bool true) ∧ Below w.heap.size w w' := by
  have HL := Lib.hid h
  have HL2 := Lib.hid h2
  have HT := Lib.hid ht
  have HF := Lib.hid hf
  have HF2 := Lib.hid hf2
  obtain ⟨B, hB⟩ : ∃ B, B = w.heap.size := ⟨_, rfl⟩
  have HB := Lib.hid hB
  rw [← hB]
  clear h h2 ht hB hf hf2
  go_enter Tryd.func6, Tryd.ntmps6
  go_wp2_with fail
  refine (awake_any w HT.out).mono ?_
  rintro e w1 ⟨rfl, hb⟩
  have G := Lib.hid (show Below B w w1 from HB.out ▸ hb)
  have hs : B ≤ w1.heap.size := by have := hb.size; have := HB.out; omega
  have HL := Lib.hid (HL.out.ext hb)
  have HL2 := Lib.hid (HL2.out.ext hb)
  clear hb
  go_wp2_with fail
  refine (few2_any w1.heap.size 2 A A2 c L.length c2 L2.length _ (by simp [go_sem]) (by simp [go_sem])).mono ?_
  rintro e w2 ⟨rfl, rfl⟩
  by_cases h8 : L.length ≤ 800 ∧ L2.length ≤ 800
  · obtain ⟨h8, h9⟩ := h8
    rw [decide_eq_true h8, decide_eq_true h9]
    generalize hw2 : World.alloc w1 _ = w2
    have G := Lib.hid (show Below B w w2 by subst hw2; exact G.out.alloc hs _)
    have HL := Lib.hid (show SpAt w2 A L by subst hw2; exact HL.out.ext (below_one _ _))
    have HL2 := Lib.hid (show SpAt w2 A2 L2 by subst hw2; exact HL2.out.ext (below_one _ _))
    have hs : B ≤ w2.heap.size := by have := G.out.size; have := HB.out; omega
    clear hw2
    obtain ⟨⟨UL, UE⟩, hU⟩ : ∃ R, R = uniS L L2 := ⟨_, rfl⟩
    have HU := Lib.hid hU
    clear hU
    go_wp2_with fail
    refine (uni_any A c L A2 c2 L2 w2 HL.out HL2.out (by omega) (by omega) HF.out HF2.out).mono ?_
    rintro e w3 ⟨⟨v, rfl, ho⟩, hb⟩
    rw [← HU.out] at ho ⊢
    dsimp only at ho ⊢
    obtain ⟨AU, cU, e3, hr3, _⟩ := own_form ho
    subst e3
    have G := Lib.hid (G.out.trans (hb.mono hs))
    have HL := Lib.hid (HL.out.ext hb)
    have HL2 := Lib.hid (HL2.out.ext hb)
    have hs : B ≤ (World.heap w3).size := by have := G.out.size; have := HB.out; omega
    clear hb
    have RU := Lib.hid hr3
    clear ho hr3
    go_wp2_with fail
    refine (unir_any A c L A2 c2 L2 w3 HL.out HL2.out (by omega) (by omega) HF.out HF2.out).mono ?_
    rintro e w4 ⟨⟨v, rfl, ho⟩, hb⟩
    rw [← HU.out] at ho ⊢
    dsimp only at ho ⊢
    obtain ⟨AV, cV, e3, hr3, _⟩ := own_form ho
    subst e3
    have G := Lib.hid (G.out.trans (hb.mono hs))
    have HL := Lib.hid (HL.out.ext hb)
    have HL2 := Lib.hid (HL2.out.ext hb)
    have RU := Lib.hid (RU.out.ext hb)
    have hs : B ≤ (World.heap w4).size := by have := G.out.size; have := HB.out; omega
    clear hb
    have RV := Lib.hid hr3
    clear ho hr3
    obtain ⟨⟨IL, IE⟩, hI⟩ : ∃ R, R = intS L L2 := ⟨_, rfl⟩
    have HI := Lib.hid hI
    clear hI
    go_wp2_with fail
    refine (int_any A c L A2 c2 L2 w4 HL.out HL2.out (by omega) (by omega)).mono ?_
    rintro e w5 ⟨⟨v, rfl, ho⟩, hb⟩
    rw [← HI.out] at ho ⊢
    dsimp only at ho ⊢
    obtain ⟨AI, cI, e3, hr3, _⟩ := own_form ho
    subst e3
    have G := Lib.hid (G.out.trans (hb.mono hs))
    have HL := Lib.hid (HL.out.ext hb)
    have HL2 := Lib.hid (HL2.out.ext hb)
    have RU := Lib.hid (RU.out.ext hb)
    have RV := Lib.hid (RV.out.ext hb)
    have hs : B ≤ (World.heap w5).size := by have := G.out.size; have := HB.out; omega
    clear hb
    have RI := Lib.hid hr3
    clear ho hr3
    go_wp2_with fail
    refine (intr_any A c L A2 c2 L2 w5 HL.out HL2.out (by omega) (by omega)).mono ?_
    rintro e w6 ⟨⟨v, rfl, ho⟩, hb⟩
    rw [← HI.out] at ho ⊢
    dsimp only at ho ⊢
    obtain ⟨AJ, cJ, e3, hr3, _⟩ := own_form ho
    subst e3
    have G := Lib.hid (G.out.trans (hb.mono hs))
    have HL := Lib.hid (HL.out.ext hb)
    have HL2 := Lib.hid (HL2.out.ext hb)
    have RU := Lib.hid (RU.out.ext hb)
    have RV := Lib.hid (RV.out.ext hb)
    have RI := Lib.hid (RI.out.ext hb)
    have hs : B ≤ (World.heap w6).size := by have := G.out.size; have := HB.out; omega
    clear hb
    have RJ := Lib.hid hr3
    clear ho hr3
    have lU : UL.length ≤ 400 := by have := uni_len L L2; rw [← HU.out] at this; exact this
    have lI : IL.length ≤ 400 := by have := int_len L L2; rw [← HI.out] at this; exact this
    go_wp2_with fail
    refine (same_any AU cU AV cV UL w6 RU.out RV.out (by omega)).mono ?_
    rintro e w7 ⟨rfl, hb⟩
    have G := Lib.hid (G.out.trans (hb.mono hs))
    have HL := Lib.hid (HL.out.ext hb)
    have HL2 := Lib.hid (HL2.out.ext hb)
    have RU := Lib.hid (RU.out.ext hb)
    have RV := Lib.hid (RV.out.ext hb)
    have RI := Lib.hid (RI.out.ext hb)
    have RJ := Lib.hid (RJ.out.ext hb)
    have hs : B ≤ (World.heap w7).size := by have := G.out.size; have := HB.out; omega
    clear hb
    have eU : (UE == UE) = true := by simp
    have eI : (IE == IE) = true := by simp
    go_wp2_with fail
    refine (same_any AI cI AJ cJ IL w7 RI.out RJ.out (by omega)).mono ?_
    rintro e w8 ⟨rfl, hb⟩
    have G := Lib.hid (G.out.trans (hb.mono hs))
    have HL := Lib.hid (HL.out.ext hb)
    have HL2 := Lib.hid (HL2.out.ext hb)
    have RU := Lib.hid (RU.out.ext hb)
    have RV := Lib.hid (RV.out.ext hb)
    have RI := Lib.hid (RI.out.ext hb)
    have RJ := Lib.hid (RJ.out.ext hb)
    have hs : B ≤ (World.heap w8).size := by have := G.out.size; have := HB.out; omega
    clear hb
    go_wp2_with fail
    go_ret
    exact ⟨rfl, G.out⟩
  · have hfw : (decide (L.length ≤ 800) && decide (L2.length ≤ 800)) = false := by
      cases h1 : decide (L.length ≤ 800) with
      | false => rfl
      | true =>
        cases h3 : decide (L2.length ≤ 800) with
        | false => rfl
        | true => exact absurd ⟨by simpa using h1, by simpa using h3⟩ h8
    rw [hfw]
    go_wp2_with fail
    go_ret
    exact ⟨rfl, G.out.alloc hs _⟩
end Go.Proofs.YtloioincminhiaaDoor
