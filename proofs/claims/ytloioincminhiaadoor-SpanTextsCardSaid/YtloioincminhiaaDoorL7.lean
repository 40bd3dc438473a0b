/-
  The contract of the law SpanTexts. Its conditions are its hypotheses.
-/
import Derived.Test.YtloioincminhiaaDoorP2
import Derived.Test.YtloioincminhiaaDoorT2
import Derived.Test.YtloioincminhiaaDoorL1
namespace Go.Proofs.YtloioincminhiaaDoor
open Go.RowKit Go.Joins
set_option linter.unusedVariables false
set_option linter.unusedSimpArgs false
theorem txt_bad {L : List Spn} (h : (txtS L).2 ≠ 0) : (txtS L).1 = [] := by
  by_cases h0 : chkS L = 0
  · have : (txtS L).2 = 0 := by unfold txtS; rw [if_pos h0]
    exact absurd this h
  · unfold txtS
    rw [if_neg h0]
theorem txt_len (L : List Spn) : (txtS L).1.length ≤ 20000 := by
  by_cases h0 : chkS L = 0
  · have h1 := (chkS_ok.1 h0).1
    have h2 := join_bd h0
    unfold txtS
    rw [if_pos h0]
    show (if L.length = 0 then [45] else Lib.join (L.map wdS) [44]).length ≤ 20000
    split
    · simp
    · omega
  · unfold txtS
    rw [if_neg h0]
    simp
set_option maxRecDepth 100000 in
set_option maxHeartbeats 4000000 in
theorem texts_law (A : Option Addr) (c : Nat) (L : List Spn) (w : World) (h : SpAt w A L) (hl : L.length ≤ 9223372036854775807) (ht : Wd w) :
    Calls Tryd.prog 9 #[.slice A L.length c] w fun e w' => e = .returned (.bool true) ∧ Below w.heap.size w w' := by
  have HL := Lib.hid h
  have HT := Lib.hid ht
  obtain ⟨B, hB⟩ : ∃ B, B = w.heap.size := ⟨_, rfl⟩
  have HB := Lib.hid hB
  rw [← hB]
  clear h ht hB
  go_enter Tryd.func9, Tryd.ntmps9
  go_wp2_with fail
  refine (awake_any w HT.out.tab).mono ?_
  rintro e w1 ⟨rfl, hb⟩
  have G := Lib.hid (show Below B w w1 from HB.out ▸ hb)
  have hs : B ≤ w1.heap.size := by have := hb.size; have := HB.out; omega
  have HL := Lib.hid (HL.out.ext hb)
  have HT := Lib.hid (HT.out.on hb)
  clear hb
  go_wp2_with fail
  refine (few1_any w1.heap.size 1 A c L.length _ (by simp [go_sem])).mono ?_
  rintro e w2 ⟨rfl, rfl⟩
  by_cases h8 : L.length ≤ 800
  · rw [decide_eq_true h8]
    generalize hw2 : World.alloc w1 _ = w2
    have G := Lib.hid (show Below B w w2 by subst hw2; exact G.out.alloc hs _)
    have HL := Lib.hid (show SpAt w2 A L by subst hw2; exact HL.out.ext (below_one _ _))
    have HT := Lib.hid (show Wd w2 by subst hw2; exact HT.out.on (below_one _ _))
    have hs : B ≤ w2.heap.size := by have := G.out.size; have := HB.out; omega
    clear hw2
    obtain ⟨⟨n1, e1⟩, hn⟩ : ∃ R, R = lnS L := ⟨_, rfl⟩
    have HN := Lib.hid hn
    obtain ⟨⟨t1, g1⟩, htx⟩ : ∃ R, R = txtS L := ⟨_, rfl⟩
    have HX := Lib.hid htx
    have htl := Lib.hid (show t1.length ≤ 20000 by have := txt_len L; rw [← htx] at this; exact this)
    have HG := Lib.hid (show g1 = 0 → prsV t1 = (L, 0) from fun h => by
      have := prs_text (L := L) (by rw [← htx]; exact h)
      rw [← htx] at this
      exact this)
    have HE := Lib.hid (show g1 ≠ 0 → t1 = [] from fun h => by
      have := txt_bad (L := L) (by rw [← htx]; exact h)
      rw [← htx] at this
      exact this)
    clear hn htx
    go_wp2_with fail
    refine (len_any A c L w2 HL.out (by omega)).mono ?_
    rintro e w3 ⟨rfl, hb⟩
    rw [← HN.out]
    have G := Lib.hid (G.out.trans (hb.mono hs))
    have HL := Lib.hid (HL.out.ext hb)
    have HT := Lib.hid (HT.out.on hb)
    have hs : B ≤ (World.heap w3).size := by have := G.out.size; have := HB.out; omega
    clear hb
    go_wp2_with fail
    refine (lenr_any A c L w3 HL.out (by omega)).mono ?_
    rintro e w4 ⟨rfl, hb⟩
    rw [← HN.out]
    have G := Lib.hid (G.out.trans (hb.mono hs))
    have HL := Lib.hid (HL.out.ext hb)
    have HT := Lib.hid (HT.out.on hb)
    have hs : B ≤ (World.heap w4).size := by have := G.out.size; have := HB.out; omega
    clear hb
    go_wp2_with fail
    refine (text_any A c L w4 HL.out (by omega) HT.out.tab).mono ?_
    rintro e w5 ⟨rfl, hb⟩
    rw [← HX.out]
    have G := Lib.hid (G.out.trans (hb.mono hs))
    have HL := Lib.hid (HL.out.ext hb)
    have HT := Lib.hid (HT.out.on hb)
    have hs : B ≤ (World.heap w5).size := by have := G.out.size; have := HB.out; omega
    clear hb
    go_wp2_with fail
    refine (textr_any A c L w5 HL.out (by omega)).mono ?_
    rintro e w6 ⟨rfl, hb⟩
    rw [← HX.out]
    have G := Lib.hid (G.out.trans (hb.mono hs))
    have HL := Lib.hid (HL.out.ext hb)
    have HT := Lib.hid (HT.out.on hb)
    have hs : B ≤ (World.heap w6).size := by have := G.out.size; have := HB.out; omega
    clear hb
    have z0 : ((sB t1).toList == (sB t1).toList) = true := by simp
    go_wp2_with fail
    clear z0
    refine (parse_any t1 w6 (by have := htl.out; omega) HT.out).mono ?_
    rintro e w7 ⟨⟨v, rfl, ho⟩, hb⟩
    by_cases hg : g1 = 0
    · rw [HG.out hg] at ho ⊢
      obtain ⟨A5, c5, e5, hr5, _⟩ := own_form ho
      subst e5
      have R5 := Lib.hid hr5
      have HL := Lib.hid (HL.out.ext hb)
      have G := Lib.hid (G.out.trans (hb.mono hs))
      have hs : B ≤ (World.heap w7).size := by have := G.out.size; have := HB.out; omega
      clear ho hb hr5
      subst hg
      go_wp2_with fail
      refine (same_any A5 c5 A c L w7 R5.out HL.out (by omega)).mono ?_
      rintro e w9 ⟨rfl, hb⟩
      have G := Lib.hid (G.out.trans (hb.mono hs))
      clear hb
      go_wp2_with fail
      go_ret
      exact ⟨rfl, G.out⟩
    · have ht0 := HE.out hg
      subst ht0
      rw [prs_empty] at ho ⊢
      obtain ⟨A5, c5, e5, hr5, _⟩ := own_form ho
      subst e5
      have G := Lib.hid (G.out.trans (hb.mono hs))
      have hg2 : (g1 == 0) = false := by simpa using hg
      clear ho hb hr5
      go_wp2_with fail
      go_ret
      exact ⟨rfl, G.out⟩
  · rw [decide_eq_false h8]
    go_wp2_with fail
    go_ret
    exact ⟨rfl, G.out.alloc hs _⟩
end Go.Proofs.YtloioincminhiaaDoor
