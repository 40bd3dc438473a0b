/-
  The contract of the law SpanChecks. Its conditions are its hypotheses.
-/
import Derived.Test.YtloioincminhiaaDoorC3
namespace Go.Proofs.YtloioincminhiaaDoor
open Go.RowKit Go.Joins
set_option linter.unusedVariables false
set_option linter.unusedSimpArgs false
theorem few1_any (g c : Nat) (A : Option Addr) (c' n : Nat) (w : World) (h : w.cell? ⟨g, 0, none⟩ = some (.slice A n c')) :
    Calls Tryd.prog 12 #[.slice (some ⟨g, 0, none⟩) 1 c] w fun e w' => e = .returned (.bool (decide (n ≤ 800))) ∧ w' = w := by
  have := few_any g [n] c w (fun k m hk => by
    match k, hk with
    | 0, hk => cases hk; exact ⟨A, c', h⟩) (by simp)
  simpa using this
theorem few2_any (g c : Nat) (A A2 : Option Addr) (c' n c2 n2 : Nat) (w : World) (h : w.cell? ⟨g, 0, none⟩ = some (.slice A n c')) (h2 : w.cell? ⟨g, 1, none⟩ = some (.slice A2 n2 c2)) :
    Calls Tryd.prog 12 #[.slice (some ⟨g, 0, none⟩) 2 c] w fun e w' => e = .returned (.bool (decide (n ≤ 800) && decide (n2 ≤ 800))) ∧ w' = w := by
  have := few_any g [n, n2] c w (fun k m hk => by
    match k, hk with
    | 0, hk => cases hk; exact ⟨A, c', h⟩
    | 1, hk => cases hk; exact ⟨A2, c2, h2⟩) (by simp)
  simpa using this
theorem norS_len (L : List Spn) : (norS L).1.length ≤ 400 := by
  unfold norS
  split
  · simp
  · split
    · simp
    · have := joinS_len L
      show (joinS L).length ≤ 400
      omega
set_option maxRecDepth 100000 in
set_option maxHeartbeats 2000000 in
theorem checks_law (A : Option Addr) (c : Nat) (L : List Spn) (w : World) (h : SpAt w A L) (hl : L.length ≤ 9223372036854775807) (ht : Tab w) :
    Calls Tryd.prog 3 #[.slice A L.length c] w fun e w' => e = .returned (.bool true) ∧ Below w.heap.size w w' := by
  have H := Lib.hid h
  have HT := Lib.hid ht
  obtain ⟨B, hB⟩ : ∃ B, B = w.heap.size := ⟨_, rfl⟩
  have HB := Lib.hid hB
  rw [← hB]
  clear h ht hB
  go_enter Tryd.func3, Tryd.ntmps3
  go_wp2_with fail
  refine (awake_any w HT.out).mono ?_
  rintro e w1 ⟨rfl, hb⟩
  have G1 := Lib.hid (show Below B w w1 from HB.out ▸ hb)
  have hs1 : B ≤ w1.heap.size := by have := hb.size; have := HB.out; omega
  have H1 := Lib.hid (H.out.ext hb)
  clear hb
  go_wp2_with fail
  refine (few1_any w1.heap.size 1 A c L.length _ (by simp [go_sem])).mono ?_
  rintro e w2 ⟨rfl, rfl⟩
  by_cases h8 : L.length ≤ 800
  · rw [decide_eq_true h8]
    generalize hw2 : World.alloc w1 _ = w2
    have G2 := Lib.hid (show Below B w w2 by subst hw2; exact G1.out.alloc hs1 _)
    have H2 := Lib.hid (show SpAt w2 A L by subst hw2; exact H1.out.ext (below_one _ _))
    have hs2 : B ≤ w2.heap.size := by have := G2.out.size; have := HB.out; omega
    clear hw2 G1 H1
    go_wp2_with fail
    refine (norm_any A c L w2 H2.out (by omega)).mono ?_
    rintro e w3 ⟨⟨v, rfl, ho⟩, hb⟩
    obtain ⟨A3, c3, e3, hr3, _⟩ := own_form ho
    subst e3
    have G3 := Lib.hid (G2.out.trans (hb.mono hs2))
    have H3 := Lib.hid (H2.out.ext hb)
    have R3 := Lib.hid hr3
    have hs3 : B ≤ w3.heap.size := by have := G3.out.size; have := HB.out; omega
    clear ho hb hr3 G2 H2
    go_wp2_with fail
    refine (normr_any A c L w3 H3.out (by omega)).mono ?_
    rintro e w4 ⟨⟨v, rfl, ho⟩, hb⟩
    obtain ⟨A4, c4, e4, hr4, _⟩ := own_form ho
    subst e4
    have G4 := Lib.hid (G3.out.trans (hb.mono hs3))
    have H4 := Lib.hid (H3.out.ext hb)
    have R4 := Lib.hid (R3.out.ext hb)
    have S4 := Lib.hid hr4
    have hs4 : B ≤ w4.heap.size := by have := G4.out.size; have := HB.out; omega
    have hnl := Lib.hid (norS_len L)
    clear ho hb hr4 G3 H3 R3
    go_wp2_with fail
    refine (same_any A3 c3 A4 c4 (norS L).1 w4 R4.out S4.out (by have := hnl.out; omega)).mono ?_
    rintro e w5 ⟨rfl, hb⟩
    have G5 := Lib.hid (G4.out.trans (hb.mono hs4))
    have H5 := Lib.hid (H4.out.ext hb)
    have hs5 : B ≤ w5.heap.size := by have := G5.out.size; have := HB.out; omega
    clear hb G4 H4 R4 S4
    go_wp2_with fail
    refine (chk_any A c L w5 H5.out (by omega)).mono ?_
    rintro e w6 ⟨rfl, hb⟩
    have G6 := Lib.hid (G5.out.trans (hb.mono hs5))
    have H6 := Lib.hid (H5.out.ext hb)
    have hs6 : B ≤ w6.heap.size := by have := G6.out.size; have := HB.out; omega
    clear hb G5 H5
    go_wp2_with fail
    refine (chkr_any A c L w6 H6.out (by omega)).mono ?_
    rintro e w7 ⟨rfl, hb⟩
    have G7 := Lib.hid (G6.out.trans (hb.mono hs6))
    clear hb G6 H6
    go_wp2_with fail
    go_ret
    exact ⟨rfl, G7.out⟩
  · rw [decide_eq_false h8]
    go_wp2_with fail
    go_ret
    exact ⟨rfl, G1.out.alloc hs1 _⟩
end Go.Proofs.YtloioincminhiaaDoor
