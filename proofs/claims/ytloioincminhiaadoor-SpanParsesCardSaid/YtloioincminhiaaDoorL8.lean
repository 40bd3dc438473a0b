/-
  The contract of the law SpanParses. Its conditions are its hypotheses.
-/
import Derived.Test.YtloioincminhiaaDoorQ4
import Derived.Test.YtloioincminhiaaDoorL1
namespace Go.Proofs.YtloioincminhiaaDoor
open Go.RowKit Go.Joins
set_option linter.unusedVariables false
set_option linter.unusedSimpArgs false
set_option maxRecDepth 100000 in
set_option maxHeartbeats 4000000 in
theorem parses_law (s : ByteArray) (w : World) (hs0 : s.size ≤ 9223372036854775807) (ht : Wd w) :
    Calls Tryd.prog 10 #[.string s] w fun e w' => e = .returned (.bool true) ∧ Below w.heap.size w w' := by
  have HT := Lib.hid ht
  obtain ⟨S, hS⟩ : ∃ S, S = s.data.toList := ⟨_, rfl⟩
  obtain rfl : s = sB S := by rw [hS]; exact (sB_of s).symm
  have hz : (sB S).size = S.length := sB_size S
  obtain ⟨B, hB⟩ : ∃ B, B = w.heap.size := ⟨_, rfl⟩
  have HB := Lib.hid hB
  rw [← hB]
  clear ht hB hS
  go_enter Tryd.func10, Tryd.ntmps10
  go_wp2_with fail
  refine (awake_any w HT.out.tab).mono ?_
  rintro e w1 ⟨rfl, hb⟩
  have G := Lib.hid (show Below B w w1 from HB.out ▸ hb)
  have hs : B ≤ w1.heap.size := by have := hb.size; have := HB.out; omega
  have HT := Lib.hid (HT.out.on hb)
  clear hb
  by_cases h4 : S.length ≤ 4000
  · have h4' : ¬ ((4000 : Int) < ((sB S).size : Int)) := by omega
    have H4 := Lib.hid h4
    have HPA := Lib.hid (fun W (h : Wd W) => parse_any S W (by have := H4.out; omega) h)
    have HPB := Lib.hid (fun W => parser_any S W (by have := H4.out; omega))
    unfold RetP at HPA HPB
    have hl := prs_len (s := S)
    obtain ⟨⟨P, E⟩, hP⟩ : ∃ P, P = prsV S := ⟨_, rfl⟩
    rw [← hP] at HPA HPB hl
    dsimp only at hl
    clear hP h4
    go_wp2_with fail
    refine (HPA.out w1 HT.out).mono ?_
    rintro e w2 ⟨⟨v, rfl, ho⟩, hb⟩
    dsimp only at ho ⊢
    obtain ⟨A1, c1, e1, hr1, _⟩ := own_form ho
    subst e1
    have R1 := Lib.hid hr1
    have G := Lib.hid (G.out.trans (hb.mono hs))
    have hs : B ≤ (World.heap w2).size := by have := G.out.size; have := HB.out; omega
    clear ho hb hr1 HPA
    go_wp2_with fail
    refine (HPB.out w2).mono ?_
    rintro e w3 ⟨⟨v, rfl, ho⟩, hb⟩
    dsimp only at ho ⊢
    obtain ⟨A2, c2, e2, hr2, _⟩ := own_form ho
    subst e2
    have R1 := Lib.hid (R1.out.ext hb)
    have R2 := Lib.hid hr2
    have G := Lib.hid (G.out.trans (hb.mono hs))
    have hs : B ≤ (World.heap w3).size := by have := G.out.size; have := HB.out; omega
    clear ho hb hr2 HPB
    go_wp2_with fail
    refine (same_any A1 c1 A2 c2 P w3 R1.out R2.out (by omega)).mono ?_
    rintro e w4 ⟨rfl, hb⟩
    have G := Lib.hid (G.out.trans (hb.mono hs))
    clear hb
    go_wp2_with fail
    go_ret
    exact ⟨rfl, G.out⟩
  · have h4' : (4000 : Int) < ((sB S).size : Int) := by omega
    clear h4
    go_wp2_with fail
    go_ret
    exact ⟨rfl, G.out⟩
end Go.Proofs.YtloioincminhiaaDoor
