/-
  The contract of the law TimemapParses. Its conditions are its hypotheses.
-/
import Derived.Test.YteojlodcafogaaaGreatDoorH1
import Derived.Test.YteojlodcafogaaaGreatDoorG8
namespace Go.Proofs.YteojlodcafogaaaGreatDoor
open Go.RowKit Go.Joins
set_option linter.unusedVariables false
set_option linter.unusedSimpArgs false
set_option maxRecDepth 100000 in
set_option maxHeartbeats 4000000 in
theorem parses6_law (s : ByteArray) (w : World) (hs0 : s.size ≤ 9223372036854775807) (ht : Wd w) :
    Calls Tryz.prog 4 #[.string s] w fun e w' => e = .returned (.bool true) ∧ Below w.heap.size w w' := by
  have HT := Lib.hid ht
  obtain ⟨B, hB⟩ : ∃ B, B = w.heap.size := ⟨_, rfl⟩
  have HB := Lib.hid hB
  rw [← hB]
  clear ht hB
  obtain ⟨S, hS⟩ : ∃ S, S = s.data.toList := ⟨_, rfl⟩
  obtain rfl : s = sB S := by rw [hS]; exact (sB_of s).symm
  have hz : (sB S).size = S.length := sB_size S
  clear hS
  go_enter Tryz.func4, Tryz.ntmps4
  go_wp2_with fail
  have G := Lib.hid (Below.refl B w)
  have hs : B ≤ w.heap.size := by have := HB.out; omega
  refine (awake6_any w (HT.out.on (HB.out ▸ G.out))).mono ?_
  rintro e w1 ⟨rfl, hb⟩
  have G := Lib.hid (G.out.trans (hb.mono hs))
  have hs : B ≤ (World.heap w1).size := by have := G.out.size; have := HB.out; omega
  clear hb
  by_cases h4 : S.length ≤ 2000
  · have h4' : ¬ ((2000 : Int) < ((sB S).size : Int)) := by omega
    have HPA := Lib.hid (fun W (h : Wd W) => parsep_any S W (by omega) h)
    have HPB := Lib.hid (fun W => parsepr_any S W (by omega))
    unfold RetM at HPA HPB
    have HLL := Lib.hid (prsP_len (s := S))
    obtain ⟨⟨P, E⟩, hP⟩ : ∃ P, P = prsP S := ⟨_, rfl⟩
    rw [← hP] at HPA HPB HLL
    clear hP h4
    go_wp2_with fail
    refine (HPA.out w1 (HT.out.on (HB.out ▸ G.out))).mono ?_
    rintro e w2 ⟨⟨v, rfl, ho⟩, hb⟩
    dsimp only at ho ⊢
    obtain ⟨A5, c5, e5, hr5, _⟩ := own_formP ho
    subst e5
    clear ho
    have G := Lib.hid (G.out.trans (hb.mono hs))
    have hs : B ≤ (World.heap w2).size := by have := G.out.size; have := HB.out; omega
    clear hb
    have R5 := Lib.hid hr5
    clear hr5
    go_wp2_with fail
    refine (HPB.out w2).mono ?_
    rintro e w3 ⟨⟨v, rfl, ho⟩, hb⟩
    dsimp only at ho ⊢
    obtain ⟨A6, c6, e6, hr6, _⟩ := own_formP ho
    subst e6
    clear ho
    have G := Lib.hid (G.out.trans (hb.mono hs))
    have hs : B ≤ (World.heap w3).size := by have := G.out.size; have := HB.out; omega
    have R5 := Lib.hid (R5.out.ext hb)
    clear hb
    have R6 := Lib.hid hr6
    clear hr6
    go_wp2_with fail
    refine (samep_any A5 c5 A6 c6 P w3 R5.out R6.out (by have := HLL.out; (try dsimp only at this); omega)).mono ?_
    rintro e w4 ⟨rfl, hb⟩
    have G := Lib.hid (G.out.trans (hb.mono hs))
    have hs : B ≤ (World.heap w4).size := by have := G.out.size; have := HB.out; omega
    have R5 := Lib.hid (R5.out.ext hb)
    have R6 := Lib.hid (R6.out.ext hb)
    clear hb
    go_wp2_with fail
    go_ret
    exact ⟨rfl, G.out⟩
  · have h4' : (2000 : Int) < ((sB S).size : Int) := by omega
    clear h4
    go_wp2_with fail
    go_ret
    exact ⟨rfl, G.out⟩
end Go.Proofs.YteojlodcafogaaaGreatDoor
