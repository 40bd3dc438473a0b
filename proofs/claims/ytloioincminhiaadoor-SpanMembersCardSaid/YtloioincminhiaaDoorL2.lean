/-
  The contract of the law SpanJoins. Its conditions are its hypotheses.
-/
import Derived.Test.YtloioincminhiaaDoorL1
import Derived.Test.YtloioincminhiaaDoorW1
namespace Go.Proofs.YtloioincminhiaaDoor
open Go.RowKit Go.Joins
set_option linter.unusedVariables false
set_option linter.unusedSimpArgs false
theorem memB_eq {n : Int} {L M : List Spn} (h : MemS n L ↔ MemS n M) : memB n L = memB n M := by
  cases h1 : memB n L with
  | true => exact (memB_iff.2 (h.1 (memB_iff.1 h1))).symm
  | false =>
    cases h2 : memB n M with
    | true =>
      have := memB_iff.2 (h.2 (memB_iff.1 h2))
      rw [h1] at this
      cases this
    | false => rfl
theorem memB_step {L : List Spn} {k : Nat} {x : Spn} (n : Int) (hk : L[k]? = some x) : memB n (L.take (k + 1)) = (memB n (L.take k) || hasB n x) := by
  unfold memB
  rw [List.take_add_one, hk, List.any_append]
  simp
set_option maxRecDepth 100000 in
set_option maxHeartbeats 2000000 in
theorem joins_law (A : Option Addr) (c : Nat) (L : List Spn) (n : Int) (w : World) (h : SpAt w A L) (hl : L.length ≤ 9223372036854775807) (ht : Tab w) :
    Calls Tryd.prog 4 #[.slice A L.length c, .int .i64 n] w fun e w' => e = .returned (.bool true) ∧ Below w.heap.size w w' := by
  have H := Lib.hid h
  have HT := Lib.hid ht
  obtain ⟨B, hB⟩ : ∃ B, B = w.heap.size := ⟨_, rfl⟩
  have HB := Lib.hid hB
  rw [← hB]
  clear h ht hB
  go_enter Tryd.func4, Tryd.ntmps4
  go_wp2_with fail
  refine (awake_any w HT.out).mono ?_
  rintro e w1 ⟨rfl, hb⟩
  have G1 := Lib.hid (show Below B w w1 from HB.out ▸ hb)
  have hs1 : B ≤ w1.heap.size := by have := hb.size; have := HB.out; omega
  have H1 := Lib.hid (H.out.ext hb)
  clear hb
  go_wp2_with fail
  refine (few1_any w1.heap.size 1 A c L.length _ (by simp [go_sem])).mono ?_
  rintro e w2 ⟨rfl, rfl⟩
  by_cases h8 : L.length ≤ 800
  · rw [decide_eq_true h8]
    generalize hw2 : World.alloc w1 _ = w2
    have G2 := Lib.hid (show Below B w w2 by subst hw2; exact G1.out.alloc hs1 _)
    have H2 := Lib.hid (show SpAt w2 A L by subst hw2; exact H1.out.ext (below_one _ _))
    have hs2 : B ≤ w2.heap.size := by have := G2.out.size; have := HB.out; omega
    clear hw2 G1 H1
    go_wp2_with fail
    refine (norm_any A c L w2 H2.out (by omega)).mono ?_
    rintro e w3 ⟨⟨v, rfl, ho⟩, hb⟩
    obtain ⟨A3, c3, e3, hr3, _⟩ := own_form ho
    subst e3
    have G3 := Lib.hid (G2.out.trans (hb.mono hs2))
    have H3 := Lib.hid (H2.out.ext hb)
    have R3 := Lib.hid hr3
    have hs3 : B ≤ w3.heap.size := by have := G3.out.size; have := HB.out; omega
    have hnl := Lib.hid (norS_len L)
    clear ho hb hr3 G2 H2
    by_cases h0 : (norS L).2 = 0
    · obtain ⟨hck, hmm⟩ := norS_chk h0
      have HCK := Lib.hid hck
      have HMM := Lib.hid (memB_eq (hmm n))
      rw [h0]
      generalize (norS L).1 = J at *
      have hjl := hnl.out
      clear h0 hck hmm
      go_wp2_with fail
      go_loopw [7, 28] (fun b i wr => ∃ k : Nat, k ≤ L.length ∧ b = .bool (memB n (L.take k)) ∧ i = .int .i64 k ∧ Hid (Below w3.heap.size w3 wr)) (fun _ i _ => L.length - (intOf i).toNat)
      case atStart => exact ⟨0, by omega, rfl, rfl, Lib.hid (Below.refl _ _)⟩
      case round =>
        obtain ⟨k, hk, rfl, rfl, G⟩ := hrel
        by_cases hlt : k < L.length
        · have hlt2 : (k : Int) < (L.length : Int) := by omega
          obtain ⟨x, hx⟩ : ∃ x, L[k]? = some x := ⟨_, List.getElem?_eq_getElem hlt⟩
          have HRw := H3.out.ext G.out
          obtain ⟨g, o, rfl⟩ := SpAt.some HRw hx
          obtain ⟨q0, q1⟩ := SpAt.get HRw hx
          have HST := Lib.hid (memB_step n hx)
          have hsz := G.out.size
          clear HRw hx
          cases hm : memB n (L.take k) with
          | true =>
            rw [hm] at HST
            go_wp2_with fail
            go_roundw
            case rel => exact ⟨k + 1, by omega, by rw [HST.out]; rfl, by go_num, Lib.hid (G.out.alloc hsz _)⟩
            case measure => simp [intOf]; omega
          | false =>
            rw [hm, Bool.false_or] at HST
            by_cases h1 : x.i ≤ n
            · by_cases h2 : n < x.o
              · have e := HST.out.trans (hasB_iff.2 ⟨h1, h2⟩)
                have HE := Lib.hid e
                clear e
                go_wp2_with fail
                go_roundw
                case rel => exact ⟨k + 1, by omega, by rw [HE.out], by go_num, Lib.hid (G.out.alloc hsz _)⟩
                case measure => simp [intOf]; omega
              · have e := HST.out.trans (show hasB n x = false by unfold hasB; simp [h2])
                have HE := Lib.hid e
                clear e
                go_wp2_with fail
                go_roundw
                case rel => exact ⟨k + 1, by omega, by rw [HE.out], by go_num, Lib.hid (G.out.alloc hsz _)⟩
                case measure => simp [intOf]; omega
            · have e := HST.out.trans (show hasB n x = false by unfold hasB; simp [h1])
              have HE := Lib.hid e
              clear e
              go_wp2_with fail
              go_roundw
              case rel => exact ⟨k + 1, by omega, by rw [HE.out], by go_num, Lib.hid (G.out.alloc hsz _)⟩
              case measure => simp [intOf]; omega
        · obtain rfl : k = L.length := by omega
          rw [List.take_length]
          have G4 := Lib.hid (G3.out.trans (G.out.mono hs3))
          have H4 := Lib.hid (H3.out.ext G.out)
          have R4 := Lib.hid (R3.out.ext G.out)
          have hs4 : B ≤ wr.heap.size := by have := G4.out.size; have := HB.out; omega
          have HML := Lib.hid (rfl : memB n L = memB n L)
          clear hlt G
          go_wp2_with fail
          refine (chk_any A3 c3 J wr R4.out (by omega)).mono ?_
          rintro e w5 ⟨rfl, hb⟩
          rw [HCK.out]
          have G5 := Lib.hid (G4.out.trans (hb.mono hs4))
          have H5 := Lib.hid (H4.out.ext hb)
          have R5 := Lib.hid (R4.out.ext hb)
          have hs5 : B ≤ w5.heap.size := by have := G5.out.size; have := HB.out; omega
          clear hb G4 H4 R4
          go_wp2_with fail
          refine (within_any A3 c3 J n w5 R5.out (by omega)).mono ?_
          rintro e w6 ⟨rfl, hb⟩
          rw [HMM.out]
          have G6 := Lib.hid (G5.out.trans (hb.mono hs5))
          have H6 := Lib.hid (H5.out.ext hb)
          have hs6 : B ≤ w6.heap.size := by have := G6.out.size; have := HB.out; omega
          clear hb G5 H5 R5
          go_wp2_with fail
          refine (within_any A c L n w6 H6.out (by omega)).mono ?_
          rintro e w7 ⟨rfl, hb⟩
          have G7 := Lib.hid (G6.out.trans (hb.mono hs6))
          clear hb G6 H6
          go_wp2_with fail
          go_ret
          exact ⟨rfl, G7.out⟩
    · have hn0 : (norS L).1.length = 0 := by rw [norS_bad h0]; rfl
      have hc2 : ((norS L).2 == 0) = false := by simpa using h0
      generalize (norS L).2 = E at *
      generalize (norS L).1.length = N at *
      subst hn0
      go_wp2_with fail
      go_ret
      exact ⟨rfl, G3.out⟩
  · rw [decide_eq_false h8]
    go_wp2_with fail
    go_ret
    exact ⟨rfl, G1.out.alloc hs1 _⟩
end Go.Proofs.YtloioincminhiaaDoor
