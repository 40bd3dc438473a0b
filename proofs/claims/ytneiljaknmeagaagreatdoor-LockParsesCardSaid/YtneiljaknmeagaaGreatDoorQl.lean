/-
  The contract of take in the program at a lease's line. Its conditions are its hypotheses.
-/
import Derived.Test.YtneiljaknmeagaaGreatDoorQk
import Derived.StillTailTactics
namespace Go.Proofs.YtneiljaknmeagaaGreatDoor
open Go.RowKit Go.Joins
set_option linter.unusedVariables false
set_option linter.unusedSimpArgs false
set_option maxRecDepth 100000 in
set_option maxHeartbeats 8000000 in
theorem take_lea (B p : Nat) (sv lv : Value) (T : Tb) (i : Nat) (g : Nat) (r u1 u2 u3 : List UInt8) (w : World) (hi0 : 0 < i) (hsl : T.ses.length ≤ 1000) (hll : T.lea.length ≤ 1000) (hn0 : 0 ≤ T.now) (hn1 : T.now ≤ 10378368000) (h : Rep B p sv lv T w) (hr : RowAt w (some ⟨g, 0, none⟩) ([leaW, r, u1, u2, u3].map strV)) (hg : Out p sv lv w g) (hu : ∀ u ∈ [u1, u2, u3], u.length ≤ 100000) (hw : Wd w) :
    Calls Tryz.prog 25 #[.pointer (some ⟨p, 0, none⟩), .int .i64 i, .slice (some ⟨g, 0, none⟩) 5 5] w (TakP B p sv lv w (stepT i [leaW, r, u1, u2, u3] T)) := by
  obtain ⟨R, hR⟩ : ∃ R, R = stepT i [leaW, r, u1, u2, u3] T := ⟨_, rfl⟩
  have HR := Lib.hid (show R = (match numsP mId [u1, u2, u3] with | some [a, b, c] => if nmB r = true ∧ T.lea.length < 16 ∧ leaB T ⟨r, a, b, c⟩ = true then some ⟨T.now, T.ls, T.lf, T.ses, T.lea ++ [⟨r, a, b, c⟩]⟩ else none | _ => none) by
    rw [hR]
    unfold stepT
    rw [if_neg (by omega), if_neg (by rintro ⟨_, h2, _⟩; revert h2; simp [leaW, sessionW]), if_pos ⟨hi0, rfl, rfl⟩]
    rfl)
  rw [← hR]
  clear hR
  have HBw := Lib.hid (Nat.le_trans h.ge (Nat.le_of_lt h.lt))
  have hBp := h.ge
  have H := Lib.hid h
  have HNS := Lib.hid (nums_any (some ⟨g, 2, none⟩) 3 [u1, u2, u3] w (row_drop hr 2) (by simp) hu hw)
  have e0 : w.cell? ⟨g, 0, none⟩ = some (.string (sB leaW)) := row_cell hr (k := 0) rfl
  have E1 := Lib.hid (show w.cell? ⟨g, 1, none⟩ = some (.string (sB r)) from row_cell hr (k := 1) rfl)
  have t1 : ((sB leaW).toList == [76, 69, 65, 83, 69]) = true := by rw [word_eq]; exact decide_eq_true rfl
  have t2 : ((sB leaW).toList == [83, 69, 83, 83, 73, 79, 78]) = false := by rw [word_eq]; exact decide_eq_false (by decide)
  have HNM := Lib.hid (show ∀ W, Calls Tryz.prog 49 #[.string (sB r)] W fun e w' => e = .returned (.bool (nmB r)) ∧ W = w' from fun W => name_any (sB r) W)
  have hgw : g < w.heap.size := World.block_lt_of_cell? w _ e0
  have HLS := Lib.hid (And.intro hll (And.intro hsl (And.intro hn0 hn1)))
  generalize sB leaW = s0 at *
  have hi1 : (0 : Int) < (i : Int) := by omega
  have t3 : ((i : Int) == 0) = false := by rw [beq_eq_false_iff_ne]; omega
  clear h hr hu hw hg hsl hn0 hn1
  go_enter Tryz.func25, Tryz.ntmps25
  go_wp2_with fail
  refine HNS.out.mono ?_
  clear HNS e0
  rintro e w1 ⟨⟨v, b, rfl, hor⟩, hb⟩
  have G1 := Lib.hid hb
  have e1 : w1.cell? ⟨g, 1, none⟩ = some (.string (sB r)) := (hb.cell (p := ⟨g, 1, none⟩) hgw).trans E1.out
  clear hb
  rcases hor with ⟨rfl, ns, hn, ho⟩ | ⟨rfl, hn⟩
  · have hlen := numsP_len hn
    obtain ⟨a, b, c, rfl⟩ : ∃ a b c, ns = [a, b, c] := by
      match ns, hlen with
      | [a, b, c], _ => exact ⟨a, b, c, rfl⟩
    have HN := Lib.hid (show R = if nmB r = true ∧ T.lea.length < 16 ∧ leaB T ⟨r, a, b, c⟩ = true then some ⟨T.now, T.ls, T.lf, T.ses, T.lea ++ [⟨r, a, b, c⟩]⟩ else none by rw [HR.out, hn])
    clear hlen hn
    obtain ⟨A, cp, rfl, hi, _, _⟩ := ints_of_own ho
    obtain ⟨gb, go, rfl, c0⟩ := ints3 hi (k := 0) rfl
    rw [Nat.add_zero] at c0
    have c1 : w1.cell? ⟨gb, go + 1, none⟩ = some (.int .i64 b) := by obtain ⟨_, _, e, h⟩ := ints3 hi (k := 1) rfl; cases e; exact h
    have c2 : w1.cell? ⟨gb, go + 2, none⟩ = some (.int .i64 c) := by obtain ⟨_, _, e, h⟩ := ints3 hi (k := 2) rfl; cases e; exact h
    clear ho hi
    have H1 := Lib.hid (H.out.ext G1.out)
    have F1 := Lib.hid ((FrT.refl B p sv lv w).ext G1.out HBw.out)
    have HLE := Lib.hid (show ∀ W, Below w1.heap.size w1 W → Calls Tryz.prog 55 #[.pointer (some ⟨p, 0, none⟩), .agg #[.string (sB r), .int .i64 a, .int .i64 b, .int .i64 c]] W (TakP B p sv lv W (leaR T ⟨r, a, b, c⟩)) from fun W hW => lease_any B p sv lv T ⟨r, a, b, c⟩ W (H1.out.ext hW) HLS.out.1 HLS.out.2.1 HLS.out.2.2.1 HLS.out.2.2.2)
    have q := H1.out.block.cell
    have hpw1 := H1.out.lt
    obtain ⟨LA, lc, rfl, hlr, hlc, hlm, hfl⟩ := row_of_ownK H1.out.2.2.2
    clear hlr hfl hlm
    go_wp2_with fail
    refine (HNM.out _).mono ?_
    rintro e w9 ⟨rfl, rfl⟩
    cases hnm : nmB r with
    | false =>
      have HN2 := Lib.hid (show R = none by rw [HN.out, if_neg (by rw [hnm]; simp)])
      clear hnm
      go_wp2_with fail
      go_ret
      exact ⟨_, rfl, .inr ⟨rfl, HN2.out, G1.out.mono HBw.out⟩⟩
    | true =>
      have HT := Lib.hid hnm
      clear hnm
      by_cases h16 : T.lea.length < 16
      · have h16' : (T.lea.length : Int) < 16 := by omega
        have HY := Lib.hid (show R = leaR T ⟨r, a, b, c⟩ by
          rw [HN.out]
          unfold leaR
          by_cases hb : leaB T ⟨r, a, b, c⟩ = true
          · rw [if_pos ⟨HT.out, h16, hb⟩, if_pos hb]
          · rw [if_neg (fun h => hb h.2.2), if_neg hb])
        have hBw1 : B ≤ w1.heap.size := by have := HBw.out; have := G1.out.size; omega
        go_wp2_with fail
        go_still_tail 14, (by kernel_rfl)
        change wpList _ _ _ _ _ w1.drew
        generalize hw2 : w1.drew = w2
        have G2 := Lib.hid (show Below w1.heap.size w1 w2 by rw [← hw2]; exact (Below.refl _ _).drew)
        clear hw2
        go_wp2_with fail
        refine (HLE.out _ G2.out).mono ?_
        rintro e w5 ⟨bb, rfl, hor⟩
        have HOR := Lib.hid hor
        clear hor q c0 c1 c2 e1
        go_wp2_with fail
        go_ret
        refine ⟨bb, rfl, ?_⟩
        rcases HOR.out with ⟨hb, T', sv', lv', hR, hrep, hfr⟩ | ⟨hb, hR, hbel⟩
        · exact .inl ⟨hb, T', sv', lv', HY.out.trans hR, hrep, (F1.out.ext G2.out hBw1).trans hfr⟩
        · exact .inr ⟨hb, HY.out.trans hR, ((G1.out.mono HBw.out).trans (G2.out.mono hBw1)).trans hbel⟩
      · have h16' : (16 : Int) ≤ (T.lea.length : Int) := by omega
        have HN2 := Lib.hid (show R = none by rw [HN.out, if_neg (fun h => h16 h.2.1)])
        go_wp2_with fail
        go_ret
        exact ⟨_, rfl, .inr ⟨rfl, HN2.out, G1.out.mono HBw.out⟩⟩
  · have HN2 := Lib.hid (show R = none by rw [HR.out, hn])
    clear hn
    go_wp2_with fail
    go_ret
    exact ⟨_, rfl, .inr ⟨rfl, HN2.out, G1.out.mono HBw.out⟩⟩
end Go.Proofs.YtneiljaknmeagaaGreatDoor
