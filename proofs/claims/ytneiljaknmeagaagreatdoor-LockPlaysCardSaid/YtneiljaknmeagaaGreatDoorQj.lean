/-
  The contract of lease in the program. Its conditions are its hypotheses.
-/
import Derived.Test.YtneiljaknmeagaaGreatDoorQi
import Derived.Test.YtneiljaknmeagaaGreatDoorBe
namespace Go.Proofs.YtneiljaknmeagaaGreatDoor
open Go.RowKit Go.Joins
set_option linter.unusedVariables false
set_option linter.unusedSimpArgs false
/-- A step of the reading: it gives whether there is a table, and the table. -/
def TakP (B p : Nat) (sv lv : Value) (w : World) (R : Option Tb) (e : Ending) (w' : World) : Prop := ∃ b, e = .returned (.bool b) ∧ ((b = true ∧ ∃ T' sv' lv', R = some T' ∧ Rep B p sv' lv' T' w' ∧ FrT B p sv lv w sv' lv' w') ∨ (b = false ∧ R = none ∧ Below B w w'))
def leaR (T : Tb) (x : Ls) : Option Tb := if leaB T x = true then some ⟨T.now, T.ls, T.lf, T.ses, T.lea ++ [x]⟩ else none
theorem leaR_no {T : Tb} {x : Ls} (h : leaB T x = false) : leaR T x = none := by unfold leaR; rw [h]; rfl
theorem leaR_yes {T : Tb} {x : Ls} (h : leaB T x = true) : leaR T x = some ⟨T.now, T.ls, T.lf, T.ses, T.lea ++ [x]⟩ := by unfold leaR; rw [h]; rfl
theorem all_of_any {L : List Ls} {f : Int} (h : L.any (fun y => decide (y.fen = f)) = true) : L.all (fun y => decide (y.fen ≠ f)) = false := by
  obtain ⟨y, hy, e⟩ := List.any_eq_true.1 h
  rw [List.all_eq_false]
  exact ⟨y, hy, by have := of_decide_eq_true e; simp [this]⟩
theorem all_of_none {L : List Ls} {f : Int} (h : L.any (fun y => decide (y.fen = f)) = false) : L.all (fun y => decide (y.fen ≠ f)) = true := by
  rw [List.all_eq_true]
  intro y hy
  have := List.any_eq_false.1 h y hy
  simpa using this
set_option maxRecDepth 100000 in
set_option maxHeartbeats 8000000 in
theorem lease_any (B p : Nat) (sv lv : Value) (T : Tb) (x : Ls) (w : World) (h : Rep B p sv lv T w) (hl : T.lea.length ≤ 1000) (hs : T.ses.length ≤ 1000) (hn0 : 0 ≤ T.now) (hn1 : T.now ≤ 10378368000) :
    Calls Tryz.prog 55 #[.pointer (some ⟨p, 0, none⟩), lsA x] w (TakP B p sv lv w (leaR T x)) := by
  obtain ⟨R, hR⟩ : ∃ R, R = leaR T x := ⟨_, rfl⟩
  have HR := Lib.hid hR
  rw [← hR]
  clear hR
  have HBw := Lib.hid (Nat.le_trans h.ge (Nat.le_of_lt h.lt))
  have hBp := h.ge
  have H := Lib.hid h
  have hsum : IntKind.i64.wrap (T.now + 600) = T.now + 600 := by rw [IntKind.wrap_i64]; omega
  obtain ⟨D, hD⟩ : ∃ D, D = w.heap.size := ⟨_, rfl⟩
  have HD := Lib.hid hD
  have hpD : p < D := by rw [hD]; exact h.lt
  have hBD : B ≤ D := by omega
  clear h
  obtain ⟨SA, sc, rfl, hsr, hsc, hsm⟩ := ints_of_own H.out.2.2.1
  obtain ⟨LA, lc, rfl, hlr, hlc, hlm, hfl⟩ := row_of_ownK H.out.2.2.2
  have HSR := Lib.hid hsr
  have HLR := Lib.hid hlr
  obtain ⟨Q, hQ⟩ : ∃ Q : Ending → World → Prop, Q = TakP B p (.slice SA T.ses.length sc) (.slice LA T.lea.length lc) w R := ⟨_, rfl⟩
  have HNO := Lib.hid (show R = none → ∀ W, Below D w W → Q (.returned (.bool false)) W from fun hn W hW => by rw [hQ]; exact ⟨false, rfl, .inr ⟨rfl, hn, hW.mono hBD⟩⟩)
  have HQ := Lib.hid hQ
  rw [← hQ]
  clear hQ hfl hlr hsr hsm hlm
  unfold lsA
  obtain ⟨m, hm⟩ | hm : (∃ m, T.lea.length = m + 1) ∨ T.lea.length = 0 := by
    cases h : T.lea.length with
    | zero => exact .inr rfl
    | succ m => exact .inl ⟨m, rfl⟩
  · obtain ⟨y, hy⟩ : ∃ y, T.lea[m]? = some y := ⟨_, List.getElem?_eq_getElem (by omega)⟩
    have HYL := Lib.hid (show T.lea.getLast? = some y by rw [List.getLast?_eq_getElem?, hm]; exact hy)
    obtain ⟨g, o, rfl⟩ := LeasAt.some HLR.out hy
    have HY0 := Lib.hid (LeasAt.get HLR.out hy).1
    have hgw : g < w.heap.size := World.block_lt_of_cell? w _ HY0.out
    have m5 : decide (0 < T.lea.length) = true := by rw [hm]; simp
    have m2 : 0 < T.lea.length := by omega
    have m3 : IntKind.i64.wrap ((T.lea.length : Int) - 1) = (m : Int) := by rw [IntKind.wrap_i64]; omega
    have m4 : (m : Int) < (T.lea.length : Int) := by omega
    have q := H.out.block.cell
    have hpw : p < w.heap.size := hD ▸ hpD
    clear hm hD hy
    by_cases hord : cmpB y.reel x.reel < 0
    · have b1 : Go.Op.bytesLess (sB y.reel).toList (sB x.reel).toList = true := by
        rw [Lib.toList_data, Lib.toList_data, sB_list, sB_list, less_cmp]
        exact decide_eq_true hord
      have HLAST := Lib.hid (show (match T.lea.getLast? with | some y => decide (cmpB y.reel x.reel < 0) | none => true) = true by rw [HYL.out]; exact decide_eq_true hord)
      clear hord
      go_enter Tryz.func55, Tryz.ntmps55
      go_wp2_with fail
      rw [← HD.out]
      generalize hw1 : World.alloc _ _ = w1
      have F1 := Lib.hid (show Held w1 D [.string (sB x.reel), .int .i64 x.ses, .int .i64 x.fen, .int .i64 x.unt] by subst hw1; exact Held.new HD.out)
      have G1 := Lib.hid (show Below w.heap.size w w1 by subst hw1; exact below_one _ _)
      have e0 : w1.cell? ⟨D, 0, none⟩ = some (Value.string (sB x.reel)) := F1.out.cell 0
      clear hw1 q
      have q4 : w1.cell? ⟨p, 4, none⟩ = some (.slice (some ⟨g, o, none⟩) T.lea.length lc) := (H.out.ext G1.out).block.cell 4
      have e9 : w1.cell? ⟨g, o + m * 4, none⟩ = some (Value.string (sB y.reel)) := (G1.out.cell (p := ⟨g, o + m * 4, none⟩) hgw).trans HY0.out
      go_quiet (fail)
      generalize hw2 : w1.drewN _ = w2
      have F2 := Lib.hid (show Held w2 D [.string (sB x.reel), .int .i64 x.ses, .int .i64 x.fen, .int .i64 x.unt] by rw [← hw2]; exact F1.out.drewN _)
      have G2 := Lib.hid (show Below w.heap.size w w2 by rw [← hw2]; exact below_drewN G1.out _)
      clear hw2 e0 q4 e9 F1 G1
      cases hi : decide (x.ses ∈ T.ses) with
      | false =>
        have HB0 := Lib.hid (show false = decide (x.ses ∈ T.ses) from hi.symm)
        have HN := Lib.hid (show R = none from HR.out.trans (leaR_no (by
          unfold leaB
          rw [hi]; simp)))
        clear hi
        go_wp2_with fail
        have q0 : w2.cell? ⟨p, 0, none⟩ = some (.int .i64 T.now) := (H.out.ext G2.out).block.cell 0
        have q2 : w2.cell? ⟨p, 2, none⟩ = some (.int .i64 T.lf) := (H.out.ext G2.out).block.cell 2
        have q3 : w2.cell? ⟨p, 3, none⟩ = some (.slice SA T.ses.length sc) := (H.out.ext G2.out).block.cell 3
        have e1 : w2.cell? ⟨D, 1, none⟩ = some (.int .i64 x.ses) := F2.out.cell 1
        have e2 : w2.cell? ⟨D, 2, none⟩ = some (.int .i64 x.fen) := F2.out.cell 2
        have e3 : w2.cell? ⟨D, 3, none⟩ = some (.int .i64 x.unt) := F2.out.cell 3
        have HS2 := Lib.hid (show IntsAt w2 SA T.ses from HSR.out.below G2.out (Nat.le_refl _))
        go_quiet (first | (go_at_call 48; exact Calls.quiet_of_same ((contains_any SA sc T.ses x.ses _ (by first | exact HS2.out | exact IntsAt.drewN HS2.out _) (by omega) HB0.out).mono (by rintro e w' ⟨rfl, rfl⟩; exact ⟨rfl, rfl⟩))))
        generalize hw3 : w2.drewN _ = w3
        have F3 := Lib.hid (show Held w3 D [.string (sB x.reel), .int .i64 x.ses, .int .i64 x.fen, .int .i64 x.unt] by rw [← hw3]; exact F2.out.drewN _)
        have G3 := Lib.hid (show Below w.heap.size w w3 by rw [← hw3]; exact below_drewN G2.out _)
        clear hw3 q0 q2 q3 e1 e2 e3 F2 G2 HS2
        go_wp2_with fail
        exact HNO.out HN.out _ (HD.out ▸ G3.out)
      | true =>
        have HB0 := Lib.hid (show true = decide (x.ses ∈ T.ses) from hi.symm)
        clear hi
        rcases (show x.fen < 1 ∨ (1 ≤ x.fen ∧ T.lf < x.fen) ∨ (1 ≤ x.fen ∧ x.fen ≤ T.lf ∧ x.unt ≤ T.now) ∨ (1 ≤ x.fen ∧ x.fen ≤ T.lf ∧ T.now < x.unt ∧ T.now + 600 < x.unt) ∨ (1 ≤ x.fen ∧ x.fen ≤ T.lf ∧ T.now < x.unt ∧ x.unt ≤ T.now + 600) by omega) with c1 | ⟨c1, c2⟩ | ⟨c1, c2, c3⟩ | ⟨c1, c2, c3, c4⟩ | ⟨c1, c2, c3, c4⟩
        · have d1 : decide (x.fen < 1) = true := by rw [decide_eq_true_eq]; omega
          have HN := Lib.hid (show R = none from HR.out.trans (leaR_no (by
            unfold leaB
            rw [show decide (1 ≤ x.fen) = false by rw [decide_eq_false_iff_not]; omega]; simp)))
          go_wp2_with fail
          have q0 : w2.cell? ⟨p, 0, none⟩ = some (.int .i64 T.now) := (H.out.ext G2.out).block.cell 0
          have q2 : w2.cell? ⟨p, 2, none⟩ = some (.int .i64 T.lf) := (H.out.ext G2.out).block.cell 2
          have q3 : w2.cell? ⟨p, 3, none⟩ = some (.slice SA T.ses.length sc) := (H.out.ext G2.out).block.cell 3
          have e1 : w2.cell? ⟨D, 1, none⟩ = some (.int .i64 x.ses) := F2.out.cell 1
          have e2 : w2.cell? ⟨D, 2, none⟩ = some (.int .i64 x.fen) := F2.out.cell 2
          have e3 : w2.cell? ⟨D, 3, none⟩ = some (.int .i64 x.unt) := F2.out.cell 3
          have HS2 := Lib.hid (show IntsAt w2 SA T.ses from HSR.out.below G2.out (Nat.le_refl _))
          go_quiet (first | (go_at_call 48; exact Calls.quiet_of_same ((contains_any SA sc T.ses x.ses _ (by first | exact HS2.out | exact IntsAt.drewN HS2.out _) (by omega) HB0.out).mono (by rintro e w' ⟨rfl, rfl⟩; exact ⟨rfl, rfl⟩))))
          generalize hw3 : w2.drewN _ = w3
          have F3 := Lib.hid (show Held w3 D [.string (sB x.reel), .int .i64 x.ses, .int .i64 x.fen, .int .i64 x.unt] by rw [← hw3]; exact F2.out.drewN _)
          have G3 := Lib.hid (show Below w.heap.size w w3 by rw [← hw3]; exact below_drewN G2.out _)
          clear hw3 q0 q2 q3 e1 e2 e3 F2 G2 HS2
          go_wp2_with fail
          exact HNO.out HN.out _ (HD.out ▸ G3.out)
        · have d1 : decide (x.fen < 1) = false := by rw [decide_eq_false_iff_not]; omega
          have d2 : decide (T.lf < x.fen) = true := by rw [decide_eq_true_eq]; omega
          have HN := Lib.hid (show R = none from HR.out.trans (leaR_no (by
            unfold leaB
            rw [show decide (x.fen ≤ T.lf) = false by rw [decide_eq_false_iff_not]; omega]; simp)))
          go_wp2_with fail
          have q0 : w2.cell? ⟨p, 0, none⟩ = some (.int .i64 T.now) := (H.out.ext G2.out).block.cell 0
          have q2 : w2.cell? ⟨p, 2, none⟩ = some (.int .i64 T.lf) := (H.out.ext G2.out).block.cell 2
          have q3 : w2.cell? ⟨p, 3, none⟩ = some (.slice SA T.ses.length sc) := (H.out.ext G2.out).block.cell 3
          have e1 : w2.cell? ⟨D, 1, none⟩ = some (.int .i64 x.ses) := F2.out.cell 1
          have e2 : w2.cell? ⟨D, 2, none⟩ = some (.int .i64 x.fen) := F2.out.cell 2
          have e3 : w2.cell? ⟨D, 3, none⟩ = some (.int .i64 x.unt) := F2.out.cell 3
          have HS2 := Lib.hid (show IntsAt w2 SA T.ses from HSR.out.below G2.out (Nat.le_refl _))
          go_quiet (first | (go_at_call 48; exact Calls.quiet_of_same ((contains_any SA sc T.ses x.ses _ (by first | exact HS2.out | exact IntsAt.drewN HS2.out _) (by omega) HB0.out).mono (by rintro e w' ⟨rfl, rfl⟩; exact ⟨rfl, rfl⟩))))
          generalize hw3 : w2.drewN _ = w3
          have F3 := Lib.hid (show Held w3 D [.string (sB x.reel), .int .i64 x.ses, .int .i64 x.fen, .int .i64 x.unt] by rw [← hw3]; exact F2.out.drewN _)
          have G3 := Lib.hid (show Below w.heap.size w w3 by rw [← hw3]; exact below_drewN G2.out _)
          clear hw3 q0 q2 q3 e1 e2 e3 F2 G2 HS2
          go_wp2_with fail
          exact HNO.out HN.out _ (HD.out ▸ G3.out)
        · have d1 : decide (x.fen < 1) = false := by rw [decide_eq_false_iff_not]; omega
          have d2 : decide (T.lf < x.fen) = false := by rw [decide_eq_false_iff_not]; omega
          have d3 : decide (x.unt ≤ T.now) = true := by rw [decide_eq_true_eq]; omega
          have HN := Lib.hid (show R = none from HR.out.trans (leaR_no (by
            unfold leaB
            rw [show decide (T.now < x.unt) = false by rw [decide_eq_false_iff_not]; omega]; simp)))
          go_wp2_with fail
          have q0 : w2.cell? ⟨p, 0, none⟩ = some (.int .i64 T.now) := (H.out.ext G2.out).block.cell 0
          have q2 : w2.cell? ⟨p, 2, none⟩ = some (.int .i64 T.lf) := (H.out.ext G2.out).block.cell 2
          have q3 : w2.cell? ⟨p, 3, none⟩ = some (.slice SA T.ses.length sc) := (H.out.ext G2.out).block.cell 3
          have e1 : w2.cell? ⟨D, 1, none⟩ = some (.int .i64 x.ses) := F2.out.cell 1
          have e2 : w2.cell? ⟨D, 2, none⟩ = some (.int .i64 x.fen) := F2.out.cell 2
          have e3 : w2.cell? ⟨D, 3, none⟩ = some (.int .i64 x.unt) := F2.out.cell 3
          have HS2 := Lib.hid (show IntsAt w2 SA T.ses from HSR.out.below G2.out (Nat.le_refl _))
          go_quiet (first | (go_at_call 48; exact Calls.quiet_of_same ((contains_any SA sc T.ses x.ses _ (by first | exact HS2.out | exact IntsAt.drewN HS2.out _) (by omega) HB0.out).mono (by rintro e w' ⟨rfl, rfl⟩; exact ⟨rfl, rfl⟩))))
          generalize hw3 : w2.drewN _ = w3
          have F3 := Lib.hid (show Held w3 D [.string (sB x.reel), .int .i64 x.ses, .int .i64 x.fen, .int .i64 x.unt] by rw [← hw3]; exact F2.out.drewN _)
          have G3 := Lib.hid (show Below w.heap.size w w3 by rw [← hw3]; exact below_drewN G2.out _)
          clear hw3 q0 q2 q3 e1 e2 e3 F2 G2 HS2
          go_wp2_with fail
          exact HNO.out HN.out _ (HD.out ▸ G3.out)
        · have d1 : decide (x.fen < 1) = false := by rw [decide_eq_false_iff_not]; omega
          have d2 : decide (T.lf < x.fen) = false := by rw [decide_eq_false_iff_not]; omega
          have d3 : decide (x.unt ≤ T.now) = false := by rw [decide_eq_false_iff_not]; omega
          have d4 : decide (T.now + 600 < x.unt) = true := by rw [decide_eq_true_eq]; omega
          have HN := Lib.hid (show R = none from HR.out.trans (leaR_no (by
            unfold leaB
            rw [show decide (x.unt ≤ T.now + 600) = false by rw [decide_eq_false_iff_not]; omega]; simp)))
          go_wp2_with fail
          have q0 : w2.cell? ⟨p, 0, none⟩ = some (.int .i64 T.now) := (H.out.ext G2.out).block.cell 0
          have q2 : w2.cell? ⟨p, 2, none⟩ = some (.int .i64 T.lf) := (H.out.ext G2.out).block.cell 2
          have q3 : w2.cell? ⟨p, 3, none⟩ = some (.slice SA T.ses.length sc) := (H.out.ext G2.out).block.cell 3
          have e1 : w2.cell? ⟨D, 1, none⟩ = some (.int .i64 x.ses) := F2.out.cell 1
          have e2 : w2.cell? ⟨D, 2, none⟩ = some (.int .i64 x.fen) := F2.out.cell 2
          have e3 : w2.cell? ⟨D, 3, none⟩ = some (.int .i64 x.unt) := F2.out.cell 3
          have HS2 := Lib.hid (show IntsAt w2 SA T.ses from HSR.out.below G2.out (Nat.le_refl _))
          go_quiet (first | (go_at_call 48; exact Calls.quiet_of_same ((contains_any SA sc T.ses x.ses _ (by first | exact HS2.out | exact IntsAt.drewN HS2.out _) (by omega) HB0.out).mono (by rintro e w' ⟨rfl, rfl⟩; exact ⟨rfl, rfl⟩))))
          generalize hw3 : w2.drewN _ = w3
          have F3 := Lib.hid (show Held w3 D [.string (sB x.reel), .int .i64 x.ses, .int .i64 x.fen, .int .i64 x.unt] by rw [← hw3]; exact F2.out.drewN _)
          have G3 := Lib.hid (show Below w.heap.size w w3 by rw [← hw3]; exact below_drewN G2.out _)
          clear hw3 q0 q2 q3 e1 e2 e3 F2 G2 HS2
          go_wp2_with fail
          exact HNO.out HN.out _ (HD.out ▸ G3.out)
        · have d1 : decide (x.fen < 1) = false := by rw [decide_eq_false_iff_not]; omega
          have d2 : decide (T.lf < x.fen) = false := by rw [decide_eq_false_iff_not]; omega
          have d3 : decide (x.unt ≤ T.now) = false := by rw [decide_eq_false_iff_not]; omega
          have d4 : decide (T.now + 600 < x.unt) = false := by rw [decide_eq_false_iff_not]; omega
          have HOK := Lib.hid (show ((match T.lea.getLast? with | some y => decide (cmpB y.reel x.reel < 0) | none => true) && (decide (x.ses ∈ T.ses) && decide (1 ≤ x.fen) && decide (x.fen ≤ T.lf) && decide (T.now < x.unt) && decide (x.unt ≤ T.now + 600))) = true by
            rw [HLAST.out, ← HB0.out, decide_eq_true c1, decide_eq_true c2, decide_eq_true c3, decide_eq_true c4]
            rfl)
          go_wp2_with fail
          have q0 : w2.cell? ⟨p, 0, none⟩ = some (.int .i64 T.now) := (H.out.ext G2.out).block.cell 0
          have q2 : w2.cell? ⟨p, 2, none⟩ = some (.int .i64 T.lf) := (H.out.ext G2.out).block.cell 2
          have q3 : w2.cell? ⟨p, 3, none⟩ = some (.slice SA T.ses.length sc) := (H.out.ext G2.out).block.cell 3
          have e1 : w2.cell? ⟨D, 1, none⟩ = some (.int .i64 x.ses) := F2.out.cell 1
          have e2 : w2.cell? ⟨D, 2, none⟩ = some (.int .i64 x.fen) := F2.out.cell 2
          have e3 : w2.cell? ⟨D, 3, none⟩ = some (.int .i64 x.unt) := F2.out.cell 3
          have HS2 := Lib.hid (show IntsAt w2 SA T.ses from HSR.out.below G2.out (Nat.le_refl _))
          go_quiet (first | (go_at_call 48; exact Calls.quiet_of_same ((contains_any SA sc T.ses x.ses _ (by first | exact HS2.out | exact IntsAt.drewN HS2.out _) (by omega) HB0.out).mono (by rintro e w' ⟨rfl, rfl⟩; exact ⟨rfl, rfl⟩))))
          generalize hw3 : w2.drewN _ = w3
          have F3 := Lib.hid (show Held w3 D [.string (sB x.reel), .int .i64 x.ses, .int .i64 x.fen, .int .i64 x.unt] by rw [← hw3]; exact F2.out.drewN _)
          have G3 := Lib.hid (show Below w.heap.size w w3 by rw [← hw3]; exact below_drewN G2.out _)
          clear hw3 q0 q2 q3 e1 e2 e3 F2 G2 HS2
          have q4 : w3.cell? ⟨p, 4, none⟩ = some (.slice (some ⟨g, o, none⟩) T.lea.length lc) := (H.out.ext G3.out).block.cell 4
          obtain ⟨dup, hdup⟩ : ∃ b, b = T.lea.any (fun y => decide (y.fen = x.fen)) := ⟨_, rfl⟩
          have HDUP := Lib.hid hdup
          have HCF := Lib.hid (dupc_any D (some ⟨g, o, none⟩) lc T.lea x.fen w3 (HLR.out.below G3.out (Nat.le_refl _)) (F3.out.cell 2) (by omega) hdup)
          clear hdup
          go_wp2_with fail
          refine HCF.out.mono ?_
          rintro e w4 ⟨rfl, hb4⟩
          have F4 := Lib.hid (F3.out.ext hb4)
          have G4 := Lib.hid (show Below w.heap.size w w4 from G3.out.trans (hb4.mono G3.out.size))
          clear hb4 q4 F3 G3 HCF
          cases hd : dup with
          | true =>
            have HN := Lib.hid (show R = none from HR.out.trans (leaR_no (by
              have h := HDUP.out
              rw [hd] at h
              unfold leaB
              rw [all_of_any h.symm, Bool.and_false])))
            clear hd
            go_wp2_with fail
            exact HNO.out HN.out _ (HD.out ▸ G4.out)
          | false =>
            have HY := Lib.hid (show R = some ⟨T.now, T.ls, T.lf, T.ses, T.lea ++ [x]⟩ from HR.out.trans (leaR_yes (by
              have h := HDUP.out
              rw [hd] at h
              unfold leaB
              rw [all_of_none h.symm, Bool.and_true]
              exact HOK.out)))
            clear hd
            go_wp2_with fail
            have H4 := Lib.hid (H.out.ext G4.out)
            have q4 : w4.cell? ⟨p, 4, none⟩ = some (.slice (some ⟨g, o, none⟩) T.lea.length lc) := H4.out.block.cell 4
            have y4 : w4.frozen? ⟨p, 4, none⟩ = false := H4.out.block.free 4
            have e0 : w4.cell? ⟨D, 0, none⟩ = some (Value.string (sB x.reel)) := F4.out.cell 0
            have e1 : w4.cell? ⟨D, 1, none⟩ = some (.int .i64 x.ses) := F4.out.cell 1
            have e2 : w4.cell? ⟨D, 2, none⟩ = some (.int .i64 x.fen) := F4.out.cell 2
            have e3 : w4.cell? ⟨D, 3, none⟩ = some (.int .i64 x.unt) := F4.out.cell 3
            have hpw4 : p < w4.heap.size := H4.out.lt
            have hDw4 : D < w4.heap.size := F4.out.lt
            have hBw : B ≤ w4.heap.size := by omega
            have HOW := Lib.hid H4.out.2.2.2
            have hne : (Value.slice (some ⟨g, o, none⟩) T.lea.length lc).ownBlock ≠ some p := H4.out.nel
            obtain ⟨i0, hi, hz0, hz1, hz2⟩ := info_parts infoL
            have FF := Lib.hid ((FrT.refl B p (.slice SA T.ses.length sc) (.slice (some ⟨g, o, none⟩) T.lea.length lc) w).ext G4.out (by have := HBw.out; omega))
            clear hsum m5 m2 m3 m4 b1
            go_region_law
              ((refine step_append_lies _ (by rfl) _ _ _ (by rfl) B 49 i0 _ 4 40 Tryz.underlying28 hi hz0 hz1 hz2 rfl (by omega) (.slice (some ⟨g, o, none⟩) T.lea.length lc) T.lea.length (T.lea.flatMap lsV) (by rfl) ((HOW.out.alloc _).drew)
                    ⟨w4.heap.size, 0, none⟩ 1 1 (lsV x) (by rfl) (by rfl) (World.news_of_block (cs := #[.string (sB x.reel), .int .i64 x.ses, .int .i64 x.fen, .int .i64 x.unt]) (t := 49) (fr := (0, 0)) (heap_alloc_new w4 _)) (by simp [Value.oneCell', lsV])
                    (by omega) (by simp only [maxLen]; omega) (by omega) (by simp; omega) (w4.heap.size + 1) (by simp) ?_; intro gg cap w5 hown3 hgrow hat hlt; have y5 : w5.frozen? ⟨p, 4, none⟩ = false := (hgrow.frozen_far _ (by simp; omega) (Ne.symm hne)).trans ((World.frozen?_alloc_past (w := w4) _ p 4 hpw4).trans y4); have q5 : w5.cell? ⟨p, 4, none⟩ = some (.slice (some ⟨g, o, none⟩) T.lea.length lc) := (hgrow.cell_far _ (by simp; omega) (Ne.symm hne)).trans ((World.cell?_alloc_past (w := w4) _ p 4 hpw4).trans q4)))
            all_goals
              have hb : Below w4.heap.size w4 (w4.alloc (.cells #[.string (sB x.reel), .int .i64 x.ses, .int .i64 x.fen, .int .i64 x.unt] 49)).drew := (below_one _ _).drew
              have F5 := Lib.hid (((FF.out.ext hb hBw).grown hgrow (by simp; omega) (own_base HOW.out) (.inr (.inl rfl))).newL (l2 := .slice (some ⟨gg, 0, none⟩) (T.lea.length + 1) cap) (by
                intro g' hg'
                cases hg'
                rcases hat with h | h
                · exact .inl h
                · have := G4.out.size
                  exact .inr (show w.heap.size ≤ gg by omega)))
              have H5 := Lib.hid (Rep.setL (T := T) (L := T.lea ++ [x]) hBp ((hgrow.block p (by simp; omega) (Ne.symm hne)).trans ((hb.block p hpw4).trans H4.out.2.1)) (own_same H4.out.2.2.1 (fun g' hg' => by
                have hg2 := (H4.out.2.2.1.lt g' hg').2
                exact (hgrow.block g' (by simp; omega) (fun e => H4.out.apart hg' e.symm)).trans (hb.block g' hg2))) (by
                rw [List.flatMap_append, List.length_append]
                simpa using hown3))
              have F6 := Lib.hid (F5.out.put hBp 4 (.slice (some ⟨gg, 0, none⟩) (T.lea.length + 1) cap))
              generalize World.setCell w5 _ _ = w6 at *
              clear hgrow hown3 hb F5 y5 q5
              go_wp2
              rw [HQ.out]
              exact ⟨true, rfl, .inl ⟨rfl, _, _, _, HY.out, H5.out, F6.out⟩⟩
    · have b1 : Go.Op.bytesLess (sB y.reel).toList (sB x.reel).toList = false := by
        rw [Lib.toList_data, Lib.toList_data, sB_list, sB_list, less_cmp]
        exact decide_eq_false hord
      have HN := Lib.hid (show R = none from HR.out.trans (leaR_no (by
        unfold leaB
        rw [HYL.out]
        simp only [decide_eq_false hord, Bool.false_and])))
      clear hord
      go_enter Tryz.func55, Tryz.ntmps55
      go_wp2_with fail
      rw [← HD.out]
      generalize hw1 : World.alloc _ _ = w1
      have F1 := Lib.hid (show Held w1 D [.string (sB x.reel), .int .i64 x.ses, .int .i64 x.fen, .int .i64 x.unt] by subst hw1; exact Held.new HD.out)
      have G1 := Lib.hid (show Below w.heap.size w w1 by subst hw1; exact below_one _ _)
      have e0 : w1.cell? ⟨D, 0, none⟩ = some (Value.string (sB x.reel)) := F1.out.cell 0
      clear hw1 q
      have q4 : w1.cell? ⟨p, 4, none⟩ = some (.slice (some ⟨g, o, none⟩) T.lea.length lc) := (H.out.ext G1.out).block.cell 4
      have e9 : w1.cell? ⟨g, o + m * 4, none⟩ = some (Value.string (sB y.reel)) := (G1.out.cell (p := ⟨g, o + m * 4, none⟩) hgw).trans HY0.out
      go_quiet (fail)
      generalize hw2 : w1.drewN _ = w2
      have F2 := Lib.hid (show Held w2 D [.string (sB x.reel), .int .i64 x.ses, .int .i64 x.fen, .int .i64 x.unt] by rw [← hw2]; exact F1.out.drewN _)
      have G2 := Lib.hid (show Below w.heap.size w w2 by rw [← hw2]; exact below_drewN G1.out _)
      clear hw2 e0 q4 e9 F1 G1
      go_wp2_with fail
      exact HNO.out HN.out _ (HD.out ▸ G2.out)
  · have m5 : decide (0 < T.lea.length) = false := by rw [hm]; rfl
    have HLAST := Lib.hid (show (match T.lea.getLast? with | some y => decide (cmpB y.reel x.reel < 0) | none => true) = true by rw [List.eq_nil_of_length_eq_zero hm]; rfl)
    have q := H.out.block.cell
    have hpw : p < w.heap.size := hD ▸ hpD
    clear hm hD
    go_enter Tryz.func55, Tryz.ntmps55
    go_wp2_with fail
    rw [← HD.out]
    generalize hw1 : World.alloc _ _ = w1
    have F1 := Lib.hid (show Held w1 D [.string (sB x.reel), .int .i64 x.ses, .int .i64 x.fen, .int .i64 x.unt] by subst hw1; exact Held.new HD.out)
    have G1 := Lib.hid (show Below w.heap.size w w1 by subst hw1; exact below_one _ _)
    have e0 : w1.cell? ⟨D, 0, none⟩ = some (Value.string (sB x.reel)) := F1.out.cell 0
    clear hw1 q
    have q4 : w1.cell? ⟨p, 4, none⟩ = some (.slice LA T.lea.length lc) := (H.out.ext G1.out).block.cell 4
    go_quiet (fail)
    generalize hw2 : w1.drewN _ = w2
    have F2 := Lib.hid (show Held w2 D [.string (sB x.reel), .int .i64 x.ses, .int .i64 x.fen, .int .i64 x.unt] by rw [← hw2]; exact F1.out.drewN _)
    have G2 := Lib.hid (show Below w.heap.size w w2 by rw [← hw2]; exact below_drewN G1.out _)
    clear hw2 e0 q4 F1 G1
    cases hi : decide (x.ses ∈ T.ses) with
    | false =>
      have HB0 := Lib.hid (show false = decide (x.ses ∈ T.ses) from hi.symm)
      have HN := Lib.hid (show R = none from HR.out.trans (leaR_no (by
        unfold leaB
        rw [hi]; simp)))
      clear hi
      go_wp2_with fail
      have q0 : w2.cell? ⟨p, 0, none⟩ = some (.int .i64 T.now) := (H.out.ext G2.out).block.cell 0
      have q2 : w2.cell? ⟨p, 2, none⟩ = some (.int .i64 T.lf) := (H.out.ext G2.out).block.cell 2
      have q3 : w2.cell? ⟨p, 3, none⟩ = some (.slice SA T.ses.length sc) := (H.out.ext G2.out).block.cell 3
      have e1 : w2.cell? ⟨D, 1, none⟩ = some (.int .i64 x.ses) := F2.out.cell 1
      have e2 : w2.cell? ⟨D, 2, none⟩ = some (.int .i64 x.fen) := F2.out.cell 2
      have e3 : w2.cell? ⟨D, 3, none⟩ = some (.int .i64 x.unt) := F2.out.cell 3
      have HS2 := Lib.hid (show IntsAt w2 SA T.ses from HSR.out.below G2.out (Nat.le_refl _))
      go_quiet (first | (go_at_call 48; exact Calls.quiet_of_same ((contains_any SA sc T.ses x.ses _ (by first | exact HS2.out | exact IntsAt.drewN HS2.out _) (by omega) HB0.out).mono (by rintro e w' ⟨rfl, rfl⟩; exact ⟨rfl, rfl⟩))))
      generalize hw3 : w2.drewN _ = w3
      have F3 := Lib.hid (show Held w3 D [.string (sB x.reel), .int .i64 x.ses, .int .i64 x.fen, .int .i64 x.unt] by rw [← hw3]; exact F2.out.drewN _)
      have G3 := Lib.hid (show Below w.heap.size w w3 by rw [← hw3]; exact below_drewN G2.out _)
      clear hw3 q0 q2 q3 e1 e2 e3 F2 G2 HS2
      go_wp2_with fail
      exact HNO.out HN.out _ (HD.out ▸ G3.out)
    | true =>
      have HB0 := Lib.hid (show true = decide (x.ses ∈ T.ses) from hi.symm)
      clear hi
      rcases (show x.fen < 1 ∨ (1 ≤ x.fen ∧ T.lf < x.fen) ∨ (1 ≤ x.fen ∧ x.fen ≤ T.lf ∧ x.unt ≤ T.now) ∨ (1 ≤ x.fen ∧ x.fen ≤ T.lf ∧ T.now < x.unt ∧ T.now + 600 < x.unt) ∨ (1 ≤ x.fen ∧ x.fen ≤ T.lf ∧ T.now < x.unt ∧ x.unt ≤ T.now + 600) by omega) with c1 | ⟨c1, c2⟩ | ⟨c1, c2, c3⟩ | ⟨c1, c2, c3, c4⟩ | ⟨c1, c2, c3, c4⟩
      · have d1 : decide (x.fen < 1) = true := by rw [decide_eq_true_eq]; omega
        have HN := Lib.hid (show R = none from HR.out.trans (leaR_no (by
          unfold leaB
          rw [show decide (1 ≤ x.fen) = false by rw [decide_eq_false_iff_not]; omega]; simp)))
        go_wp2_with fail
        have q0 : w2.cell? ⟨p, 0, none⟩ = some (.int .i64 T.now) := (H.out.ext G2.out).block.cell 0
        have q2 : w2.cell? ⟨p, 2, none⟩ = some (.int .i64 T.lf) := (H.out.ext G2.out).block.cell 2
        have q3 : w2.cell? ⟨p, 3, none⟩ = some (.slice SA T.ses.length sc) := (H.out.ext G2.out).block.cell 3
        have e1 : w2.cell? ⟨D, 1, none⟩ = some (.int .i64 x.ses) := F2.out.cell 1
        have e2 : w2.cell? ⟨D, 2, none⟩ = some (.int .i64 x.fen) := F2.out.cell 2
        have e3 : w2.cell? ⟨D, 3, none⟩ = some (.int .i64 x.unt) := F2.out.cell 3
        have HS2 := Lib.hid (show IntsAt w2 SA T.ses from HSR.out.below G2.out (Nat.le_refl _))
        go_quiet (first | (go_at_call 48; exact Calls.quiet_of_same ((contains_any SA sc T.ses x.ses _ (by first | exact HS2.out | exact IntsAt.drewN HS2.out _) (by omega) HB0.out).mono (by rintro e w' ⟨rfl, rfl⟩; exact ⟨rfl, rfl⟩))))
        generalize hw3 : w2.drewN _ = w3
        have F3 := Lib.hid (show Held w3 D [.string (sB x.reel), .int .i64 x.ses, .int .i64 x.fen, .int .i64 x.unt] by rw [← hw3]; exact F2.out.drewN _)
        have G3 := Lib.hid (show Below w.heap.size w w3 by rw [← hw3]; exact below_drewN G2.out _)
        clear hw3 q0 q2 q3 e1 e2 e3 F2 G2 HS2
        go_wp2_with fail
        exact HNO.out HN.out _ (HD.out ▸ G3.out)
      · have d1 : decide (x.fen < 1) = false := by rw [decide_eq_false_iff_not]; omega
        have d2 : decide (T.lf < x.fen) = true := by rw [decide_eq_true_eq]; omega
        have HN := Lib.hid (show R = none from HR.out.trans (leaR_no (by
          unfold leaB
          rw [show decide (x.fen ≤ T.lf) = false by rw [decide_eq_false_iff_not]; omega]; simp)))
        go_wp2_with fail
        have q0 : w2.cell? ⟨p, 0, none⟩ = some (.int .i64 T.now) := (H.out.ext G2.out).block.cell 0
        have q2 : w2.cell? ⟨p, 2, none⟩ = some (.int .i64 T.lf) := (H.out.ext G2.out).block.cell 2
        have q3 : w2.cell? ⟨p, 3, none⟩ = some (.slice SA T.ses.length sc) := (H.out.ext G2.out).block.cell 3
        have e1 : w2.cell? ⟨D, 1, none⟩ = some (.int .i64 x.ses) := F2.out.cell 1
        have e2 : w2.cell? ⟨D, 2, none⟩ = some (.int .i64 x.fen) := F2.out.cell 2
        have e3 : w2.cell? ⟨D, 3, none⟩ = some (.int .i64 x.unt) := F2.out.cell 3
        have HS2 := Lib.hid (show IntsAt w2 SA T.ses from HSR.out.below G2.out (Nat.le_refl _))
        go_quiet (first | (go_at_call 48; exact Calls.quiet_of_same ((contains_any SA sc T.ses x.ses _ (by first | exact HS2.out | exact IntsAt.drewN HS2.out _) (by omega) HB0.out).mono (by rintro e w' ⟨rfl, rfl⟩; exact ⟨rfl, rfl⟩))))
        generalize hw3 : w2.drewN _ = w3
        have F3 := Lib.hid (show Held w3 D [.string (sB x.reel), .int .i64 x.ses, .int .i64 x.fen, .int .i64 x.unt] by rw [← hw3]; exact F2.out.drewN _)
        have G3 := Lib.hid (show Below w.heap.size w w3 by rw [← hw3]; exact below_drewN G2.out _)
        clear hw3 q0 q2 q3 e1 e2 e3 F2 G2 HS2
        go_wp2_with fail
        exact HNO.out HN.out _ (HD.out ▸ G3.out)
      · have d1 : decide (x.fen < 1) = false := by rw [decide_eq_false_iff_not]; omega
        have d2 : decide (T.lf < x.fen) = false := by rw [decide_eq_false_iff_not]; omega
        have d3 : decide (x.unt ≤ T.now) = true := by rw [decide_eq_true_eq]; omega
        have HN := Lib.hid (show R = none from HR.out.trans (leaR_no (by
          unfold leaB
          rw [show decide (T.now < x.unt) = false by rw [decide_eq_false_iff_not]; omega]; simp)))
        go_wp2_with fail
        have q0 : w2.cell? ⟨p, 0, none⟩ = some (.int .i64 T.now) := (H.out.ext G2.out).block.cell 0
        have q2 : w2.cell? ⟨p, 2, none⟩ = some (.int .i64 T.lf) := (H.out.ext G2.out).block.cell 2
        have q3 : w2.cell? ⟨p, 3, none⟩ = some (.slice SA T.ses.length sc) := (H.out.ext G2.out).block.cell 3
        have e1 : w2.cell? ⟨D, 1, none⟩ = some (.int .i64 x.ses) := F2.out.cell 1
        have e2 : w2.cell? ⟨D, 2, none⟩ = some (.int .i64 x.fen) := F2.out.cell 2
        have e3 : w2.cell? ⟨D, 3, none⟩ = some (.int .i64 x.unt) := F2.out.cell 3
        have HS2 := Lib.hid (show IntsAt w2 SA T.ses from HSR.out.below G2.out (Nat.le_refl _))
        go_quiet (first | (go_at_call 48; exact Calls.quiet_of_same ((contains_any SA sc T.ses x.ses _ (by first | exact HS2.out | exact IntsAt.drewN HS2.out _) (by omega) HB0.out).mono (by rintro e w' ⟨rfl, rfl⟩; exact ⟨rfl, rfl⟩))))
        generalize hw3 : w2.drewN _ = w3
        have F3 := Lib.hid (show Held w3 D [.string (sB x.reel), .int .i64 x.ses, .int .i64 x.fen, .int .i64 x.unt] by rw [← hw3]; exact F2.out.drewN _)
        have G3 := Lib.hid (show Below w.heap.size w w3 by rw [← hw3]; exact below_drewN G2.out _)
        clear hw3 q0 q2 q3 e1 e2 e3 F2 G2 HS2
        go_wp2_with fail
        exact HNO.out HN.out _ (HD.out ▸ G3.out)
      · have d1 : decide (x.fen < 1) = false := by rw [decide_eq_false_iff_not]; omega
        have d2 : decide (T.lf < x.fen) = false := by rw [decide_eq_false_iff_not]; omega
        have d3 : decide (x.unt ≤ T.now) = false := by rw [decide_eq_false_iff_not]; omega
        have d4 : decide (T.now + 600 < x.unt) = true := by rw [decide_eq_true_eq]; omega
        have HN := Lib.hid (show R = none from HR.out.trans (leaR_no (by
          unfold leaB
          rw [show decide (x.unt ≤ T.now + 600) = false by rw [decide_eq_false_iff_not]; omega]; simp)))
        go_wp2_with fail
        have q0 : w2.cell? ⟨p, 0, none⟩ = some (.int .i64 T.now) := (H.out.ext G2.out).block.cell 0
        have q2 : w2.cell? ⟨p, 2, none⟩ = some (.int .i64 T.lf) := (H.out.ext G2.out).block.cell 2
        have q3 : w2.cell? ⟨p, 3, none⟩ = some (.slice SA T.ses.length sc) := (H.out.ext G2.out).block.cell 3
        have e1 : w2.cell? ⟨D, 1, none⟩ = some (.int .i64 x.ses) := F2.out.cell 1
        have e2 : w2.cell? ⟨D, 2, none⟩ = some (.int .i64 x.fen) := F2.out.cell 2
        have e3 : w2.cell? ⟨D, 3, none⟩ = some (.int .i64 x.unt) := F2.out.cell 3
        have HS2 := Lib.hid (show IntsAt w2 SA T.ses from HSR.out.below G2.out (Nat.le_refl _))
        go_quiet (first | (go_at_call 48; exact Calls.quiet_of_same ((contains_any SA sc T.ses x.ses _ (by first | exact HS2.out | exact IntsAt.drewN HS2.out _) (by omega) HB0.out).mono (by rintro e w' ⟨rfl, rfl⟩; exact ⟨rfl, rfl⟩))))
        generalize hw3 : w2.drewN _ = w3
        have F3 := Lib.hid (show Held w3 D [.string (sB x.reel), .int .i64 x.ses, .int .i64 x.fen, .int .i64 x.unt] by rw [← hw3]; exact F2.out.drewN _)
        have G3 := Lib.hid (show Below w.heap.size w w3 by rw [← hw3]; exact below_drewN G2.out _)
        clear hw3 q0 q2 q3 e1 e2 e3 F2 G2 HS2
        go_wp2_with fail
        exact HNO.out HN.out _ (HD.out ▸ G3.out)
      · have d1 : decide (x.fen < 1) = false := by rw [decide_eq_false_iff_not]; omega
        have d2 : decide (T.lf < x.fen) = false := by rw [decide_eq_false_iff_not]; omega
        have d3 : decide (x.unt ≤ T.now) = false := by rw [decide_eq_false_iff_not]; omega
        have d4 : decide (T.now + 600 < x.unt) = false := by rw [decide_eq_false_iff_not]; omega
        have HOK := Lib.hid (show ((match T.lea.getLast? with | some y => decide (cmpB y.reel x.reel < 0) | none => true) && (decide (x.ses ∈ T.ses) && decide (1 ≤ x.fen) && decide (x.fen ≤ T.lf) && decide (T.now < x.unt) && decide (x.unt ≤ T.now + 600))) = true by
          rw [HLAST.out, ← HB0.out, decide_eq_true c1, decide_eq_true c2, decide_eq_true c3, decide_eq_true c4]
          rfl)
        go_wp2_with fail
        have q0 : w2.cell? ⟨p, 0, none⟩ = some (.int .i64 T.now) := (H.out.ext G2.out).block.cell 0
        have q2 : w2.cell? ⟨p, 2, none⟩ = some (.int .i64 T.lf) := (H.out.ext G2.out).block.cell 2
        have q3 : w2.cell? ⟨p, 3, none⟩ = some (.slice SA T.ses.length sc) := (H.out.ext G2.out).block.cell 3
        have e1 : w2.cell? ⟨D, 1, none⟩ = some (.int .i64 x.ses) := F2.out.cell 1
        have e2 : w2.cell? ⟨D, 2, none⟩ = some (.int .i64 x.fen) := F2.out.cell 2
        have e3 : w2.cell? ⟨D, 3, none⟩ = some (.int .i64 x.unt) := F2.out.cell 3
        have HS2 := Lib.hid (show IntsAt w2 SA T.ses from HSR.out.below G2.out (Nat.le_refl _))
        go_quiet (first | (go_at_call 48; exact Calls.quiet_of_same ((contains_any SA sc T.ses x.ses _ (by first | exact HS2.out | exact IntsAt.drewN HS2.out _) (by omega) HB0.out).mono (by rintro e w' ⟨rfl, rfl⟩; exact ⟨rfl, rfl⟩))))
        generalize hw3 : w2.drewN _ = w3
        have F3 := Lib.hid (show Held w3 D [.string (sB x.reel), .int .i64 x.ses, .int .i64 x.fen, .int .i64 x.unt] by rw [← hw3]; exact F2.out.drewN _)
        have G3 := Lib.hid (show Below w.heap.size w w3 by rw [← hw3]; exact below_drewN G2.out _)
        clear hw3 q0 q2 q3 e1 e2 e3 F2 G2 HS2
        have q4 : w3.cell? ⟨p, 4, none⟩ = some (.slice LA T.lea.length lc) := (H.out.ext G3.out).block.cell 4
        obtain ⟨dup, hdup⟩ : ∃ b, b = T.lea.any (fun y => decide (y.fen = x.fen)) := ⟨_, rfl⟩
        have HDUP := Lib.hid hdup
        have HCF := Lib.hid (dupc_any D LA lc T.lea x.fen w3 (HLR.out.below G3.out (Nat.le_refl _)) (F3.out.cell 2) (by omega) hdup)
        clear hdup
        go_wp2_with fail
        refine HCF.out.mono ?_
        rintro e w4 ⟨rfl, hb4⟩
        have F4 := Lib.hid (F3.out.ext hb4)
        have G4 := Lib.hid (show Below w.heap.size w w4 from G3.out.trans (hb4.mono G3.out.size))
        clear hb4 q4 F3 G3 HCF
        cases hd : dup with
        | true =>
          have HN := Lib.hid (show R = none from HR.out.trans (leaR_no (by
            have h := HDUP.out
            rw [hd] at h
            unfold leaB
            rw [all_of_any h.symm, Bool.and_false])))
          clear hd
          go_wp2_with fail
          exact HNO.out HN.out _ (HD.out ▸ G4.out)
        | false =>
          have HY := Lib.hid (show R = some ⟨T.now, T.ls, T.lf, T.ses, T.lea ++ [x]⟩ from HR.out.trans (leaR_yes (by
            have h := HDUP.out
            rw [hd] at h
            unfold leaB
            rw [all_of_none h.symm, Bool.and_true]
            exact HOK.out)))
          clear hd
          go_wp2_with fail
          have H4 := Lib.hid (H.out.ext G4.out)
          have q4 : w4.cell? ⟨p, 4, none⟩ = some (.slice LA T.lea.length lc) := H4.out.block.cell 4
          have y4 : w4.frozen? ⟨p, 4, none⟩ = false := H4.out.block.free 4
          have e0 : w4.cell? ⟨D, 0, none⟩ = some (Value.string (sB x.reel)) := F4.out.cell 0
          have e1 : w4.cell? ⟨D, 1, none⟩ = some (.int .i64 x.ses) := F4.out.cell 1
          have e2 : w4.cell? ⟨D, 2, none⟩ = some (.int .i64 x.fen) := F4.out.cell 2
          have e3 : w4.cell? ⟨D, 3, none⟩ = some (.int .i64 x.unt) := F4.out.cell 3
          have hpw4 : p < w4.heap.size := H4.out.lt
          have hDw4 : D < w4.heap.size := F4.out.lt
          have hBw : B ≤ w4.heap.size := by omega
          have HOW := Lib.hid H4.out.2.2.2
          have hne : (Value.slice LA T.lea.length lc).ownBlock ≠ some p := H4.out.nel
          obtain ⟨i0, hi, hz0, hz1, hz2⟩ := info_parts infoL
          have FF := Lib.hid ((FrT.refl B p (.slice SA T.ses.length sc) (.slice LA T.lea.length lc) w).ext G4.out (by have := HBw.out; omega))
          clear hsum m5
          go_region_law
            ((refine step_append_lies _ (by rfl) _ _ _ (by rfl) B 49 i0 _ 4 40 Tryz.underlying28 hi hz0 hz1 hz2 rfl (by omega) (.slice LA T.lea.length lc) T.lea.length (T.lea.flatMap lsV) (by rfl) ((HOW.out.alloc _).drew)
                  ⟨w4.heap.size, 0, none⟩ 1 1 (lsV x) (by rfl) (by rfl) (World.news_of_block (cs := #[.string (sB x.reel), .int .i64 x.ses, .int .i64 x.fen, .int .i64 x.unt]) (t := 49) (fr := (0, 0)) (heap_alloc_new w4 _)) (by simp [Value.oneCell', lsV])
                  (by omega) (by simp only [maxLen]; omega) (by omega) (by simp; omega) (w4.heap.size + 1) (by simp) ?_; intro gg cap w5 hown3 hgrow hat hlt; have y5 : w5.frozen? ⟨p, 4, none⟩ = false := (hgrow.frozen_far _ (by simp; omega) (Ne.symm hne)).trans ((World.frozen?_alloc_past (w := w4) _ p 4 hpw4).trans y4); have q5 : w5.cell? ⟨p, 4, none⟩ = some (.slice LA T.lea.length lc) := (hgrow.cell_far _ (by simp; omega) (Ne.symm hne)).trans ((World.cell?_alloc_past (w := w4) _ p 4 hpw4).trans q4)))
          all_goals
            have hb : Below w4.heap.size w4 (w4.alloc (.cells #[.string (sB x.reel), .int .i64 x.ses, .int .i64 x.fen, .int .i64 x.unt] 49)).drew := (below_one _ _).drew
            have F5 := Lib.hid (((FF.out.ext hb hBw).grown hgrow (by simp; omega) (own_base HOW.out) (.inr (.inl rfl))).newL (l2 := .slice (some ⟨gg, 0, none⟩) (T.lea.length + 1) cap) (by
              intro g' hg'
              cases hg'
              rcases hat with h | h
              · exact .inl h
              · have := G4.out.size
                exact .inr (show w.heap.size ≤ gg by omega)))
            have H5 := Lib.hid (Rep.setL (T := T) (L := T.lea ++ [x]) hBp ((hgrow.block p (by simp; omega) (Ne.symm hne)).trans ((hb.block p hpw4).trans H4.out.2.1)) (own_same H4.out.2.2.1 (fun g' hg' => by
              have hg2 := (H4.out.2.2.1.lt g' hg').2
              exact (hgrow.block g' (by simp; omega) (fun e => H4.out.apart hg' e.symm)).trans (hb.block g' hg2))) (by
              rw [List.flatMap_append, List.length_append]
              simpa using hown3))
            have F6 := Lib.hid (F5.out.put hBp 4 (.slice (some ⟨gg, 0, none⟩) (T.lea.length + 1) cap))
            generalize World.setCell w5 _ _ = w6 at *
            clear hgrow hown3 hb F5 y5 q5
            go_wp2
            rw [HQ.out]
            exact ⟨true, rfl, .inl ⟨rfl, _, _, _, HY.out, H5.out, F6.out⟩⟩
end Go.Proofs.YtneiljaknmeagaaGreatDoor
