/-
  The contract of Make in the reference. Its conditions are its hypotheses.
-/
import Derived.Test.YtdccjkbhmpfcmaaDoorR2
import Derived.Test.YtdccjkbhmpfcmaaDoorSt
namespace Go.Proofs.YtdccjkbhmpfcmaaDoor
open Go.RowKit Go.Joins
set_option linter.unusedVariables false
set_option linter.unusedSimpArgs false
theorem maker_any (n d : Int) (w : World) (hn : -9223372036854775808 ≤ n ∧ n ≤ 9223372036854775807) (hd : -9223372036854775808 ≤ d ∧ d ≤ 9223372036854775807) :
    Calls Tryd.prog 15 #[.int .i64 n, .int .i64 d] w fun e w' => e = .returned (pairE (makeV n d)) ∧ Below w.heap.size w w' := by
  obtain ⟨n1, n2⟩ := hn
  obtain ⟨d1, d2⟩ := hd
  by_cases h0 : d = 0
  · subst h0
    rw [show makeV n 0 = ((0, 0), 1) by simp [makeV]]
    go_enter Tryd.func15, Tryd.ntmps15
    go_wp2_with fail
    go_returns
    exact ⟨rfl, below_one _ _⟩
  · have h0' : (d == 0) = false := by simpa using h0
    by_cases hl : n = -9223372036854775808 ∨ d = -9223372036854775808
    · rw [show makeV n d = ((0, 0), 2) by rw [makeV, if_neg h0, if_pos hl]]
      by_cases l1 : n = -9223372036854775808
      · subst l1
        clear hl
        go_enter Tryd.func15, Tryd.ntmps15
        go_wp2_with fail
        go_returns
        exact ⟨rfl, below_one _ _⟩
      · obtain rfl : d = -9223372036854775808 := by omega
        have l2 : (n == -9223372036854775808) = false := by simpa using l1
        clear hl
        go_enter Tryd.func15, Tryd.ntmps15
        go_wp2_with fail
        go_returns
        exact ⟨rfl, below_one _ _⟩
    · have l1 : (n == -9223372036854775808) = false := by rw [beq_eq_false_iff_ne]; omega
      have l2 : (d == -9223372036854775808) = false := by rw [beq_eq_false_iff_ne]; omega
      have c1 : -9223372036854775807 ≤ n := by omega
      have c2 : -9223372036854775807 ≤ d := by omega
      have l3 : n ≠ -9223372036854775808 := by omega
      have l4 : d ≠ -9223372036854775808 := by omega
      obtain ⟨s1, s2, s3, s4, s5⟩ := red_spec h0 l3 l4
      obtain ⟨V, hV⟩ : ∃ V, V = makeV n d := ⟨_, rfl⟩
      have HV := Lib.hid (hV.trans (show makeV n d = (if partsV (redV n d).1 (redV n d).2 then (redV n d, 0) else ((0, 0), 2)) by rw [makeV, if_neg h0, if_neg hl]))
      rw [← hV]
      clear hV hl
      by_cases hs : d < 0
      · have e1 : redV n d = ((-n).tdiv (gcdV n d), (-d).tdiv (gcdV n d)) := by rw [redV, if_pos hs]
        have eg : gcdV (-n) (-d) = gcdV n d := gcd_neg2 l3 l4
        rw [if_pos hs] at s2 s3
        have t2 := le_of_mul s1 s2
        have t3 := le_of_mul s1 s3
        rw [e1] at t2 t3 s5
        dsimp only at t2 t3 s5
        have S2 := Lib.hid s2
        have S3 := Lib.hid s3
        have S4 := Lib.hid s4
        have E1 := Lib.hid e1
        have EG := Lib.hid eg
        clear s2 s3 s4 e1 eg
        go_enter Tryd.func15, Tryd.ntmps15
        go_wp2_with fail
        refine (gcdr_any _ _ _ (by omega) (by omega)).mono ?_
        rintro e w' ⟨rfl, k, rfl⟩
        rw [EG.out]
        rw [E1.out] at S2 S3 S4 HV
        dsimp only at S2 S3 S4 HV
        have VALID := Lib.hid (valid_red h0 l3 l4)
        rw [E1.out] at VALID
        dsimp only at VALID
        clear E1 EG
        generalize gcdV n d = g at *
        have bn1 : -9223372036854775807 ≤ -n := by omega
        have bn2 : -n ≤ 9223372036854775807 := by omega
        have bd1 : -9223372036854775807 ≤ -d := by omega
        have bd2 : -d ≤ 9223372036854775807 := by omega
        generalize -n = n' at *
        generalize -d = d' at *
        have gb : (g == 0) = false := by rw [beq_eq_false_iff_ne]; omega
        go_wp2_with fail
        go_region
        generalize n'.tdiv g = P at *
        generalize d'.tdiv g = Q at *
        obtain ⟨B, hB⟩ : ∃ B, B = w.heap.size := ⟨_, rfl⟩
        have HB := Lib.hid hB
        rw [← hB]
        generalize hw2 : (World.alloc _ _) = w2
        have f1 : Held w2 B [.int .i64 0, .int .i64 0] := by subst hw2; exact ((Held.new hB).drewN _).alloc _
        have f2 : CellsAt w2 (B + 1) 0 [.int .i64 P, .int .i64 Q] := by subst hw2; simp [CellsAt, go_sem, hB]
        have f3 : Below B w w2 := by subst hw2; rw [hB]; exact (below_drewN (below_one _ _) _).alloc (by simp) _
        have f4 : w2.heap.size = B + 2 := by subst hw2; simp [hB]
        have F1 := Lib.hid f1
        have F2 := Lib.hid f2
        simp only [CellsAt, Nat.zero_add, Nat.reduceAdd, and_true] at f2
        obtain ⟨j0, j1⟩ := f2
        clear hw2 hB f1
        go_wp2_with fail
        refine (validr_any P Q _ (by omega) (by omega)).mono ?_
        rintro e w3 ⟨rfl, hb3⟩
        have g1 := (F1.out).below hb3 (by omega)
        have g2 := (F2.out).below hb3 (by omega)
        have G3 := Lib.hid (f3.trans (hb3.mono (by omega)))
        have k0 := g1.cell 0
        have k1 := g1.cell 1
        have k2 := g1.free 0
        have k3 := g1.free 1
        simp only [CellsAt, Nat.zero_add, Nat.reduceAdd, and_true] at g2
        obtain ⟨k4, k5⟩ := g2
        have G1 := Lib.hid g1
        clear j0 j1 f3 f4 hb3 g1
        rw [VALID.out]
        cases hp : partsV P Q with
        | true =>
          rw [hp] at HV
          clear hp
          go_wp2_with fail
          have r := Lib.hid (((G1.out).set 0 (.int .i64 P)).set 1 (.int .i64 Q))
          have rb := Lib.hid ((G3.out.setCell (p := ⟨B, 0, none⟩) (Nat.le_refl _) (.int .i64 P)).setCell (p := ⟨B, 1, none⟩) (Nat.le_refl _) (.int .i64 Q))
          generalize World.setCell _ _ _ = w4 at *
          have r0 := r.out.cell 0
          have r1 := r.out.cell 1
          simp only [List.set_cons_zero, List.set_cons_succ, List.getElem?_cons_zero, List.getElem?_cons_succ] at r0 r1
          refine bodyPost_ret (by simp [results, Tryd.results15, r0, r1, go_sem]; try rfl) rfl ?_
          exact ⟨by rw [HV.out]; rfl, by rw [← HB.out]; exact rb.out⟩
        | false =>
          rw [hp] at HV
          clear hp
          go_wp2_with fail
          have r := Lib.hid (((G1.out).set 0 (.int .i64 0)).set 1 (.int .i64 0))
          have rb := Lib.hid ((G3.out.setCell (p := ⟨B, 0, none⟩) (Nat.le_refl _) (.int .i64 0)).setCell (p := ⟨B, 1, none⟩) (Nat.le_refl _) (.int .i64 0))
          generalize World.setCell _ _ _ = w4 at *
          have r0 := r.out.cell 0
          have r1 := r.out.cell 1
          simp only [List.set_cons_zero, List.set_cons_succ, List.getElem?_cons_zero, List.getElem?_cons_succ] at r0 r1
          refine bodyPost_ret (by simp [results, Tryd.results15, r0, r1, go_sem]; try rfl) rfl ?_
          exact ⟨by rw [HV.out]; rfl, by rw [← HB.out]; exact rb.out⟩
      · have e1 : redV n d = (n.tdiv (gcdV n d), d.tdiv (gcdV n d)) := by rw [redV, if_neg hs]
        have eg : gcdV n d = gcdV n d := rfl
        rw [if_neg hs] at s2 s3
        have t2 := le_of_mul s1 s2
        have t3 := le_of_mul s1 s3
        rw [e1] at t2 t3 s5
        dsimp only at t2 t3 s5
        have S2 := Lib.hid s2
        have S3 := Lib.hid s3
        have S4 := Lib.hid s4
        have E1 := Lib.hid e1
        clear s2 s3 s4 e1 eg
        go_enter Tryd.func15, Tryd.ntmps15
        go_wp2_with fail
        refine (gcdr_any _ _ _ (by omega) (by omega)).mono ?_
        rintro e w' ⟨rfl, k, rfl⟩
        rw [E1.out] at S2 S3 S4 HV
        dsimp only at S2 S3 S4 HV
        have VALID := Lib.hid (valid_red h0 l3 l4)
        rw [E1.out] at VALID
        dsimp only at VALID
        clear E1
        generalize gcdV n d = g at *
        have gb : (g == 0) = false := by rw [beq_eq_false_iff_ne]; omega
        go_wp2_with fail
        go_region
        generalize n.tdiv g = P at *
        generalize d.tdiv g = Q at *
        obtain ⟨B, hB⟩ : ∃ B, B = w.heap.size := ⟨_, rfl⟩
        have HB := Lib.hid hB
        rw [← hB]
        generalize hw2 : (World.alloc _ _) = w2
        have f1 : Held w2 B [.int .i64 0, .int .i64 0] := by subst hw2; exact ((Held.new hB).drewN _).alloc _
        have f2 : CellsAt w2 (B + 1) 0 [.int .i64 P, .int .i64 Q] := by subst hw2; simp [CellsAt, go_sem, hB]
        have f3 : Below B w w2 := by subst hw2; rw [hB]; exact (below_drewN (below_one _ _) _).alloc (by simp) _
        have f4 : w2.heap.size = B + 2 := by subst hw2; simp [hB]
        have F1 := Lib.hid f1
        have F2 := Lib.hid f2
        simp only [CellsAt, Nat.zero_add, Nat.reduceAdd, and_true] at f2
        obtain ⟨j0, j1⟩ := f2
        clear hw2 hB f1
        go_wp2_with fail
        refine (validr_any P Q _ (by omega) (by omega)).mono ?_
        rintro e w3 ⟨rfl, hb3⟩
        have g1 := (F1.out).below hb3 (by omega)
        have g2 := (F2.out).below hb3 (by omega)
        have G3 := Lib.hid (f3.trans (hb3.mono (by omega)))
        have k0 := g1.cell 0
        have k1 := g1.cell 1
        have k2 := g1.free 0
        have k3 := g1.free 1
        simp only [CellsAt, Nat.zero_add, Nat.reduceAdd, and_true] at g2
        obtain ⟨k4, k5⟩ := g2
        have G1 := Lib.hid g1
        clear j0 j1 f3 f4 hb3 g1
        rw [VALID.out]
        cases hp : partsV P Q with
        | true =>
          rw [hp] at HV
          clear hp
          go_wp2_with fail
          have r := Lib.hid (((G1.out).set 0 (.int .i64 P)).set 1 (.int .i64 Q))
          have rb := Lib.hid ((G3.out.setCell (p := ⟨B, 0, none⟩) (Nat.le_refl _) (.int .i64 P)).setCell (p := ⟨B, 1, none⟩) (Nat.le_refl _) (.int .i64 Q))
          generalize World.setCell _ _ _ = w4 at *
          have r0 := r.out.cell 0
          have r1 := r.out.cell 1
          simp only [List.set_cons_zero, List.set_cons_succ, List.getElem?_cons_zero, List.getElem?_cons_succ] at r0 r1
          refine bodyPost_ret (by simp [results, Tryd.results15, r0, r1, go_sem]; try rfl) rfl ?_
          exact ⟨by rw [HV.out]; rfl, by rw [← HB.out]; exact rb.out⟩
        | false =>
          rw [hp] at HV
          clear hp
          go_wp2_with fail
          have r := Lib.hid (((G1.out).set 0 (.int .i64 0)).set 1 (.int .i64 0))
          have rb := Lib.hid ((G3.out.setCell (p := ⟨B, 0, none⟩) (Nat.le_refl _) (.int .i64 0)).setCell (p := ⟨B, 1, none⟩) (Nat.le_refl _) (.int .i64 0))
          generalize World.setCell _ _ _ = w4 at *
          have r0 := r.out.cell 0
          have r1 := r.out.cell 1
          simp only [List.set_cons_zero, List.set_cons_succ, List.getElem?_cons_zero, List.getElem?_cons_succ] at r0 r1
          refine bodyPost_ret (by simp [results, Tryd.results15, r0, r1, go_sem]; try rfl) rfl ?_
          exact ⟨by rw [HV.out]; rfl, by rw [← HB.out]; exact rb.out⟩
end Go.Proofs.YtdccjkbhmpfcmaaDoor
