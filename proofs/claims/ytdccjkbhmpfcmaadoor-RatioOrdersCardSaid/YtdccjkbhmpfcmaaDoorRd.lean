/-
  The contracts of Sub in the reference and of Cmp, in the program and in the reference. Their conditions are their hypotheses.
-/
import Derived.Test.YtdccjkbhmpfcmaaDoorRc
namespace Go.Proofs.YtdccjkbhmpfcmaaDoor
open Go.RowKit
set_option linter.unusedVariables false
set_option linter.unusedSimpArgs false
theorem valid_neg {n d : Int} (h : validV n d = true) : validV (-n) d = true := by
  have b := valid_bd h
  exact valid_of (by omega) (by omega) (by omega) (by omega) (by rw [Int.neg_gcd]; exact b.2.2.2.2)
theorem sub_add {an ad bn bd : Int} (ha : validV an ad = true) (hb : validV bn bd = true) : addV an ad (-bn) bd = subV an ad bn bd := by
  simp [addV, subV, ha, hb, valid_neg hb, Int.neg_mul, Int.sub_eq_add_neg]
def cmpV (an ad bn bd : Int) : Int := if validV an ad && validV bn bd then (if an * bd < bn * ad then -1 else if bn * ad < an * bd then 1 else 0) else 0
theorem cmpV_turn (an ad bn bd : Int) : cmpV bn bd an ad = -cmpV an ad bn bd := by
  unfold cmpV
  rw [Bool.and_comm]
  split
  · by_cases h1 : an * bd < bn * ad
    · rw [if_pos h1, if_neg (by omega), if_pos h1]; rfl
    · by_cases h2 : bn * ad < an * bd
      · rw [if_pos h2, if_neg h1, if_pos h2]
      · rw [if_neg h2, if_neg h1, if_neg h1, if_neg h2]; rfl
  · rfl
theorem cmpV_bd (an ad bn bd : Int) : -1 ≤ cmpV an ad bn bd ∧ cmpV an ad bn bd ≤ 1 := by
  unfold cmpV
  split
  · split
    · omega
    · split <;> omega
  · omega
theorem nan_any (n : Int) (w : World) : Calls Tryd.prog 60 #[.int .i64 n] w fun e w' => e = .returned (.bool false) ∧ w' = w := by
  go_enter Tryd.func60, Tryd.ntmps60
  go_wp2_with fail
  go_ret
  exact ⟨rfl, rfl⟩
theorem compare_any (x y : Int) (w : World) : Calls Tryd.prog 53 #[.int .i64 x, .int .i64 y] w fun e w' => e = .returned (.int .i64 (if x < y then -1 else if y < x then 1 else 0)) ∧ w' = w := by
  obtain ⟨V, hV⟩ : ∃ V : Int, V = (if x < y then -1 else if y < x then 1 else 0) := ⟨_, rfl⟩
  rw [← hV]
  have HV := Lib.hid hV
  clear hV
  go_enter Tryd.func53, Tryd.ntmps53
  go_wp2_with fail
  refine (nan_any x _).mono ?_
  rintro e w' ⟨rfl, rfl⟩
  go_wp2_with fail
  refine (nan_any y _).mono ?_
  rintro e w' ⟨rfl, rfl⟩
  by_cases h1 : x < y
  · have HV2 := Lib.hid (show V = -1 by rw [HV.out, if_pos h1])
    go_wp2_with fail
    go_ret
    exact ⟨by rw [HV2.out]; rfl, rfl⟩
  · by_cases h2 : y < x
    · have HV2 := Lib.hid (show V = 1 by rw [HV.out, if_neg h1, if_pos h2])
      go_wp2_with fail
      go_ret
      exact ⟨by rw [HV2.out]; rfl, rfl⟩
    · have HV2 := Lib.hid (show V = 0 by rw [HV.out, if_neg h1, if_neg h2])
      obtain rfl : x = y := by omega
      clear h1 h2
      go_wp2_with fail
      go_ret
      exact ⟨by rw [HV2.out]; rfl, rfl⟩
theorem subr_any (an ad bn bd : Int) (w : World) (h1 : I64 an) (h2 : I64 ad) (h3 : I64 bn) (h4 : I64 bd) :
    Calls Tryd.prog 29 #[rat an ad, rat bn bd] w fun e w' => e = .returned (pairE (subV an ad bn bd)) ∧ Below w.heap.size w w' := by
  have H1 := Lib.hid h1
  have H2 := Lib.hid h2
  have H3 := Lib.hid h3
  have H4 := Lib.hid h4
  clear h1 h2 h3 h4
  obtain ⟨R, hR⟩ : ∃ R, R = subV an ad bn bd := ⟨_, rfl⟩
  have HR := Lib.hid hR
  rw [← hR]
  obtain ⟨B, hB⟩ : ∃ B, B = w.heap.size := ⟨_, rfl⟩
  have HB := Lib.hid hB
  rw [← hB]
  clear hR
  go_enter Tryd.func29, Tryd.ntmps29
  go_wp2_with fail
  rw [← hB]
  generalize hw1 : World.alloc _ _ = w1
  have f0 : Held w1 B [.int .i64 an, .int .i64 ad] := by subst hw1; exact ((Held.new hB).alloc _).alloc _
  have f1 : Held w1 (B + 1) [.int .i64 bn, .int .i64 bd] := by subst hw1; exact (Held.new (by simp [hB])).alloc _
  have f2 : Held w1 (B + 2) [.int .i64 0, .int .i64 0] := by subst hw1; exact Held.new (by simp [hB])
  have fb : Below B w w1 := by subst hw1; rw [hB]; exact ((below_one _ _).alloc (by simp) _).alloc (by simp; omega) _
  have fs : B + 3 ≤ w1.heap.size := by subst hw1; simp [hB]
  clear hw1 hB
  refine (validr_any an ad _ H1.out H2.out).mono ?_
  rintro e w2 ⟨rfl, hb⟩
  have f0 := f0.ext hb
  have f1 := f1.ext hb
  have f2 := f2.ext hb
  have fb := fb.trans (hb.mono (by omega))
  have fs := Nat.le_trans fs hb.size
  clear hb
  have F0 := Lib.hid f0
  have F1 := Lib.hid f1
  have F2 := Lib.hid f2
  have FB := Lib.hid fb
  obtain ⟨a0, a1, _, _⟩ := f0.two
  obtain ⟨b0, b1, _, _⟩ := f1.two
  obtain ⟨r0, r1, r2, r3⟩ := f2.two
  clear f0 f1 f2 fb
  cases ha : validV an ad with
  | false =>
    have HR2 := Lib.hid (show R = ((0, 0), 1) by rw [HR.out, subV, if_neg (by simp [ha])])
    clear HR
    go_wp2_with fail
    have r := Lib.hid (((F2.out).set 0 (.int .i64 (0))).set 1 (.int .i64 (0)))
    have rb := Lib.hid ((FB.out.setCell (p := ⟨B + 2, 0, none⟩) (by simp) (.int .i64 (0))).setCell (p := ⟨B + 2, 1, none⟩) (by simp) (.int .i64 (0)))
    generalize World.setCell _ _ _ = w4 at *
    have r0' := r.out.cell 0
    have r1' := r.out.cell 1
    simp only [List.set_cons_zero, List.set_cons_succ, List.getElem?_cons_zero, List.getElem?_cons_succ] at r0' r1'
    refine bodyPost_ret (by simp [results, Tryd.results29, r0', r1', go_sem]; try rfl) rfl ?_
    exact ⟨by first | (rw [HR2.out]; done) | (rw [HR2.out]; rfl), rb.out⟩
  | true =>
    go_wp2_with fail
    refine (validr_any bn bd _ H3.out H4.out).mono ?_
    rintro e w3 ⟨rfl, hb⟩
    have f0 := F0.out
    have f1 := F1.out
    have f2 := F2.out
    have fb := FB.out
    clear a0 a1 b0 b1 r0 r1 r2 r3
    have f0 := f0.ext hb
    have f1 := f1.ext hb
    have f2 := f2.ext hb
    have fb := fb.trans (hb.mono (by omega))
    have fs := Nat.le_trans fs hb.size
    clear hb
    have F0 := Lib.hid f0
    have F1 := Lib.hid f1
    have F2 := Lib.hid f2
    have FB := Lib.hid fb
    obtain ⟨a0, a1, _, _⟩ := f0.two
    obtain ⟨b0, b1, _, _⟩ := f1.two
    obtain ⟨r0, r1, r2, r3⟩ := f2.two
    clear f0 f1 f2 fb
    cases hb : validV bn bd with
    | false =>
      have HR2 := Lib.hid (show R = ((0, 0), 1) by rw [HR.out, subV, if_neg (by simp [ha, hb])])
      clear HR
      go_wp2_with fail
      have r := Lib.hid (((F2.out).set 0 (.int .i64 (0))).set 1 (.int .i64 (0)))
      have rb := Lib.hid ((FB.out.setCell (p := ⟨B + 2, 0, none⟩) (by simp) (.int .i64 (0))).setCell (p := ⟨B + 2, 1, none⟩) (by simp) (.int .i64 (0)))
      generalize World.setCell _ _ _ = w4 at *
      have r0' := r.out.cell 0
      have r1' := r.out.cell 1
      simp only [List.set_cons_zero, List.set_cons_succ, List.getElem?_cons_zero, List.getElem?_cons_succ] at r0' r1'
      refine bodyPost_ret (by simp [results, Tryd.results29, r0', r1', go_sem]; try rfl) rfl ?_
      exact ⟨by first | (rw [HR2.out]; done) | (rw [HR2.out]; rfl), rb.out⟩
    | true =>
      have HR2 := Lib.hid (show addV an ad (-bn) bd = R by rw [HR.out, sub_add ha hb])
      have bv := valid_bd hb
      obtain ⟨bv1, bv2, bv3, bv4, _⟩ := bv
      clear HR ha hb
      go_wp2_with fail
      refine (addr_any an ad (-bn) bd _ H1.out H2.out ⟨by omega, by omega⟩ H4.out).mono ?_
      rintro e w4 ⟨rfl, hb⟩
      have f0 := F0.out
      have f1 := F1.out
      have f2 := F2.out
      have fb := FB.out
      clear a0 a1 b0 b1 r0 r1 r2 r3
      have f0 := f0.ext hb
      have f1 := f1.ext hb
      have f2 := f2.ext hb
      have fb := fb.trans (hb.mono (by omega))
      have fs := Nat.le_trans fs hb.size
      clear hb
      have F0 := Lib.hid f0
      have F1 := Lib.hid f1
      have F2 := Lib.hid f2
      have FB := Lib.hid fb
      obtain ⟨a0, a1, _, _⟩ := f0.two
      obtain ⟨b0, b1, _, _⟩ := f1.two
      obtain ⟨r0, r1, r2, r3⟩ := f2.two
      clear f0 f1 f2 fb
      rw [HR2.out]
      clear HR2
      obtain ⟨⟨P, Q⟩, E⟩ := R
      dsimp only [pairE]
      go_wp2_with fail
      have r := Lib.hid (((F2.out).set 0 (.int .i64 (P))).set 1 (.int .i64 (Q)))
      have rb := Lib.hid ((FB.out.setCell (p := ⟨B + 2, 0, none⟩) (by simp) (.int .i64 (P))).setCell (p := ⟨B + 2, 1, none⟩) (by simp) (.int .i64 (Q)))
      generalize World.setCell _ _ _ = w4 at *
      have r0' := r.out.cell 0
      have r1' := r.out.cell 1
      simp only [List.set_cons_zero, List.set_cons_succ, List.getElem?_cons_zero, List.getElem?_cons_succ] at r0' r1'
      refine bodyPost_ret (by simp [results, Tryd.results29, r0', r1', go_sem]; try rfl) rfl ?_
      exact ⟨by first | (rw [show pairE ((P, Q), E) = _ from rfl]; done) | (rw [show pairE ((P, Q), E) = _ from rfl]; rfl), rb.out⟩
theorem cmp_any (an ad bn bd : Int) (w : World) (h1 : I64 an) (h2 : I64 ad) (h3 : I64 bn) (h4 : I64 bd) :
    Calls Tryd.prog 34 #[rat an ad, rat bn bd] w fun e w' => e = .returned (.int .i64 (cmpV an ad bn bd)) ∧ Below w.heap.size w w' := by
  have H1 := Lib.hid h1
  have H2 := Lib.hid h2
  have H3 := Lib.hid h3
  have H4 := Lib.hid h4
  clear h1 h2 h3 h4
  obtain ⟨R, hR⟩ : ∃ R, R = cmpV an ad bn bd := ⟨_, rfl⟩
  have HR := Lib.hid hR
  rw [← hR]
  obtain ⟨B, hB⟩ : ∃ B, B = w.heap.size := ⟨_, rfl⟩
  have HB := Lib.hid hB
  rw [← hB]
  clear hR
  go_enter Tryd.func34, Tryd.ntmps34
  go_wp2_with fail
  rw [← hB]
  generalize hw1 : World.alloc _ _ = w1
  have f0 : Held w1 B [.int .i64 an, .int .i64 ad] := by subst hw1; exact (Held.new hB).alloc _
  have f1 : Held w1 (B + 1) [.int .i64 bn, .int .i64 bd] := by subst hw1; exact Held.new (by simp [hB])
  have fb : Below B w w1 := by subst hw1; rw [hB]; exact (below_one _ _).alloc (by simp) _
  have fs : B + 2 ≤ w1.heap.size := by subst hw1; simp [hB]
  clear hw1 hB
  refine (both_any an ad bn bd _ H1.out H2.out H3.out H4.out).mono ?_
  rintro e w2 ⟨rfl, hb⟩
  have f0 := f0.ext hb
  have f1 := f1.ext hb
  have fb := fb.trans (hb.mono (by omega))
  have fs := Nat.le_trans fs hb.size
  clear hb
  have F0 := Lib.hid f0
  have F1 := Lib.hid f1
  have FB := Lib.hid fb
  obtain ⟨a0, a1, _, _⟩ := f0.two
  obtain ⟨b0, b1, _, _⟩ := f1.two
  clear f0 f1 fb
  cases ha : validV an ad with
  | false =>
    have HR2 := Lib.hid (show R = 0 by rw [HR.out, cmpV, if_neg (by simp [ha])])
    clear HR
    go_wp2_with fail
    go_ret
    exact ⟨by rw [HR2.out]; rfl, FB.out⟩
  | true =>
    cases hb : validV bn bd with
    | false =>
      have HR2 := Lib.hid (show R = 0 by rw [HR.out, cmpV, if_neg (by simp [ha, hb])])
      clear HR
      go_wp2_with fail
      go_ret
      exact ⟨by rw [HR2.out]; rfl, FB.out⟩
    | true =>
      have HR2 := Lib.hid (show R = (if an * bd < bn * ad then -1 else if bn * ad < an * bd then 1 else 0) by rw [HR.out, cmpV, if_pos (by simp [ha, hb])])
      have av := valid_bd ha
      have bv := valid_bd hb
      have p1 := prod_bd (x := an) (y := bd) (by omega) (by omega) (by omega) (by omega)
      have p2 := prod_bd (x := bn) (y := ad) (by omega) (by omega) (by omega) (by omega)
      clear HR ha hb av bv
      have HC := Lib.hid (fun w => compare_any (an * bd) (bn * ad) w)
      rw [← HR2.out] at HC
      go_wp2_with fail
      refine (HC.out _).mono ?_
      rintro e w3 ⟨rfl, rfl⟩
      go_wp2_with fail
      go_ret
      exact ⟨rfl, FB.out⟩
theorem cmpr_any (an ad bn bd : Int) (w : World) (h1 : I64 an) (h2 : I64 ad) (h3 : I64 bn) (h4 : I64 bd) :
    Calls Tryd.prog 35 #[rat an ad, rat bn bd] w fun e w' => e = .returned (.int .i64 (cmpV an ad bn bd)) ∧ Below w.heap.size w w' := by
  have H1 := Lib.hid h1
  have H2 := Lib.hid h2
  have H3 := Lib.hid h3
  have H4 := Lib.hid h4
  clear h1 h2 h3 h4
  obtain ⟨R, hR⟩ : ∃ R, R = cmpV an ad bn bd := ⟨_, rfl⟩
  have HR := Lib.hid hR
  rw [← hR]
  obtain ⟨B, hB⟩ : ∃ B, B = w.heap.size := ⟨_, rfl⟩
  have HB := Lib.hid hB
  rw [← hB]
  clear hR
  go_enter Tryd.func35, Tryd.ntmps35
  go_wp2_with fail
  rw [← hB]
  generalize hw1 : World.alloc _ _ = w1
  have f0 : Held w1 B [.int .i64 an, .int .i64 ad] := by subst hw1; exact (Held.new hB).alloc _
  have f1 : Held w1 (B + 1) [.int .i64 bn, .int .i64 bd] := by subst hw1; exact Held.new (by simp [hB])
  have fb : Below B w w1 := by subst hw1; rw [hB]; exact (below_one _ _).alloc (by simp) _
  have fs : B + 2 ≤ w1.heap.size := by subst hw1; simp [hB]
  clear hw1 hB
  refine (validr_any an ad _ H1.out H2.out).mono ?_
  rintro e w2 ⟨rfl, hb⟩
  have f0 := f0.ext hb
  have f1 := f1.ext hb
  have fb := fb.trans (hb.mono (by omega))
  have fs := Nat.le_trans fs hb.size
  clear hb
  have F0 := Lib.hid f0
  have F1 := Lib.hid f1
  have FB := Lib.hid fb
  obtain ⟨a0, a1, _, _⟩ := f0.two
  obtain ⟨b0, b1, _, _⟩ := f1.two
  clear f0 f1 fb
  cases ha : validV an ad with
  | false =>
    have HR2 := Lib.hid (show R = 0 by rw [HR.out, cmpV, if_neg (by simp [ha])])
    clear HR
    go_wp2_with fail
    go_ret
    exact ⟨by rw [HR2.out]; rfl, FB.out⟩
  | true =>
    go_wp2_with fail
    refine (validr_any bn bd _ H3.out H4.out).mono ?_
    rintro e w3 ⟨rfl, hb⟩
    have f0 := F0.out
    have f1 := F1.out
    have fb := FB.out
    clear a0 a1 b0 b1
    have f0 := f0.ext hb
    have f1 := f1.ext hb
    have fb := fb.trans (hb.mono (by omega))
    have fs := Nat.le_trans fs hb.size
    clear hb
    have F0 := Lib.hid f0
    have F1 := Lib.hid f1
    have FB := Lib.hid fb
    obtain ⟨a0, a1, _, _⟩ := f0.two
    obtain ⟨b0, b1, _, _⟩ := f1.two
    clear f0 f1 fb
    cases hb : validV bn bd with
    | false =>
      have HR2 := Lib.hid (show R = 0 by rw [HR.out, cmpV, if_neg (by simp [ha, hb])])
      clear HR
      go_wp2_with fail
      go_ret
      exact ⟨by rw [HR2.out]; rfl, FB.out⟩
    | true =>
      have HR2 := Lib.hid (show R = (if an * bd < bn * ad then -1 else if bn * ad < an * bd then 1 else 0) by rw [HR.out, cmpV, if_pos (by simp [ha, hb])])
      have av := valid_bd ha
      have bv := valid_bd hb
      have p1 := prod_bd (x := an) (y := bd) (by omega) (by omega) (by omega) (by omega)
      have p2 := prod_bd (x := bn) (y := ad) (by omega) (by omega) (by omega) (by omega)
      clear HR ha hb av bv
      go_wp2_with fail
      go_quiet (fail)
      generalize an * bd = X at *
      generalize bn * ad = Y at *
      have FB2 := Lib.hid (below_drewN FB.out nq)
      by_cases h1 : X < Y
      · rw [if_pos h1] at HR2
        go_wp2_with fail
        go_ret
        exact ⟨by rw [HR2.out]; rfl, FB2.out⟩
      · rw [if_neg h1] at HR2
        by_cases h2 : Y < X
        · rw [if_pos h2] at HR2
          go_wp2_with fail
          go_ret
          exact ⟨by rw [HR2.out]; rfl, FB2.out⟩
        · rw [if_neg h2] at HR2
          obtain rfl : X = Y := by omega
          clear h1 h2
          go_wp2_with fail
          go_ret
          exact ⟨by rw [HR2.out]; rfl, FB2.out⟩
end Go.Proofs.YtdccjkbhmpfcmaaDoor
