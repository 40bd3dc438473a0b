/-
  The contracts of Scale and Round in the program. Their conditions are their hypotheses.
-/
import Derived.Test.YtdccjkbhmpfcmaaDoorRc
import Derived.Test.YtdccjkbhmpfcmaaDoorRe
namespace Go.Proofs.YtdccjkbhmpfcmaaDoor
open Go.RowKit
set_option linter.unusedVariables false
set_option linter.unusedSimpArgs false
def roundV (n d m : Int) : Int × Int := if validV n d then quotV n d m else (0, 1)
theorem round_any (n d m : Int) (w : World) (h1 : I64 n) (h2 : I64 d) :
    Calls Tryd.prog 38 #[rat n d, .int .u8 m] w fun e w' => e = .returned (numE (roundV n d m)) ∧ Below w.heap.size w w' := by
  have H1 := Lib.hid h1
  have H2 := Lib.hid h2
  clear h1 h2
  obtain ⟨R, hR⟩ : ∃ R, R = roundV n d m := ⟨_, rfl⟩
  have HR := Lib.hid hR
  rw [← hR]
  clear hR
  obtain ⟨B, hB⟩ : ∃ B, B = w.heap.size := ⟨_, rfl⟩
  have HB := Lib.hid hB
  rw [← hB]
  go_enter Tryd.func38, Tryd.ntmps38
  go_wp2_with fail
  rw [← hB]
  generalize hw1 : World.alloc _ _ = w1
  have f0 : Held w1 B [.int .i64 n, .int .i64 d] := by subst hw1; exact Held.new hB
  have fb : Below B w w1 := by subst hw1; rw [hB]; exact below_one _ _
  have fs : B + 1 ≤ w1.heap.size := by subst hw1; simp [hB]
  clear hw1 hB
  refine (valid_any n d _ H1.out H2.out).mono ?_
  rintro e w2 ⟨rfl, hb⟩
  have FB := Lib.hid (fb.trans (hb.mono (by omega)))
  obtain ⟨c0, c1, _, _⟩ := (f0.ext hb).two
  clear f0 fb hb
  cases hv : validV n d with
  | false =>
    have HR2 := Lib.hid (show R = (0, 1) by rw [HR.out, roundV, if_neg (by simp [hv])])
    go_wp2_with fail
    go_ret2
    exact ⟨by rw [HR2.out]; rfl, FB.out⟩
  | true =>
    have HR2 := Lib.hid (show R = quotV n d m by rw [HR.out, roundV, if_pos hv])
    go_wp2_with fail
    refine (quotient_any n d m _ H1.out.1 H1.out.2 H2.out.1 H2.out.2).mono ?_
    rintro e w3 ⟨rfl, k, rfl⟩
    dsimp only [numE]
    go_wp2_with fail
    go_ret2
    exact ⟨by rw [HR2.out]; rfl, below_drewN FB.out k⟩
theorem roundr_any (n d m : Int) (w : World) (h1 : I64 n) (h2 : I64 d) :
    Calls Tryd.prog 39 #[rat n d, .int .u8 m] w fun e w' => e = .returned (numE (roundV n d m)) ∧ Below w.heap.size w w' := by
  have H1 := Lib.hid h1
  have H2 := Lib.hid h2
  clear h1 h2
  obtain ⟨R, hR⟩ : ∃ R, R = roundV n d m := ⟨_, rfl⟩
  have HR := Lib.hid hR
  rw [← hR]
  clear hR
  obtain ⟨B, hB⟩ : ∃ B, B = w.heap.size := ⟨_, rfl⟩
  have HB := Lib.hid hB
  rw [← hB]
  go_enter Tryd.func39, Tryd.ntmps39
  go_wp2_with fail
  rw [← hB]
  generalize hw1 : World.alloc _ _ = w1
  have f0 : Held w1 B [.int .i64 n, .int .i64 d] := by subst hw1; exact Held.new hB
  have fb : Below B w w1 := by subst hw1; rw [hB]; exact below_one _ _
  have fs : B + 1 ≤ w1.heap.size := by subst hw1; simp [hB]
  clear hw1 hB
  refine (validr_any n d _ H1.out H2.out).mono ?_
  rintro e w2 ⟨rfl, hb⟩
  have FB := Lib.hid (fb.trans (hb.mono (by omega)))
  obtain ⟨c0, c1, _, _⟩ := (f0.ext hb).two
  clear f0 fb hb
  cases hv : validV n d with
  | false =>
    have HR2 := Lib.hid (show R = (0, 1) by rw [HR.out, roundV, if_neg (by simp [hv])])
    go_wp2_with fail
    go_ret2
    exact ⟨by rw [HR2.out]; rfl, FB.out⟩
  | true =>
    have HR2 := Lib.hid (show R = quotV n d m by rw [HR.out, roundV, if_pos hv])
    go_wp2_with fail
    refine (quotientr_any n d m _ H1.out.1 H1.out.2 H2.out.1 H2.out.2).mono ?_
    rintro e w3 ⟨rfl, k, rfl⟩
    dsimp only [numE]
    go_wp2_with fail
    go_ret2
    exact ⟨by rw [HR2.out]; rfl, below_drewN FB.out k⟩
set_option maxRecDepth 4000 in
set_option maxHeartbeats 2000000 in
theorem scale_any (x n d m : Int) (w : World) (h0 : I64 x) (h1 : I64 n) (h2 : I64 d) :
    Calls Tryd.prog 36 #[.int .i64 x, rat n d, .int .u8 m] w fun e w' => e = .returned (numE (scaleV x n d m)) ∧ Below w.heap.size w w' := by
  have H1 := Lib.hid h1
  have H2 := Lib.hid h2
  obtain ⟨x1, x2⟩ := h0
  clear h1 h2
  obtain ⟨V, hV⟩ : ∃ V, V = scaleV x n d m := ⟨_, rfl⟩
  rw [← hV]
  have HV := Lib.hid hV
  obtain ⟨B, hB⟩ : ∃ B, B = w.heap.size := ⟨_, rfl⟩
  have HB := Lib.hid hB
  rw [← hB]
  clear hV
  go_enter Tryd.func36, Tryd.ntmps36
  go_wp2_with fail
  rw [← hB]
  generalize hw1 : World.alloc _ _ = w1
  have f0 : Held w1 B [.int .i64 n, .int .i64 d] := by subst hw1; exact Held.new hB
  have fb : Below B w w1 := by subst hw1; rw [hB]; exact below_one _ _
  have fs : B + 1 ≤ w1.heap.size := by subst hw1; simp [hB]
  clear hw1 hB
  refine (valid_any n d _ H1.out H2.out).mono ?_
  rintro e w2 ⟨rfl, hb⟩
  have FB := Lib.hid (fb.trans (hb.mono (by omega)))
  obtain ⟨c0, c1, _, _⟩ := (f0.ext hb).two
  clear f0 fb hb fs
  cases hv : validV n d with
  | false =>
    have HV2 := Lib.hid (show V = (0, 1) by rw [HV.out, scaleV, if_pos hv])
    clear HV hv
    go_wp2_with fail
    go_ret2
    exact ⟨by rw [HV2.out]; rfl, FB.out⟩
  | true =>
    by_cases hx : 1099511627776 < x ∨ x < -1099511627776
    · have HV2 := Lib.hid (show V = (0, 2) by rw [HV.out, scaleV, if_neg (by simp [hv]), if_pos hx])
      clear HV hv
      by_cases hx1 : 1099511627776 < x
      · clear hx
        go_wp2_with fail
        go_ret2
        exact ⟨by rw [HV2.out]; rfl, FB.out⟩
      · have hx2 : x < -1099511627776 := by omega
        clear hx
        go_wp2_with fail
        go_ret2
        exact ⟨by rw [HV2.out]; rfl, FB.out⟩
    · have hx1 : x ≤ 1099511627776 := by omega
      have hx2 : -1099511627776 ≤ x := by omega
      by_cases hm : m < 1 ∨ 3 < m
      · have HV2 := Lib.hid (show V = (0, 3) by rw [HV.out, scaleV, if_neg (by simp [hv]), if_neg hx, if_pos hm])
        have HM := Lib.hid hm
        clear HV hv hx hm
        go_wp2_with fail
        refine (known_no m _ HM.out).mono ?_
        rintro e w' ⟨rfl, rfl⟩
        go_wp2_with fail
        go_ret2
        exact ⟨by rw [HV2.out]; rfl, FB.out⟩
      · have m1 : 1 ≤ m := by omega
        have m2 : m ≤ 3 := by omega
        have HV2 := Lib.hid (show V = (if 4611686018427387904 < quoQ (x * n) d m ∨ quoQ (x * n) d m < -4611686018427387904 then (0, 2) else (quoQ (x * n) d m, 0)) by rw [HV.out, scaleV, if_neg (by simp [hv]), if_neg hx, if_neg hm])
        have bv := valid_bd hv
        obtain ⟨v1, v2, v3, v4, _⟩ := bv
        obtain ⟨D, rfl⟩ : ∃ D : Nat, d = D := ⟨d.toNat, by omega⟩
        obtain ⟨P, hP⟩ : ∃ P, P = x.natAbs * n.natAbs := ⟨_, rfl⟩
        have hPn : (x * n).natAbs = P := by rw [Int.natAbs_mul, hP]
        have hPb := mul_bd (x := x) (y := n) (B := 1099511627776) (C := 2147483648) (by omega) (by omega)
        rw [hPn] at hPb
        have hD0 : 0 < D := by omega
        obtain ⟨q, hq⟩ : ∃ q, q = P / D := ⟨_, rfl⟩
        obtain ⟨r, hr⟩ : ∃ r, r = P % D := ⟨_, rfl⟩
        have hqr : P = q * D + r := by rw [hq, hr, Nat.mul_comm, Nat.div_add_mod]
        have hrl : r < D := by rw [hr]; exact Nat.mod_lt _ hD0
        have MAG := Lib.hid (fun (neg : Bool) (hneg : neg = (!(decide (x < 0) == decide (n < 0)))) => quo_mag0 (n := x * n) (d := (D : Int)) (q := (q : Int)) (r := (r : Int)) (neg := neg) m (by omega) m1 m2 (by
          rw [hneg]
          by_cases s1 : x < 0 <;> by_cases s2 : n < 0
          · have := Int.mul_pos_of_neg_of_neg s1 s2
            simp [s1, s2]; omega
          · have := Int.mul_nonpos_of_nonpos_of_nonneg (show x ≤ 0 by omega) (show 0 ≤ n by omega)
            simp [s1, s2]; omega
          · have := Int.mul_nonpos_of_nonneg_of_nonpos (show 0 ≤ x by omega) (show n ≤ 0 by omega)
            simp [s1, s2]; omega
          · have := Int.mul_nonneg (show 0 ≤ x by omega) (show 0 ≤ n by omega)
            simp [s1, s2]; omega) (by rw [hPn]; have := congrArg (Nat.cast : Nat → Int) hqr; simpa using this) (by omega) (by omega))
        have hqb : (q : Int) ≤ 2361183241434822606848 := by have := Nat.div_le_self P D; omega
        have QHI := Lib.hid (show D ≤ P / 18446744073709551616 → 4611686018427387904 < q from fun h => by
          have h5 : D * 18446744073709551616 ≤ P := by
            have := Nat.mul_le_of_le_div _ _ _ h
            exact this
          have h6 : 18446744073709551616 ≤ q := by rw [hq]; exact (Nat.le_div_iff_mul_le hD0).2 (by rw [Nat.mul_comm]; exact h5)
          omega)
        have MU := Lib.hid (fun w => Tryd.bits_Mul64 x.natAbs n.natAbs (by omega) (by omega) w)
        rw [← hP] at MU
        have DV := Lib.hid (fun (h : P / 18446744073709551616 < D) w => div64_all (P / 18446744073709551616) (P % 18446744073709551616) D w h (by omega) (Nat.mod_lt _ (by decide)) P (by omega))
        rw [← hq, ← hr] at DV
        obtain ⟨PH, hPH⟩ : ∃ PH, PH = P / 18446744073709551616 := ⟨_, rfl⟩
        obtain ⟨PL, hPL⟩ : ∃ PL, PL = P % 18446744073709551616 := ⟨_, rfl⟩
        rw [← hPH] at MU DV QHI
        rw [← hPL] at MU DV
        have SX := Lib.hid (fun w => sizeu_any x w x1 x2)
        have SN := Lib.hid (fun w => sizeu_any n w H1.out.1 H1.out.2)
        have RL := Lib.hid hrl
        obtain ⟨XN, hXN⟩ : ∃ XN, XN = x * n := ⟨_, rfl⟩
        rw [← hXN] at HV2 MAG
        clear HV hv hx hm hPn hPb hq hr hqr hrl hPH hPL hP hXN hD0
        have vd : (1 : Int) ≤ (D : Int) := v3
        go_wp2_with fail
        refine (known_yes m _ m1 m2).mono ?_
        rintro e w' ⟨rfl, rfl⟩
        go_wp2_with fail
        go_quiet (fail)
        generalize hneg : (!(decide (x < 0) == decide (n < 0))) = neg
        have HE := Lib.hid (MAG.out neg hneg.symm)
        clear MAG hneg
        have FB2 := Lib.hid (below_drewN FB.out nq)
        have c0' : (w'.drewN nq).cell? ⟨B, 0, none⟩ = some (.int .i64 n) := c0
        have c1' : (w'.drewN nq).cell? ⟨B, 1, none⟩ = some (.int .i64 D) := c1
        generalize w'.drewN nq = w4 at *
        clear c0 c1 FB
        go_wp2_with fail
        have n1' : -9223372036854775808 ≤ n := H1.out.1
        have n2' : n ≤ 9223372036854775807 := H1.out.2
        go_quiet (first
          | (go_at_call 43; refine Calls.quiet_of_same (sizeu_any _ _ ?_ ?_) <;> assumption)
          | (go_at_call 54; refine Calls.quiet_of_same (MU.out _)))
        have FB3 : Hid (Below B w (w4.drewN nq)) := Lib.hid (below_drewN FB2.out nq)
        by_cases hh : D ≤ PH
        · have hq6 := QHI.out hh
          have hhb : (D : Int) ≤ (PH : Int) := by omega
          have HV3 := Lib.hid (show V = (0, 2) by
            rw [HV2.out]
            refine if_pos ?_
            have hu : 0 ≤ upV (awayV neg (r : Int) (D : Int) m) := by unfold upV; split <;> omega
            cases neg with
            | true => rw [HE.out]; simp; omega
            | false => rw [HE.out]; simp; omega)
          clear HV2 HE QHI DV hq6
          go_wp2_with fail
          go_ret2
          exact ⟨by rw [HV3.out]; rfl, by simpa using FB3.out⟩
        · have hhb : (PH : Int) < (D : Int) := by omega
          have DV2 := Lib.hid (DV.out (by omega))
          clear QHI DV hh
          go_wp2_with fail
          refine (DV2.out _).mono ?_
          rintro e w5 ⟨rfl, k5, hw5⟩
          have FB5 : Hid (Below B w w5) := Lib.hid (by rw [hw5]; exact below_drewN (by simpa using FB3.out) k5)
          clear hw5 FB3 FB2
          by_cases hbig : 4611686018427387904 < q
          · have hb6 : (4611686018427387904 : Int) < (q : Int) := by omega
            have HV3 := Lib.hid (show V = (0, 2) by
              rw [HV2.out]
              refine if_pos ?_
              have hu : 0 ≤ upV (awayV neg (r : Int) (D : Int) m) := by unfold upV; split <;> omega
              cases neg with
              | true => rw [HE.out]; simp; omega
              | false => rw [HE.out]; simp; omega)
            clear HV2 HE
            go_wp2_with fail
            go_ret2
            exact ⟨by rw [HV3.out]; rfl, FB5.out⟩
          · have hb6 : (q : Int) ≤ 4611686018427387904 := by omega
            go_wp2_with fail
            refine (away_any neg (r : Int) (D : Int) m _ (by omega) (by have := RL.out; omega) (by omega)).mono ?_
            rintro e w6 ⟨rfl, rfl⟩
            generalize awayV neg (r : Int) (D : Int) m = up at *
            cases up with
            | true =>
              by_cases hb7 : 4611686018427387904 < (q : Int) + 1
              · have HV3 := Lib.hid (show V = (0, 2) by
                  rw [HV2.out]
                  refine if_pos ?_
                  cases neg with
                  | true => rw [HE.out]; simp [upV]; omega
                  | false => rw [HE.out]; simp [upV]; omega)
                have hb8 : (decide (4611686018427387904 < (q : Int) + 1)) = true := by simpa using hb7
                clear HV2 HE
                go_wp2_with fail
                go_ret2
                exact ⟨by rw [HV3.out]; rfl, FB5.out⟩
              · have hb8 : (decide (4611686018427387904 < (q : Int) + 1)) = false := by simpa using hb7
                have hb9 : (q : Int) + 1 ≤ 4611686018427387904 := by omega
                cases neg with
                | true =>
                  have HE2 := Lib.hid (show quoQ XN D m = -((q : Int) + 1) by have := HE.out; simpa [upV] using this)
                  have HV3 := Lib.hid (show V = (-((q : Int) + 1), 0) by rw [HV2.out, HE2.out, if_neg (by omega)])
                  clear HV2 HE hb7
                  go_wp2_with fail
                  go_ret2
                  exact ⟨by rw [HV3.out]; rfl, FB5.out⟩
                | false =>
                  have HE2 := Lib.hid (show quoQ XN D m = (q : Int) + 1 by have := HE.out; simpa [upV] using this)
                  have HV3 := Lib.hid (show V = ((q : Int) + 1, 0) by rw [HV2.out, HE2.out, if_neg (by omega)])
                  clear HV2 HE hb7
                  go_wp2_with fail
                  go_ret2
                  exact ⟨by rw [HV3.out]; rfl, FB5.out⟩
            | false =>
              cases neg with
              | true =>
                have HE2 := Lib.hid (show quoQ XN D m = -(q : Int) by have := HE.out; simpa [upV] using this)
                have HV3 := Lib.hid (show V = (-(q : Int), 0) by rw [HV2.out, HE2.out, if_neg (by omega)])
                clear HV2 HE
                go_wp2_with fail
                go_ret2
                exact ⟨by rw [HV3.out]; rfl, FB5.out⟩
              | false =>
                have HE2 := Lib.hid (show quoQ XN D m = (q : Int) by have := HE.out; simpa [upV] using this)
                have HV3 := Lib.hid (show V = ((q : Int), 0) by rw [HV2.out, HE2.out, if_neg (by omega)])
                clear HV2 HE
                go_wp2_with fail
                go_ret2
                exact ⟨by rw [HV3.out]; rfl, FB5.out⟩
end Go.Proofs.YtdccjkbhmpfcmaaDoor
