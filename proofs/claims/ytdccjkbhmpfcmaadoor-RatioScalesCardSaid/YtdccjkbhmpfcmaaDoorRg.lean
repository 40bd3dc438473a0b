/-
  The contract of Scale in the reference. Its conditions are its hypotheses.
-/
import Derived.Test.YtdccjkbhmpfcmaaDoorRf
namespace Go.Proofs.YtdccjkbhmpfcmaaDoor
open Go.RowKit
set_option linter.unusedVariables false
set_option linter.unusedSimpArgs false
theorem size2_any (n : Int) (w : World) (h1 : -9223372036854775807 ≤ n) (h2 : n ≤ 9223372036854775807) :
    Calls Tryd.prog 41 #[.int .i64 n] w fun e w' => e = .returned (.int .i64 (n.natAbs : Int)) ∧ w' = w :=
  (size_any n w h1 h2).mono fun e w' ⟨h, hw⟩ => ⟨h, hw.symm⟩
set_option maxRecDepth 4000 in
set_option maxHeartbeats 2000000 in
theorem scaler_any (x n d m : Int) (w : World) (h0 : I64 x) (h1 : I64 n) (h2 : I64 d) :
    Calls Tryd.prog 37 #[.int .i64 x, rat n d, .int .u8 m] w fun e w' => e = .returned (numE (scaleV x n d m)) ∧ Below w.heap.size w w' := by
  have H1 := Lib.hid h1
  have H2 := Lib.hid h2
  obtain ⟨x1, x2⟩ := h0
  clear h1 h2
  obtain ⟨V, hV⟩ : ∃ V, V = scaleV x n d m := ⟨_, rfl⟩
  rw [← hV]
  have HV := Lib.hid hV
  obtain ⟨B, hB⟩ : ∃ B, B = w.heap.size := ⟨_, rfl⟩
  have HB := Lib.hid hB
  rw [← hB]
  clear hV
  go_enter Tryd.func37, Tryd.ntmps37
  go_wp2_with fail
  rw [← hB]
  generalize hw1 : World.alloc _ _ = w1
  have f0 : Held w1 B [.int .i64 n, .int .i64 d] := by subst hw1; exact Held.new hB
  have fb : Below B w w1 := by subst hw1; rw [hB]; exact below_one _ _
  have fs : B + 1 ≤ w1.heap.size := by subst hw1; simp [hB]
  clear hw1 hB
  refine (validr_any n d _ H1.out H2.out).mono ?_
  rintro e w2 ⟨rfl, hb⟩
  have FB := Lib.hid (fb.trans (hb.mono (by omega)))
  obtain ⟨c0, c1, _, _⟩ := (f0.ext hb).two
  clear f0 fb hb fs
  cases hv : validV n d with
  | false =>
    have HV2 := Lib.hid (show V = (0, 1) by rw [HV.out, scaleV, if_pos hv])
    clear HV hv
    go_wp2_with fail
    go_ret2
    exact ⟨by rw [HV2.out]; rfl, FB.out⟩
  | true =>
    by_cases hx : 1099511627776 < x ∨ x < -1099511627776
    · have HV2 := Lib.hid (show V = (0, 2) by rw [HV.out, scaleV, if_neg (by simp [hv]), if_pos hx])
      clear HV hv
      by_cases hx1 : 1099511627776 < x
      · clear hx
        go_wp2_with fail
        go_ret2
        exact ⟨by rw [HV2.out]; rfl, FB.out⟩
      · have hx2 : x < -1099511627776 := by omega
        clear hx
        go_wp2_with fail
        go_ret2
        exact ⟨by rw [HV2.out]; rfl, FB.out⟩
    · have hx1 : x ≤ 1099511627776 := by omega
      have hx2 : -1099511627776 ≤ x := by omega
      by_cases hm : m < 1 ∨ 3 < m
      · have HV2 := Lib.hid (show V = (0, 3) by rw [HV.out, scaleV, if_neg (by simp [hv]), if_neg hx, if_pos hm])
        have HM := Lib.hid hm
        clear HV hv hx hm
        go_wp2_with fail
        refine (mode_no m _ HM.out).mono ?_
        rintro e w' ⟨rfl, rfl⟩
        go_wp2_with fail
        go_ret2
        exact ⟨by rw [HV2.out]; rfl, FB.out⟩
      · have m1 : 1 ≤ m := by omega
        have m2 : m ≤ 3 := by omega
        obtain ⟨p1, p2, p3, p4, p5, p6⟩ := scale_parts m hv hx2 hx1
        have HV2 := Lib.hid (show V = (if 4611686018427387904 < quoQ (x * n) d m ∨ quoQ (x * n) d m < -4611686018427387904 then (0, 2) else (quoQ (x * n) d m, 0)) by rw [HV.out, scaleV, if_neg (by simp [hv]), if_neg hx, if_neg hm])
        have bv := valid_bd hv
        obtain ⟨v1, v2, v3, v4, _⟩ := bv
        have ta := Int.natAbs_tdiv x d
        have td : (x.tdiv d).natAbs ≤ x.natAbs := by rw [ta]; exact Nat.div_le_self _ _
        have tb := tmod_bd x (show d ≠ 0 by omega)
        have a1 : -1099511627776 ≤ x.tdiv d := by omega
        have a2 : x.tdiv d ≤ 1099511627776 := by omega
        have QV := Lib.hid (fun w => quotientr_any (x.tmod d * n) d m w (by omega) (by omega) H2.out.1 H2.out.2)
        rw [show quotV (x.tmod d * n) d m = (quoQ (x.tmod d * n) d m, 0) by rw [quotV, if_neg (by omega), if_neg hm, if_neg (by omega)]] at QV
        rw [p1] at HV2 p6
        have P6 := Lib.hid p6
        have tb1 : -2147483648 ≤ x.tmod d := by omega
        have tb2 : x.tmod d ≤ 2147483648 := by omega
        obtain ⟨pr1, pr2⟩ := prod_bd (x := x.tmod d) (y := n) tb1 tb2 v1 v2
        have hd0 : ¬ d = 0 := by omega
        have hd1 : (d == 0) = false := by rw [beq_eq_false_iff_ne]; exact hd0
        clear HV hv hx hm p1 p6 ta td tb
        go_wp2_with fail
        refine (mode_yes m _ m1 m2).mono ?_
        rintro e w' ⟨rfl, rfl⟩
        go_wp2_with fail
        go_quiet (fail)
        have FB2 := Lib.hid (below_drewN FB.out nq)
        have c0' : (w'.drewN nq).cell? ⟨B, 0, none⟩ = some (.int .i64 n) := c0
        have c1' : (w'.drewN nq).cell? ⟨B, 1, none⟩ = some (.int .i64 d) := c1
        generalize w'.drewN nq = w4 at *
        generalize x.tdiv d = a at *
        generalize x.tmod d = r at *
        generalize hpart : quoQ (r * n) d m = part at *
        clear c0 c1 FB hpart
        by_cases hn : n = 0
        · subst hn
          have HV3 := Lib.hid (show V = (part, 0) by
            rw [HV2.out, Int.mul_zero, Int.zero_add, if_neg (by omega)])
          clear HV2 P6
          rw [Int.mul_zero] at QV
          go_wp2_with fail
          go_quiet (fail)
          have FB3 := Lib.hid (below_drewN FB2.out nq)
          go_wp2_with fail
          refine (QV.out _).mono ?_
          rintro e w5 ⟨rfl, k5, hw5⟩
          dsimp only [numE]
          have FB5 : Hid (Below B w w5) := Lib.hid (by rw [hw5]; exact below_drewN FB3.out k5)
          have c0'' : w5.cell? ⟨B, 0, none⟩ = some (.int .i64 0) := by rw [hw5]; exact c0'
          have c1'' : w5.cell? ⟨B, 1, none⟩ = some (.int .i64 d) := by rw [hw5]; exact c1'
          clear hw5 FB3 FB2
          go_wp2_with fail
          go_ret2
          exact ⟨by rw [HV3.out]; rfl, FB5.out⟩
        · have hnb : (n != 0) = true := by simpa using hn
          have hnp : (1 : Int) ≤ (n.natAbs : Int) := by omega
          have hnp2 : ((n.natAbs : Int) == 0) = false := by rw [beq_eq_false_iff_ne]; omega
          have s1 : -9223372036854775807 ≤ a := by omega
          have s2 : a ≤ 9223372036854775807 := by omega
          have s3 : -9223372036854775807 ≤ n := by omega
          have s4 : n ≤ 9223372036854775807 := by omega
          have KD := Lib.hid (show 4611686018427387904 / n.natAbs < a.natAbs ↔ 4611686018427387904 < (a * n).natAbs by
            rw [Int.natAbs_mul]; exact Nat.div_lt_iff_lt_mul (by omega))
          obtain ⟨z, hz⟩ : ∃ z : Nat, z = 4611686018427387904 / n.natAbs := ⟨_, rfl⟩
          have hzl : z ≤ 4611686018427387904 := by rw [hz]; exact Nat.div_le_self _ _
          rw [← hz] at KD
          have HZ := Lib.hid hz
          clear hz
          go_wp2_with fail
          go_quiet (first | (go_at_call 41; refine Calls.quiet_of_same (size2_any _ _ ?_ ?_) <;> assumption))
          have ez : (4611686018427387904 : Int) / (n.natAbs : Int) = (z : Int) := by rw [HZ.out]; simp
          rw [ez]
          have FB3 := Lib.hid (below_drewN FB2.out nq)
          by_cases hbig : z < a.natAbs
          · have hbb : (z : Int) < (a.natAbs : Int) := by omega
            have HV3 := Lib.hid (show V = (0, 2) by
              rw [HV2.out]
              exact if_pos (P6.out (KD.out.1 hbig)))
            clear HV2 P6 KD HZ ez hbig
            go_wp2_with fail
            go_ret2
            exact ⟨by rw [HV3.out]; rfl, FB3.out⟩
          · have hbb : (a.natAbs : Int) ≤ (z : Int) := by omega
            have han : (a * n).natAbs ≤ 4611686018427387904 := by
              apply Classical.byContradiction
              intro hc
              exact hbig (KD.out.2 (by omega))
            have an1 : -4611686018427387904 ≤ a * n := by omega
            have an2 : a * n ≤ 4611686018427387904 := by omega
            clear P6 KD HZ ez hbig han
            go_wp2_with fail
            refine (QV.out _).mono ?_
            rintro e w5 ⟨rfl, k5, hw5⟩
            dsimp only [numE]
            have FB5 : Hid (Below B w w5) := Lib.hid (by rw [hw5]; exact below_drewN FB3.out k5)
            have c0'' : w5.cell? ⟨B, 0, none⟩ = some (.int .i64 n) := by rw [hw5]; exact c0'
            have c1'' : w5.cell? ⟨B, 1, none⟩ = some (.int .i64 d) := by rw [hw5]; exact c1'
            clear hw5 FB3 FB2
            by_cases g1 : 4611686018427387904 < a * n + part
            · have HV3 := Lib.hid (show V = (0, 2) by rw [HV2.out]; exact if_pos (.inl g1))
              clear HV2
              go_wp2_with fail
              go_ret2
              exact ⟨by rw [HV3.out]; rfl, FB5.out⟩
            · by_cases g2 : a * n + part < -4611686018427387904
              · have HV3 := Lib.hid (show V = (0, 2) by rw [HV2.out]; exact if_pos (.inr g2))
                have g3 : (decide (a * n + part < -4611686018427387904)) = true := by simpa using g2
                clear HV2
                go_wp2_with fail
                go_ret2
                exact ⟨by rw [HV3.out]; rfl, FB5.out⟩
              · have HV3 := Lib.hid (show V = (a * n + part, 0) by rw [HV2.out]; exact if_neg (by omega))
                have g3 : (decide (a * n + part < -4611686018427387904)) = false := by simpa using g2
                clear HV2
                go_wp2_with fail
                go_ret2
                exact ⟨by rw [HV3.out]; rfl, FB5.out⟩
end Go.Proofs.YtdccjkbhmpfcmaaDoor
