/-
  The contracts of Quotient in the reference, and of Round. Their conditions are their hypotheses.
-/
import Derived.Test.YtdccjkbhmpfcmaaDoorR4
namespace Go.Proofs.YtdccjkbhmpfcmaaDoor
open Go.RowKit
set_option linter.unusedVariables false
set_option linter.unusedSimpArgs false
theorem negative_any (n : Int) (w : World) (h1 : -9223372036854775808 ≤ n) (h2 : n ≤ 9223372036854775807) :
    Calls Tryd.prog 46 #[.int .i64 n] w fun e w' => e = .returned (.int .i64 (-(n.natAbs : Int))) ∧ w' = w := by
  go_enter Tryd.func46, Tryd.ntmps46
  go_wp2_with fail
  all_goals
    go_ret
    refine ⟨ret_val ?_, rfl⟩
    show Value.int .i64 _ = _
    congr 1
    omega
theorem quo_least (m : Int) : quoQ (-9223372036854775808) (-1) m = 9223372036854775808 := by
  unfold quoQ
  split
  · decide
  · split <;> decide
theorem tdiv_bd {n d : Int} (h0 : d ≠ 0) (n1 : -9223372036854775808 ≤ n) (n2 : n ≤ 9223372036854775807) (hl : ¬ (n = -9223372036854775808 ∧ d = -1)) :
    -9223372036854775808 ≤ n.tdiv d ∧ n.tdiv d ≤ 9223372036854775807 ∧ (n.tmod d ≠ 0 → -4611686018427387904 ≤ n.tdiv d ∧ n.tdiv d ≤ 4611686018427387904) := by
  have a := Int.natAbs_tdiv n d
  have e := Int.mul_tdiv_add_tmod n d
  have tb := tmod_bd n h0
  by_cases h1 : d.natAbs = 1
  · have hd : d = 1 ∨ d = -1 := by omega
    rcases hd with rfl | rfl
    · simp at *; omega
    · simp at *; omega
  · have h2 : (n.tdiv d).natAbs ≤ n.natAbs / 2 := by rw [a]; exact Nat.div_le_div_left (by omega) (by decide)
    clear a e
    omega
theorem quotientr_any (n d m : Int) (w : World) (n1 : -9223372036854775808 ≤ n) (n2 : n ≤ 9223372036854775807) (d1 : -9223372036854775808 ≤ d) (d2 : d ≤ 9223372036854775807) :
    Calls Tryd.prog 21 #[.int .i64 n, .int .i64 d, .int .u8 m] w fun e w' => e = .returned (numE (quotV n d m)) ∧ ∃ k, w' = w.drewN k := by
  by_cases h0 : d = 0
  · subst h0
    rw [show quotV n 0 m = (0, 1) by simp [quotV]]
    go_enter Tryd.func21, Tryd.ntmps21
    go_wp2_with fail
    go_ret2
    exact ⟨rfl, 0, rfl⟩
  · have hb0 : (d == 0) = false := by simpa using h0
    by_cases hm : m < 1 ∨ 3 < m
    · rw [show quotV n d m = (0, 3) by simp [quotV, h0, hm]]
      have HM := Lib.hid hm
      clear hm
      go_enter Tryd.func21, Tryd.ntmps21
      go_wp2_with fail
      refine (mode_no m _ HM.out).mono ?_
      rintro e w' ⟨rfl, rfl⟩
      go_wp2_with fail
      go_ret2
      exact ⟨rfl, 0, rfl⟩
    · have m1 : 1 ≤ m := by omega
      have m2 : m ≤ 3 := by omega
      have hv : quotV n d m = if 9223372036854775807 < quoQ n d m then (0, 2) else (quoQ n d m, 0) := by rw [quotV, if_neg h0, if_neg hm]
      obtain ⟨V, hV⟩ : ∃ V, V = quotV n d m := ⟨_, rfl⟩
      rw [← hV]
      rw [← hV] at hv
      have HV := Lib.hid hv
      clear hv hV hm
      by_cases hl : n = -9223372036854775808 ∧ d = -1
      · obtain ⟨rfl, rfl⟩ := hl
        have HV2 := Lib.hid (show V = (0, 2) by rw [HV.out, quo_least, if_pos (by decide)])
        clear HV h0
        go_enter Tryd.func21, Tryd.ntmps21
        go_wp2_with fail
        refine (mode_yes m _ m1 m2).mono ?_
        rintro e w' ⟨rfl, rfl⟩
        go_wp2_with fail
        go_ret2
        exact ⟨by rw [HV2.out]; rfl, 0, rfl⟩
      · have tb := tdiv_bd h0 n1 n2 hl
        have tm := tmod_bd n h0
        obtain ⟨t1, t2, t3⟩ := tb
        obtain ⟨t4, t5⟩ := tm
        have HR := Lib.hid (ref_quo (n := n) m h0 m1 m2).symm
        have HT3 := Lib.hid t3
        have hlb : ((n == -9223372036854775808) && (d == -1)) = false := by
          rw [Bool.and_eq_false_iff, beq_eq_false_iff_ne, beq_eq_false_iff_ne]; omega
        rw [refQ] at HR
        clear h0 hl t3
        go_enter Tryd.func21, Tryd.ntmps21
        go_wp2_with fail
        refine (mode_yes m _ m1 m2).mono ?_
        rintro e w' ⟨rfl, rfl⟩
        cases hn : (n == -9223372036854775808) with
        | true =>
          have hdb : (d == -1) = false := by rw [hn] at hlb; simpa using hlb
          clear hlb
          go_wp2_with fail
          go_quiet (fail)
          generalize n.tdiv d = q0 at *
          generalize n.tmod d = r0 at *
          by_cases z : r0 = 0
          · subst z
            have HR2 := Lib.hid (show quoQ n d m = q0 by rw [HR.out, if_neg (by simp), if_pos (.inl rfl)])
            have HV2 := Lib.hid (show V = (q0, 0) by rw [HV.out, HR2.out, if_neg (by omega)])
            clear HV HR HR2 HT3
            go_wp2_with fail
            go_ret2
            exact ⟨by rw [HV2.out]; rfl, _, rfl⟩
          · have zb : (r0 != 0) = true := by simpa using z
            have zb2 : (r0 == 0) = false := by simpa using z
            obtain ⟨u1, u2⟩ := HT3.out z
            cases hA : (!(decide (r0 < 0) == decide (d < 0))) with
            | true =>
              have sA : (r0 < 0 ∧ 0 < d) ∨ (0 < r0 ∧ d < 0) := by
                by_cases x1 : r0 < 0 <;> by_cases x2 : d < 0 <;> simp [x1, x2] at hA <;> omega
              have hadj : r0 ≠ 0 ∧ (r0 < 0 ↔ ¬ d < 0) := ⟨z, by omega⟩
              have zb3 : (r0 + d == 0) = false := by rw [beq_eq_false_iff_ne]; omega
              clear HT3 z
              rcases (show m = 1 ∨ m = 2 ∨ m = 3 by omega) with rfl | rfl | rfl
              · have HR2 := Lib.hid (show quoQ n d 1 = q0 - 1 by rw [HR.out, if_pos (by exact ⟨hadj.1, by omega⟩), if_pos (.inr rfl)])
                have HV2 := Lib.hid (show V = (q0 - 1, 0) by rw [HV.out, HR2.out, if_neg (by omega)])
                clear HV HR HR2 hadj
                go_wp2_with fail
                go_ret2
                exact ⟨by rw [HV2.out]; rfl, _, rfl⟩
              · by_cases hc : -((r0 + d).natAbs : Int) ≤ -(d.natAbs : Int) + ((r0 + d).natAbs : Int)
                · have HR2 := Lib.hid (show quoQ n d 2 = q0 by rw [HR.out, if_pos (by exact ⟨hadj.1, by omega⟩), if_neg (by omega), if_pos (.inr hc)])
                  have HV2 := Lib.hid (show V = (q0, 0) by rw [HV.out, HR2.out, if_neg (by omega)])
                  clear HV HR HR2 hadj
                  go_wp2_with fail
                  refine (negative_any (r0 + d) _ (by omega) (by omega)).mono ?_
                  rintro e w3 ⟨rfl, rfl⟩
                  go_wp2_with fail
                  refine (negative_any d _ d1 d2).mono ?_
                  rintro e w3 ⟨rfl, rfl⟩
                  go_wp2_with fail
                  refine (negative_any (r0 + d) _ (by omega) (by omega)).mono ?_
                  rintro e w3 ⟨rfl, rfl⟩
                  go_wp2_with fail
                  go_ret2
                  exact ⟨by rw [HV2.out]; rfl, _, rfl⟩
                · have HR2 := Lib.hid (show quoQ n d 2 = q0 - 1 by rw [HR.out, if_pos (by exact ⟨hadj.1, by omega⟩), if_neg (by omega), if_neg (by omega)])
                  have HV2 := Lib.hid (show V = (q0 - 1, 0) by rw [HV.out, HR2.out, if_neg (by omega)])
                  clear HV HR HR2 hadj
                  go_wp2_with fail
                  refine (negative_any (r0 + d) _ (by omega) (by omega)).mono ?_
                  rintro e w3 ⟨rfl, rfl⟩
                  go_wp2_with fail
                  refine (negative_any d _ d1 d2).mono ?_
                  rintro e w3 ⟨rfl, rfl⟩
                  go_wp2_with fail
                  refine (negative_any (r0 + d) _ (by omega) (by omega)).mono ?_
                  rintro e w3 ⟨rfl, rfl⟩
                  go_wp2_with fail
                  go_ret2
                  exact ⟨by rw [HV2.out]; rfl, _, rfl⟩
              · have HR2 := Lib.hid (show quoQ n d 3 = q0 by rw [HR.out, if_pos (by exact ⟨hadj.1, by omega⟩), if_neg (by omega), if_pos (.inl rfl)])
                have HV2 := Lib.hid (show V = (q0, 0) by rw [HV.out, HR2.out, if_neg (by omega)])
                clear HV HR HR2 hadj
                go_wp2_with fail
                go_ret2
                exact ⟨by rw [HV2.out]; rfl, _, rfl⟩
            | false =>
              have sA : (r0 < 0 ∧ d < 0) ∨ (0 < r0 ∧ 0 ≤ d) := by
                by_cases x1 : r0 < 0 <;> by_cases x2 : d < 0 <;> simp [x1, x2] at hA <;> omega
              have hadj : ¬ (r0 ≠ 0 ∧ (r0 < 0 ↔ ¬ d < 0)) := by omega
              clear HT3 z
              rcases (show m = 1 ∨ m = 2 ∨ m = 3 by omega) with rfl | rfl | rfl
              · have HR2 := Lib.hid (show quoQ n d 1 = q0 by rw [HR.out, if_neg (by omega), if_pos (.inr rfl)])
                have HV2 := Lib.hid (show V = (q0, 0) by rw [HV.out, HR2.out, if_neg (by omega)])
                clear HV HR HR2 hadj
                go_wp2_with fail
                go_ret2
                exact ⟨by rw [HV2.out]; rfl, _, rfl⟩
              · by_cases hc : -((r0).natAbs : Int) ≤ -(d.natAbs : Int) + ((r0).natAbs : Int)
                · have HR2 := Lib.hid (show quoQ n d 2 = q0 + 1 by rw [HR.out, if_neg (by omega), if_neg (by omega), if_pos (.inr hc)])
                  have HV2 := Lib.hid (show V = (q0 + 1, 0) by rw [HV.out, HR2.out, if_neg (by omega)])
                  clear HV HR HR2 hadj
                  go_wp2_with fail
                  refine (negative_any (r0) _ (by omega) (by omega)).mono ?_
                  rintro e w3 ⟨rfl, rfl⟩
                  go_wp2_with fail
                  refine (negative_any d _ d1 d2).mono ?_
                  rintro e w3 ⟨rfl, rfl⟩
                  go_wp2_with fail
                  refine (negative_any (r0) _ (by omega) (by omega)).mono ?_
                  rintro e w3 ⟨rfl, rfl⟩
                  go_wp2_with fail
                  go_ret2
                  exact ⟨by rw [HV2.out]; rfl, _, rfl⟩
                · have HR2 := Lib.hid (show quoQ n d 2 = q0 by rw [HR.out, if_neg (by omega), if_neg (by omega), if_neg (by omega)])
                  have HV2 := Lib.hid (show V = (q0, 0) by rw [HV.out, HR2.out, if_neg (by omega)])
                  clear HV HR HR2 hadj
                  go_wp2_with fail
                  refine (negative_any (r0) _ (by omega) (by omega)).mono ?_
                  rintro e w3 ⟨rfl, rfl⟩
                  go_wp2_with fail
                  refine (negative_any d _ d1 d2).mono ?_
                  rintro e w3 ⟨rfl, rfl⟩
                  go_wp2_with fail
                  refine (negative_any (r0) _ (by omega) (by omega)).mono ?_
                  rintro e w3 ⟨rfl, rfl⟩
                  go_wp2_with fail
                  go_ret2
                  exact ⟨by rw [HV2.out]; rfl, _, rfl⟩
              · have HR2 := Lib.hid (show quoQ n d 3 = q0 + 1 by rw [HR.out, if_neg (by omega), if_neg (by omega), if_pos (.inl rfl)])
                have HV2 := Lib.hid (show V = (q0 + 1, 0) by rw [HV.out, HR2.out, if_neg (by omega)])
                clear HV HR HR2 hadj
                go_wp2_with fail
                go_ret2
                exact ⟨by rw [HV2.out]; rfl, _, rfl⟩
        | false =>
          clear hlb
          go_wp2_with fail
          go_quiet (fail)
          generalize n.tdiv d = q0 at *
          generalize n.tmod d = r0 at *
          by_cases z : r0 = 0
          · subst z
            have HR2 := Lib.hid (show quoQ n d m = q0 by rw [HR.out, if_neg (by simp), if_pos (.inl rfl)])
            have HV2 := Lib.hid (show V = (q0, 0) by rw [HV.out, HR2.out, if_neg (by omega)])
            clear HV HR HR2 HT3
            go_wp2_with fail
            go_ret2
            exact ⟨by rw [HV2.out]; rfl, _, rfl⟩
          · have zb : (r0 != 0) = true := by simpa using z
            have zb2 : (r0 == 0) = false := by simpa using z
            obtain ⟨u1, u2⟩ := HT3.out z
            cases hA : (!(decide (r0 < 0) == decide (d < 0))) with
            | true =>
              have sA : (r0 < 0 ∧ 0 < d) ∨ (0 < r0 ∧ d < 0) := by
                by_cases x1 : r0 < 0 <;> by_cases x2 : d < 0 <;> simp [x1, x2] at hA <;> omega
              have hadj : r0 ≠ 0 ∧ (r0 < 0 ↔ ¬ d < 0) := ⟨z, by omega⟩
              have zb3 : (r0 + d == 0) = false := by rw [beq_eq_false_iff_ne]; omega
              clear HT3 z
              rcases (show m = 1 ∨ m = 2 ∨ m = 3 by omega) with rfl | rfl | rfl
              · have HR2 := Lib.hid (show quoQ n d 1 = q0 - 1 by rw [HR.out, if_pos (by exact ⟨hadj.1, by omega⟩), if_pos (.inr rfl)])
                have HV2 := Lib.hid (show V = (q0 - 1, 0) by rw [HV.out, HR2.out, if_neg (by omega)])
                clear HV HR HR2 hadj
                go_wp2_with fail
                go_ret2
                exact ⟨by rw [HV2.out]; rfl, _, rfl⟩
              · by_cases hc : -((r0 + d).natAbs : Int) ≤ -(d.natAbs : Int) + ((r0 + d).natAbs : Int)
                · have HR2 := Lib.hid (show quoQ n d 2 = q0 by rw [HR.out, if_pos (by exact ⟨hadj.1, by omega⟩), if_neg (by omega), if_pos (.inr hc)])
                  have HV2 := Lib.hid (show V = (q0, 0) by rw [HV.out, HR2.out, if_neg (by omega)])
                  clear HV HR HR2 hadj
                  go_wp2_with fail
                  refine (negative_any (r0 + d) _ (by omega) (by omega)).mono ?_
                  rintro e w3 ⟨rfl, rfl⟩
                  go_wp2_with fail
                  refine (negative_any d _ d1 d2).mono ?_
                  rintro e w3 ⟨rfl, rfl⟩
                  go_wp2_with fail
                  refine (negative_any (r0 + d) _ (by omega) (by omega)).mono ?_
                  rintro e w3 ⟨rfl, rfl⟩
                  go_wp2_with fail
                  go_ret2
                  exact ⟨by rw [HV2.out]; rfl, _, rfl⟩
                · have HR2 := Lib.hid (show quoQ n d 2 = q0 - 1 by rw [HR.out, if_pos (by exact ⟨hadj.1, by omega⟩), if_neg (by omega), if_neg (by omega)])
                  have HV2 := Lib.hid (show V = (q0 - 1, 0) by rw [HV.out, HR2.out, if_neg (by omega)])
                  clear HV HR HR2 hadj
                  go_wp2_with fail
                  refine (negative_any (r0 + d) _ (by omega) (by omega)).mono ?_
                  rintro e w3 ⟨rfl, rfl⟩
                  go_wp2_with fail
                  refine (negative_any d _ d1 d2).mono ?_
                  rintro e w3 ⟨rfl, rfl⟩
                  go_wp2_with fail
                  refine (negative_any (r0 + d) _ (by omega) (by omega)).mono ?_
                  rintro e w3 ⟨rfl, rfl⟩
                  go_wp2_with fail
                  go_ret2
                  exact ⟨by rw [HV2.out]; rfl, _, rfl⟩
              · have HR2 := Lib.hid (show quoQ n d 3 = q0 by rw [HR.out, if_pos (by exact ⟨hadj.1, by omega⟩), if_neg (by omega), if_pos (.inl rfl)])
                have HV2 := Lib.hid (show V = (q0, 0) by rw [HV.out, HR2.out, if_neg (by omega)])
                clear HV HR HR2 hadj
                go_wp2_with fail
                go_ret2
                exact ⟨by rw [HV2.out]; rfl, _, rfl⟩
            | false =>
              have sA : (r0 < 0 ∧ d < 0) ∨ (0 < r0 ∧ 0 ≤ d) := by
                by_cases x1 : r0 < 0 <;> by_cases x2 : d < 0 <;> simp [x1, x2] at hA <;> omega
              have hadj : ¬ (r0 ≠ 0 ∧ (r0 < 0 ↔ ¬ d < 0)) := by omega
              clear HT3 z
              rcases (show m = 1 ∨ m = 2 ∨ m = 3 by omega) with rfl | rfl | rfl
              · have HR2 := Lib.hid (show quoQ n d 1 = q0 by rw [HR.out, if_neg (by omega), if_pos (.inr rfl)])
                have HV2 := Lib.hid (show V = (q0, 0) by rw [HV.out, HR2.out, if_neg (by omega)])
                clear HV HR HR2 hadj
                go_wp2_with fail
                go_ret2
                exact ⟨by rw [HV2.out]; rfl, _, rfl⟩
              · by_cases hc : -((r0).natAbs : Int) ≤ -(d.natAbs : Int) + ((r0).natAbs : Int)
                · have HR2 := Lib.hid (show quoQ n d 2 = q0 + 1 by rw [HR.out, if_neg (by omega), if_neg (by omega), if_pos (.inr hc)])
                  have HV2 := Lib.hid (show V = (q0 + 1, 0) by rw [HV.out, HR2.out, if_neg (by omega)])
                  clear HV HR HR2 hadj
                  go_wp2_with fail
                  refine (negative_any (r0) _ (by omega) (by omega)).mono ?_
                  rintro e w3 ⟨rfl, rfl⟩
                  go_wp2_with fail
                  refine (negative_any d _ d1 d2).mono ?_
                  rintro e w3 ⟨rfl, rfl⟩
                  go_wp2_with fail
                  refine (negative_any (r0) _ (by omega) (by omega)).mono ?_
                  rintro e w3 ⟨rfl, rfl⟩
                  go_wp2_with fail
                  go_ret2
                  exact ⟨by rw [HV2.out]; rfl, _, rfl⟩
                · have HR2 := Lib.hid (show quoQ n d 2 = q0 by rw [HR.out, if_neg (by omega), if_neg (by omega), if_neg (by omega)])
                  have HV2 := Lib.hid (show V = (q0, 0) by rw [HV.out, HR2.out, if_neg (by omega)])
                  clear HV HR HR2 hadj
                  go_wp2_with fail
                  refine (negative_any (r0) _ (by omega) (by omega)).mono ?_
                  rintro e w3 ⟨rfl, rfl⟩
                  go_wp2_with fail
                  refine (negative_any d _ d1 d2).mono ?_
                  rintro e w3 ⟨rfl, rfl⟩
                  go_wp2_with fail
                  refine (negative_any (r0) _ (by omega) (by omega)).mono ?_
                  rintro e w3 ⟨rfl, rfl⟩
                  go_wp2_with fail
                  go_ret2
                  exact ⟨by rw [HV2.out]; rfl, _, rfl⟩
              · have HR2 := Lib.hid (show quoQ n d 3 = q0 + 1 by rw [HR.out, if_neg (by omega), if_neg (by omega), if_pos (.inl rfl)])
                have HV2 := Lib.hid (show V = (q0 + 1, 0) by rw [HV.out, HR2.out, if_neg (by omega)])
                clear HV HR HR2 hadj
                go_wp2_with fail
                go_ret2
                exact ⟨by rw [HV2.out]; rfl, _, rfl⟩
end Go.Proofs.YtdccjkbhmpfcmaaDoor
