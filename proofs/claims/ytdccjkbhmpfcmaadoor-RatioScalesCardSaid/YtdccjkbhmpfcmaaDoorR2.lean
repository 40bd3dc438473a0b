/-
  The contracts of Valid and Make, in the program and in the reference. Their conditions are their hypotheses.
-/
import Derived.Test.YtdccjkbhmpfcmaaDoorR1
namespace Go.Proofs.YtdccjkbhmpfcmaaDoor
open Go.RowKit
set_option linter.unusedVariables false
set_option linter.unusedSimpArgs false
theorem below_one (w : World) (o : Obj) : Below w.heap.size w (w.alloc o) := (Below.refl _ _).alloc (Nat.le_refl _) _
theorem valid_any (n d : Int) (w : World) (hn : -9223372036854775808 ≤ n ∧ n ≤ 9223372036854775807) (hd : -9223372036854775808 ≤ d ∧ d ≤ 9223372036854775807) :
    Calls Tryd.prog 18 #[.agg #[.int .i64 n, .int .i64 d]] w fun e w' => e = .returned (.bool (validV n d)) ∧ Below w.heap.size w w' := by
  have HN := Lib.hid hn
  have HD := Lib.hid hd
  clear hn hd
  cases hp : partsV n d with
  | false =>
    have hv : validV n d = false := by simp [validV, hp]
    rw [hv]
    go_enter Tryd.func18, Tryd.ntmps18
    go_wp2_with fail
    refine (parts_any n d _).mono ?_
    rintro e w' ⟨rfl, rfl⟩
    rw [hp]
    go_wp2_with fail
    go_ret
    exact ⟨rfl, below_one _ _⟩
  | true =>
    have hv : validV n d = (gcdV n d == 1) := by
      cases hh : (gcdV n d == 1) with
      | true => simp [validV, hp]; simpa using hh
      | false => simp [validV, hp]; simpa using hh
    obtain ⟨V, hV⟩ : ∃ V, V = validV n d := ⟨_, rfl⟩
    rw [← hV]
    rw [← hV] at hv
    have HV := Lib.hid hv
    clear hv hV
    go_enter Tryd.func18, Tryd.ntmps18
    go_wp2_with fail
    refine (parts_any n d _).mono ?_
    rintro e w' ⟨rfl, rfl⟩
    rw [hp]
    go_wp2_with fail
    refine (gcd_any n d _ HN.out HD.out).mono ?_
    rintro e w' ⟨rfl, k, rfl⟩
    go_wp2_with fail
    go_ret
    exact ⟨by rw [HV.out]; rfl, below_drewN (below_one _ _) k⟩
theorem validr_any (n d : Int) (w : World) (hn : -9223372036854775808 ≤ n ∧ n ≤ 9223372036854775807) (hd : -9223372036854775808 ≤ d ∧ d ≤ 9223372036854775807) :
    Calls Tryd.prog 19 #[.agg #[.int .i64 n, .int .i64 d]] w fun e w' => e = .returned (.bool (validV n d)) ∧ Below w.heap.size w w' := by
  have HN := Lib.hid hn
  have HD := Lib.hid hd
  clear hn hd
  cases hp : partsV n d with
  | false =>
    have hv : validV n d = false := by simp [validV, hp]
    rw [hv]
    have h := Lib.hid (parts_no hp)
    clear hp hv
    go_enter Tryd.func19, Tryd.ntmps19
    go_wp2_with fail
    all_goals first
      | (exfalso; have := h.out; omega)
      | (go_ret; exact ⟨rfl, below_one _ _⟩)
  | true =>
    obtain ⟨h1, h2, h3, h4⟩ := parts_bd hp
    have hv : validV n d = (gcdV n d == 1) := by
      cases hh : (gcdV n d == 1) with
      | true => simp [validV, hp]; simpa using hh
      | false => simp [validV, hp]; simpa using hh
    obtain ⟨V, hV⟩ : ∃ V, V = validV n d := ⟨_, rfl⟩
    rw [← hV]
    rw [← hV] at hv
    have HV := Lib.hid hv
    clear hv hV hp
    go_enter Tryd.func19, Tryd.ntmps19
    go_wp2_with fail
    refine (gcdr_any n d _ HN.out HD.out).mono ?_
    rintro e w' ⟨rfl, k, rfl⟩
    go_wp2_with fail
    go_ret
    exact ⟨by rw [HV.out]; rfl, below_drewN (below_one _ _) k⟩
abbrev pairE (R : (Int × Int) × Int) : Value := .tuple #[.agg #[.int .i64 R.1.1, .int .i64 R.1.2], .int .i64 R.2]
theorem le_of_mul {x p g : Int} (hg : 0 < g) (h : x = p * g) : p.natAbs ≤ x.natAbs := by
  rw [h, Int.natAbs_mul]
  exact Nat.le_mul_of_pos_right _ (by omega)
theorem gcd_neg2 {n d : Int} (h1 : n ≠ -9223372036854775808) (h2 : d ≠ -9223372036854775808) (h3 : -9223372036854775808 ≤ n ∧ n ≤ 9223372036854775807 := by omega) (h4 : -9223372036854775808 ≤ d ∧ d ≤ 9223372036854775807 := by omega) : gcdV (-n) (-d) = gcdV n d := by
  rw [gcdV_eq (by omega) (by omega), gcdV_eq h1 h2, Int.gcd_neg, Int.neg_gcd]
theorem make_any (n d : Int) (w : World) (hn : -9223372036854775808 ≤ n ∧ n ≤ 9223372036854775807) (hd : -9223372036854775808 ≤ d ∧ d ≤ 9223372036854775807) :
    Calls Tryd.prog 14 #[.int .i64 n, .int .i64 d] w fun e w' => e = .returned (pairE (makeV n d)) ∧ Below w.heap.size w w' := by
  obtain ⟨n1, n2⟩ := hn
  obtain ⟨d1, d2⟩ := hd
  by_cases h0 : d = 0
  · subst h0
    rw [show makeV n 0 = ((0, 0), 1) by simp [makeV]]
    go_enter Tryd.func14, Tryd.ntmps14
    go_wp2_with fail
    go_returns
    exact ⟨rfl, below_one _ _⟩
  · have h0' : (d == 0) = false := by simpa using h0
    by_cases hl : n = -9223372036854775808 ∨ d = -9223372036854775808
    · rw [show makeV n d = ((0, 0), 2) by rw [makeV, if_neg h0, if_pos hl]]
      by_cases l1 : n = -9223372036854775808
      · subst l1
        clear hl
        go_enter Tryd.func14, Tryd.ntmps14
        go_wp2_with fail
        go_returns
        exact ⟨rfl, below_one _ _⟩
      · obtain rfl : d = -9223372036854775808 := by omega
        have l2 : (n == -9223372036854775808) = false := by simpa using l1
        clear hl
        go_enter Tryd.func14, Tryd.ntmps14
        go_wp2_with fail
        go_returns
        exact ⟨rfl, below_one _ _⟩
    · have l1 : (n == -9223372036854775808) = false := by rw [beq_eq_false_iff_ne]; omega
      have l2 : (d == -9223372036854775808) = false := by rw [beq_eq_false_iff_ne]; omega
      have c1 : -9223372036854775807 ≤ n := by omega
      have c2 : -9223372036854775807 ≤ d := by omega
      have l3 : n ≠ -9223372036854775808 := by omega
      have l4 : d ≠ -9223372036854775808 := by omega
      obtain ⟨s1, s2, s3, s4, s5⟩ := red_spec h0 l3 l4
      obtain ⟨V, hV⟩ : ∃ V, V = makeV n d := ⟨_, rfl⟩
      have HV := Lib.hid (hV.trans (show makeV n d = (if partsV (redV n d).1 (redV n d).2 then (redV n d, 0) else ((0, 0), 2)) by rw [makeV, if_neg h0, if_neg hl]))
      rw [← hV]
      clear hV hl
      by_cases hs : d < 0
      · have e1 : redV n d = ((-n).tdiv (gcdV n d), (-d).tdiv (gcdV n d)) := by rw [redV, if_pos hs]
        have eg : gcdV (-n) (-d) = gcdV n d := gcd_neg2 l3 l4
        rw [if_pos hs] at s2 s3
        have t2 := le_of_mul s1 s2
        have t3 := le_of_mul s1 s3
        rw [e1] at t2 t3 s5
        dsimp only at t2 t3 s5
        have S2 := Lib.hid s2
        have S3 := Lib.hid s3
        have S4 := Lib.hid s4
        have E1 := Lib.hid e1
        have EG := Lib.hid eg
        clear s2 s3 s4 e1 eg
        go_enter Tryd.func14, Tryd.ntmps14
        go_wp2_with fail
        refine (gcd_any _ _ _ (by omega) (by omega)).mono ?_
        rintro e w' ⟨rfl, k, rfl⟩
        rw [EG.out]
        rw [E1.out] at S2 S3 S4 HV
        dsimp only at S2 S3 S4 HV
        clear E1 EG
        generalize gcdV n d = g at *
        have bn1 : -9223372036854775807 ≤ -n := by omega
        have bn2 : -n ≤ 9223372036854775807 := by omega
        have bd1 : -9223372036854775807 ≤ -d := by omega
        have bd2 : -d ≤ 9223372036854775807 := by omega
        generalize -n = n' at *
        generalize -d = d' at *
        have gb : (g == 0) = false := by rw [beq_eq_false_iff_ne]; omega
        go_wp2_with fail
        go_quiet (fail)
        generalize n'.tdiv g = P at *
        generalize d'.tdiv g = Q at *
        go_wp2_with fail
        refine (parts_any P Q _).mono ?_
        rintro e w' ⟨rfl, rfl⟩
        cases hp : partsV P Q with
        | true =>
          rw [hp] at HV
          go_wp2_with fail
          go_returns
          exact ⟨by rw [HV.out]; rfl, ((((below_drewN (below_one _ _) _).setCell (Nat.le_refl _) _).setCell (Nat.le_refl _) _))⟩
        | false =>
          rw [hp] at HV
          go_wp2_with fail
          go_returns
          exact ⟨by rw [HV.out]; rfl, ((((below_drewN (below_one _ _) _).setCell (Nat.le_refl _) _).setCell (Nat.le_refl _) _))⟩
      · have e1 : redV n d = (n.tdiv (gcdV n d), d.tdiv (gcdV n d)) := by rw [redV, if_neg hs]
        have eg : gcdV n d = gcdV n d := rfl
        rw [if_neg hs] at s2 s3
        have t2 := le_of_mul s1 s2
        have t3 := le_of_mul s1 s3
        rw [e1] at t2 t3 s5
        dsimp only at t2 t3 s5
        have S2 := Lib.hid s2
        have S3 := Lib.hid s3
        have S4 := Lib.hid s4
        have E1 := Lib.hid e1
        clear s2 s3 s4 e1 eg
        go_enter Tryd.func14, Tryd.ntmps14
        go_wp2_with fail
        refine (gcd_any _ _ _ (by omega) (by omega)).mono ?_
        rintro e w' ⟨rfl, k, rfl⟩
        rw [E1.out] at S2 S3 S4 HV
        dsimp only at S2 S3 S4 HV
        clear E1
        generalize gcdV n d = g at *
        have gb : (g == 0) = false := by rw [beq_eq_false_iff_ne]; omega
        go_wp2_with fail
        go_quiet (fail)
        generalize n.tdiv g = P at *
        generalize d.tdiv g = Q at *
        go_wp2_with fail
        refine (parts_any P Q _).mono ?_
        rintro e w' ⟨rfl, rfl⟩
        cases hp : partsV P Q with
        | true =>
          rw [hp] at HV
          go_wp2_with fail
          go_returns
          exact ⟨by rw [HV.out]; rfl, ((((below_drewN (below_one _ _) _).setCell (Nat.le_refl _) _).setCell (Nat.le_refl _) _))⟩
        | false =>
          rw [hp] at HV
          go_wp2_with fail
          go_returns
          exact ⟨by rw [HV.out]; rfl, ((((below_drewN (below_one _ _) _).setCell (Nat.le_refl _) _).setCell (Nat.le_refl _) _))⟩
end Go.Proofs.YtdccjkbhmpfcmaaDoor
