/-
  The law RatioRounds at every input. Its conditions are its hypotheses.
-/
import Derived.Test.YtdccjkbhmpfcmaaDoorRc
namespace Go.Proofs.YtdccjkbhmpfcmaaDoor
open Go.RowKit
set_option linter.unusedVariables false
set_option linter.unusedSimpArgs false
theorem rounds_cases {n d m e : Int} (h : (n = m ∧ d = e) ∨ (n = -m ∧ d = -e)) (he : 0 < e) :
    ∃ f, (m = f * e ∧ quoQ n d 1 = f ∧ quoQ n d 2 = f ∧ quoQ n d 3 = f ∧ m.tmod e = 0) ∨
      (∃ r, m = f * e + r ∧ 0 < r ∧ r < e ∧ m.tmod e ≠ 0 ∧ quoQ n d 1 = f ∧ quoQ n d 3 = f + 1 ∧ ((2 * r < e ∧ quoQ n d 2 = f) ∨ (e ≤ 2 * r ∧ quoQ n d 2 = f + 1))) := by
  have h0 : d ≠ 0 := by omega
  have hd : (d.natAbs : Int) = e := by omega
  have hm : (if d < 0 then -n else n) = m := by
    rcases h with ⟨h1, h2⟩ | ⟨h1, h2⟩
    · rw [if_neg (by omega), h1]
    · rw [if_pos (by omega), h1]; omega
  have ed : m / e * e + m % e = m := by have := Int.mul_ediv_add_emod m e; rw [Int.mul_comm] at this; exact this
  have r0 := Int.emod_nonneg m (show e ≠ 0 by omega)
  have r1 := Int.emod_lt_of_pos m he
  have td : m.tmod e = 0 ↔ m % e = 0 := by
    constructor
    · intro h; exact Int.emod_eq_zero_of_dvd (Int.dvd_of_tmod_eq_zero h)
    · intro h; exact Int.tmod_eq_zero_of_dvd (Int.dvd_of_emod_eq_zero h)
  have q := fun mode (a : 1 ≤ mode) (b : mode ≤ 3) => quo_floor (n := n) (d := d) (f := m / e) (r := m % e) mode h0 a b (by rw [hm, hd]; exact ed.symm) r0 (by rw [hd]; exact r1)
  have q1 := q 1 (by decide) (by decide)
  have q2 := q 2 (by decide) (by decide)
  have q3 := q 3 (by decide) (by decide)
  rw [hd] at q1 q2 q3
  refine ⟨m / e, ?_⟩
  generalize m / e = f at *
  generalize m % e = r at *
  rw [if_pos (.inr rfl)] at q1
  by_cases hr : r = 0
  · rw [if_pos (.inl hr)] at q2 q3
    exact .inl ⟨by omega, q1, q2, q3, td.2 hr⟩
  · rw [if_neg (by omega)] at q2 q3
    rw [if_pos (.inl rfl)] at q3
    refine .inr ⟨r, by omega, by omega, r1, fun h => hr (td.1 h), q1, q3, ?_⟩
    by_cases hc : e ≤ 2 * r
    · rw [if_pos (.inr hc)] at q2; exact .inr ⟨hc, q2⟩
    · rw [if_neg (by omega)] at q2; exact .inl ⟨by omega, q2⟩
theorem quotV_is {n d mode f : Int} (h0 : d ≠ 0) (h1 : 1 ≤ mode) (h2 : mode ≤ 3) (h : quoQ n d mode = f) (hf : f ≤ 9223372036854775807) : quotV n d mode = (f, 0) := by
  rw [quotV, if_neg h0, if_neg (by omega), h, if_neg (by omega)]
set_option maxRecDepth 20000 in
set_option maxHeartbeats 4000000 in
theorem rounds_law (n d : Int) (w : World) (hw0 : Wd w) (n1 : -9223372036854775808 ≤ n) (n2 : n ≤ 9223372036854775807) (d1 : -9223372036854775808 ≤ d) (d2 : d ≤ 9223372036854775807) :
    Calls Tryd.prog 5 #[.int .i64 n, .int .i64 d] w fun e w' => e = .returned (.bool true) ∧ Below w.heap.size w w' := by
  obtain ⟨B, hB⟩ : ∃ B, B = w.heap.size := ⟨_, rfl⟩
  have HB := Lib.hid hB
  have HW := Lib.hid hw0
  rw [← hB]
  clear hw0
  by_cases h0 : d = 0
  · subst h0
    skip
    have FB : Hid (Below B w w) := Lib.hid (Below.refl _ _)
    have fs : B ≤ w.heap.size := by rw [hB]; exact Nat.le_refl _
    clear hB
    go_enter Tryd.func5, Tryd.ntmps5
    go_wp2_with fail
    refine (awake_any _ (HW.out.on (by rw [← HB.out]; exact FB.out))).mono ?_
    rintro e x1 ⟨rfl, hb⟩
    replace FB := Lib.hid (FB.out.trans (hb.mono (by omega)))
    replace fs := Nat.le_trans fs hb.size
    clear hb
    go_wp2_with fail
    go_ret
    exact ⟨rfl, FB.out⟩
  · have hb0 : (d == 0) = false := by simpa using h0
    by_cases hbig : n < -1099511627776 ∨ 1099511627776 < n ∨ d < -1048576 ∨ 1048576 < d
    · by_cases g1 : n < -1099511627776
      · clear hbig
        skip
        have FB : Hid (Below B w w) := Lib.hid (Below.refl _ _)
        have fs : B ≤ w.heap.size := by rw [hB]; exact Nat.le_refl _
        clear hB
        go_enter Tryd.func5, Tryd.ntmps5
        go_wp2_with fail
        refine (awake_any _ (HW.out.on (by rw [← HB.out]; exact FB.out))).mono ?_
        rintro e x1 ⟨rfl, hb⟩
        replace FB := Lib.hid (FB.out.trans (hb.mono (by omega)))
        replace fs := Nat.le_trans fs hb.size
        clear hb
        go_wp2_with fail
        go_ret
        exact ⟨rfl, FB.out⟩
      · by_cases g2 : 1099511627776 < n
        · clear hbig
          skip
          have FB : Hid (Below B w w) := Lib.hid (Below.refl _ _)
          have fs : B ≤ w.heap.size := by rw [hB]; exact Nat.le_refl _
          clear hB
          go_enter Tryd.func5, Tryd.ntmps5
          go_wp2_with fail
          refine (awake_any _ (HW.out.on (by rw [← HB.out]; exact FB.out))).mono ?_
          rintro e x1 ⟨rfl, hb⟩
          replace FB := Lib.hid (FB.out.trans (hb.mono (by omega)))
          replace fs := Nat.le_trans fs hb.size
          clear hb
          go_wp2_with fail
          go_ret
          exact ⟨rfl, FB.out⟩
        · by_cases g3 : d < -1048576
          · clear hbig
            skip
            have FB : Hid (Below B w w) := Lib.hid (Below.refl _ _)
            have fs : B ≤ w.heap.size := by rw [hB]; exact Nat.le_refl _
            clear hB
            go_enter Tryd.func5, Tryd.ntmps5
            go_wp2_with fail
            refine (awake_any _ (HW.out.on (by rw [← HB.out]; exact FB.out))).mono ?_
            rintro e x1 ⟨rfl, hb⟩
            replace FB := Lib.hid (FB.out.trans (hb.mono (by omega)))
            replace fs := Nat.le_trans fs hb.size
            clear hb
            go_wp2_with fail
            go_ret
            exact ⟨rfl, FB.out⟩
          · have g4 : 1048576 < d := by omega
            have g5 : (decide ((1048576 : Int) < d)) = true := by simpa using g4
            clear hbig
            skip
            have FB : Hid (Below B w w) := Lib.hid (Below.refl _ _)
            have fs : B ≤ w.heap.size := by rw [hB]; exact Nat.le_refl _
            clear hB
            go_enter Tryd.func5, Tryd.ntmps5
            go_wp2_with fail
            refine (awake_any _ (HW.out.on (by rw [← HB.out]; exact FB.out))).mono ?_
            rintro e x1 ⟨rfl, hb⟩
            replace FB := Lib.hid (FB.out.trans (hb.mono (by omega)))
            replace fs := Nat.le_trans fs hb.size
            clear hb
            go_wp2_with fail
            go_ret
            exact ⟨rfl, FB.out⟩
    · have m1 : -1099511627776 ≤ n := by omega
      have m2 : n ≤ 1099511627776 := by omega
      have m3 : -1048576 ≤ d := by omega
      have m4 : d ≤ 1048576 := by omega
      have m5 : (decide ((1048576 : Int) < d)) = false := by simpa using m4
      clear hbig
      by_cases hs : d < 0
      · obtain ⟨m, rfl⟩ : ∃ m, n = -m := ⟨-n, by omega⟩
        obtain ⟨e, rfl⟩ : ∃ e, d = -e := ⟨-d, by omega⟩
        have he : 0 < e := by omega
        have he2 : e ≤ 1048576 := by omega
        have hm1 : -1099511627776 ≤ m := by omega
        have hm2 : m ≤ 1099511627776 := by omega
        obtain ⟨f, hf⟩ := rounds_cases (n := -m) (d := -e) (m := m) (e := e) (.inr ⟨rfl, rfl⟩) he
        obtain ⟨P, hP⟩ : ∃ P, P = f * e := ⟨_, rfl⟩
        have p0 : f * e = P := hP.symm
        have p1 : (f + 1) * e = P + e := by rw [Int.add_mul, Int.one_mul, hP]
        have p2 : (2 * f + 1) * e = 2 * P + e := by rw [Int.add_mul, Int.one_mul, Int.mul_assoc, hP]
        have p3 : (2 * f - 1) * e = 2 * P - e := by rw [Int.sub_mul, Int.one_mul, Int.mul_assoc, hP]
        have p4 : (2 * (f + 1) + 1) * e = 2 * P + 3 * e := by rw [Int.add_mul, Int.one_mul, Int.mul_assoc, p1]; omega
        have p5 : (2 * (f + 1) - 1) * e = 2 * P + e := by rw [Int.sub_mul, Int.one_mul, Int.mul_assoc, p1]; omega
        clear hP
        rcases hf with ⟨hm, q1, q2, q3, ht⟩ | ⟨r, hm, hr0, hr1, ht, q1, q3, ⟨hr2, q2⟩ | ⟨hr2, q2⟩⟩
        · rw [p0] at hm
          have fb1 : -2199023255552 ≤ f := by
            apply Classical.byContradiction
            intro hc
            have := Int.mul_le_mul_of_nonneg_right (show f ≤ -2199023255553 by omega) (show 0 ≤ e by omega)
            rw [p0] at this
            omega
          have fb2 : f ≤ 2199023255552 := by
            apply Classical.byContradiction
            intro hc
            have := Int.mul_le_mul_of_nonneg_right (show 2199023255553 ≤ f by omega) (show 0 ≤ e by omega)
            rw [p0] at this
            omega
          have HQ1 := Lib.hid (quotV_is (n := -m) (d := -e) (mode := 1) (by omega) (by decide) (by decide) q1 (by omega))
          have HQ2 := Lib.hid (quotV_is (n := -m) (d := -e) (mode := 2) (by omega) (by decide) (by decide) q2 (by omega))
          have HQ3 := Lib.hid (quotV_is (n := -m) (d := -e) (mode := 3) (by omega) (by decide) (by decide) q3 (by omega))
          have c1 : P ≤ m := by omega
          have c2 : m ≤ P + e := by omega
          have c3 : -2199023255552 ≤ P := by omega
          have c4 : P ≤ 2199023255552 := by omega
          have c5 : 2 * m < 2 * P + e := by omega
          have c6 : 2 * P - e ≤ 2 * m := by omega
          have c7 : m ≤ P := by omega
          clear q1 q2 q3 hm
          have FB : Hid (Below B w w) := Lib.hid (Below.refl _ _)
          have fs : B ≤ w.heap.size := by rw [hB]; exact Nat.le_refl _
          clear hB
          go_enter Tryd.func5, Tryd.ntmps5
          go_wp2_with fail
          refine (awake_any _ (HW.out.on (by rw [← HB.out]; exact FB.out))).mono ?_
          rintro e x1 ⟨rfl, hb⟩
          replace FB := Lib.hid (FB.out.trans (hb.mono (by omega)))
          replace fs := Nat.le_trans fs hb.size
          clear hb
          go_wp2_with fail
          refine (quotient_any (-m) (-e) 1 _ (by omega) (by omega) (by omega) (by omega)).mono ?_
          rintro e x2 ⟨rfl, kk, hw⟩
          have hb : Below x1.heap.size x1 x2 := by rw [hw]; exact below_drewN (Below.refl _ _) kk
          clear hw
          replace FB := Lib.hid (FB.out.trans (hb.mono (by omega)))
          replace fs := Nat.le_trans fs hb.size
          clear hb
          rw [HQ1.out]
          dsimp only [numE]
          go_wp2_with fail
          refine (quotient_any (-m) (-e) 2 _ (by omega) (by omega) (by omega) (by omega)).mono ?_
          rintro e x3 ⟨rfl, kk, hw⟩
          have hb : Below x2.heap.size x2 x3 := by rw [hw]; exact below_drewN (Below.refl _ _) kk
          clear hw
          replace FB := Lib.hid (FB.out.trans (hb.mono (by omega)))
          replace fs := Nat.le_trans fs hb.size
          clear hb
          rw [HQ2.out]
          dsimp only [numE]
          go_wp2_with fail
          refine (quotient_any (-m) (-e) 3 _ (by omega) (by omega) (by omega) (by omega)).mono ?_
          rintro e x4 ⟨rfl, kk, hw⟩
          have hb : Below x3.heap.size x3 x4 := by rw [hw]; exact below_drewN (Below.refl _ _) kk
          clear hw
          replace FB := Lib.hid (FB.out.trans (hb.mono (by omega)))
          replace fs := Nat.le_trans fs hb.size
          clear hb
          rw [HQ3.out]
          dsimp only [numE]
          go_wp2_with fail
          all_goals first | (exfalso; omega) | (go_ret; exact ⟨rfl, FB.out⟩)
        · rw [p0] at hm
          have fb1 : -2199023255552 ≤ f := by
            apply Classical.byContradiction
            intro hc
            have := Int.mul_le_mul_of_nonneg_right (show f ≤ -2199023255553 by omega) (show 0 ≤ e by omega)
            rw [p0] at this
            omega
          have fb2 : f ≤ 2199023255552 := by
            apply Classical.byContradiction
            intro hc
            have := Int.mul_le_mul_of_nonneg_right (show 2199023255553 ≤ f by omega) (show 0 ≤ e by omega)
            rw [p0] at this
            omega
          have HQ1 := Lib.hid (quotV_is (n := -m) (d := -e) (mode := 1) (by omega) (by decide) (by decide) q1 (by omega))
          have HQ2 := Lib.hid (quotV_is (n := -m) (d := -e) (mode := 2) (by omega) (by decide) (by decide) q2 (by omega))
          have HQ3 := Lib.hid (quotV_is (n := -m) (d := -e) (mode := 3) (by omega) (by decide) (by decide) q3 (by omega))
          have c1 : P ≤ m := by omega
          have c2 : m ≤ P + e := by omega
          have c3 : -2199023255552 ≤ P := by omega
          have c4 : P ≤ 2199023255552 := by omega
          have c5 : 2 * m < 2 * P + e := by omega
          have c6 : 2 * P - e ≤ 2 * m := by omega
          have htb : (m.tmod e == 0) = false := by simpa using ht
          have htc : (-(m.tmod e) == 0) = false := by rw [beq_eq_false_iff_ne]; omega
          have hfe : (f + 1 == f) = false := by rw [beq_eq_false_iff_ne]; omega
          clear q1 q2 q3 hm ht hr2
          have FB : Hid (Below B w w) := Lib.hid (Below.refl _ _)
          have fs : B ≤ w.heap.size := by rw [hB]; exact Nat.le_refl _
          clear hB
          go_enter Tryd.func5, Tryd.ntmps5
          go_wp2_with fail
          refine (awake_any _ (HW.out.on (by rw [← HB.out]; exact FB.out))).mono ?_
          rintro e x1 ⟨rfl, hb⟩
          replace FB := Lib.hid (FB.out.trans (hb.mono (by omega)))
          replace fs := Nat.le_trans fs hb.size
          clear hb
          go_wp2_with fail
          refine (quotient_any (-m) (-e) 1 _ (by omega) (by omega) (by omega) (by omega)).mono ?_
          rintro e x2 ⟨rfl, kk, hw⟩
          have hb : Below x1.heap.size x1 x2 := by rw [hw]; exact below_drewN (Below.refl _ _) kk
          clear hw
          replace FB := Lib.hid (FB.out.trans (hb.mono (by omega)))
          replace fs := Nat.le_trans fs hb.size
          clear hb
          rw [HQ1.out]
          dsimp only [numE]
          go_wp2_with fail
          refine (quotient_any (-m) (-e) 2 _ (by omega) (by omega) (by omega) (by omega)).mono ?_
          rintro e x3 ⟨rfl, kk, hw⟩
          have hb : Below x2.heap.size x2 x3 := by rw [hw]; exact below_drewN (Below.refl _ _) kk
          clear hw
          replace FB := Lib.hid (FB.out.trans (hb.mono (by omega)))
          replace fs := Nat.le_trans fs hb.size
          clear hb
          rw [HQ2.out]
          dsimp only [numE]
          go_wp2_with fail
          refine (quotient_any (-m) (-e) 3 _ (by omega) (by omega) (by omega) (by omega)).mono ?_
          rintro e x4 ⟨rfl, kk, hw⟩
          have hb : Below x3.heap.size x3 x4 := by rw [hw]; exact below_drewN (Below.refl _ _) kk
          clear hw
          replace FB := Lib.hid (FB.out.trans (hb.mono (by omega)))
          replace fs := Nat.le_trans fs hb.size
          clear hb
          rw [HQ3.out]
          dsimp only [numE]
          go_wp2_with fail
          all_goals first | (exfalso; omega) | (go_ret; exact ⟨rfl, FB.out⟩)
        · rw [p0] at hm
          have fb1 : -2199023255552 ≤ f := by
            apply Classical.byContradiction
            intro hc
            have := Int.mul_le_mul_of_nonneg_right (show f ≤ -2199023255553 by omega) (show 0 ≤ e by omega)
            rw [p0] at this
            omega
          have fb2 : f ≤ 2199023255552 := by
            apply Classical.byContradiction
            intro hc
            have := Int.mul_le_mul_of_nonneg_right (show 2199023255553 ≤ f by omega) (show 0 ≤ e by omega)
            rw [p0] at this
            omega
          have HQ1 := Lib.hid (quotV_is (n := -m) (d := -e) (mode := 1) (by omega) (by decide) (by decide) q1 (by omega))
          have HQ2 := Lib.hid (quotV_is (n := -m) (d := -e) (mode := 2) (by omega) (by decide) (by decide) q2 (by omega))
          have HQ3 := Lib.hid (quotV_is (n := -m) (d := -e) (mode := 3) (by omega) (by decide) (by decide) q3 (by omega))
          have c1 : P ≤ m := by omega
          have c2 : m ≤ P + e := by omega
          have c3 : -2199023255552 ≤ P := by omega
          have c4 : P ≤ 2199023255552 := by omega
          have c5 : 2 * m < 2 * P + 3 * e := by omega
          have c6 : 2 * P + e ≤ 2 * m := by omega
          have htb : (m.tmod e == 0) = false := by simpa using ht
          have htc : (-(m.tmod e) == 0) = false := by rw [beq_eq_false_iff_ne]; omega
          have hfe : (f + 1 == f) = false := by rw [beq_eq_false_iff_ne]; omega
          clear q1 q2 q3 hm ht hr2
          have FB : Hid (Below B w w) := Lib.hid (Below.refl _ _)
          have fs : B ≤ w.heap.size := by rw [hB]; exact Nat.le_refl _
          clear hB
          go_enter Tryd.func5, Tryd.ntmps5
          go_wp2_with fail
          refine (awake_any _ (HW.out.on (by rw [← HB.out]; exact FB.out))).mono ?_
          rintro e x1 ⟨rfl, hb⟩
          replace FB := Lib.hid (FB.out.trans (hb.mono (by omega)))
          replace fs := Nat.le_trans fs hb.size
          clear hb
          go_wp2_with fail
          refine (quotient_any (-m) (-e) 1 _ (by omega) (by omega) (by omega) (by omega)).mono ?_
          rintro e x2 ⟨rfl, kk, hw⟩
          have hb : Below x1.heap.size x1 x2 := by rw [hw]; exact below_drewN (Below.refl _ _) kk
          clear hw
          replace FB := Lib.hid (FB.out.trans (hb.mono (by omega)))
          replace fs := Nat.le_trans fs hb.size
          clear hb
          rw [HQ1.out]
          dsimp only [numE]
          go_wp2_with fail
          refine (quotient_any (-m) (-e) 2 _ (by omega) (by omega) (by omega) (by omega)).mono ?_
          rintro e x3 ⟨rfl, kk, hw⟩
          have hb : Below x2.heap.size x2 x3 := by rw [hw]; exact below_drewN (Below.refl _ _) kk
          clear hw
          replace FB := Lib.hid (FB.out.trans (hb.mono (by omega)))
          replace fs := Nat.le_trans fs hb.size
          clear hb
          rw [HQ2.out]
          dsimp only [numE]
          go_wp2_with fail
          refine (quotient_any (-m) (-e) 3 _ (by omega) (by omega) (by omega) (by omega)).mono ?_
          rintro e x4 ⟨rfl, kk, hw⟩
          have hb : Below x3.heap.size x3 x4 := by rw [hw]; exact below_drewN (Below.refl _ _) kk
          clear hw
          replace FB := Lib.hid (FB.out.trans (hb.mono (by omega)))
          replace fs := Nat.le_trans fs hb.size
          clear hb
          rw [HQ3.out]
          dsimp only [numE]
          go_wp2_with fail
          all_goals first | (exfalso; omega) | (go_ret; exact ⟨rfl, FB.out⟩)
      · obtain ⟨m, hmn⟩ : ∃ m, m = n := ⟨_, rfl⟩
        obtain ⟨e, hed⟩ : ∃ e, e = d := ⟨_, rfl⟩
        subst hmn hed
        have he : 0 < e := by omega
        obtain ⟨f, hf⟩ := rounds_cases (n := m) (d := e) (m := m) (e := e) (.inl ⟨rfl, rfl⟩) he
        obtain ⟨P, hP⟩ : ∃ P, P = f * e := ⟨_, rfl⟩
        have p0 : f * e = P := hP.symm
        have p1 : (f + 1) * e = P + e := by rw [Int.add_mul, Int.one_mul, hP]
        have p2 : (2 * f + 1) * e = 2 * P + e := by rw [Int.add_mul, Int.one_mul, Int.mul_assoc, hP]
        have p3 : (2 * f - 1) * e = 2 * P - e := by rw [Int.sub_mul, Int.one_mul, Int.mul_assoc, hP]
        have p4 : (2 * (f + 1) + 1) * e = 2 * P + 3 * e := by rw [Int.add_mul, Int.one_mul, Int.mul_assoc, p1]; omega
        have p5 : (2 * (f + 1) - 1) * e = 2 * P + e := by rw [Int.sub_mul, Int.one_mul, Int.mul_assoc, p1]; omega
        clear hP
        rcases hf with ⟨hm, q1, q2, q3, ht⟩ | ⟨r, hm, hr0, hr1, ht, q1, q3, ⟨hr2, q2⟩ | ⟨hr2, q2⟩⟩
        · rw [p0] at hm
          have fb1 : -2199023255552 ≤ f := by
            apply Classical.byContradiction
            intro hc
            have := Int.mul_le_mul_of_nonneg_right (show f ≤ -2199023255553 by omega) (show 0 ≤ e by omega)
            rw [p0] at this
            omega
          have fb2 : f ≤ 2199023255552 := by
            apply Classical.byContradiction
            intro hc
            have := Int.mul_le_mul_of_nonneg_right (show 2199023255553 ≤ f by omega) (show 0 ≤ e by omega)
            rw [p0] at this
            omega
          have HQ1 := Lib.hid (quotV_is (n := m) (d := e) (mode := 1) (by omega) (by decide) (by decide) q1 (by omega))
          have HQ2 := Lib.hid (quotV_is (n := m) (d := e) (mode := 2) (by omega) (by decide) (by decide) q2 (by omega))
          have HQ3 := Lib.hid (quotV_is (n := m) (d := e) (mode := 3) (by omega) (by decide) (by decide) q3 (by omega))
          have c1 : P ≤ m := by omega
          have c2 : m ≤ P + e := by omega
          have c3 : -2199023255552 ≤ P := by omega
          have c4 : P ≤ 2199023255552 := by omega
          have c5 : 2 * m < 2 * P + e := by omega
          have c6 : 2 * P - e ≤ 2 * m := by omega
          have c7 : m ≤ P := by omega
          clear q1 q2 q3 hm
          have FB : Hid (Below B w w) := Lib.hid (Below.refl _ _)
          have fs : B ≤ w.heap.size := by rw [hB]; exact Nat.le_refl _
          clear hB
          go_enter Tryd.func5, Tryd.ntmps5
          go_wp2_with fail
          refine (awake_any _ (HW.out.on (by rw [← HB.out]; exact FB.out))).mono ?_
          rintro e x1 ⟨rfl, hb⟩
          replace FB := Lib.hid (FB.out.trans (hb.mono (by omega)))
          replace fs := Nat.le_trans fs hb.size
          clear hb
          go_wp2_with fail
          refine (quotient_any (m) (e) 1 _ (by omega) (by omega) (by omega) (by omega)).mono ?_
          rintro e x2 ⟨rfl, kk, hw⟩
          have hb : Below x1.heap.size x1 x2 := by rw [hw]; exact below_drewN (Below.refl _ _) kk
          clear hw
          replace FB := Lib.hid (FB.out.trans (hb.mono (by omega)))
          replace fs := Nat.le_trans fs hb.size
          clear hb
          rw [HQ1.out]
          dsimp only [numE]
          go_wp2_with fail
          refine (quotient_any (m) (e) 2 _ (by omega) (by omega) (by omega) (by omega)).mono ?_
          rintro e x3 ⟨rfl, kk, hw⟩
          have hb : Below x2.heap.size x2 x3 := by rw [hw]; exact below_drewN (Below.refl _ _) kk
          clear hw
          replace FB := Lib.hid (FB.out.trans (hb.mono (by omega)))
          replace fs := Nat.le_trans fs hb.size
          clear hb
          rw [HQ2.out]
          dsimp only [numE]
          go_wp2_with fail
          refine (quotient_any (m) (e) 3 _ (by omega) (by omega) (by omega) (by omega)).mono ?_
          rintro e x4 ⟨rfl, kk, hw⟩
          have hb : Below x3.heap.size x3 x4 := by rw [hw]; exact below_drewN (Below.refl _ _) kk
          clear hw
          replace FB := Lib.hid (FB.out.trans (hb.mono (by omega)))
          replace fs := Nat.le_trans fs hb.size
          clear hb
          rw [HQ3.out]
          dsimp only [numE]
          go_wp2_with fail
          all_goals first | (exfalso; omega) | (go_ret; exact ⟨rfl, FB.out⟩)
        · rw [p0] at hm
          have fb1 : -2199023255552 ≤ f := by
            apply Classical.byContradiction
            intro hc
            have := Int.mul_le_mul_of_nonneg_right (show f ≤ -2199023255553 by omega) (show 0 ≤ e by omega)
            rw [p0] at this
            omega
          have fb2 : f ≤ 2199023255552 := by
            apply Classical.byContradiction
            intro hc
            have := Int.mul_le_mul_of_nonneg_right (show 2199023255553 ≤ f by omega) (show 0 ≤ e by omega)
            rw [p0] at this
            omega
          have HQ1 := Lib.hid (quotV_is (n := m) (d := e) (mode := 1) (by omega) (by decide) (by decide) q1 (by omega))
          have HQ2 := Lib.hid (quotV_is (n := m) (d := e) (mode := 2) (by omega) (by decide) (by decide) q2 (by omega))
          have HQ3 := Lib.hid (quotV_is (n := m) (d := e) (mode := 3) (by omega) (by decide) (by decide) q3 (by omega))
          have c1 : P ≤ m := by omega
          have c2 : m ≤ P + e := by omega
          have c3 : -2199023255552 ≤ P := by omega
          have c4 : P ≤ 2199023255552 := by omega
          have c5 : 2 * m < 2 * P + e := by omega
          have c6 : 2 * P - e ≤ 2 * m := by omega
          have htb : (m.tmod e == 0) = false := by simpa using ht
          have htc : (-(m.tmod e) == 0) = false := by rw [beq_eq_false_iff_ne]; omega
          have hfe : (f + 1 == f) = false := by rw [beq_eq_false_iff_ne]; omega
          clear q1 q2 q3 hm ht hr2
          have FB : Hid (Below B w w) := Lib.hid (Below.refl _ _)
          have fs : B ≤ w.heap.size := by rw [hB]; exact Nat.le_refl _
          clear hB
          go_enter Tryd.func5, Tryd.ntmps5
          go_wp2_with fail
          refine (awake_any _ (HW.out.on (by rw [← HB.out]; exact FB.out))).mono ?_
          rintro e x1 ⟨rfl, hb⟩
          replace FB := Lib.hid (FB.out.trans (hb.mono (by omega)))
          replace fs := Nat.le_trans fs hb.size
          clear hb
          go_wp2_with fail
          refine (quotient_any (m) (e) 1 _ (by omega) (by omega) (by omega) (by omega)).mono ?_
          rintro e x2 ⟨rfl, kk, hw⟩
          have hb : Below x1.heap.size x1 x2 := by rw [hw]; exact below_drewN (Below.refl _ _) kk
          clear hw
          replace FB := Lib.hid (FB.out.trans (hb.mono (by omega)))
          replace fs := Nat.le_trans fs hb.size
          clear hb
          rw [HQ1.out]
          dsimp only [numE]
          go_wp2_with fail
          refine (quotient_any (m) (e) 2 _ (by omega) (by omega) (by omega) (by omega)).mono ?_
          rintro e x3 ⟨rfl, kk, hw⟩
          have hb : Below x2.heap.size x2 x3 := by rw [hw]; exact below_drewN (Below.refl _ _) kk
          clear hw
          replace FB := Lib.hid (FB.out.trans (hb.mono (by omega)))
          replace fs := Nat.le_trans fs hb.size
          clear hb
          rw [HQ2.out]
          dsimp only [numE]
          go_wp2_with fail
          refine (quotient_any (m) (e) 3 _ (by omega) (by omega) (by omega) (by omega)).mono ?_
          rintro e x4 ⟨rfl, kk, hw⟩
          have hb : Below x3.heap.size x3 x4 := by rw [hw]; exact below_drewN (Below.refl _ _) kk
          clear hw
          replace FB := Lib.hid (FB.out.trans (hb.mono (by omega)))
          replace fs := Nat.le_trans fs hb.size
          clear hb
          rw [HQ3.out]
          dsimp only [numE]
          go_wp2_with fail
          all_goals first | (exfalso; omega) | (go_ret; exact ⟨rfl, FB.out⟩)
        · rw [p0] at hm
          have fb1 : -2199023255552 ≤ f := by
            apply Classical.byContradiction
            intro hc
            have := Int.mul_le_mul_of_nonneg_right (show f ≤ -2199023255553 by omega) (show 0 ≤ e by omega)
            rw [p0] at this
            omega
          have fb2 : f ≤ 2199023255552 := by
            apply Classical.byContradiction
            intro hc
            have := Int.mul_le_mul_of_nonneg_right (show 2199023255553 ≤ f by omega) (show 0 ≤ e by omega)
            rw [p0] at this
            omega
          have HQ1 := Lib.hid (quotV_is (n := m) (d := e) (mode := 1) (by omega) (by decide) (by decide) q1 (by omega))
          have HQ2 := Lib.hid (quotV_is (n := m) (d := e) (mode := 2) (by omega) (by decide) (by decide) q2 (by omega))
          have HQ3 := Lib.hid (quotV_is (n := m) (d := e) (mode := 3) (by omega) (by decide) (by decide) q3 (by omega))
          have c1 : P ≤ m := by omega
          have c2 : m ≤ P + e := by omega
          have c3 : -2199023255552 ≤ P := by omega
          have c4 : P ≤ 2199023255552 := by omega
          have c5 : 2 * m < 2 * P + 3 * e := by omega
          have c6 : 2 * P + e ≤ 2 * m := by omega
          have htb : (m.tmod e == 0) = false := by simpa using ht
          have htc : (-(m.tmod e) == 0) = false := by rw [beq_eq_false_iff_ne]; omega
          have hfe : (f + 1 == f) = false := by rw [beq_eq_false_iff_ne]; omega
          clear q1 q2 q3 hm ht hr2
          have FB : Hid (Below B w w) := Lib.hid (Below.refl _ _)
          have fs : B ≤ w.heap.size := by rw [hB]; exact Nat.le_refl _
          clear hB
          go_enter Tryd.func5, Tryd.ntmps5
          go_wp2_with fail
          refine (awake_any _ (HW.out.on (by rw [← HB.out]; exact FB.out))).mono ?_
          rintro e x1 ⟨rfl, hb⟩
          replace FB := Lib.hid (FB.out.trans (hb.mono (by omega)))
          replace fs := Nat.le_trans fs hb.size
          clear hb
          go_wp2_with fail
          refine (quotient_any (m) (e) 1 _ (by omega) (by omega) (by omega) (by omega)).mono ?_
          rintro e x2 ⟨rfl, kk, hw⟩
          have hb : Below x1.heap.size x1 x2 := by rw [hw]; exact below_drewN (Below.refl _ _) kk
          clear hw
          replace FB := Lib.hid (FB.out.trans (hb.mono (by omega)))
          replace fs := Nat.le_trans fs hb.size
          clear hb
          rw [HQ1.out]
          dsimp only [numE]
          go_wp2_with fail
          refine (quotient_any (m) (e) 2 _ (by omega) (by omega) (by omega) (by omega)).mono ?_
          rintro e x3 ⟨rfl, kk, hw⟩
          have hb : Below x2.heap.size x2 x3 := by rw [hw]; exact below_drewN (Below.refl _ _) kk
          clear hw
          replace FB := Lib.hid (FB.out.trans (hb.mono (by omega)))
          replace fs := Nat.le_trans fs hb.size
          clear hb
          rw [HQ2.out]
          dsimp only [numE]
          go_wp2_with fail
          refine (quotient_any (m) (e) 3 _ (by omega) (by omega) (by omega) (by omega)).mono ?_
          rintro e x4 ⟨rfl, kk, hw⟩
          have hb : Below x3.heap.size x3 x4 := by rw [hw]; exact below_drewN (Below.refl _ _) kk
          clear hw
          replace FB := Lib.hid (FB.out.trans (hb.mono (by omega)))
          replace fs := Nat.le_trans fs hb.size
          clear hb
          rw [HQ3.out]
          dsimp only [numE]
          go_wp2_with fail
          all_goals first | (exfalso; omega) | (go_ret; exact ⟨rfl, FB.out⟩)
end Go.Proofs.YtdccjkbhmpfcmaaDoor
