/-
  The contracts of Gcd, Valid and Quotient. The conditions of the contracts are their hypotheses.
-/
import Derived.Test.YtmopjhbfobmklaaGreatDoorMBa
import Derived.Test.YtmopjhbfobmklaaGreatDoorMCz
import Derived.Test.YtmopjhbfobmklaaGreatDoorChecked
set_option maxRecDepth 100000
set_option maxHeartbeats 40000000
namespace Go.Proofs.YtmopjhbfobmklaaGreatDoor.Q
open Go.RowKit
set_option linter.unusedVariables false
set_option linter.unusedSimpArgs false
theorem ret_val {a b : Value} (h : a = b) : Ending.returned a = Ending.returned b := by rw [h]
theorem drewN_twice (w : World) (n m : Nat) : (w.drewN n).drewN m = w.drewN (n + m) := by
 simp [World.drewN]
 omega
theorem gcd_any (a b : Int) (w : World) (ha : -9223372036854775808 ≤ a ∧ a ≤ 9223372036854775807) (hb : -9223372036854775808 ≤ b ∧ b ≤ 9223372036854775807) :
  Calls Tryz.prog 150 #[.int .i64 a, .int .i64 b] w fun e w' => e = .returned (.int .i64 (gcdV a b)) ∧ ∃ n, w' = w.drewN n := by
 obtain ⟨a1, a2⟩ := ha
 obtain ⟨b1, b2⟩ := hb
 by_cases h : a = -9223372036854775808 ∨ b = -9223372036854775808
 ·have hv : gcdV a b = 0 := by rw [gcdV, if_pos h]
  rw [hv]
  clear hv
  by_cases h1 : a = -9223372036854775808
  ·subst h1
   clear h
   go_enter Tryz.func150, Tryz.ntmps150
   go_wp2_with fail
   go_ret
   exact ⟨rfl, 0, rfl⟩
  obtain rfl : b = -9223372036854775808 := by omega
  have h1' : (a == -9223372036854775808) = false := by simpa using h1
  clear h
  go_enter Tryz.func150, Tryz.ntmps150
  go_wp2_with fail
  go_ret
  exact ⟨rfl, 0, rfl⟩
 have h1 : (a == -9223372036854775808) = false := by rw [beq_eq_false_iff_ne]; omega
 have h2 : (b == -9223372036854775808) = false := by rw [beq_eq_false_iff_ne]; omega
 have hv : gcdV a b = ((Nat.gcd a.natAbs b.natAbs : Nat) : Int) := by rw [gcdV, if_neg h]; rfl
 obtain ⟨G, hG⟩ : ∃ G, G = gcdV a b := ⟨_, rfl⟩
 rw [← hG]
 have HG := ι (hG.trans hv)
 have c1 : -9223372036854775807 ≤ a := by omega
 have c2 : -9223372036854775807 ≤ b := by omega
 clear hv hG h
 go_enter Tryz.func150, Tryz.ntmps150
 go_wp2_with fail
 all_goals
  go_loopw [5, 6] (fun x y wr => ∃ p q n : Nat, x = .int .i64 p ∧ y = .int .i64 q ∧ Hid (Nat.gcd p q = Nat.gcd a.natAbs b.natAbs) ∧ (p : Int) ≤ 9223372036854775807 ∧ (q : Int) ≤ 9223372036854775807 ∧ wr = w.drewN n) (fun _ y _ => (intOf y).toNat)
  case atStart => exact ⟨a.natAbs, b.natAbs, 0, by congr 1; omega, by congr 1; omega, ι rfl, by omega, by omega, rfl⟩
  case round =>
  obtain ⟨p, q, n, rfl, rfl, hg, hp, hq, rfl⟩ := hrel
  by_cases hq0 : q = 0
  ·subst hq0
   go_wp2_with fail
   go_ret
   exact ⟨by rw [HG.out, ← hg.out, Nat.gcd_zero_right]; rfl, n, rfl⟩
  have hqb : (((q : Int) != 0)) = true := by simpa using hq0
  have hq1 : (1 : Int) ≤ q := by omega
  have hlt := Nat.mod_lt p (Nat.pos_of_ne_zero hq0)
  have HGG := ι ((Nat.gcd_comm q (p % q)).trans (((Nat.gcd_rec q p).symm.trans (Nat.gcd_comm q p)).trans hg.out))
  go_wp2_with fail
  go_quiet (fail)
  go_wp2_with fail
  exact ⟨⟨q, p % q, n + nq, rfl, rfl, HGG, by omega, by omega, drewN_twice w n nq⟩, by simp [intOf]; omega⟩
theorem parts_any (n d : Int) (w : World) :
  Calls Tryz.prog 149 #[.int .i64 n, .int .i64 d] w fun e w' => e = .returned (.bool (partsV n d)) ∧ w = w' := by
 cases hv : partsV n d with
 | true =>
  obtain ⟨h1, h2, h3, h4⟩ := parts_bd hv
  clear hv
  go_enter Tryz.func149, Tryz.ntmps149
  go_wp2_with fail
  go_ret
  exact ⟨rfl, rfl⟩
 | false =>
  have h := parts_no hv
  clear hv
  by_cases h1 : -2147483648 ≤ n
  ·by_cases h2 : n ≤ 2147483648
   ·by_cases h3 : 1 ≤ d
    ·have h4 : (decide (d ≤ 2147483648)) = false := by simp; omega
     clear h
     go_enter Tryz.func149, Tryz.ntmps149
     go_wp2_with fail
     go_ret
     exact ⟨rfl, rfl⟩
    have h4 : d < 1 := by omega
    clear h h3
    go_enter Tryz.func149, Tryz.ntmps149
    go_wp2_with fail
    go_ret
    exact ⟨rfl, rfl⟩
   have h4 : 2147483648 < n := by omega
   clear h h2
   go_enter Tryz.func149, Tryz.ntmps149
   go_wp2_with fail
   go_ret
   exact ⟨rfl, rfl⟩
  have h4 : n < -2147483648 := by omega
  clear h h1
  go_enter Tryz.func149, Tryz.ntmps149
  go_wp2_with fail
  go_ret
  exact ⟨rfl, rfl⟩
end Go.Proofs.YtmopjhbfobmklaaGreatDoor.Q
namespace Go.Proofs.YtmopjhbfobmklaaGreatDoor.Q
open Go.RowKit
set_option linter.unusedVariables false
set_option linter.unusedSimpArgs false
theorem below_one (w : World) (o : Obj) : Below w.heap.size w (w.alloc o) := (Below.refl _ _).alloc (Nat.le_refl _) _
theorem valid_any (n d : Int) (w : World) (hn : -9223372036854775808 ≤ n ∧ n ≤ 9223372036854775807) (hd : -9223372036854775808 ≤ d ∧ d ≤ 9223372036854775807) :
  Calls Tryz.prog 104 #[.agg #[.int .i64 n, .int .i64 d]] w fun e w' => e = .returned (.bool (validV n d)) ∧ Below w.heap.size w w' := by
 have HN := ι hn
 have HD := ι hd
 clear hn hd
 cases hp : partsV n d with
 | false =>
  have hv : validV n d = false := by simp [validV, hp]
  rw [hv]
  go_enter Tryz.func104, Tryz.ntmps104
  go_wp2_with fail
  refine (parts_any n d _).mono ?_
  rintro e w' ⟨rfl, rfl⟩
  rw [hp]
  go_wp2_with fail
  go_ret
  exact ⟨rfl, below_one _ _⟩
 | true =>
  have hv : validV n d = (gcdV n d == 1) := by
   cases hh : (gcdV n d == 1) with
   | true => simp [validV, hp]; simpa using hh
   | false => simp [validV, hp]; simpa using hh
  obtain ⟨V, hV⟩ : ∃ V, V = validV n d := ⟨_, rfl⟩
  rw [← hV]
  rw [← hV] at hv
  have HV := ι hv
  clear hv hV
  go_enter Tryz.func104, Tryz.ntmps104
  go_wp2_with fail
  refine (parts_any n d _).mono ?_
  rintro e w' ⟨rfl, rfl⟩
  rw [hp]
  go_wp2_with fail
  refine (gcd_any n d _ HN.out HD.out).mono ?_
  rintro e w' ⟨rfl, k, rfl⟩
  go_wp2_with fail
  go_ret
  exact ⟨by rw [HV.out]; rfl, below_drewN (below_one _ _) k⟩
end Go.Proofs.YtmopjhbfobmklaaGreatDoor.Q
namespace Go.Proofs.YtmopjhbfobmklaaGreatDoor.Q
open Go.RowKit
set_option linter.unusedVariables false
set_option linter.unusedSimpArgs false
theorem sizeu_any (n : Int) (w : World) (h1 : -9223372036854775808 ≤ n) (h2 : n ≤ 9223372036854775807) :
  Calls Tryz.prog 109 #[.int .i64 n] w fun e w' => e = .returned (.int .u64 (n.natAbs : Int)) ∧ w' = w := by
 go_enter Tryz.func109, Tryz.ntmps109
 go_wp2_with fail
 all_goals
  go_ret
  refine ⟨ret_val ?_, rfl⟩
  show Value.int .u64 _ = _
  congr 1
  go_arith
theorem known_yes (m : Int) (w : World) (h1 : 1 ≤ m) (h2 : m ≤ 3) :
  Calls Tryz.prog 108 #[.int .u8 m] w fun e w' => e = .returned (.bool true) ∧ w' = w := by
 go_enter Tryz.func108, Tryz.ntmps108
 go_wp2_with fail
 go_ret
 exact ⟨rfl, rfl⟩
theorem known_no (m : Int) (w : World) (h : m < 1 ∨ 3 < m) :
  Calls Tryz.prog 108 #[.int .u8 m] w fun e w' => e = .returned (.bool false) ∧ w' = w := by
 by_cases h1 : m < 1
 ·clear h
  go_enter Tryz.func108, Tryz.ntmps108
  go_wp2_with fail
  go_ret
  exact ⟨rfl, rfl⟩
 have h2 : (decide (m ≤ 3)) = false := by simp; omega
 have h3 : 1 ≤ m := by omega
 clear h h1
 go_enter Tryz.func108, Tryz.ntmps108
 go_wp2_with fail
 go_ret
 exact ⟨rfl, rfl⟩
theorem away_any (neg : Bool) (r d m : Int) (w : World) (hr : 0 ≤ r) (hd : r < d) (hd2 : d ≤ 9223372036854775808) :
  Calls Tryz.prog 110 #[.bool neg, .int .u64 r, .int .u64 d, .int .u8 m] w fun e w' => e = .returned (.bool (awayV neg r d m)) ∧ w' = w := by
 by_cases h0 : r = 0
 ·subst h0
  rw [show awayV neg 0 d m = false by simp [awayV]]
  go_enter Tryz.func110, Tryz.ntmps110
  go_wp2_with fail
  go_ret
  exact ⟨rfl, rfl⟩
 have hb0 : (r == 0) = false := by simpa using h0
 by_cases h1 : m = 1
 ·subst h1
  rw [show awayV neg r d 1 = neg by simp [awayV, h0]]
  go_enter Tryz.func110, Tryz.ntmps110
  go_wp2_with fail
  go_ret
  exact ⟨rfl, rfl⟩
 have hb1 : (m == 1) = false := by simpa using h1
 by_cases h3 : m = 3
 ·subst h3
  rw [show awayV neg r d 3 = !neg by simp [awayV, h0]]
  go_enter Tryz.func110, Tryz.ntmps110
  go_wp2_with fail
  go_ret
  exact ⟨rfl, rfl⟩
 have hb3 : (m == 3) = false := by simpa using h3
 have hv : awayV neg r d m = (decide (d - r < r) || (decide (r = d - r) && !neg)) := by simp [awayV, h0, h1, h3]
 have c1 : 0 ≤ d - r := by omega
 have c2 : d - r ≤ 9223372036854775808 := by omega
 by_cases h4 : d - r < r
 ·rw [hv, show (decide (d - r < r) || (decide (r = d - r) && !neg)) = true by simp [h4]]
  clear hv h0 h1 h3
  go_enter Tryz.func110, Tryz.ntmps110
  go_wp2_with fail
  go_ret
  exact ⟨rfl, rfl⟩
 by_cases h5 : r = d - r
 ·have hb5 : (r == d - r) = true := by simpa using h5
  rw [hv, show (decide (d - r < r) || (decide (r = d - r) && !neg)) = !neg by simp [h4, ← h5]]
  clear hv h0 h1 h3 h5
  go_enter Tryz.func110, Tryz.ntmps110
  go_wp2_with fail
  go_ret
  exact ⟨rfl, rfl⟩
 have hb5 : (r == d - r) = false := by simpa using h5
 rw [hv, show (decide (d - r < r) || (decide (r = d - r) && !neg)) = false by simp [h4, h5]]
 clear hv h0 h1 h3 h5
 go_enter Tryz.func110, Tryz.ntmps110
 go_wp2_with fail
 go_ret
 exact ⟨rfl, rfl⟩
abbrev numE (R : Int × Int) : Value := .tuple #[.int .i64 R.1, .int .i64 R.2]
theorem quotient_any (n d m : Int) (w : World) (n1 : -9223372036854775808 ≤ n) (n2 : n ≤ 9223372036854775807) (d1 : -9223372036854775808 ≤ d) (d2 : d ≤ 9223372036854775807) :
  Calls Tryz.prog 69 #[.int .i64 n, .int .i64 d, .int .u8 m] w fun e w' => e = .returned (numE (quotV n d m)) ∧ ∃ k, w' = w.drewN k := by
 by_cases h0 : d = 0
 ·subst h0
  rw [show quotV n 0 m = (0, 1) by simp [quotV]]
  go_enter Tryz.func69, Tryz.ntmps69
  go_wp2_with fail
  go_ret2
  exact ⟨rfl, 0, rfl⟩
 have hb0 : (d == 0) = false := by simpa using h0
 by_cases hm : m < 1 ∨ 3 < m
 ·rw [show quotV n d m = (0, 3) by simp [quotV, h0, hm]]
  have HM := ι hm
  clear hm
  go_enter Tryz.func69, Tryz.ntmps69
  go_wp2_with fail
  refine (known_no m _ HM.out).mono ?_
  rintro e w' ⟨rfl, rfl⟩
  go_wp2_with fail
  go_ret2
  exact ⟨rfl, 0, rfl⟩
 have m1 : 1 ≤ m := by omega
 have m2 : m ≤ 3 := by omega
 have hv : quotV n d m = if 9223372036854775807 < quoQ n d m then (0, 2) else (quoQ n d m, 0) := by rw [quotV, if_neg h0, if_neg hm]
 obtain ⟨V, hV⟩ : ∃ V, V = quotV n d m := ⟨_, rfl⟩
 rw [← hV]
 rw [← hV] at hv
 have HV := ι hv
 obtain ⟨q, hq⟩ : ∃ q : Nat, q = n.natAbs / d.natAbs := ⟨_, rfl⟩
 obtain ⟨r, hr⟩ : ∃ r : Nat, r = n.natAbs % d.natAbs := ⟨_, rfl⟩
 have hdp : 0 < d.natAbs := by omega
 have hqr : n.natAbs = q * d.natAbs + r := by rw [hq, hr, Nat.mul_comm, Nat.div_add_mod]
 have hrl : r < d.natAbs := by rw [hr]; exact Nat.mod_lt _ hdp
 have hqn : q ≤ n.natAbs := by rw [hq]; exact Nat.div_le_self _ _
 have MAG := ι (fun (neg : Bool) (hneg : neg = (decide (n < 0) != decide (d < 0))) => quo_mag (n := n) (d := d) (q := (q : Int)) (r := (r : Int)) m h0 m1 m2 hneg (by have := congrArg (Nat.cast : Nat → Int) hqr; simpa using this) (by omega) (by omega))
 have HQ2 := ι (show 0 < r → (q : Int) + 1 ≤ 4611686018427387905 from fun h => by
  have := Nat.mul_le_mul_left q (show 2 ≤ d.natAbs by omega)
  omega)
 have HQ := ι hq.symm
 have HR := ι hr.symm
 clear hv hV hm h0 hqr hq hr
 go_enter Tryz.func69, Tryz.ntmps69
 go_wp2_with fail
 refine (known_yes m _ m1 m2).mono ?_
 rintro e w' ⟨rfl, rfl⟩
 have hdp' : (1 : Int) ≤ (d.natAbs : Int) := by omega
 have hdb : ((d.natAbs : Int) == 0) = false := by rw [beq_eq_false_iff_ne]; omega
 go_wp2_with fail
 go_quiet (first | (go_at_call 109; refine Calls.quiet_of_same (sizeu_any _ _ ?_ ?_) <;> assumption))
 have eq1 : IntKind.u64.wrap ((n.natAbs : Int) / (d.natAbs : Int)) = (q : Int) := by
  rw [show ((n.natAbs : Int) / (d.natAbs : Int)) = (q : Int) by rw [← HQ.out]; exact (Int.natCast_ediv _ _).symm]
  go_arith
 have er1 : (n.natAbs : Int) % (d.natAbs : Int) = (r : Int) := by rw [← HR.out]; exact (Int.natCast_emod _ _).symm
 rw [eq1, er1]
 clear eq1 er1
 generalize hneg : (!(decide (n < 0) == decide (d < 0))) = neg
 have hqb : (q : Int) ≤ 9223372036854775808 := by omega
 go_wp2_with fail
 refine (sizeu_any d _ d1 d2).mono ?_
 rintro e w3 ⟨rfl, rfl⟩
 go_wp2_with fail
 refine (away_any neg (r : Int) (d.natAbs : Int) m _ (by omega) (by omega) (by omega)).mono ?_
 rintro e w3 ⟨rfl, rfl⟩
 have HE := ι (MAG.out neg hneg.symm)
 clear MAG hneg
 have hup : awayV neg (r : Int) (d.natAbs : Int) m = true → 0 < r := fun h => by
  apply Nat.pos_of_ne_zero
  intro h0
  rw [h0] at h
  simp [awayV] at h
 generalize awayV neg (r : Int) (d.natAbs : Int) m = up at *
 cases up with
 | true =>
  have hq9 := HQ2.out (hup rfl)
  clear hup
  cases neg with
  | true =>
   have E2 := ι (show quoQ n d m = -((q : Int) + 1) by have := HE.out; simpa [upV] using this)
   have HV2 := ι (show V = (-((q : Int) + 1), 0) by rw [HV.out, E2.out, if_neg (by omega)])
   clear HE HV E2
   go_wp2_with fail
   go_ret2
   have ea : wrap64 (IntKind.u64.wrap (-((q : Int) + 1))) = -((q : Int) + 1) := by go_arith
   refine ⟨?_, _, rfl⟩
   rw [HV2.out]
   exact ret_val (by show Value.tuple #[Value.int .i64 (wrap64 (IntKind.u64.wrap (-((q : Int) + 1)))), Value.int .i64 0] = _; rw [ea])
  | false =>
   have E2 := ι (show quoQ n d m = (q : Int) + 1 by have := HE.out; simpa [upV] using this)
   by_cases hbig : 9223372036854775807 < (q : Int) + 1
   ·have HV2 := ι (show V = (0, 2) by rw [HV.out, E2.out, if_pos hbig])
    clear HE HV E2
    go_wp2_with fail
    go_ret2
    exact ⟨by rw [HV2.out]; rfl, _, rfl⟩
   have HV2 := ι (show V = ((q : Int) + 1, 0) by rw [HV.out, E2.out, if_neg hbig])
   have hsm : (q : Int) + 1 ≤ 9223372036854775807 := by omega
   have hsm2 : (decide (9223372036854775807 < (q : Int) + 1)) = false := by simp; omega
   clear HE HV E2 hbig
   go_wp2_with fail
   go_ret2
   exact ⟨by rw [HV2.out]; rfl, _, rfl⟩
 | false =>
  clear hup
  cases neg with
  | true =>
   have E2 := ι (show quoQ n d m = -((q : Int)) by have := HE.out; simpa [upV] using this)
   have HV2 := ι (show V = (-((q : Int)), 0) by rw [HV.out, E2.out, if_neg (by omega)])
   clear HE HV E2
   go_wp2_with fail
   go_ret2
   have ea : wrap64 (IntKind.u64.wrap (-((q : Int)))) = -((q : Int)) := by go_arith
   refine ⟨?_, _, rfl⟩
   rw [HV2.out]
   exact ret_val (by show Value.tuple #[Value.int .i64 (wrap64 (IntKind.u64.wrap (-((q : Int))))), Value.int .i64 0] = _; rw [ea])
  | false =>
   have E2 := ι (show quoQ n d m = (q : Int) by have := HE.out; simpa [upV] using this)
   by_cases hbig : 9223372036854775807 < (q : Int)
   ·have HV2 := ι (show V = (0, 2) by rw [HV.out, E2.out, if_pos hbig])
    clear HE HV E2
    go_wp2_with fail
    go_ret2
    exact ⟨by rw [HV2.out]; rfl, _, rfl⟩
   have HV2 := ι (show V = ((q : Int), 0) by rw [HV.out, E2.out, if_neg hbig])
   have hsm : (q : Int) ≤ 9223372036854775807 := by omega
   clear HE HV E2 hbig
   go_wp2_with fail
   go_ret2
   exact ⟨by rw [HV2.out]; rfl, _, rfl⟩
end Go.Proofs.YtmopjhbfobmklaaGreatDoor.Q
namespace Go.Proofs.YtmopjhbfobmklaaGreatDoor.Q
open Go.RowKit
set_option linter.unusedVariables false
set_option linter.unusedSimpArgs false
end Go.Proofs.YtmopjhbfobmklaaGreatDoor.Q
