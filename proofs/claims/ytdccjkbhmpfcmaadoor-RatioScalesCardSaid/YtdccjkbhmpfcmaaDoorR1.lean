/-
  The contracts of Gcd, inParts, Valid and Make, in the program and in the reference. Their conditions are their hypotheses.
-/
import Derived.Test.YtdccjkbhmpfcmaaDoorLib
import Derived.Test.YtdccjkbhmpfcmaaDoorRt
import Derived.Test.YtdccjkbhmpfcmaaDoorChecked
namespace Go.Proofs.YtdccjkbhmpfcmaaDoor
open Go.RowKit
set_option linter.unusedVariables false
set_option linter.unusedSimpArgs false
theorem drewN_twice (w : World) (n m : Nat) : (w.drewN n).drewN m = w.drewN (n + m) := by
  simp [World.drewN]
  omega
theorem gcd_any (a b : Int) (w : World) (ha : -9223372036854775808 ≤ a ∧ a ≤ 9223372036854775807) (hb : -9223372036854775808 ≤ b ∧ b ≤ 9223372036854775807) :
    Calls Tryd.prog 16 #[.int .i64 a, .int .i64 b] w fun e w' => e = .returned (.int .i64 (gcdV a b)) ∧ ∃ n, w' = w.drewN n := by
  obtain ⟨a1, a2⟩ := ha
  obtain ⟨b1, b2⟩ := hb
  by_cases h : a = -9223372036854775808 ∨ b = -9223372036854775808
  · have hv : gcdV a b = 0 := by rw [gcdV, if_pos h]
    rw [hv]
    clear hv
    by_cases h1 : a = -9223372036854775808
    · subst h1
      clear h
      go_enter Tryd.func16, Tryd.ntmps16
      go_wp2_with fail
      go_ret
      exact ⟨rfl, 0, rfl⟩
    · obtain rfl : b = -9223372036854775808 := by omega
      have h1' : (a == -9223372036854775808) = false := by simpa using h1
      clear h
      go_enter Tryd.func16, Tryd.ntmps16
      go_wp2_with fail
      go_ret
      exact ⟨rfl, 0, rfl⟩
  · have h1 : (a == -9223372036854775808) = false := by rw [beq_eq_false_iff_ne]; omega
    have h2 : (b == -9223372036854775808) = false := by rw [beq_eq_false_iff_ne]; omega
    have hv : gcdV a b = ((Nat.gcd a.natAbs b.natAbs : Nat) : Int) := by rw [gcdV, if_neg h]; rfl
    obtain ⟨G, hG⟩ : ∃ G, G = gcdV a b := ⟨_, rfl⟩
    rw [← hG]
    have HG := Lib.hid (hG.trans hv)
    have c1 : -9223372036854775807 ≤ a := by omega
    have c2 : -9223372036854775807 ≤ b := by omega
    clear hv hG h
    go_enter Tryd.func16, Tryd.ntmps16
    go_wp2_with fail
    all_goals
      go_loopw [5, 6] (fun x y wr => ∃ p q n : Nat, x = .int .i64 p ∧ y = .int .i64 q ∧ Hid (Nat.gcd p q = Nat.gcd a.natAbs b.natAbs) ∧ (p : Int) ≤ 9223372036854775807 ∧ (q : Int) ≤ 9223372036854775807 ∧ wr = w.drewN n) (fun _ y _ => (intOf y).toNat)
      case atStart => exact ⟨a.natAbs, b.natAbs, 0, by congr 1; omega, by congr 1; omega, Lib.hid rfl, by omega, by omega, rfl⟩
      case round =>
        obtain ⟨p, q, n, rfl, rfl, hg, hp, hq, rfl⟩ := hrel
        by_cases hq0 : q = 0
        · subst hq0
          go_wp2_with fail
          go_ret
          exact ⟨by rw [HG.out, ← hg.out, Nat.gcd_zero_right]; rfl, n, rfl⟩
        · have hqb : (((q : Int) != 0)) = true := by simpa using hq0
          have hq1 : (1 : Int) ≤ q := by omega
          have hlt := Nat.mod_lt p (Nat.pos_of_ne_zero hq0)
          have HGG := Lib.hid ((Nat.gcd_comm q (p % q)).trans (((Nat.gcd_rec q p).symm.trans (Nat.gcd_comm q p)).trans hg.out))
          go_wp2_with fail
          go_quiet (fail)
          go_wp2_with fail
          exact ⟨⟨q, p % q, n + nq, rfl, rfl, HGG, by omega, by omega, drewN_twice w n nq⟩, by simp [intOf]; omega⟩
theorem size_any (n : Int) (w : World) (h1 : -9223372036854775807 ≤ n) (h2 : n ≤ 9223372036854775807) :
    Calls Tryd.prog 41 #[.int .i64 n] w fun e w' => e = .returned (.int .i64 (n.natAbs : Int)) ∧ w = w' := by
  go_enter Tryd.func41, Tryd.ntmps41
  go_wp2_with fail
  all_goals
    go_ret
    exact ⟨ret_val (by show Value.int .i64 _ = _; congr 1; omega), rfl⟩
theorem gcdr_any (a b : Int) (w : World) (ha : -9223372036854775808 ≤ a ∧ a ≤ 9223372036854775807) (hb : -9223372036854775808 ≤ b ∧ b ≤ 9223372036854775807) :
    Calls Tryd.prog 17 #[.int .i64 a, .int .i64 b] w fun e w' => e = .returned (.int .i64 (gcdV a b)) ∧ ∃ n, w' = w.drewN n := by
  obtain ⟨a1, a2⟩ := ha
  obtain ⟨b1, b2⟩ := hb
  by_cases h : a = -9223372036854775808 ∨ b = -9223372036854775808
  · have hv : gcdV a b = 0 := by rw [gcdV, if_pos h]
    rw [hv]
    clear hv
    by_cases h1 : a = -9223372036854775808
    · subst h1
      clear h
      go_enter Tryd.func17, Tryd.ntmps17
      go_wp2_with fail
      go_ret
      exact ⟨rfl, 0, rfl⟩
    · obtain rfl : b = -9223372036854775808 := by omega
      have h1' : (a == -9223372036854775808) = false := by simpa using h1
      clear h
      go_enter Tryd.func17, Tryd.ntmps17
      go_wp2_with fail
      go_ret
      exact ⟨rfl, 0, rfl⟩
  · have h1 : (a == -9223372036854775808) = false := by rw [beq_eq_false_iff_ne]; omega
    have h2 : (b == -9223372036854775808) = false := by rw [beq_eq_false_iff_ne]; omega
    have hv : gcdV a b = ((Nat.gcd a.natAbs b.natAbs : Nat) : Int) := by rw [gcdV, if_neg h]; rfl
    obtain ⟨G, hG⟩ : ∃ G, G = gcdV a b := ⟨_, rfl⟩
    rw [← hG]
    have HG := Lib.hid (hG.trans hv)
    have c1 : -9223372036854775807 ≤ a := by omega
    have c2 : -9223372036854775807 ≤ b := by omega
    clear hv hG h
    go_enter Tryd.func17, Tryd.ntmps17
    go_wp2_with fail
    refine (size_any a _ c1 a2).mono ?_
    rintro e w' ⟨rfl, rfl⟩
    go_wp2_with fail
    refine (size_any b _ c2 b2).mono ?_
    rintro e w' ⟨rfl, rfl⟩
    have k1 : (a.natAbs : Int) ≤ 9223372036854775807 := by omega
    have k2 : (b.natAbs : Int) ≤ 9223372036854775807 := by omega
    generalize hA : a.natAbs = A at *
    generalize hB : b.natAbs = B at *
    clear hA hB
    go_wp2_with fail
    go_loopw [0, 1] (fun x y wr => ∃ p q n : Nat, x = .int .i64 p ∧ y = .int .i64 q ∧ Hid (Nat.gcd p q = Nat.gcd A B) ∧ (p : Int) ≤ 9223372036854775807 ∧ (q : Int) ≤ 9223372036854775807 ∧ wr = w.drewN n) (fun _ y _ => (intOf y).toNat)
    case atStart => exact ⟨A, B, 0, rfl, rfl, Lib.hid rfl, k1, k2, rfl⟩
    case round =>
      obtain ⟨p, q, n, rfl, rfl, hg, hp, hq, rfl⟩ := hrel
      by_cases hq0 : q = 0
      · subst hq0
        go_wp2_with fail
        go_ret
        exact ⟨by rw [HG.out, ← hg.out, Nat.gcd_zero_right]; rfl, n, rfl⟩
      · have hqb : (((q : Int) != 0)) = true := by simpa using hq0
        have hq1 : (1 : Int) ≤ q := by omega
        have hlt := Nat.mod_lt p (Nat.pos_of_ne_zero hq0)
        have HGG := Lib.hid ((Nat.gcd_comm q (p % q)).trans (((Nat.gcd_rec q p).symm.trans (Nat.gcd_comm q p)).trans hg.out))
        go_wp2_with fail
        go_quiet (fail)
        go_wp2_with fail
        exact ⟨⟨q, p % q, n + nq, rfl, rfl, HGG, by omega, by omega, drewN_twice w n nq⟩, by simp [intOf]; omega⟩
theorem parts_any (n d : Int) (w : World) :
    Calls Tryd.prog 40 #[.int .i64 n, .int .i64 d] w fun e w' => e = .returned (.bool (partsV n d)) ∧ w = w' := by
  cases hv : partsV n d with
  | true =>
    obtain ⟨h1, h2, h3, h4⟩ := parts_bd hv
    clear hv
    go_enter Tryd.func40, Tryd.ntmps40
    go_wp2_with fail
    go_ret
    exact ⟨rfl, rfl⟩
  | false =>
    have h := parts_no hv
    clear hv
    by_cases h1 : -2147483648 ≤ n
    · by_cases h2 : n ≤ 2147483648
      · by_cases h3 : 1 ≤ d
        · have h4 : (decide (d ≤ 2147483648)) = false := by simp; omega
          clear h
          go_enter Tryd.func40, Tryd.ntmps40
          go_wp2_with fail
          go_ret
          exact ⟨rfl, rfl⟩
        · have h4 : d < 1 := by omega
          clear h h3
          go_enter Tryd.func40, Tryd.ntmps40
          go_wp2_with fail
          go_ret
          exact ⟨rfl, rfl⟩
      · have h4 : 2147483648 < n := by omega
        clear h h2
        go_enter Tryd.func40, Tryd.ntmps40
        go_wp2_with fail
        go_ret
        exact ⟨rfl, rfl⟩
    · have h4 : n < -2147483648 := by omega
      clear h h1
      go_enter Tryd.func40, Tryd.ntmps40
      go_wp2_with fail
      go_ret
      exact ⟨rfl, rfl⟩
end Go.Proofs.YtdccjkbhmpfcmaaDoor
