/-
  Ratios in plain words: greatest common divisors, reduced ratios, quotients that are rounded. Without conditions.
-/
import Derived.Lib.ItoaNum
import Derived.Lib.ItoaLen
namespace Go.Proofs.YtdccjkbhmpfcmaaDoor
set_option linter.unusedVariables false
set_option linter.unusedSimpArgs false
/-! greatest common divisors -/
def gcdV (a b : Int) : Int := if a = -9223372036854775808 ∨ b = -9223372036854775808 then 0 else ((Int.gcd a b : Nat) : Int)
def partsV (n d : Int) : Bool := decide (-2147483648 ≤ n) && decide (n ≤ 2147483648) && (decide (1 ≤ d) && decide (d ≤ 2147483648))
def validV (n d : Int) : Bool := partsV n d && decide (gcdV n d = 1)
def redV (n d : Int) : Int × Int := if d < 0 then ((-n).tdiv (gcdV n d), (-d).tdiv (gcdV n d)) else (n.tdiv (gcdV n d), d.tdiv (gcdV n d))
def makeV (n d : Int) : (Int × Int) × Int :=
  if d = 0 then ((0, 0), 1)
  else if n = -9223372036854775808 ∨ d = -9223372036854775808 then ((0, 0), 2)
  else if partsV (redV n d).1 (redV n d).2 then (redV n d, 0) else ((0, 0), 2)
theorem parts_bd {n d : Int} (h : partsV n d = true) : -2147483648 ≤ n ∧ n ≤ 2147483648 ∧ 1 ≤ d ∧ d ≤ 2147483648 := by
  simp [partsV] at h
  omega
theorem parts_no {n d : Int} (h : partsV n d = false) : n < -2147483648 ∨ 2147483648 < n ∨ d < 1 ∨ 2147483648 < d := by
  by_cases h1 : -2147483648 ≤ n
  · by_cases h2 : n ≤ 2147483648
    · by_cases h3 : 1 ≤ d
      · by_cases h4 : d ≤ 2147483648
        · simp [partsV, h1, h2, h3, h4] at h
        · omega
      · omega
    · omega
  · omega
theorem valid_bd {n d : Int} (h : validV n d = true) : -2147483648 ≤ n ∧ n ≤ 2147483648 ∧ 1 ≤ d ∧ d ≤ 2147483648 ∧ Int.gcd n d = 1 := by
  simp only [validV, Bool.and_eq_true, decide_eq_true_eq] at h
  obtain ⟨h1, h2⟩ := h
  have := parts_bd h1
  refine ⟨this.1, this.2.1, this.2.2.1, this.2.2.2, ?_⟩
  rw [gcdV, if_neg (by omega)] at h2
  omega
theorem valid_of {n d : Int} (h1 : -2147483648 ≤ n) (h2 : n ≤ 2147483648) (h3 : 1 ≤ d) (h4 : d ≤ 2147483648) (h5 : Int.gcd n d = 1) : validV n d = true := by
  have hg : gcdV n d = 1 := by rw [gcdV, if_neg (by omega), h5]; rfl
  simp [validV, partsV, h1, h2, h3, h4, hg]
theorem gcdV_eq {n d : Int} (hn : n ≠ -9223372036854775808) (hd : d ≠ -9223372036854775808) : gcdV n d = (Int.gcd n d : Int) := by
  rw [gcdV, if_neg (by omega)]
theorem gcdV_bd (n d : Int) : 0 ≤ gcdV n d := by
  rw [gcdV]; split <;> omega
theorem tdiv_of_mul {a g p : Int} (hg : 0 < g) (h : a = p * g) : a.tdiv g = p := by
  subst h
  exact Int.mul_tdiv_cancel p (by omega)
theorem red_spec {n d : Int} (h0 : d ≠ 0) (hn : n ≠ -9223372036854775808) (hd : d ≠ -9223372036854775808) :
    0 < gcdV n d ∧ (if d < 0 then -n else n) = (redV n d).1 * gcdV n d ∧ (if d < 0 then -d else d) = (redV n d).2 * gcdV n d ∧ Int.gcd (redV n d).1 (redV n d).2 = 1 ∧ 1 ≤ (redV n d).2 := by
  have hg : 0 < Int.gcd n d := Int.gcd_pos_of_ne_zero_right n h0
  obtain ⟨p, hp⟩ := Int.gcd_dvd_left n d
  obtain ⟨q, hq⟩ := Int.gcd_dvd_right n d
  rw [redV, gcdV_eq hn hd]
  generalize hG : Int.gcd n d = G at *
  have hgg : ((G : Nat) : Int) > 0 := by omega
  have hpq : Int.gcd p q = 1 := by
    have e : Int.gcd n d = G * Int.gcd p q := by rw [hp, hq, Int.gcd_mul_left]; simp
    rw [hG] at e
    have : G * Int.gcd p q = G * 1 := by omega
    exact Nat.eq_of_mul_eq_mul_left hg this
  have hqs : (d < 0 → q < 0) ∧ (¬ d < 0 → 0 < q) := by
    constructor
    · intro h
      rcases Int.lt_trichotomy q 0 with h1 | h1 | h1
      · exact h1
      · subst h1; simp at hq; omega
      · have := Int.mul_pos hgg h1; omega
    · intro h
      rcases Int.lt_trichotomy q 0 with h1 | h1 | h1
      · have := Int.mul_neg_of_pos_of_neg hgg h1; omega
      · subst h1; simp at hq; omega
      · exact h1
  by_cases hs : d < 0
  · rw [if_pos hs, if_pos hs, if_pos hs]
    have e1 : -n = (-p) * (G : Int) := by rw [hp, Int.neg_mul, Int.mul_comm]
    have e2 : -d = (-q) * (G : Int) := by rw [hq, Int.neg_mul, Int.mul_comm]
    simp only [tdiv_of_mul hgg e1, tdiv_of_mul hgg e2]
    refine ⟨hgg, e1, e2, by rw [Int.gcd_neg, Int.neg_gcd]; exact hpq, ?_⟩
    have := hqs.1 hs
    omega
  · rw [if_neg hs, if_neg hs, if_neg hs]
    have e1 : n = p * (G : Int) := by rw [hp, Int.mul_comm]
    have e2 : d = q * (G : Int) := by rw [hq, Int.mul_comm]
    simp only [tdiv_of_mul hgg e1, tdiv_of_mul hgg e2]
    refine ⟨hgg, e1, e2, hpq, ?_⟩
    have := hqs.2 hs
    omega
/-- Two reduced ratios of one value are one. -/
theorem red_unique {p1 q1 p2 q2 : Int} (h : p1 * q2 = p2 * q1) (g1 : Int.gcd p1 q1 = 1) (g2 : Int.gcd p2 q2 = 1) (h1 : 1 ≤ q1) (h2 : 1 ≤ q2) : p1 = p2 ∧ q1 = q2 := by
  have hN : p1.natAbs * q2.natAbs = p2.natAbs * q1.natAbs := by rw [← Int.natAbs_mul, ← Int.natAbs_mul, h]
  have d1 : q1.natAbs ∣ q2.natAbs := by
    have c : Nat.Coprime q1.natAbs p1.natAbs := by
      have := g1
      unfold Int.gcd at this
      exact Nat.Coprime.symm this
    exact c.dvd_of_dvd_mul_left (hN ▸ Nat.dvd_mul_left _ _)
  have d2 : q2.natAbs ∣ q1.natAbs := by
    have c : Nat.Coprime q2.natAbs p2.natAbs := by
      have := g2
      unfold Int.gcd at this
      exact Nat.Coprime.symm this
    exact c.dvd_of_dvd_mul_left (hN ▸ Nat.dvd_mul_left _ _)
  have e := Nat.dvd_antisymm d1 d2
  have eq : q1 = q2 := by omega
  subst eq
  exact ⟨Int.eq_of_mul_eq_mul_right (by omega) h, rfl⟩
/-- A reduced ratio within the bounds is what Make gives of any pair of its value. -/
theorem make_of {n d p q : Int} (h0 : d ≠ 0) (hn : n ≠ -9223372036854775808) (hd : d ≠ -9223372036854775808) (hv : validV p q = true) (h : n * q = p * d) : makeV n d = ((p, q), 0) := by
  obtain ⟨s1, s2, s3, s4, s5⟩ := red_spec h0 hn hd
  obtain ⟨b1, b2, b3, b4, b5⟩ := valid_bd hv
  have e : redV n d = (p, q) := by
    generalize redV n d = R at *
    obtain ⟨P, Q⟩ := R
    simp only at s2 s3 s4 s5
    have hmul : P * q * gcdV n d = p * Q * gcdV n d := by
      have a1 : P * q * gcdV n d = (P * gcdV n d) * q := by rw [Int.mul_assoc, Int.mul_assoc, Int.mul_comm q]
      have a2 : p * Q * gcdV n d = p * (Q * gcdV n d) := Int.mul_assoc _ _ _
      rw [a1, a2, ← s2, ← s3]
      split
      · rw [Int.neg_mul, Int.mul_neg, h]
      · exact h
    have hm := Int.eq_of_mul_eq_mul_right (by omega) hmul
    obtain ⟨rfl, rfl⟩ := red_unique hm s4 b5 s5 b3
    rfl
  rw [makeV, if_neg h0, if_neg (by omega), e]
  simp [partsV, b1, b2, b3, b4]
theorem make_self {p q : Int} (hv : validV p q = true) : makeV p q = ((p, q), 0) := by
  have b := valid_bd hv
  exact make_of (by omega) (by omega) (by omega) hv rfl
theorem make_valid {n d p q : Int} (h : makeV n d = ((p, q), 0)) : d ≠ 0 ∧ n ≠ -9223372036854775808 ∧ d ≠ -9223372036854775808 ∧ validV p q = true ∧ n * q = p * d := by
  rw [makeV] at h
  split at h
  · simp at h
  · rename_i h0
    split at h
    · simp at h
    · rename_i h1
      split at h
      · rename_i h2
        have hn : n ≠ -9223372036854775808 := fun e => h1 (.inl e)
        have hd : d ≠ -9223372036854775808 := fun e => h1 (.inr e)
        obtain ⟨s1, s2, s3, s4, s5⟩ := red_spec h0 hn hd
        have e : redV n d = (p, q) := by simpa using h
        rw [e] at s2 s3 s4 s5 h2
        have b := parts_bd h2
        refine ⟨h0, hn, hd, valid_of b.1 b.2.1 b.2.2.1 b.2.2.2 s4, ?_⟩
        have : (if d < 0 then -n else n) * q = p * (if d < 0 then -d else d) := by
          rw [s2, s3, Int.mul_assoc, Int.mul_comm (gcdV n d), ← Int.mul_assoc, Int.mul_assoc]
        split at this
        · rw [Int.neg_mul, Int.mul_neg] at this; omega
        · exact this
      · simp at h
theorem valid_red {n d : Int} (h0 : d ≠ 0) (hn : n ≠ -9223372036854775808) (hd : d ≠ -9223372036854775808) : validV (redV n d).1 (redV n d).2 = partsV (redV n d).1 (redV n d).2 := by
  obtain ⟨s1, s2, s3, s4, s5⟩ := red_spec h0 hn hd
  cases hp : partsV (redV n d).1 (redV n d).2 with
  | false => simp [validV, hp]
  | true =>
    have b := parts_bd hp
    exact valid_of b.1 b.2.1 b.2.2.1 b.2.2.2 s4
/-! sums and products -/
theorem mul_bd {x y : Int} {B C : Nat} (hx : x.natAbs ≤ B) (hy : y.natAbs ≤ C) : (x * y).natAbs ≤ B * C := by
  rw [Int.natAbs_mul]; exact Nat.mul_le_mul hx hy
theorem prod_bd {x y : Int} (h1 : -2147483648 ≤ x) (h2 : x ≤ 2147483648) (h3 : -2147483648 ≤ y) (h4 : y ≤ 2147483648) : -4611686018427387904 ≤ x * y ∧ x * y ≤ 4611686018427387904 := by
  have := mul_bd (x := x) (y := y) (B := 2147483648) (C := 2147483648) (by omega) (by omega)
  omega
theorem prod_top {x y : Int} (h1 : -2147483648 ≤ x) (h2 : x ≤ 2147483648) (h3 : -2147483648 ≤ y) (h4 : y ≤ 2147483648) (h : (x * y).natAbs = 4611686018427387904) : x.natAbs = 2147483648 ∧ y.natAbs = 2147483648 := by
  constructor
  · apply Classical.byContradiction
    intro hc
    have := mul_bd (x := x) (y := y) (B := 2147483647) (C := 2147483648) (by omega) (by omega)
    omega
  · apply Classical.byContradiction
    intro hc
    have := mul_bd (x := x) (y := y) (B := 2147483648) (C := 2147483647) (by omega) (by omega)
    omega
theorem sum_bd {an ad bn bd : Int} (ha : validV an ad = true) (hb : validV bn bd = true) :
    (-9223372036854775808 < an * bd + bn * ad ∧ an * bd + bn * ad < 9223372036854775808) ∧ (-9223372036854775808 < an * bd - bn * ad ∧ an * bd - bn * ad < 9223372036854775808) := by
  have a := valid_bd ha
  have b := valid_bd hb
  have p1 := prod_bd (x := an) (y := bd) (by omega) (by omega) (by omega) (by omega)
  have p2 := prod_bd (x := bn) (y := ad) (by omega) (by omega) (by omega) (by omega)
  have key : ¬ ((an * bd).natAbs = 4611686018427387904 ∧ (bn * ad).natAbs = 4611686018427387904) := by
    rintro ⟨t1, t2⟩
    have q1 := prod_top (x := an) (y := bd) (by omega) (by omega) (by omega) (by omega) t1
    have q2 := prod_top (x := bn) (y := ad) (by omega) (by omega) (by omega) (by omega) t2
    have g := b.2.2.2.2
    unfold Int.gcd at g
    rw [q1.2, q2.1] at g
    simp at g
  omega
end Go.Proofs.YtdccjkbhmpfcmaaDoor
