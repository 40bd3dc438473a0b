/-
  Ratios in plain words. The conditions of the contracts are their hypotheses.
-/
import Derived.Lib.ItoaNum
import Derived.Lib.ItoaLen
import Derived.Test.YteojlodcafogaaaGreatDoorBa
namespace Go.Proofs.YteojlodcafogaaaGreatDoor.Q
set_option linter.unusedVariables false
set_option linter.unusedSimpArgs false
/-! greatest common divisors -/
def gcdV (a b : Int) : Int := if a = -9223372036854775808 ∨ b = -9223372036854775808 then 0 else ((Int.gcd a b : Nat) : Int)
def partsV (n d : Int) : Bool := decide (-2147483648 ≤ n) && decide (n ≤ 2147483648) && (decide (1 ≤ d) && decide (d ≤ 2147483648))
def validV (n d : Int) : Bool := partsV n d && decide (gcdV n d = 1)
def redV (n d : Int) : Int × Int := if d < 0 then ((-n).tdiv (gcdV n d), (-d).tdiv (gcdV n d)) else (n.tdiv (gcdV n d), d.tdiv (gcdV n d))
def makeV (n d : Int) : (Int × Int) × Int :=
  if d = 0 then ((0, 0), 1)
  else if n = -9223372036854775808 ∨ d = -9223372036854775808 then ((0, 0), 2)
  else if partsV (redV n d).1 (redV n d).2 then (redV n d, 0) else ((0, 0), 2)
theorem parts_bd {n d : Int} (h : partsV n d = true) : -2147483648 ≤ n ∧ n ≤ 2147483648 ∧ 1 ≤ d ∧ d ≤ 2147483648 := by
  simp [partsV] at h
  omega
theorem parts_no {n d : Int} (h : partsV n d = false) : n < -2147483648 ∨ 2147483648 < n ∨ d < 1 ∨ 2147483648 < d := by
  by_cases h1 : -2147483648 ≤ n
  · by_cases h2 : n ≤ 2147483648
    · by_cases h3 : 1 ≤ d
      · by_cases h4 : d ≤ 2147483648
        · simp [partsV, h1, h2, h3, h4] at h
        · omega
      · omega
    · omega
  · omega
theorem valid_bd {n d : Int} (h : validV n d = true) : -2147483648 ≤ n ∧ n ≤ 2147483648 ∧ 1 ≤ d ∧ d ≤ 2147483648 ∧ Int.gcd n d = 1 := by
  simp only [validV, Bool.and_eq_true, decide_eq_true_eq] at h
  obtain ⟨h1, h2⟩ := h
  have := parts_bd h1
  refine ⟨this.1, this.2.1, this.2.2.1, this.2.2.2, ?_⟩
  rw [gcdV, if_neg (by omega)] at h2
  omega
theorem valid_of {n d : Int} (h1 : -2147483648 ≤ n) (h2 : n ≤ 2147483648) (h3 : 1 ≤ d) (h4 : d ≤ 2147483648) (h5 : Int.gcd n d = 1) : validV n d = true := by
  have hg : gcdV n d = 1 := by rw [gcdV, if_neg (by omega), h5]; rfl
  simp [validV, partsV, h1, h2, h3, h4, hg]
theorem gcdV_eq {n d : Int} (hn : n ≠ -9223372036854775808) (hd : d ≠ -9223372036854775808) : gcdV n d = (Int.gcd n d : Int) := by
  rw [gcdV, if_neg (by omega)]
theorem gcdV_bd (n d : Int) : 0 ≤ gcdV n d := by
  rw [gcdV]; split <;> omega
theorem tdiv_of_mul {a g p : Int} (hg : 0 < g) (h : a = p * g) : a.tdiv g = p := by
  subst h
  exact Int.mul_tdiv_cancel p (by omega)
theorem red_spec {n d : Int} (h0 : d ≠ 0) (hn : n ≠ -9223372036854775808) (hd : d ≠ -9223372036854775808) :
    0 < gcdV n d ∧ (if d < 0 then -n else n) = (redV n d).1 * gcdV n d ∧ (if d < 0 then -d else d) = (redV n d).2 * gcdV n d ∧ Int.gcd (redV n d).1 (redV n d).2 = 1 ∧ 1 ≤ (redV n d).2 := by
  have hg : 0 < Int.gcd n d := Int.gcd_pos_of_ne_zero_right n h0
  obtain ⟨p, hp⟩ := Int.gcd_dvd_left n d
  obtain ⟨q, hq⟩ := Int.gcd_dvd_right n d
  rw [redV, gcdV_eq hn hd]
  generalize hG : Int.gcd n d = G at *
  have hgg : ((G : Nat) : Int) > 0 := by omega
  have hpq : Int.gcd p q = 1 := by
    have e : Int.gcd n d = G * Int.gcd p q := by rw [hp, hq, Int.gcd_mul_left]; simp
    rw [hG] at e
    have : G * Int.gcd p q = G * 1 := by omega
    exact Nat.eq_of_mul_eq_mul_left hg this
  have hqs : (d < 0 → q < 0) ∧ (¬ d < 0 → 0 < q) := by
    constructor
    · intro h
      rcases Int.lt_trichotomy q 0 with h1 | h1 | h1
      · exact h1
      · subst h1; simp at hq; omega
      · have := Int.mul_pos hgg h1; omega
    · intro h
      rcases Int.lt_trichotomy q 0 with h1 | h1 | h1
      · have := Int.mul_neg_of_pos_of_neg hgg h1; omega
      · subst h1; simp at hq; omega
      · exact h1
  by_cases hs : d < 0
  · rw [if_pos hs, if_pos hs, if_pos hs]
    have e1 : -n = (-p) * (G : Int) := by rw [hp, Int.neg_mul, Int.mul_comm]
    have e2 : -d = (-q) * (G : Int) := by rw [hq, Int.neg_mul, Int.mul_comm]
    simp only [tdiv_of_mul hgg e1, tdiv_of_mul hgg e2]
    refine ⟨hgg, e1, e2, by rw [Int.gcd_neg, Int.neg_gcd]; exact hpq, ?_⟩
    have := hqs.1 hs
    omega
  · rw [if_neg hs, if_neg hs, if_neg hs]
    have e1 : n = p * (G : Int) := by rw [hp, Int.mul_comm]
    have e2 : d = q * (G : Int) := by rw [hq, Int.mul_comm]
    simp only [tdiv_of_mul hgg e1, tdiv_of_mul hgg e2]
    refine ⟨hgg, e1, e2, hpq, ?_⟩
    have := hqs.2 hs
    omega
/-- Two reduced ratios of one value are one. -/
theorem red_unique {p1 q1 p2 q2 : Int} (h : p1 * q2 = p2 * q1) (g1 : Int.gcd p1 q1 = 1) (g2 : Int.gcd p2 q2 = 1) (h1 : 1 ≤ q1) (h2 : 1 ≤ q2) : p1 = p2 ∧ q1 = q2 := by
  have hN : p1.natAbs * q2.natAbs = p2.natAbs * q1.natAbs := by rw [← Int.natAbs_mul, ← Int.natAbs_mul, h]
  have d1 : q1.natAbs ∣ q2.natAbs := by
    have c : Nat.Coprime q1.natAbs p1.natAbs := by
      have := g1
      unfold Int.gcd at this
      exact Nat.Coprime.symm this
    exact c.dvd_of_dvd_mul_left (hN ▸ Nat.dvd_mul_left _ _)
  have d2 : q2.natAbs ∣ q1.natAbs := by
    have c : Nat.Coprime q2.natAbs p2.natAbs := by
      have := g2
      unfold Int.gcd at this
      exact Nat.Coprime.symm this
    exact c.dvd_of_dvd_mul_left (hN ▸ Nat.dvd_mul_left _ _)
  have e := Nat.dvd_antisymm d1 d2
  have eq : q1 = q2 := by omega
  subst eq
  exact ⟨Int.eq_of_mul_eq_mul_right (by omega) h, rfl⟩
/-- A reduced ratio within the bounds is what Make gives of any pair of its value. -/
theorem make_of {n d p q : Int} (h0 : d ≠ 0) (hn : n ≠ -9223372036854775808) (hd : d ≠ -9223372036854775808) (hv : validV p q = true) (h : n * q = p * d) : makeV n d = ((p, q), 0) := by
  obtain ⟨s1, s2, s3, s4, s5⟩ := red_spec h0 hn hd
  obtain ⟨b1, b2, b3, b4, b5⟩ := valid_bd hv
  have e : redV n d = (p, q) := by
    generalize redV n d = R at *
    obtain ⟨P, Q⟩ := R
    simp only at s2 s3 s4 s5
    have hmul : P * q * gcdV n d = p * Q * gcdV n d := by
      have a1 : P * q * gcdV n d = (P * gcdV n d) * q := by rw [Int.mul_assoc, Int.mul_assoc, Int.mul_comm q]
      have a2 : p * Q * gcdV n d = p * (Q * gcdV n d) := Int.mul_assoc _ _ _
      rw [a1, a2, ← s2, ← s3]
      split
      · rw [Int.neg_mul, Int.mul_neg, h]
      · exact h
    have hm := Int.eq_of_mul_eq_mul_right (by omega) hmul
    obtain ⟨rfl, rfl⟩ := red_unique hm s4 b5 s5 b3
    rfl
  rw [makeV, if_neg h0, if_neg (by omega), e]
  simp [partsV, b1, b2, b3, b4]
theorem make_self {p q : Int} (hv : validV p q = true) : makeV p q = ((p, q), 0) := by
  have b := valid_bd hv
  exact make_of (by omega) (by omega) (by omega) hv rfl
theorem make_valid {n d p q : Int} (h : makeV n d = ((p, q), 0)) : d ≠ 0 ∧ n ≠ -9223372036854775808 ∧ d ≠ -9223372036854775808 ∧ validV p q = true ∧ n * q = p * d := by
  rw [makeV] at h
  split at h
  · simp at h
  · rename_i h0
    split at h
    · simp at h
    · rename_i h1
      split at h
      · rename_i h2
        have hn : n ≠ -9223372036854775808 := fun e => h1 (.inl e)
        have hd : d ≠ -9223372036854775808 := fun e => h1 (.inr e)
        obtain ⟨s1, s2, s3, s4, s5⟩ := red_spec h0 hn hd
        have e : redV n d = (p, q) := by simpa using h
        rw [e] at s2 s3 s4 s5 h2
        have b := parts_bd h2
        refine ⟨h0, hn, hd, valid_of b.1 b.2.1 b.2.2.1 b.2.2.2 s4, ?_⟩
        have : (if d < 0 then -n else n) * q = p * (if d < 0 then -d else d) := by
          rw [s2, s3, Int.mul_assoc, Int.mul_comm (gcdV n d), ← Int.mul_assoc, Int.mul_assoc]
        split at this
        · rw [Int.neg_mul, Int.mul_neg] at this; omega
        · exact this
      · simp at h
theorem valid_red {n d : Int} (h0 : d ≠ 0) (hn : n ≠ -9223372036854775808) (hd : d ≠ -9223372036854775808) : validV (redV n d).1 (redV n d).2 = partsV (redV n d).1 (redV n d).2 := by
  obtain ⟨s1, s2, s3, s4, s5⟩ := red_spec h0 hn hd
  cases hp : partsV (redV n d).1 (redV n d).2 with
  | false => simp [validV, hp]
  | true =>
    have b := parts_bd hp
    exact valid_of b.1 b.2.1 b.2.2.1 b.2.2.2 s4
/-! sums and products -/
theorem mul_bd {x y : Int} {B C : Nat} (hx : x.natAbs ≤ B) (hy : y.natAbs ≤ C) : (x * y).natAbs ≤ B * C := by
  rw [Int.natAbs_mul]; exact Nat.mul_le_mul hx hy
theorem prod_bd {x y : Int} (h1 : -2147483648 ≤ x) (h2 : x ≤ 2147483648) (h3 : -2147483648 ≤ y) (h4 : y ≤ 2147483648) : -4611686018427387904 ≤ x * y ∧ x * y ≤ 4611686018427387904 := by
  have := mul_bd (x := x) (y := y) (B := 2147483648) (C := 2147483648) (by omega) (by omega)
  omega
theorem prod_top {x y : Int} (h1 : -2147483648 ≤ x) (h2 : x ≤ 2147483648) (h3 : -2147483648 ≤ y) (h4 : y ≤ 2147483648) (h : (x * y).natAbs = 4611686018427387904) : x.natAbs = 2147483648 ∧ y.natAbs = 2147483648 := by
  constructor
  · apply Classical.byContradiction
    intro hc
    have := mul_bd (x := x) (y := y) (B := 2147483647) (C := 2147483648) (by omega) (by omega)
    omega
  · apply Classical.byContradiction
    intro hc
    have := mul_bd (x := x) (y := y) (B := 2147483648) (C := 2147483647) (by omega) (by omega)
    omega
theorem sum_bd {an ad bn bd : Int} (ha : validV an ad = true) (hb : validV bn bd = true) :
    (-9223372036854775808 < an * bd + bn * ad ∧ an * bd + bn * ad < 9223372036854775808) ∧ (-9223372036854775808 < an * bd - bn * ad ∧ an * bd - bn * ad < 9223372036854775808) := by
  have a := valid_bd ha
  have b := valid_bd hb
  have p1 := prod_bd (x := an) (y := bd) (by omega) (by omega) (by omega) (by omega)
  have p2 := prod_bd (x := bn) (y := ad) (by omega) (by omega) (by omega) (by omega)
  have key : ¬ ((an * bd).natAbs = 4611686018427387904 ∧ (bn * ad).natAbs = 4611686018427387904) := by
    rintro ⟨t1, t2⟩
    have q1 := prod_top (x := an) (y := bd) (by omega) (by omega) (by omega) (by omega) t1
    have q2 := prod_top (x := bn) (y := ad) (by omega) (by omega) (by omega) (by omega) t2
    have g := b.2.2.2.2
    unfold Int.gcd at g
    rw [q1.2, q2.1] at g
    simp at g
  omega
end Go.Proofs.YteojlodcafogaaaGreatDoor.Q
namespace Go.Proofs.YteojlodcafogaaaGreatDoor.Q
set_option linter.unusedVariables false
set_option linter.unusedSimpArgs false
/-- n / d, rounded down (1), to the nearest, halfway up (2), or up (3). -/
def quoQ (n d mode : Int) : Int :=
  if mode = 1 then (if d < 0 then -n else n) / (if d < 0 then -d else d)
  else if mode = 3 then -((-(if d < 0 then -n else n)) / (if d < 0 then -d else d))
  else (2 * (if d < 0 then -n else n) + (if d < 0 then -d else d)) / (2 * (if d < 0 then -d else d))
def quotV (n d mode : Int) : Int × Int :=
  if d = 0 then (0, 1) else if mode < 1 ∨ 3 < mode then (0, 3)
  else if 9223372036854775807 < quoQ n d mode then (0, 2) else (quoQ n d mode, 0)
theorem div_is {x e k : Int} (he : 0 < e) (h1 : k * e ≤ x) (h2 : x < k * e + e) : x / e = k := by
  have a : k ≤ x / e := (Int.le_ediv_iff_mul_le he).2 h1
  have b : x / e < k + 1 := (Int.ediv_lt_iff_lt_mul he).2 (by rw [Int.add_mul, Int.one_mul]; exact h2)
  omega
theorem div_twice {x e k : Int} (he : 0 < e) (h1 : 2 * (k * e) ≤ x) (h2 : x < 2 * (k * e) + 2 * e) : x / (2 * e) = k := by
  refine div_is (by omega) ?_ ?_
  · rw [Int.mul_left_comm]; exact h1
  · rw [Int.mul_left_comm]; exact h2
def awayV (neg : Bool) (r d mode : Int) : Bool :=
  if r = 0 then false else if mode = 1 then neg else if mode = 3 then !neg else decide (d - r < r) || (decide (r = d - r) && !neg)
def upV (b : Bool) : Int := if b then 1 else 0
/-- The quotient's size is that of the whole quotient, rounded up or not. -/
theorem quo_mag {n d q r : Int} {neg : Bool} (mode : Int) (h0 : d ≠ 0) (hm : 1 ≤ mode) (hm2 : mode ≤ 3) (hneg : neg = (decide (n < 0) != decide (d < 0)))
    (hqr : (n.natAbs : Int) = q * (d.natAbs : Int) + r) (hr0 : 0 ≤ r) (hr1 : r < (d.natAbs : Int)) :
    quoQ n d mode = if neg then -(q + upV (awayV neg r (d.natAbs : Int) mode)) else q + upV (awayV neg r (d.natAbs : Int) mode) := by
  obtain ⟨m, hmdef⟩ : ∃ m, m = (if d < 0 then -n else n) := ⟨_, rfl⟩
  obtain ⟨e, hedef⟩ : ∃ e, e = (if d < 0 then -d else d) := ⟨_, rfl⟩
  have he : e = (d.natAbs : Int) := by rw [hedef]; split <;> omega
  have hmm : m = if neg then -(n.natAbs : Int) else (n.natAbs : Int) := by
    rw [hmdef, hneg]
    by_cases h1 : n < 0 <;> by_cases h2 : d < 0 <;> simp [h1, h2] <;> omega
  have hepos : 0 < e := by omega
  rw [quoQ, ← hmdef, ← hedef, ← he]
  rw [← he] at hqr hr1
  rw [hqr] at hmm
  clear hmdef hedef he hqr hneg h0
  generalize hP : q * e = P at *
  have hP1 : (q + 1) * e = P + e := by rw [Int.add_mul, Int.one_mul, hP]
  have hP2 : (-q) * e = -P := by rw [Int.neg_mul, hP]
  have hP3 : (-(q + 1)) * e = -P - e := by rw [Int.neg_mul, hP1]; omega
  cases neg with
  | false =>
    simp only [Bool.false_eq_true, if_false] at hmm ⊢
    subst hmm
    rcases (show mode = 1 ∨ mode = 2 ∨ mode = 3 by omega) with rfl | rfl | rfl
    · rw [if_pos rfl, div_is hepos (k := q) (by omega) (by omega)]
      simp [awayV, upV]
    · rw [if_neg (by decide), if_neg (by decide)]
      by_cases h : 2 * r < e
      · rw [div_twice hepos (k := q) (by omega) (by omega)]
        have : awayV false r e 2 = false := by
          unfold awayV
          split
          · rfl
          · simp; omega
        simp [this, upV]
      · rw [div_twice hepos (k := q + 1) (by omega) (by omega)]
        have : awayV false r e 2 = true := by
          unfold awayV
          split
          · omega
          · simp; omega
        simp [this, upV]
    · rw [if_neg (by decide), if_pos rfl]
      by_cases h : r = 0
      · rw [div_is hepos (k := -q) (by omega) (by omega)]
        simp [awayV, upV, h]
      · rw [div_is hepos (k := -(q + 1)) (by omega) (by omega)]
        simp [awayV, upV, h]
  | true =>
    simp only [if_true] at hmm ⊢
    subst hmm
    rcases (show mode = 1 ∨ mode = 2 ∨ mode = 3 by omega) with rfl | rfl | rfl
    · rw [if_pos rfl]
      by_cases h : r = 0
      · rw [div_is hepos (k := -q) (by omega) (by omega)]
        simp [awayV, upV, h]
      · rw [div_is hepos (k := -(q + 1)) (by omega) (by omega)]
        simp [awayV, upV, h]
    · rw [if_neg (by decide), if_neg (by decide)]
      by_cases h : 2 * r ≤ e
      · rw [div_twice hepos (k := -q) (by omega) (by omega)]
        have : awayV true r e 2 = false := by
          unfold awayV
          split
          · rfl
          · simp; omega
        simp [this, upV]
      · rw [div_twice hepos (k := -(q + 1)) (by omega) (by omega)]
        have : awayV true r e 2 = true := by
          unfold awayV
          split
          · omega
          · simp; omega
        simp [this, upV]
    · rw [if_neg (by decide), if_pos rfl, div_is hepos (k := q) (by omega) (by omega)]
      simp [awayV, upV]
/-- The floor's remainder tells the other roundings. -/
theorem quo_floor {n d f r : Int} (mode : Int) (h0 : d ≠ 0) (hm : 1 ≤ mode) (hm2 : mode ≤ 3) (hfr : (if d < 0 then -n else n) = f * (d.natAbs : Int) + r) (hr0 : 0 ≤ r) (hr1 : r < (d.natAbs : Int)) :
    quoQ n d mode = if r = 0 ∨ mode = 1 then f else if mode = 3 ∨ (d.natAbs : Int) ≤ 2 * r then f + 1 else f := by
  obtain ⟨m, hmdef⟩ : ∃ m, m = (if d < 0 then -n else n) := ⟨_, rfl⟩
  obtain ⟨e, hedef⟩ : ∃ e, e = (if d < 0 then -d else d) := ⟨_, rfl⟩
  have he : e = (d.natAbs : Int) := by rw [hedef]; split <;> omega
  have hepos : 0 < e := by omega
  rw [quoQ, ← hmdef, ← hedef, ← he]
  rw [← hmdef, ← he] at hfr
  rw [← he] at hr1
  clear hmdef hedef he h0
  subst hfr
  generalize hP : f * e = P at *
  have hP1 : (f + 1) * e = P + e := by rw [Int.add_mul, Int.one_mul, hP]
  have hP2 : (-f) * e = -P := by rw [Int.neg_mul, hP]
  have hP3 : (-(f + 1)) * e = -P - e := by rw [Int.neg_mul, hP1]; omega
  rcases (show mode = 1 ∨ mode = 2 ∨ mode = 3 by omega) with rfl | rfl | rfl
  · rw [if_pos rfl, if_pos (.inr rfl), div_is hepos (k := f) (by omega) (by omega)]
  · rw [if_neg (by decide), if_neg (by decide)]
    by_cases h : e ≤ 2 * r
    · rw [if_neg (by omega), if_pos (.inr h), div_twice hepos (k := f + 1) (by omega) (by omega)]
    · rw [div_twice hepos (k := f) (by omega) (by omega)]
      split
      · rfl
      · rw [if_neg (by omega)]
  · rw [if_neg (by decide), if_pos rfl]
    by_cases h : r = 0
    · rw [if_pos (.inl h), div_is hepos (k := -f) (by omega) (by omega)]; omega
    · rw [if_neg (by omega), if_pos (.inl rfl), div_is hepos (k := -(f + 1)) (by omega) (by omega)]; omega
/-- What truncated division gives, turned to the floor. -/
def refQ (n d mode : Int) : Int :=
  if n.tmod d ≠ 0 ∧ (n.tmod d < 0 ↔ ¬ d < 0) then
    (if n.tmod d + d = 0 ∨ mode = 1 then n.tdiv d - 1 else if mode = 3 ∨ -((n.tmod d + d).natAbs : Int) ≤ -(d.natAbs : Int) + ((n.tmod d + d).natAbs : Int) then n.tdiv d else n.tdiv d - 1)
  else (if n.tmod d = 0 ∨ mode = 1 then n.tdiv d else if mode = 3 ∨ -((n.tmod d).natAbs : Int) ≤ -(d.natAbs : Int) + ((n.tmod d).natAbs : Int) then n.tdiv d + 1 else n.tdiv d)
theorem tmod_bd (n : Int) {d : Int} (h : d ≠ 0) : -(d.natAbs : Int) < n.tmod d ∧ n.tmod d < (d.natAbs : Int) := by
  have h1 := Int.natAbs_tmod n d
  have h2 := Nat.mod_lt n.natAbs (show d.natAbs > 0 by omega)
  omega
theorem ref_quo {n d : Int} (mode : Int) (h0 : d ≠ 0) (hm : 1 ≤ mode) (hm2 : mode ≤ 3) : refQ n d mode = quoQ n d mode := by
  have e := Int.mul_tdiv_add_tmod n d
  have b := tmod_bd n h0
  have hdq : d * n.tdiv d = n.tdiv d * d := Int.mul_comm _ _
  unfold refQ
  generalize n.tdiv d = q at *
  generalize n.tmod d = r at *
  have hsg : (if d < 0 then -n else n) = q * (d.natAbs : Int) + (if d < 0 then -r else r) := by
    by_cases hd : d < 0
    · rw [if_pos hd, if_pos hd, show (d.natAbs : Int) = -d by omega, Int.mul_neg]; omega
    · rw [if_neg hd, if_neg hd, show (d.natAbs : Int) = d by omega]; omega
  split
  · rename_i hc
    have hq : (q - 1) * (d.natAbs : Int) = q * (d.natAbs : Int) - (d.natAbs : Int) := by rw [Int.sub_mul, Int.one_mul]
    rw [quo_floor mode h0 hm hm2 (f := q - 1) (r := ((r + d).natAbs : Int)) (by rw [hq, hsg]; split <;> omega) (by omega) (by omega)]
    have e1 : (((r + d).natAbs : Int) = 0) ↔ (r + d = 0) := by omega
    have e2 : (-((r + d).natAbs : Int) ≤ -(d.natAbs : Int) + ((r + d).natAbs : Int)) ↔ ((d.natAbs : Int) ≤ 2 * ((r + d).natAbs : Int)) := by omega
    simp only [e1, e2]
    split
    · rfl
    · split
      · omega
      · rfl
  · rename_i hc
    rw [quo_floor mode h0 hm hm2 (f := q) (r := (r.natAbs : Int)) (by rw [hsg]; split <;> omega) (by omega) (by omega)]
    have e1 : ((r.natAbs : Int) = 0) ↔ (r = 0) := by omega
    have e2 : (-(r.natAbs : Int) ≤ -(d.natAbs : Int) + (r.natAbs : Int)) ↔ ((d.natAbs : Int) ≤ 2 * (r.natAbs : Int)) := by omega
    simp only [e1, e2]
end Go.Proofs.YteojlodcafogaaaGreatDoor.Q
namespace Go.Proofs.YteojlodcafogaaaGreatDoor.Q
set_option linter.unusedVariables false
set_option linter.unusedSimpArgs false
/-! what was added is taken away, what was multiplied is divided -/
theorem make_zero {n d : Int} (h : (makeV n d).2 = 0) : ∃ p q, makeV n d = ((p, q), 0) := by
  refine ⟨(makeV n d).1.1, (makeV n d).1.2, ?_⟩
  rw [← h]
theorem add_sub {an ad bn bd p q : Int} (ha : validV an ad = true) (hb : validV bn bd = true) (h : makeV (an * bd + bn * ad) (ad * bd) = ((p, q), 0)) :
    validV p q = true ∧ makeV (p * bd - bn * q) (q * bd) = ((an, ad), 0) := by
  obtain ⟨_, _, _, hv, he⟩ := make_valid h
  have a := valid_bd ha
  have b := valid_bd hb
  have v := valid_bd hv
  have s := sum_bd hv hb
  have p2 := prod_bd (x := q) (y := bd) (by omega) (by omega) (by omega) (by omega)
  have p3 := Int.mul_pos (a := q) (b := bd) (by omega) (by omega)
  refine ⟨hv, make_of (by omega) (by omega) (by omega) ha ?_⟩
  have e1 : (p * bd - bn * q) * ad = p * (ad * bd) - bn * q * ad := by rw [Int.sub_mul, Int.mul_assoc, Int.mul_comm bd ad]
  have e2 : (an * bd + bn * ad) * q = an * (q * bd) + bn * q * ad := by
    rw [Int.add_mul, Int.mul_assoc, Int.mul_comm bd q, Int.mul_assoc, Int.mul_comm ad q, Int.mul_assoc]
  rw [e1, ← he, e2]
  omega
theorem mul_div {an ad bn bd p q : Int} (ha : validV an ad = true) (hb : validV bn bd = true) (h0 : bn ≠ 0) (h : makeV (an * bn) (ad * bd) = ((p, q), 0)) :
    validV p q = true ∧ makeV (p * bd) (q * bn) = ((an, ad), 0) := by
  obtain ⟨_, _, _, hv, he⟩ := make_valid h
  have a := valid_bd ha
  have b := valid_bd hb
  have v := valid_bd hv
  have p1 := prod_bd (x := p) (y := bd) (by omega) (by omega) (by omega) (by omega)
  have p2 := prod_bd (x := q) (y := bn) (by omega) (by omega) (by omega) (by omega)
  refine ⟨hv, make_of (Int.mul_ne_zero (by omega) h0) (by omega) (by omega) ha ?_⟩
  have e1 : p * bd * ad = p * (ad * bd) := by rw [Int.mul_assoc, Int.mul_comm bd ad]
  have e2 : an * bn * q = an * (q * bn) := by rw [Int.mul_assoc, Int.mul_comm bn q]
  rw [e1, ← he, e2]
/-! scaled numbers -/
def scaleV (x n d mode : Int) : Int × Int :=
  if validV n d = false then (0, 1)
  else if 1099511627776 < x ∨ x < -1099511627776 then (0, 2)
  else if mode < 1 ∨ 3 < mode then (0, 3)
  else if 4611686018427387904 < quoQ (x * n) d mode ∨ quoQ (x * n) d mode < -4611686018427387904 then (0, 2)
  else (quoQ (x * n) d mode, 0)
/-- As 'quo_mag', the sign by what the number is. -/
theorem quo_mag0 {n d q r : Int} {neg : Bool} (mode : Int) (h0 : 0 < d) (hm : 1 ≤ mode) (hm2 : mode ≤ 3) (hneg : n = if neg then -(n.natAbs : Int) else (n.natAbs : Int))
    (hqr : (n.natAbs : Int) = q * d + r) (hr0 : 0 ≤ r) (hr1 : r < d) :
    quoQ n d mode = if neg then -(q + upV (awayV neg r d mode)) else q + upV (awayV neg r d mode) := by
  have hd : (d.natAbs : Int) = d := by omega
  by_cases hn0 : n = 0
  · subst hn0
    have hq : q = 0 ∧ r = 0 := by
      have hz : q * d + r = 0 := by simpa using hqr.symm
      rcases Int.lt_trichotomy q 0 with h1 | h1 | h1
      · have h2 : (q + 1) * d ≤ 0 := Int.mul_nonpos_of_nonpos_of_nonneg (by omega) (by omega)
        rw [Int.add_mul, Int.one_mul] at h2; omega
      · subst h1; simp at hz; exact ⟨rfl, hz⟩
      · have := Int.mul_pos h1 h0; omega
    obtain ⟨rfl, rfl⟩ := hq
    have hz : quoQ 0 d mode = 0 := by
      have := quo_mag (n := 0) (d := d) (q := 0) (r := 0) (neg := false) mode (by omega) hm hm2 (by simp; omega) (by simp) (by omega) (by omega)
      rw [this]; simp [awayV, upV]
    rw [hz]
    cases neg <;> simp [awayV, upV]
  · have := quo_mag (n := n) (d := d) (q := q) (r := r) (neg := neg) mode (by omega) hm hm2 (by cases neg <;> simp at hneg ⊢ <;> omega) (by rw [hd]; exact hqr) hr0 (by omega)
    rw [hd] at this
    exact this
theorem quo_shift (a b : Int) {d : Int} (mode : Int) (h0 : 0 < d) : quoQ (a * d + b) d mode = a + quoQ b d mode := by
  unfold quoQ
  rw [if_neg (show ¬ d < 0 by omega), if_neg (show ¬ d < 0 by omega), if_neg (show ¬ d < 0 by omega)]
  split
  · rw [Int.add_comm (a * d), Int.add_mul_ediv_right _ _ (by omega)]; omega
  · split
    · rw [show -(a * d + b) = -b + (-a) * d by rw [Int.neg_mul]; omega, Int.add_mul_ediv_right _ _ (by omega)]; omega
    · rw [show 2 * (a * d + b) + d = 2 * b + d + a * (2 * d) by rw [Int.mul_left_comm]; omega, Int.add_mul_ediv_right _ _ (by omega)]; omega
theorem quo_bd (b : Int) {d : Int} (mode : Int) (h0 : 0 < d) : (0 ≤ b → 0 ≤ quoQ b d mode ∧ quoQ b d mode ≤ b) ∧ (b ≤ 0 → quoQ b d mode ≤ 0 ∧ b ≤ quoQ b d mode) := by
  unfold quoQ
  rw [if_neg (show ¬ d < 0 by omega), if_neg (show ¬ d < 0 by omega)]
  have lo : ∀ (x e k : Int), 0 < e → k * e ≤ x → k ≤ x / e := fun x e k he h => (Int.le_ediv_iff_mul_le he).2 h
  have hi : ∀ (x e k : Int), 0 < e → x < k * e + e → x / e ≤ k := fun x e k he h => by
    have := (Int.ediv_lt_iff_lt_mul he (a := x) (b := k + 1)).2 (by rw [Int.add_mul, Int.one_mul]; exact h)
    omega
  have up : 0 ≤ b → b ≤ b * d := fun h => by
    have := Int.mul_le_mul_of_nonneg_left (show (1 : Int) ≤ d by omega) h
    omega
  have dn : b ≤ 0 → b * d ≤ b := fun h => by
    have := Int.mul_le_mul_of_nonneg_left (show (1 : Int) ≤ d by omega) (show 0 ≤ -b by omega)
    simp only [Int.neg_mul, Int.mul_one] at this
    omega
  have tw : b * (2 * d) = 2 * (b * d) := Int.mul_left_comm _ _ _
  have ng : (-b) * d = -(b * d) := Int.neg_mul _ _
  split
  · refine ⟨fun h => ⟨lo _ _ _ h0 (by omega), hi _ _ _ h0 ?_⟩, fun h => ⟨hi _ _ _ h0 (by omega), lo _ _ _ h0 ?_⟩⟩
    · have := up h; omega
    · have := dn h; omega
  · split
    · refine ⟨fun h => ?_, fun h => ?_⟩
      · have h1 := hi (-b) d 0 h0 (by omega)
        have h2 := lo (-b) d (-b) h0 (by have := up h; omega)
        omega
      · have h1 := lo (-b) d 0 h0 (by omega)
        have h2 := hi (-b) d (-b) h0 (by have := dn h; omega)
        omega
    · refine ⟨fun h => ⟨lo _ _ _ (by omega) (by omega), hi _ _ _ (by omega) ?_⟩, fun h => ⟨hi _ _ _ (by omega) (by omega), lo _ _ _ (by omega) ?_⟩⟩
      · have := up h; omega
      · have := dn h; omega
/-- How the reference scales: the whole part and the rest apart. -/
theorem scale_parts {x n d : Int} (mode : Int) (hv : validV n d = true) (h1 : -1099511627776 ≤ x) (h2 : x ≤ 1099511627776) :
    quoQ (x * n) d mode = x.tdiv d * n + quoQ (x.tmod d * n) d mode ∧
    -4611686018427387904 < x.tmod d * n ∧ x.tmod d * n < 4611686018427387904 ∧ -4611686018427387904 < quoQ (x.tmod d * n) d mode ∧ quoQ (x.tmod d * n) d mode < 4611686018427387904 ∧
    (4611686018427387904 < (x.tdiv d * n).natAbs → 4611686018427387904 < quoQ (x * n) d mode ∨ quoQ (x * n) d mode < -4611686018427387904) := by
  have b := valid_bd hv
  have hd0 : 0 < d := by omega
  have e := Int.mul_tdiv_add_tmod x d
  have tb := tmod_bd x (show d ≠ 0 by omega)
  have hsx : (0 ≤ x → 0 ≤ x.tdiv d ∧ 0 ≤ x.tmod d) ∧ (x ≤ 0 → x.tdiv d ≤ 0 ∧ x.tmod d ≤ 0) := by
    refine ⟨fun h => ⟨Int.tdiv_nonneg h (by omega), Int.tmod_nonneg d h⟩, fun h => ?_⟩
    have e1 : (-x).tdiv d = -(x.tdiv d) := Int.neg_tdiv _ _
    have e2 : (-x).tmod d = -(x.tmod d) := Int.neg_tmod _ _
    have i1 := Int.tdiv_nonneg (show 0 ≤ -x by omega) (show 0 ≤ d by omega)
    have i2 := Int.tmod_nonneg d (show 0 ≤ -x by omega)
    omega
  generalize x.tdiv d = a at *
  generalize x.tmod d = r at *
  have hxn : x * n = a * n * d + r * n := by
    rw [← e, Int.add_mul, Int.mul_comm d a, Int.mul_assoc, Int.mul_comm d n, ← Int.mul_assoc]
  have hq : quoQ (x * n) d mode = a * n + quoQ (r * n) d mode := by rw [hxn, quo_shift _ _ _ hd0]
  have hrn := mul_bd (x := r) (y := n) (B := 2147483647) (C := 2147483648) (by omega) (by omega)
  have hb := quo_bd (r * n) mode hd0
  refine ⟨hq, by omega, by omega, ?_, ?_, ?_⟩
  · rcases Int.le_total 0 (r * n) with h | h
    · have := hb.1 h; omega
    · have := hb.2 h; omega
  · rcases Int.le_total 0 (r * n) with h | h
    · have := hb.1 h; omega
    · have := hb.2 h; omega
  · intro hbig
    rw [hq]
    have sgn : (0 ≤ a * n ∧ 0 ≤ r * n) ∨ (a * n ≤ 0 ∧ r * n ≤ 0) := by
      rcases Int.le_total 0 x with hx | hx
      · obtain ⟨i1, i2⟩ := hsx.1 hx
        rcases Int.le_total 0 n with hn | hn
        · exact .inl ⟨Int.mul_nonneg i1 hn, Int.mul_nonneg i2 hn⟩
        · exact .inr ⟨Int.mul_nonpos_of_nonneg_of_nonpos i1 hn, Int.mul_nonpos_of_nonneg_of_nonpos i2 hn⟩
      · obtain ⟨i1, i2⟩ := hsx.2 hx
        rcases Int.le_total 0 n with hn | hn
        · exact .inr ⟨Int.mul_nonpos_of_nonpos_of_nonneg i1 hn, Int.mul_nonpos_of_nonpos_of_nonneg i2 hn⟩
        · exact .inl ⟨Int.mul_nonneg_of_nonpos_of_nonpos i1 hn, Int.mul_nonneg_of_nonpos_of_nonpos i2 hn⟩
    rcases sgn with ⟨s1, s2⟩ | ⟨s1, s2⟩
    · have := (hb.1 s2).1; omega
    · have := (hb.2 s2).1; omega
end Go.Proofs.YteojlodcafogaaaGreatDoor.Q
namespace Go.Proofs.YteojlodcafogaaaGreatDoor.Q
set_option linter.unusedVariables false
set_option linter.unusedSimpArgs false
def textL (n d : Int) : List UInt8 := if validV n d then Lib.itoa n ++ 47 :: Lib.itoa d else []
def parseRV (s : List UInt8) : (Int × Int) × Int :=
  if s ≠ [] ∧ textL (numI (cutC 47 s).1) (numI (cutC 47 s).2) = s then ((numI (cutC 47 s).1, numI (cutC 47 s).2), 0) else ((0, 0), 4)
theorem textL_valid {n d : Int} (h : validV n d = true) : textL n d = Lib.itoa n ++ 47 :: Lib.itoa d := by simp [textL, h]
theorem textL_bad {n d : Int} (h : validV n d = false) : textL n d = [] := by simp [textL, h]
theorem textL_ne {n d : Int} (h : textL n d ≠ []) : validV n d = true := by
  cases hv : validV n d with
  | true => rfl
  | false => exact absurd (textL_bad hv) h
theorem textL_cut {n d : Int} (h : validV n d = true) : cutC 47 (textL n d) = (Lib.itoa n, Lib.itoa d) := by
  rw [textL_valid h]
  exact cutC_cut (itoa_no (by decide) (by decide))
theorem parse_hit {n d : Int} {s : List UInt8} (h : textL n d = s) (hs : s ≠ []) : parseRV s = ((n, d), 0) := by
  subst h
  have hv := textL_ne hs
  have hc := textL_cut hv
  unfold parseRV
  simp only [hc, numI_itoa]
  rw [if_pos ⟨hs, trivial⟩]
theorem parse_miss {s : List UInt8} (h : ∀ n d, textL n d = s → s = []) : parseRV s = ((0, 0), 4) := by
  unfold parseRV
  rw [if_neg]
  rintro ⟨h1, h2⟩
  exact h1 (h _ _ h2)
/-- The reference's Number. -/
def unsg : List UInt8 → Bool × List UInt8
  | 45 :: r => (true, r)
  | l => (false, l)
def numRV (l : List UInt8) : Int × Bool :=
  if (unsg l).2.length = 0 ∨ 12 < (unsg l).2.length then (0, false)
  else match digs 0 (unsg l).2 with
    | none => (0, false)
    | some m => ((if (unsg l).1 then -m else m), decide (Lib.itoa (if (unsg l).1 then -m else m) = l))
theorem numRV_itoa {n : Int} (h1 : -2147483648 ≤ n) (h2 : n ≤ 2147483648) : numRV (Lib.itoa n) = (n, true) := by
  have hu : unsg (Lib.itoa n) = (decide (n < 0), Lib.decDigits n.natAbs) := by
    rw [Lib.itoa]
    split
    · rename_i h; simp [unsg, h]
    · rename_i h
      have hd := dec_head45 n.toNat
      rw [show n.natAbs = n.toNat by omega]
      generalize Lib.decDigits n.toNat = l at *
      rw [unsg.eq_def]
      split
      · rename_i r; exact absurd rfl (hd r)
      · simp; omega
  have hl := Lib.decDigits_length n.natAbs
  have hl2 := nD_le 9 n.natAbs (by omega)
  have hl3 := Lib.nDigits_pos n.natAbs
  rw [numRV, hu]
  simp only [digs_dec]
  rw [if_neg (by omega)]
  have e : (if decide (n < 0) = true then -(n.natAbs : Int) else (n.natAbs : Int)) = n := by
    by_cases h : n < 0
    · simp [h]; omega
    · simp [h]; omega
  rw [e]
  simp
end Go.Proofs.YteojlodcafogaaaGreatDoor.Q
