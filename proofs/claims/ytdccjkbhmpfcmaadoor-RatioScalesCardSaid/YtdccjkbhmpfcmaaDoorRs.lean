/-
  Scaled numbers, sums taken back, texts of ratios: in plain words. Without conditions.
-/
import Derived.Test.YtdccjkbhmpfcmaaDoorRq
namespace Go.Proofs.YtdccjkbhmpfcmaaDoor
set_option linter.unusedVariables false
set_option linter.unusedSimpArgs false
/-! what was added is taken away, what was multiplied is divided -/
theorem make_zero {n d : Int} (h : (makeV n d).2 = 0) : ∃ p q, makeV n d = ((p, q), 0) := by
  refine ⟨(makeV n d).1.1, (makeV n d).1.2, ?_⟩
  rw [← h]
theorem add_sub {an ad bn bd p q : Int} (ha : validV an ad = true) (hb : validV bn bd = true) (h : makeV (an * bd + bn * ad) (ad * bd) = ((p, q), 0)) :
    validV p q = true ∧ makeV (p * bd - bn * q) (q * bd) = ((an, ad), 0) := by
  obtain ⟨_, _, _, hv, he⟩ := make_valid h
  have a := valid_bd ha
  have b := valid_bd hb
  have v := valid_bd hv
  have s := sum_bd hv hb
  have p2 := prod_bd (x := q) (y := bd) (by omega) (by omega) (by omega) (by omega)
  have p3 := Int.mul_pos (a := q) (b := bd) (by omega) (by omega)
  refine ⟨hv, make_of (by omega) (by omega) (by omega) ha ?_⟩
  have e1 : (p * bd - bn * q) * ad = p * (ad * bd) - bn * q * ad := by rw [Int.sub_mul, Int.mul_assoc, Int.mul_comm bd ad]
  have e2 : (an * bd + bn * ad) * q = an * (q * bd) + bn * q * ad := by
    rw [Int.add_mul, Int.mul_assoc, Int.mul_comm bd q, Int.mul_assoc, Int.mul_comm ad q, Int.mul_assoc]
  rw [e1, ← he, e2]
  omega
theorem mul_div {an ad bn bd p q : Int} (ha : validV an ad = true) (hb : validV bn bd = true) (h0 : bn ≠ 0) (h : makeV (an * bn) (ad * bd) = ((p, q), 0)) :
    validV p q = true ∧ makeV (p * bd) (q * bn) = ((an, ad), 0) := by
  obtain ⟨_, _, _, hv, he⟩ := make_valid h
  have a := valid_bd ha
  have b := valid_bd hb
  have v := valid_bd hv
  have p1 := prod_bd (x := p) (y := bd) (by omega) (by omega) (by omega) (by omega)
  have p2 := prod_bd (x := q) (y := bn) (by omega) (by omega) (by omega) (by omega)
  refine ⟨hv, make_of (Int.mul_ne_zero (by omega) h0) (by omega) (by omega) ha ?_⟩
  have e1 : p * bd * ad = p * (ad * bd) := by rw [Int.mul_assoc, Int.mul_comm bd ad]
  have e2 : an * bn * q = an * (q * bn) := by rw [Int.mul_assoc, Int.mul_comm bn q]
  rw [e1, ← he, e2]
/-! scaled numbers -/
def scaleV (x n d mode : Int) : Int × Int :=
  if validV n d = false then (0, 1)
  else if 1099511627776 < x ∨ x < -1099511627776 then (0, 2)
  else if mode < 1 ∨ 3 < mode then (0, 3)
  else if 4611686018427387904 < quoQ (x * n) d mode ∨ quoQ (x * n) d mode < -4611686018427387904 then (0, 2)
  else (quoQ (x * n) d mode, 0)
/-- As 'quo_mag', the sign by what the number is. -/
theorem quo_mag0 {n d q r : Int} {neg : Bool} (mode : Int) (h0 : 0 < d) (hm : 1 ≤ mode) (hm2 : mode ≤ 3) (hneg : n = if neg then -(n.natAbs : Int) else (n.natAbs : Int))
    (hqr : (n.natAbs : Int) = q * d + r) (hr0 : 0 ≤ r) (hr1 : r < d) :
    quoQ n d mode = if neg then -(q + upV (awayV neg r d mode)) else q + upV (awayV neg r d mode) := by
  have hd : (d.natAbs : Int) = d := by omega
  by_cases hn0 : n = 0
  · subst hn0
    have hq : q = 0 ∧ r = 0 := by
      have hz : q * d + r = 0 := by simpa using hqr.symm
      rcases Int.lt_trichotomy q 0 with h1 | h1 | h1
      · have h2 : (q + 1) * d ≤ 0 := Int.mul_nonpos_of_nonpos_of_nonneg (by omega) (by omega)
        rw [Int.add_mul, Int.one_mul] at h2; omega
      · subst h1; simp at hz; exact ⟨rfl, hz⟩
      · have := Int.mul_pos h1 h0; omega
    obtain ⟨rfl, rfl⟩ := hq
    have hz : quoQ 0 d mode = 0 := by
      have := quo_mag (n := 0) (d := d) (q := 0) (r := 0) (neg := false) mode (by omega) hm hm2 (by simp; omega) (by simp) (by omega) (by omega)
      rw [this]; simp [awayV, upV]
    rw [hz]
    cases neg <;> simp [awayV, upV]
  · have := quo_mag (n := n) (d := d) (q := q) (r := r) (neg := neg) mode (by omega) hm hm2 (by cases neg <;> simp at hneg ⊢ <;> omega) (by rw [hd]; exact hqr) hr0 (by omega)
    rw [hd] at this
    exact this
theorem quo_shift (a b : Int) {d : Int} (mode : Int) (h0 : 0 < d) : quoQ (a * d + b) d mode = a + quoQ b d mode := by
  unfold quoQ
  rw [if_neg (show ¬ d < 0 by omega), if_neg (show ¬ d < 0 by omega), if_neg (show ¬ d < 0 by omega)]
  split
  · rw [Int.add_comm (a * d), Int.add_mul_ediv_right _ _ (by omega)]; omega
  · split
    · rw [show -(a * d + b) = -b + (-a) * d by rw [Int.neg_mul]; omega, Int.add_mul_ediv_right _ _ (by omega)]; omega
    · rw [show 2 * (a * d + b) + d = 2 * b + d + a * (2 * d) by rw [Int.mul_left_comm]; omega, Int.add_mul_ediv_right _ _ (by omega)]; omega
theorem quo_bd (b : Int) {d : Int} (mode : Int) (h0 : 0 < d) : (0 ≤ b → 0 ≤ quoQ b d mode ∧ quoQ b d mode ≤ b) ∧ (b ≤ 0 → quoQ b d mode ≤ 0 ∧ b ≤ quoQ b d mode) := by
  unfold quoQ
  rw [if_neg (show ¬ d < 0 by omega), if_neg (show ¬ d < 0 by omega)]
  have lo : ∀ (x e k : Int), 0 < e → k * e ≤ x → k ≤ x / e := fun x e k he h => (Int.le_ediv_iff_mul_le he).2 h
  have hi : ∀ (x e k : Int), 0 < e → x < k * e + e → x / e ≤ k := fun x e k he h => by
    have := (Int.ediv_lt_iff_lt_mul he (a := x) (b := k + 1)).2 (by rw [Int.add_mul, Int.one_mul]; exact h)
    omega
  have up : 0 ≤ b → b ≤ b * d := fun h => by
    have := Int.mul_le_mul_of_nonneg_left (show (1 : Int) ≤ d by omega) h
    omega
  have dn : b ≤ 0 → b * d ≤ b := fun h => by
    have := Int.mul_le_mul_of_nonneg_left (show (1 : Int) ≤ d by omega) (show 0 ≤ -b by omega)
    simp only [Int.neg_mul, Int.mul_one] at this
    omega
  have tw : b * (2 * d) = 2 * (b * d) := Int.mul_left_comm _ _ _
  have ng : (-b) * d = -(b * d) := Int.neg_mul _ _
  split
  · refine ⟨fun h => ⟨lo _ _ _ h0 (by omega), hi _ _ _ h0 ?_⟩, fun h => ⟨hi _ _ _ h0 (by omega), lo _ _ _ h0 ?_⟩⟩
    · have := up h; omega
    · have := dn h; omega
  · split
    · refine ⟨fun h => ?_, fun h => ?_⟩
      · have h1 := hi (-b) d 0 h0 (by omega)
        have h2 := lo (-b) d (-b) h0 (by have := up h; omega)
        omega
      · have h1 := lo (-b) d 0 h0 (by omega)
        have h2 := hi (-b) d (-b) h0 (by have := dn h; omega)
        omega
    · refine ⟨fun h => ⟨lo _ _ _ (by omega) (by omega), hi _ _ _ (by omega) ?_⟩, fun h => ⟨hi _ _ _ (by omega) (by omega), lo _ _ _ (by omega) ?_⟩⟩
      · have := up h; omega
      · have := dn h; omega
/-- How the reference scales: the whole part and the rest apart. -/
theorem scale_parts {x n d : Int} (mode : Int) (hv : validV n d = true) (h1 : -1099511627776 ≤ x) (h2 : x ≤ 1099511627776) :
    quoQ (x * n) d mode = x.tdiv d * n + quoQ (x.tmod d * n) d mode ∧
    -4611686018427387904 < x.tmod d * n ∧ x.tmod d * n < 4611686018427387904 ∧ -4611686018427387904 < quoQ (x.tmod d * n) d mode ∧ quoQ (x.tmod d * n) d mode < 4611686018427387904 ∧
    (4611686018427387904 < (x.tdiv d * n).natAbs → 4611686018427387904 < quoQ (x * n) d mode ∨ quoQ (x * n) d mode < -4611686018427387904) := by
  have b := valid_bd hv
  have hd0 : 0 < d := by omega
  have e := Int.mul_tdiv_add_tmod x d
  have tb := tmod_bd x (show d ≠ 0 by omega)
  have hsx : (0 ≤ x → 0 ≤ x.tdiv d ∧ 0 ≤ x.tmod d) ∧ (x ≤ 0 → x.tdiv d ≤ 0 ∧ x.tmod d ≤ 0) := by
    refine ⟨fun h => ⟨Int.tdiv_nonneg h (by omega), Int.tmod_nonneg d h⟩, fun h => ?_⟩
    have e1 : (-x).tdiv d = -(x.tdiv d) := Int.neg_tdiv _ _
    have e2 : (-x).tmod d = -(x.tmod d) := Int.neg_tmod _ _
    have i1 := Int.tdiv_nonneg (show 0 ≤ -x by omega) (show 0 ≤ d by omega)
    have i2 := Int.tmod_nonneg d (show 0 ≤ -x by omega)
    omega
  generalize x.tdiv d = a at *
  generalize x.tmod d = r at *
  have hxn : x * n = a * n * d + r * n := by
    rw [← e, Int.add_mul, Int.mul_comm d a, Int.mul_assoc, Int.mul_comm d n, ← Int.mul_assoc]
  have hq : quoQ (x * n) d mode = a * n + quoQ (r * n) d mode := by rw [hxn, quo_shift _ _ _ hd0]
  have hrn := mul_bd (x := r) (y := n) (B := 2147483647) (C := 2147483648) (by omega) (by omega)
  have hb := quo_bd (r * n) mode hd0
  refine ⟨hq, by omega, by omega, ?_, ?_, ?_⟩
  · rcases Int.le_total 0 (r * n) with h | h
    · have := hb.1 h; omega
    · have := hb.2 h; omega
  · rcases Int.le_total 0 (r * n) with h | h
    · have := hb.1 h; omega
    · have := hb.2 h; omega
  · intro hbig
    rw [hq]
    have sgn : (0 ≤ a * n ∧ 0 ≤ r * n) ∨ (a * n ≤ 0 ∧ r * n ≤ 0) := by
      rcases Int.le_total 0 x with hx | hx
      · obtain ⟨i1, i2⟩ := hsx.1 hx
        rcases Int.le_total 0 n with hn | hn
        · exact .inl ⟨Int.mul_nonneg i1 hn, Int.mul_nonneg i2 hn⟩
        · exact .inr ⟨Int.mul_nonpos_of_nonneg_of_nonpos i1 hn, Int.mul_nonpos_of_nonneg_of_nonpos i2 hn⟩
      · obtain ⟨i1, i2⟩ := hsx.2 hx
        rcases Int.le_total 0 n with hn | hn
        · exact .inr ⟨Int.mul_nonpos_of_nonpos_of_nonneg i1 hn, Int.mul_nonpos_of_nonpos_of_nonneg i2 hn⟩
        · exact .inl ⟨Int.mul_nonneg_of_nonpos_of_nonpos i1 hn, Int.mul_nonneg_of_nonpos_of_nonpos i2 hn⟩
    rcases sgn with ⟨s1, s2⟩ | ⟨s1, s2⟩
    · have := (hb.1 s2).1; omega
    · have := (hb.2 s2).1; omega
end Go.Proofs.YtdccjkbhmpfcmaaDoor
