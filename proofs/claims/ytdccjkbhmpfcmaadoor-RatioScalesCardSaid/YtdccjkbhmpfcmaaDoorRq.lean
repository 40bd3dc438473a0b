/-
  Rounded quotients in plain words. Without conditions.
-/
import Derived.Test.YtdccjkbhmpfcmaaDoorRp
namespace Go.Proofs.YtdccjkbhmpfcmaaDoor
set_option linter.unusedVariables false
set_option linter.unusedSimpArgs false
/-- n / d, rounded down (1), to the nearest, halfway up (2), or up (3). -/
def quoQ (n d mode : Int) : Int :=
  if mode = 1 then (if d < 0 then -n else n) / (if d < 0 then -d else d)
  else if mode = 3 then -((-(if d < 0 then -n else n)) / (if d < 0 then -d else d))
  else (2 * (if d < 0 then -n else n) + (if d < 0 then -d else d)) / (2 * (if d < 0 then -d else d))
def quotV (n d mode : Int) : Int × Int :=
  if d = 0 then (0, 1) else if mode < 1 ∨ 3 < mode then (0, 3)
  else if 9223372036854775807 < quoQ n d mode then (0, 2) else (quoQ n d mode, 0)
theorem div_is {x e k : Int} (he : 0 < e) (h1 : k * e ≤ x) (h2 : x < k * e + e) : x / e = k := by
  have a : k ≤ x / e := (Int.le_ediv_iff_mul_le he).2 h1
  have b : x / e < k + 1 := (Int.ediv_lt_iff_lt_mul he).2 (by rw [Int.add_mul, Int.one_mul]; exact h2)
  omega
theorem div_twice {x e k : Int} (he : 0 < e) (h1 : 2 * (k * e) ≤ x) (h2 : x < 2 * (k * e) + 2 * e) : x / (2 * e) = k := by
  refine div_is (by omega) ?_ ?_
  · rw [Int.mul_left_comm]; exact h1
  · rw [Int.mul_left_comm]; exact h2
def awayV (neg : Bool) (r d mode : Int) : Bool :=
  if r = 0 then false else if mode = 1 then neg else if mode = 3 then !neg else decide (d - r < r) || (decide (r = d - r) && !neg)
def upV (b : Bool) : Int := if b then 1 else 0
/-- The quotient's size is that of the whole quotient, rounded up or not. -/
theorem quo_mag {n d q r : Int} {neg : Bool} (mode : Int) (h0 : d ≠ 0) (hm : 1 ≤ mode) (hm2 : mode ≤ 3) (hneg : neg = (decide (n < 0) != decide (d < 0)))
    (hqr : (n.natAbs : Int) = q * (d.natAbs : Int) + r) (hr0 : 0 ≤ r) (hr1 : r < (d.natAbs : Int)) :
    quoQ n d mode = if neg then -(q + upV (awayV neg r (d.natAbs : Int) mode)) else q + upV (awayV neg r (d.natAbs : Int) mode) := by
  obtain ⟨m, hmdef⟩ : ∃ m, m = (if d < 0 then -n else n) := ⟨_, rfl⟩
  obtain ⟨e, hedef⟩ : ∃ e, e = (if d < 0 then -d else d) := ⟨_, rfl⟩
  have he : e = (d.natAbs : Int) := by rw [hedef]; split <;> omega
  have hmm : m = if neg then -(n.natAbs : Int) else (n.natAbs : Int) := by
    rw [hmdef, hneg]
    by_cases h1 : n < 0 <;> by_cases h2 : d < 0 <;> simp [h1, h2] <;> omega
  have hepos : 0 < e := by omega
  rw [quoQ, ← hmdef, ← hedef, ← he]
  rw [← he] at hqr hr1
  rw [hqr] at hmm
  clear hmdef hedef he hqr hneg h0
  generalize hP : q * e = P at *
  have hP1 : (q + 1) * e = P + e := by rw [Int.add_mul, Int.one_mul, hP]
  have hP2 : (-q) * e = -P := by rw [Int.neg_mul, hP]
  have hP3 : (-(q + 1)) * e = -P - e := by rw [Int.neg_mul, hP1]; omega
  cases neg with
  | false =>
    simp only [Bool.false_eq_true, if_false] at hmm ⊢
    subst hmm
    rcases (show mode = 1 ∨ mode = 2 ∨ mode = 3 by omega) with rfl | rfl | rfl
    · rw [if_pos rfl, div_is hepos (k := q) (by omega) (by omega)]
      simp [awayV, upV]
    · rw [if_neg (by decide), if_neg (by decide)]
      by_cases h : 2 * r < e
      · rw [div_twice hepos (k := q) (by omega) (by omega)]
        have : awayV false r e 2 = false := by
          unfold awayV
          split
          · rfl
          · simp; omega
        simp [this, upV]
      · rw [div_twice hepos (k := q + 1) (by omega) (by omega)]
        have : awayV false r e 2 = true := by
          unfold awayV
          split
          · omega
          · simp; omega
        simp [this, upV]
    · rw [if_neg (by decide), if_pos rfl]
      by_cases h : r = 0
      · rw [div_is hepos (k := -q) (by omega) (by omega)]
        simp [awayV, upV, h]
      · rw [div_is hepos (k := -(q + 1)) (by omega) (by omega)]
        simp [awayV, upV, h]
  | true =>
    simp only [if_true] at hmm ⊢
    subst hmm
    rcases (show mode = 1 ∨ mode = 2 ∨ mode = 3 by omega) with rfl | rfl | rfl
    · rw [if_pos rfl]
      by_cases h : r = 0
      · rw [div_is hepos (k := -q) (by omega) (by omega)]
        simp [awayV, upV, h]
      · rw [div_is hepos (k := -(q + 1)) (by omega) (by omega)]
        simp [awayV, upV, h]
    · rw [if_neg (by decide), if_neg (by decide)]
      by_cases h : 2 * r ≤ e
      · rw [div_twice hepos (k := -q) (by omega) (by omega)]
        have : awayV true r e 2 = false := by
          unfold awayV
          split
          · rfl
          · simp; omega
        simp [this, upV]
      · rw [div_twice hepos (k := -(q + 1)) (by omega) (by omega)]
        have : awayV true r e 2 = true := by
          unfold awayV
          split
          · omega
          · simp; omega
        simp [this, upV]
    · rw [if_neg (by decide), if_pos rfl, div_is hepos (k := q) (by omega) (by omega)]
      simp [awayV, upV]
/-- The floor's remainder tells the other roundings. -/
theorem quo_floor {n d f r : Int} (mode : Int) (h0 : d ≠ 0) (hm : 1 ≤ mode) (hm2 : mode ≤ 3) (hfr : (if d < 0 then -n else n) = f * (d.natAbs : Int) + r) (hr0 : 0 ≤ r) (hr1 : r < (d.natAbs : Int)) :
    quoQ n d mode = if r = 0 ∨ mode = 1 then f else if mode = 3 ∨ (d.natAbs : Int) ≤ 2 * r then f + 1 else f := by
  obtain ⟨m, hmdef⟩ : ∃ m, m = (if d < 0 then -n else n) := ⟨_, rfl⟩
  obtain ⟨e, hedef⟩ : ∃ e, e = (if d < 0 then -d else d) := ⟨_, rfl⟩
  have he : e = (d.natAbs : Int) := by rw [hedef]; split <;> omega
  have hepos : 0 < e := by omega
  rw [quoQ, ← hmdef, ← hedef, ← he]
  rw [← hmdef, ← he] at hfr
  rw [← he] at hr1
  clear hmdef hedef he h0
  subst hfr
  generalize hP : f * e = P at *
  have hP1 : (f + 1) * e = P + e := by rw [Int.add_mul, Int.one_mul, hP]
  have hP2 : (-f) * e = -P := by rw [Int.neg_mul, hP]
  have hP3 : (-(f + 1)) * e = -P - e := by rw [Int.neg_mul, hP1]; omega
  rcases (show mode = 1 ∨ mode = 2 ∨ mode = 3 by omega) with rfl | rfl | rfl
  · rw [if_pos rfl, if_pos (.inr rfl), div_is hepos (k := f) (by omega) (by omega)]
  · rw [if_neg (by decide), if_neg (by decide)]
    by_cases h : e ≤ 2 * r
    · rw [if_neg (by omega), if_pos (.inr h), div_twice hepos (k := f + 1) (by omega) (by omega)]
    · rw [div_twice hepos (k := f) (by omega) (by omega)]
      split
      · rfl
      · rw [if_neg (by omega)]
  · rw [if_neg (by decide), if_pos rfl]
    by_cases h : r = 0
    · rw [if_pos (.inl h), div_is hepos (k := -f) (by omega) (by omega)]; omega
    · rw [if_neg (by omega), if_pos (.inl rfl), div_is hepos (k := -(f + 1)) (by omega) (by omega)]; omega
/-- What truncated division gives, turned to the floor. -/
def refQ (n d mode : Int) : Int :=
  if n.tmod d ≠ 0 ∧ (n.tmod d < 0 ↔ ¬ d < 0) then
    (if n.tmod d + d = 0 ∨ mode = 1 then n.tdiv d - 1 else if mode = 3 ∨ -((n.tmod d + d).natAbs : Int) ≤ -(d.natAbs : Int) + ((n.tmod d + d).natAbs : Int) then n.tdiv d else n.tdiv d - 1)
  else (if n.tmod d = 0 ∨ mode = 1 then n.tdiv d else if mode = 3 ∨ -((n.tmod d).natAbs : Int) ≤ -(d.natAbs : Int) + ((n.tmod d).natAbs : Int) then n.tdiv d + 1 else n.tdiv d)
theorem tmod_bd (n : Int) {d : Int} (h : d ≠ 0) : -(d.natAbs : Int) < n.tmod d ∧ n.tmod d < (d.natAbs : Int) := by
  have h1 := Int.natAbs_tmod n d
  have h2 := Nat.mod_lt n.natAbs (show d.natAbs > 0 by omega)
  omega
theorem ref_quo {n d : Int} (mode : Int) (h0 : d ≠ 0) (hm : 1 ≤ mode) (hm2 : mode ≤ 3) : refQ n d mode = quoQ n d mode := by
  have e := Int.mul_tdiv_add_tmod n d
  have b := tmod_bd n h0
  have hdq : d * n.tdiv d = n.tdiv d * d := Int.mul_comm _ _
  unfold refQ
  generalize n.tdiv d = q at *
  generalize n.tmod d = r at *
  have hsg : (if d < 0 then -n else n) = q * (d.natAbs : Int) + (if d < 0 then -r else r) := by
    by_cases hd : d < 0
    · rw [if_pos hd, if_pos hd, show (d.natAbs : Int) = -d by omega, Int.mul_neg]; omega
    · rw [if_neg hd, if_neg hd, show (d.natAbs : Int) = d by omega]; omega
  split
  · rename_i hc
    have hq : (q - 1) * (d.natAbs : Int) = q * (d.natAbs : Int) - (d.natAbs : Int) := by rw [Int.sub_mul, Int.one_mul]
    rw [quo_floor mode h0 hm hm2 (f := q - 1) (r := ((r + d).natAbs : Int)) (by rw [hq, hsg]; split <;> omega) (by omega) (by omega)]
    have e1 : (((r + d).natAbs : Int) = 0) ↔ (r + d = 0) := by omega
    have e2 : (-((r + d).natAbs : Int) ≤ -(d.natAbs : Int) + ((r + d).natAbs : Int)) ↔ ((d.natAbs : Int) ≤ 2 * ((r + d).natAbs : Int)) := by omega
    simp only [e1, e2]
    split
    · rfl
    · split
      · omega
      · rfl
  · rename_i hc
    rw [quo_floor mode h0 hm hm2 (f := q) (r := (r.natAbs : Int)) (by rw [hsg]; split <;> omega) (by omega) (by omega)]
    have e1 : ((r.natAbs : Int) = 0) ↔ (r = 0) := by omega
    have e2 : (-(r.natAbs : Int) ≤ -(d.natAbs : Int) + (r.natAbs : Int)) ↔ ((d.natAbs : Int) ≤ 2 * (r.natAbs : Int)) := by omega
    simp only [e1, e2]
end Go.Proofs.YtdccjkbhmpfcmaaDoor
