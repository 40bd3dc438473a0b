/-
  Labels of rate 4 (30 frames of label a second, with dropped labels or not), and streams of byte pairs: in plain words.
-/
import Derived.Test.YtbliilemjkjimaaDoorNm
namespace Go.Proofs.YtbliilemjkjimaaDoor
/-- A label: hours, minutes, seconds, frames, dropped. -/
structure Lab where
  h : Int
  m : Int
  s : Int
  f : Int
  d : Bool
deriving DecidableEq
def drp (d : Bool) : Int := if d then 2 else 0
def dayV (d : Bool) : Int := 2592000 - 1296 * drp d
def numP (d : Bool) (f : Int) : Int := f + 9 * drp d * (f / (18000 - 9 * drp d)) + (if 1800 ≤ f % (18000 - 9 * drp d) then drp d * ((f % (18000 - 9 * drp d) - 1800) / (1800 - drp d) + 1) else 0)
def labN (d : Bool) (n : Int) : Lab := ⟨n / 30 / 3600, n / 30 / 60 % 60, n / 30 % 60, n % 30, d⟩
def labV (d : Bool) (f : Int) : Lab := labN d (numP d f)
def chkL (l : Lab) : Int :=
  if l.h < 0 ∨ 23 < l.h ∨ l.m < 0 ∨ 59 < l.m ∨ l.s < 0 ∨ 59 < l.s ∨ l.f < 0 ∨ 30 ≤ l.f then 2
  else if l.s = 0 ∧ l.m % 10 ≠ 0 ∧ l.f < drp l.d then 6 else 0
def frmV (l : Lab) : Int := ((l.h * 60 + l.m) * 60 + l.s) * 30 + l.f - drp l.d * ((l.h * 60 + l.m) - (l.h * 60 + l.m) / 10)
theorem lab_parts (n : Int) : n / 30 / 3600 * 60 + n / 30 / 60 % 60 = n / 30 / 60 := by omega
theorem labN_frm (d : Bool) (n : Int) : frmV (labN d n) = n - drp d * (n / 30 / 60 - n / 30 / 60 / 10) := by
  simp only [frmV, labN, lab_parts]
  have : (n / 30 / 60 * 60 + n / 30 % 60) * 30 + n % 30 = n := by omega
  rw [this]
theorem labV_drop {f : Int} (h1 : 0 ≤ f) (h2 : f < 2589408) : chkL (labV true f) = 0 ∧ frmV (labV true f) = f := by
  obtain ⟨t, r, c, e0, q1, q2, hc, en⟩ : ∃ t r c : Int, f = 17982 * t + r ∧ (0 ≤ r ∧ r < 17982) ∧ (0 ≤ t ∧ t < 144) ∧ ((r < 1800 ∧ c = 0) ∨ (1800 ≤ r ∧ c = (r - 1800) / 1798 + 1)) ∧ numP true f = f + 18 * t + 2 * c := by
    refine ⟨f / 17982, f % 17982, if 1800 ≤ f % 17982 then (f % 17982 - 1800) / 1798 + 1 else 0, by omega, by omega, by omega, ?_, ?_⟩
    · split
      · exact .inr ⟨‹_›, rfl⟩
      · exact .inl ⟨by omega, rfl⟩
    · simp only [numP, drp, if_true]
      simp only [Int.reduceMul, Int.reduceSub]
      split <;> omega
  have g : ∀ n, n = f + 18 * t + 2 * c → n / 30 / 60 = t * 10 + c ∧ 0 ≤ c ∧ c ≤ 9 ∧ (c = 0 ∨ 2 ≤ n % 1800) ∧ 0 ≤ n ∧ n < 2592000 := by
    intro n hn
    omega
  simp only [labV]
  rw [en]
  obtain ⟨g1, g2, g3, g4, g5, g6⟩ := g _ rfl
  generalize hn : f + 18 * t + 2 * c = n at *
  refine ⟨?_, ?_⟩
  · simp only [labN, chkL, drp, if_true]
    rw [if_neg (by omega), if_neg (by omega)]
  · rw [labN_frm, g1]
    simp only [drp, if_true]
    omega
theorem labV_plain {f : Int} (h1 : 0 ≤ f) (h2 : f < 2592000) : chkL (labV false f) = 0 ∧ frmV (labV false f) = f := by
  have e : numP false f = f := by simp [numP, drp]
  simp only [labV, e, labN, chkL, frmV, drp]
  refine ⟨?_, ?_⟩
  · rw [if_neg (by omega), if_neg (by simp; omega)]
  · simp; omega
/-- The words of a label: two digits each. -/
def two2 (n : Int) : List UInt8 := [UInt8.ofNat (48 + (n / 10).toNat), UInt8.ofNat (48 + (n % 10).toNat)]
def txtL (l : Lab) : List UInt8 := two2 l.h ++ [58] ++ two2 l.m ++ [58] ++ two2 l.s ++ [if l.d then 59 else 58] ++ two2 l.f
def dv (a b : UInt8) : Option Int := if isD a = true ∧ isD b = true then some (10 * ((a.toNat : Int) - 48) + ((b.toNat : Int) - 48)) else none
/-- The label with a text, if its form is right. -/
def labW : List UInt8 → Option Lab
  | [a, b, x, c, d, y, e, f, z, g, h] =>
    if x = 58 ∧ y = 58 ∧ (z = 58 ∨ z = 59) then
      match dv a b, dv c d, dv e f, dv g h with
      | some p, some q, some r, some t => some ⟨p, q, r, t, decide (z = 59)⟩
      | _, _, _, _ => none
    else none
  | _ => none
/-- The label that a text of a label is read as: nothing if any error. -/
def labR (w : List UInt8) : Option Lab := (labW w).bind fun l => if chkL l = 0 then some l else none
theorem dv_two {n : Int} (h1 : 0 ≤ n) (h2 : n < 100) : ∃ a b, two2 n = [a, b] ∧ dv a b = some n := by
  have k1 : (n / 10).toNat < 10 := by omega
  have k2 : (n % 10).toNat < 10 := by omega
  refine ⟨_, _, rfl, ?_⟩
  have e1 := dig_byte k1
  have e2 := dig_byte k2
  unfold dv
  rw [if_pos ⟨by simp only [isD, e1]; simp; omega, by simp only [isD, e2]; simp; omega⟩, e1, e2]
  congr 1
  omega
theorem chkL_zero {l : Lab} (h : chkL l = 0) : 0 ≤ l.h ∧ l.h ≤ 23 ∧ 0 ≤ l.m ∧ l.m ≤ 59 ∧ 0 ≤ l.s ∧ l.s ≤ 59 ∧ 0 ≤ l.f ∧ l.f < 30 := by
  unfold chkL at h
  split at h
  · omega
  · omega
theorem labR_txt {l : Lab} (h : chkL l = 0) : labR (txtL l) = some l := by
  obtain ⟨h1, h2, h3, h4, h5, h6, h7, h8⟩ := chkL_zero h
  obtain ⟨a, b, e1, d1⟩ := dv_two h1 (by omega : l.h < 100)
  obtain ⟨c, d, e2, d2⟩ := dv_two h3 (by omega : l.m < 100)
  obtain ⟨e, f, e3, d3⟩ := dv_two h5 (by omega : l.s < 100)
  obtain ⟨g, k, e4, d4⟩ := dv_two h7 (by omega : l.f < 100)
  have e5 : txtL l = [a, b, 58, c, d, 58, e, f, if l.d then 59 else 58, g, k] := by simp [txtL, e1, e2, e3, e4]
  rw [labR, e5]
  simp only [labW, d1, d2, d3, d4]
  obtain ⟨hh, mm, ss, ff, dd⟩ := l
  cases dd <;> simp_all
theorem frmV_range {l : Lab} (h : chkL l = 0) : 0 ≤ frmV l ∧ frmV l < dayV l.d := by
  obtain ⟨h1, h2, h3, h4, h5, h6, h7, h8⟩ := chkL_zero h
  unfold chkL at h
  rw [if_neg (by omega)] at h
  unfold frmV dayV drp at *
  cases hd : l.d
  · rw [hd] at h
    simp at h ⊢
    omega
  · rw [hd] at h
    simp at h ⊢
    omega
end Go.Proofs.YtbliilemjkjimaaDoor
