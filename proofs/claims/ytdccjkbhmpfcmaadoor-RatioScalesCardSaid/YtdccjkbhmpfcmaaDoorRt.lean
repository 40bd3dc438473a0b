/-
  The texts of ratios, and back: in plain words. Without conditions.
-/
import Derived.Test.YtdccjkbhmpfcmaaDoorRs
import Derived.Test.YtdccjkbhmpfcmaaDoorNm
namespace Go.Proofs.YtdccjkbhmpfcmaaDoor
set_option linter.unusedVariables false
set_option linter.unusedSimpArgs false
def textL (n d : Int) : List UInt8 := if validV n d then Lib.itoa n ++ 47 :: Lib.itoa d else []
def parseRV (s : List UInt8) : (Int × Int) × Int :=
  if s ≠ [] ∧ textL (numI (cutC 47 s).1) (numI (cutC 47 s).2) = s then ((numI (cutC 47 s).1, numI (cutC 47 s).2), 0) else ((0, 0), 4)
theorem textL_valid {n d : Int} (h : validV n d = true) : textL n d = Lib.itoa n ++ 47 :: Lib.itoa d := by simp [textL, h]
theorem textL_bad {n d : Int} (h : validV n d = false) : textL n d = [] := by simp [textL, h]
theorem textL_ne {n d : Int} (h : textL n d ≠ []) : validV n d = true := by
  cases hv : validV n d with
  | true => rfl
  | false => exact absurd (textL_bad hv) h
theorem textL_cut {n d : Int} (h : validV n d = true) : cutC 47 (textL n d) = (Lib.itoa n, Lib.itoa d) := by
  rw [textL_valid h]
  exact cutC_cut (itoa_no (by decide) (by decide))
theorem parse_hit {n d : Int} {s : List UInt8} (h : textL n d = s) (hs : s ≠ []) : parseRV s = ((n, d), 0) := by
  subst h
  have hv := textL_ne hs
  have hc := textL_cut hv
  unfold parseRV
  simp only [hc, numI_itoa]
  rw [if_pos ⟨hs, trivial⟩]
theorem parse_miss {s : List UInt8} (h : ∀ n d, textL n d = s → s = []) : parseRV s = ((0, 0), 4) := by
  unfold parseRV
  rw [if_neg]
  rintro ⟨h1, h2⟩
  exact h1 (h _ _ h2)
/-- The reference's Number. -/
def unsg : List UInt8 → Bool × List UInt8
  | 45 :: r => (true, r)
  | l => (false, l)
def numRV (l : List UInt8) : Int × Bool :=
  if (unsg l).2.length = 0 ∨ 12 < (unsg l).2.length then (0, false)
  else match digs 0 (unsg l).2 with
    | none => (0, false)
    | some m => ((if (unsg l).1 then -m else m), decide (Lib.itoa (if (unsg l).1 then -m else m) = l))
theorem numRV_itoa {n : Int} (h1 : -2147483648 ≤ n) (h2 : n ≤ 2147483648) : numRV (Lib.itoa n) = (n, true) := by
  have hu : unsg (Lib.itoa n) = (decide (n < 0), Lib.decDigits n.natAbs) := by
    rw [Lib.itoa]
    split
    · rename_i h; simp [unsg, h]
    · rename_i h
      have hd := dec_head45 n.toNat
      rw [show n.natAbs = n.toNat by omega]
      generalize Lib.decDigits n.toNat = l at *
      rw [unsg.eq_def]
      split
      · rename_i r; exact absurd rfl (hd r)
      · simp; omega
  have hl := Lib.decDigits_length n.natAbs
  have hl2 := nD_le 9 n.natAbs (by omega)
  have hl3 := Lib.nDigits_pos n.natAbs
  rw [numRV, hu]
  simp only [digs_dec]
  rw [if_neg (by omega)]
  have e : (if decide (n < 0) = true then -(n.natAbs : Int) else (n.natAbs : Int)) = n := by
    by_cases h : n < 0
    · simp [h]; omega
    · simp [h]; omega
  rw [e]
  simp
end Go.Proofs.YtdccjkbhmpfcmaaDoor
