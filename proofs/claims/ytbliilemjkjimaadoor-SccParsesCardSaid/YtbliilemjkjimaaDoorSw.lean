/-
  The reading of a line, exit by exit: in plain words.
-/
import Derived.Test.YtbliilemjkjimaaDoorSv
namespace Go.Proofs.YtbliilemjkjimaaDoor
set_option linter.unusedVariables false
set_option linter.unusedSimpArgs false
def tailV (r : Rd) (l : Lab) (p : List Pr) : Except (Int × Int) Rd :=
  let first := if r.begun = true then r.first else frmV l
  let gap := frmV l - first - r.ps.length
  if gap < 0 then .error (1, 8)
  else if 200000 < r.ps.length + gap + p.length then .error (1, 9)
  else .ok ⟨true, l.d, first, r.ps ++ nuls gap.toNat ++ p⟩
theorem lineV_short {r : Rd} {s : List UInt8} (h : s.length < 11) : lineV r s = .error (1, 4) := by rw [lineV, if_pos h]
theorem lineV_lab {r : Rd} {s : List UInt8} (h : ¬ s.length < 11) (h2 : labR (s.take 11) = none) : lineV r s = .error (1, 4) := by rw [lineV, if_neg h, h2]
theorem lineV_type {r : Rd} {s : List UInt8} {l : Lab} (h : ¬ s.length < 11) (h2 : labR (s.take 11) = some l) (h3 : r.begun = true ∧ l.d ≠ r.drop) : lineV r s = .error (1, 3) := by
  rw [lineV, if_neg h, h2]
  simp only []
  rw [if_pos h3]
theorem lineV_pair {r : Rd} {s : List UInt8} {l : Lab} {k : Nat} (h : ¬ s.length < 11) (h2 : labR (s.take 11) = some l) (h3 : ¬ (r.begun = true ∧ l.d ≠ r.drop)) (h4 : prV (s.drop 11) = .error k) : lineV r s = .error (12 + k, 4) := by
  rw [lineV, if_neg h, h2]
  simp only []
  rw [if_neg h3, h4]
theorem lineV_tail {r : Rd} {s : List UInt8} {l : Lab} {p : List Pr} (h : ¬ s.length < 11) (h2 : labR (s.take 11) = some l) (h3 : ¬ (r.begun = true ∧ l.d ≠ r.drop)) (h4 : prV (s.drop 11) = .ok p) : lineV r s = tailV r l p := by
  rw [lineV, if_neg h, h2]
  simp only []
  rw [if_neg h3, h4]
  rfl
def prH : List UInt8 → Option Pr
  | x :: a :: b :: c :: d :: _ => if x = 32 then (match bv a b, bv c d with | some u, some v => some (u, v) | _, _ => none) else none
  | _ => none
theorem prL_yes {l : List UInt8} {p : Pr} (i : Nat) (h : prH l = some p) : prL i l = (prL (i + 5) (l.drop 5)).map (p :: ·) ∧ 5 ≤ l.length := by
  match l, h with
  | x :: a :: b :: c :: d :: r, h =>
    simp only [prH] at h
    split at h
    · rename_i hx
      split at h
      · rename_i u v h1 h2
        cases h
        refine ⟨?_, by simp⟩
        rw [prL, if_pos hx, h1, h2]
        rfl
      · cases h
    · cases h
theorem prL_no {l : List UInt8} (i : Nat) (h : prH l = none) (hne : l ≠ []) : prL i l = .error i := by
  match l, h, hne with
  | [], _, hne => exact absurd rfl hne
  | [_], _, _ => rfl
  | [_, _], _, _ => rfl
  | [_, _, _], _, _ => rfl
  | [_, _, _, _], _, _ => rfl
  | x :: a :: b :: c :: d :: r, h, _ =>
    simp only [prH] at h
    rw [prL]
    split
    · rename_i hx
      rw [if_pos hx] at h
      split
      · rename_i u v h1 h2
        rw [h1, h2] at h
        cases h
      · rfl
    · rfl
def Coll (L0 : List UInt8) (j : Nat) (Q : List Pr) : Prop := prL 0 L0 = (prL (5 * j) (L0.drop (5 * j))).map (Q ++ ·) ∧ Q.length = j ∧ 5 * j ≤ L0.length
theorem Coll.start (L0 : List UInt8) : Coll L0 0 [] := by
  refine ⟨?_, rfl, by omega⟩
  show prL 0 L0 = (prL 0 L0).map _
  cases prL 0 L0 <;> rfl
theorem Coll.step {L0 : List UInt8} {j : Nat} {Q : List Pr} {p : Pr} (h : Coll L0 j Q) (hp : prH (L0.drop (5 * j)) = some p) : Coll L0 (j + 1) (Q ++ [p]) := by
  obtain ⟨h1, h2, h3⟩ := h
  obtain ⟨e, hl⟩ := prL_yes (5 * j) hp
  refine ⟨?_, by simp [h2], by simp at hl; omega⟩
  rw [h1, e, List.drop_drop, show 5 * j + 5 = 5 * (j + 1) from by omega]
  cases prL (5 * (j + 1)) (L0.drop (5 * (j + 1))) <;> simp [Except.map]
theorem Coll.done {L0 : List UInt8} {j : Nat} {Q : List Pr} (h : Coll L0 j Q) (hj : 1 ≤ j) (hl : L0.length ≤ 5 * j) : prV L0 = .ok Q := by
  obtain ⟨h1, h2, h3⟩ := h
  rw [List.drop_of_length_le hl] at h1
  rw [prV, if_neg (fun e => by rw [e] at h3; simp at h3; omega), h1]
  simp [prL, Except.map]
theorem Coll.fail {L0 : List UInt8} {j : Nat} {Q : List Pr} (h : Coll L0 j Q) (hp : prH (L0.drop (5 * j)) = none) (hj : 5 * j < L0.length ∨ j = 0) : prV L0 = .error (5 * j) := by
  obtain ⟨h1, h2, h3⟩ := h
  by_cases he : L0 = []
  · have : j = 0 := by rw [he] at h3; simp at h3; omega
    rw [prV, if_pos he, this]
  · rw [prV, if_neg he, h1, prL_no _ hp (fun e => by
      have := congrArg List.length e
      simp at this
      rcases hj with h | h
      · omega
      · subst h
        simp at this
        exact he this)]
    rfl
end Go.Proofs.YtbliilemjkjimaaDoor
