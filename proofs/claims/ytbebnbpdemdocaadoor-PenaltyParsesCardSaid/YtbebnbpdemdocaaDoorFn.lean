/-
  The contracts of the small functions of the penalty tables: within, up, Aim, Standard, in the program and in the reference. Their conditions are their hypotheses.
-/
import Derived.Test.YtbebnbpdemdocaaDoorChk
import Derived.WalkLawsBesides
namespace Go.Proofs.YtbebnbpdemdocaaDoor
open Go.RowKit
set_option linter.unusedVariables false
/-- A table as a value. -/
abbrev tbl (c0 c1 c2 c3 c4 c5 c6 c7 c8 c9 c10 c11 : Int) : Value := .agg #[.int .i64 c0, .int .i64 c1, .int .i64 c2, .int .i64 c3, .int .i64 c4, .int .i64 c5, .int .i64 c6, .int .i64 c7, .int .i64 c8, .int .i64 c9, .int .i64 c10, .int .i64 c11]
def wi (n lo hi : Int) : Bool := decide (lo ≤ n) && decide (n ≤ hi)
theorem wi_true {n lo hi : Int} (h1 : lo ≤ n) (h2 : n ≤ hi) : wi n lo hi = true := by simp [wi, h1, h2]
theorem wi_of {n lo hi : Int} (h : wi n lo hi = true) : lo ≤ n ∧ n ≤ hi := by simpa [wi] using h
theorem wi_not {n lo hi : Int} (h : wi n lo hi = false) : n < lo ∨ hi < n := by
  simp [wi] at h; omega
theorem within_any (n lo hi : Int) (w : World) : Calls Tryd.prog 26 #[.int .i64 n, .int .i64 lo, .int .i64 hi] w fun e w' => e = .returned (.bool (wi n lo hi)) ∧ w = w' := by
  by_cases h1 : lo ≤ n
  · by_cases h2 : n ≤ hi
    · rw [wi_true h1 h2]
      go_enter Tryd.func26, Tryd.ntmps26
      go_wp2
      go_ret
      exact ⟨rfl, rfl⟩
    · rw [show wi n lo hi = false by simp [wi, h2]]
      go_enter Tryd.func26, Tryd.ntmps26
      go_wp2
      go_ret
      exact ⟨rfl, rfl⟩
  · rw [show wi n lo hi = false by simp [wi, h1]]
    go_enter Tryd.func26, Tryd.ntmps26
    go_wp2
    go_ret
    exact ⟨rfl, rfl⟩
def aimV (t w : Int) : Int := (t + (t + w - 1) / w - 1) / ((t + w - 1) / w)
def aimOk (t w : Int) : Bool := wi t 1 10000 && wi w 1 32
theorem up_any (a b : Int) (w : World) (ha : 1 ≤ a) (ha' : a ≤ 100000) (hb : 1 ≤ b) (hb' : b ≤ 100000) :
    Calls Tryd.prog 25 #[.int .i64 a, .int .i64 b] w fun e w' => e = .returned (.int .i64 ((a + b - 1) / b)) ∧ w = w' := by
  go_enter Tryd.func25, Tryd.ntmps25
  go_wp2
  go_ret
  exact ⟨rfl, rfl⟩
theorem up_bd {t w : Int} (h1 : 1 ≤ t) (h2 : t ≤ 10000) (h3 : 1 ≤ w) : 1 ≤ (t + w - 1) / w ∧ (t + w - 1) / w ≤ 10000 := by
  constructor
  · have : 1 * w ≤ t + w - 1 := by omega
    exact (Int.le_ediv_iff_mul_le (by omega)).2 this
  · have : (t + w - 1) / w < 10001 := by
      refine (Int.ediv_lt_iff_lt_mul (by omega)).2 ?_
      have : t * 1 ≤ t * w := Int.mul_le_mul_of_nonneg_left h3 (by omega)
      have h5 : 10000 * 1 ≤ 10000 * w := by omega
      omega
    omega
theorem aim_yes (t w : Int) (W : World) (h1 : 1 ≤ t) (h2 : t ≤ 10000) (h3 : 1 ≤ w) (h4 : w ≤ 32) :
    Calls Tryd.prog 12 #[.int .i64 t, .int .i64 w] W fun e w' => e = .returned (.tuple #[.int .i64 (aimV t w), .int .i64 0]) ∧ W = w' := by
  have hu := up_bd h1 h2 h3
  go_enter Tryd.func12, Tryd.ntmps12
  go_wp2_with fail
  refine (up_any t w _ h1 (by omega) h3 (by omega)).mono ?_
  rintro e w' ⟨rfl, rfl⟩
  generalize hn : (t + w - 1) / w = n at *
  have HN := Lib.hid hn
  clear hn
  go_wp2_with fail
  refine (up_any t n _ h1 (by omega) hu.1 (by omega)).mono ?_
  rintro e w' ⟨rfl, rfl⟩
  go_wp2_with fail
  go_ret2
  exact ⟨by rw [aimV, HN.out]; rfl, rfl⟩
theorem aim_no (t w : Int) (W : World) (h : t < 1 ∨ 10000 < t ∨ w < 1 ∨ 32 < w) :
    Calls Tryd.prog 12 #[.int .i64 t, .int .i64 w] W fun e w' => e = .returned (.tuple #[.int .i64 0, .int .i64 2]) ∧ W = w' := by
  rcases Classical.em (t < 1) with h1 | h1
  · go_enter Tryd.func12, Tryd.ntmps12
    go_wp2
    go_ret2
    exact ⟨rfl, rfl⟩
  · rcases Classical.em (10000 < t) with h2 | h2
    · go_enter Tryd.func12, Tryd.ntmps12
      go_wp2
      go_ret2
      exact ⟨rfl, rfl⟩
    · rcases Classical.em (w < 1) with h3 | h3
      · go_enter Tryd.func12, Tryd.ntmps12
        go_wp2
        go_ret2
        exact ⟨rfl, rfl⟩
      · have h4 : 32 < w := by omega
        go_enter Tryd.func12, Tryd.ntmps12
        go_wp2
        go_ret2
        exact ⟨rfl, rfl⟩
theorem standard_any (w : World) : Calls Tryd.prog 11 #[] w fun e w' => e = .returned (tbl 4000 1200 600 300 100 0 20 50 500 40 100 300) ∧ Below w.heap.size w w' := by
  go_enter Tryd.func11, Tryd.ntmps11
  go_wp2
  go_returns
  exact ⟨rfl, (Below.refl _ _).alloc (Nat.le_refl _) _⟩
end Go.Proofs.YtbebnbpdemdocaaDoor
