/-
  awake returns true, and the plain arithmetic of the aim. Without conditions.
-/
import Derived.Test.YtbebnbpdemdocaaDoorRow
import Derived.Test.YtbebnbpdemdocaaDoorEvt
namespace Go.Proofs.YtbebnbpdemdocaaDoor
open Go.RowKit
set_option linter.unusedVariables false
theorem pchk_in {cs : List Int} (h : pchk cs = 0) : ∀ c ∈ cs, 0 ≤ c ∧ c ≤ 1000000 := by
  unfold pchk at h
  split at h
  · rename_i hall
    intro c hc
    have := List.all_eq_true.1 hall c hc
    simpa [inR] using this
  · omega
theorem std_in : ∀ c ∈ ([4000, 1200, 600, 300, 100, 0, 20, 50, 500, 40, 100, 300] : List Int), 0 ≤ c ∧ c ≤ 1000000 := by decide
theorem std_ok : pchk [4000, 1200, 600, 300, 100, 0, 20, 50, 500, 40, 100, 300] = 0 := by decide
theorem awake_any (w : World) : Calls Tryd.prog 5 #[] w fun e w' => e = .returned (.bool true) ∧ Below w.heap.size w w' := by
  go_enter Tryd.func5, Tryd.ntmps5
  go_wp2_with fail
  refine (standard_any _).mono ?_
  rintro e w1 ⟨rfl, hb1⟩
  go_wp2_with fail
  generalize hw2 : w1.alloc _ = w2
  have hs2 : w1.heap.size < w2.heap.size := by subst hw2; simp
  have hb2 : Below w.heap.size w w2 := by subst hw2; exact hb1.alloc hb1.size _
  have hc2 : CellsAt w2 w1.heap.size 0 [.int .i64 4000, .int .i64 1200, .int .i64 600, .int .i64 300, .int .i64 100, .int .i64 0, .int .i64 20, .int .i64 50, .int .i64 500, .int .i64 40, .int .i64 100, .int .i64 300] := by
    subst hw2; simp [CellsAt, go_sem]
  clear hw2
  refine (aim_yes 33 32 _ (by decide) (by decide) (by decide) (by decide)).mono ?_
  rintro e w' ⟨rfl, rfl⟩
  rw [show aimV 33 32 = 17 by decide]
  go_wp2_with fail
  refine (aim_yes 70 32 _ (by decide) (by decide) (by decide) (by decide)).mono ?_
  rintro e w' ⟨rfl, rfl⟩
  rw [show aimV 70 32 = 24 by decide]
  have hc2' := hc2
  simp only [CellsAt, Nat.zero_add, Nat.reduceAdd, and_true] at hc2'
  obtain ⟨q0, q1, q2, q3, q4, q5, q6, q7, q8, q9, q10, q11⟩ := hc2'
  go_wp2_with fail
  refine (row_yesp _ _ _ _ _ _ _ _ _ _ _ _ 17 15 3 (by decide) _ std_ok (by decide) (by decide) (by decide) (by decide) std_in).mono ?_
  rintro e w3 ⟨he, hb3⟩
  have he : e = .returned (.tuple #[.int .i64 390, .int .i64 0]) := he
  subst he
  clear q0 q1 q2 q3 q4 q5 q6 q7 q8 q9 q10 q11
  have hc3 := hc2.below hb3 hs2
  have hs3 : w1.heap.size < w3.heap.size := Nat.lt_of_lt_of_le hs2 hb3.size
  have hbw3 : Below w.heap.size w w3 := hb2.trans (hb3.mono hb2.size)
  clear hc2 hb3 hs2 hb2
  have hc2' := hc3
  simp only [CellsAt, Nat.zero_add, Nat.reduceAdd, and_true] at hc2'
  obtain ⟨q0, q1, q2, q3, q4, q5, q6, q7, q8, q9, q10, q11⟩ := hc2'
  go_wp2_with fail
  refine (row_yesn _ _ _ _ _ _ _ _ _ _ _ _ 17 15 (-1) (by decide) (by decide) _ std_ok (by decide) (by decide) (by decide) (by decide) std_in).mono ?_
  rintro e w4 ⟨he, hb4⟩
  have he : e = .returned (.tuple #[.int .i64 90, .int .i64 0]) := he
  subst he
  clear q0 q1 q2 q3 q4 q5 q6 q7 q8 q9 q10 q11
  have hc4 := hc3.below hb4 hs3
  have hs4 : w1.heap.size < w4.heap.size := Nat.lt_of_lt_of_le hs3 hb4.size
  have hbw4 : Below w.heap.size w w4 := hbw3.trans (hb4.mono hbw3.size)
  clear hc3 hb4 hs3 hbw3
  have hc2' := hc4
  simp only [CellsAt, Nat.zero_add, Nat.reduceAdd, and_true] at hc2'
  obtain ⟨q0, q1, q2, q3, q4, q5, q6, q7, q8, q9, q10, q11⟩ := hc2'
  go_wp2_with fail
  refine (event_yes_false _ _ _ _ _ _ _ _ _ _ _ _ 3 0 1 5 (by decide) _ std_ok (by decide) (by decide) (by decide) std_in).mono ?_
  rintro e w5 ⟨he, hb5⟩
  have he : e = .returned (.tuple #[.int .i64 920, .int .i64 0]) := he
  subst he
  clear q0 q1 q2 q3 q4 q5 q6 q7 q8 q9 q10 q11
  have hbw5 : Below w.heap.size w w5 := hbw4.trans (hb5.mono hbw4.size)
  go_wp2_with fail
  go_ret
  exact ⟨rfl, hbw5⟩
/-! the laws that take numbers alone -/
theorem aim_facts {t w : Int} (h1 : 1 ≤ t) (h2 : t ≤ 10000) (h3 : 1 ≤ w) (h4 : w ≤ 32) :
    1 ≤ aimV t w ∧ aimV t w ≤ w ∧ t ≤ aimV t w * ((t + w - 1) / w) ∧ (aimV t w - 1) * ((t + w - 1) / w) < t := by
  have hn := up_bd h1 h2 h3
  have e1 := Int.mul_ediv_add_emod (t + w - 1) w
  have e2 := Int.emod_nonneg (t + w - 1) (show w ≠ 0 by omega)
  have e3 := Int.emod_lt_of_pos (t + w - 1) (show 0 < w by omega)
  unfold aimV
  generalize hN : (t + w - 1) / w = n at *
  have f1 := Int.mul_ediv_add_emod (t + n - 1) n
  have f2 := Int.emod_nonneg (t + n - 1) (show n ≠ 0 by omega)
  have f3 := Int.emod_lt_of_pos (t + n - 1) (show 0 < n by omega)
  generalize hA : (t + n - 1) / n = a at *
  have hwn : w * n = n * w := Int.mul_comm _ _
  have hna : n * a = a * n := Int.mul_comm _ _
  have hs : (a - 1) * n = a * n - n := by rw [Int.sub_mul, Int.one_mul]
  refine ⟨?_, ?_, by omega, by omega⟩
  · have : 0 < a * n := by omega
    have := Int.pos_of_mul_pos_right (a := n) (b := a) (by omega) (by omega)
    omega
  · -- a ≤ w
    have h5 : (a - 1) * n < w * n := by omega
    have := Int.lt_of_mul_lt_mul_right h5 (by omega)
    omega
end Go.Proofs.YtbebnbpdemdocaaDoor
