/-
  The law Checks returns true for all numbers. Without conditions.
-/
import Derived.Test.YtbebnbpdemdocaaDoorAwk
namespace Go.Proofs.YtbebnbpdemdocaaDoor
open Go.RowKit
set_option linter.unusedVariables false
set_option linter.unusedSimpArgs false
set_option maxHeartbeats 400000 in
theorem equal_same (c0 c1 c2 c3 c4 c5 c6 c7 c8 c9 c10 c11 : Int) (w : World) : Calls Tryd.prog 9 #[.agg #[.int .i64 c0, .int .i64 c1, .int .i64 c2, .int .i64 c3, .int .i64 c4, .int .i64 c5, .int .i64 c6, .int .i64 c7, .int .i64 c8, .int .i64 c9, .int .i64 c10, .int .i64 c11], .agg #[.int .i64 c0, .int .i64 c1, .int .i64 c2, .int .i64 c3, .int .i64 c4, .int .i64 c5, .int .i64 c6, .int .i64 c7, .int .i64 c8, .int .i64 c9, .int .i64 c10, .int .i64 c11]] w fun e w' => e = .returned (.bool true) ∧ Below w.heap.size w w' := by
  obtain ⟨cs, hcs⟩ : ∃ cs : List Int, cs = [c0, c1, c2, c3, c4, c5, c6, c7, c8, c9, c10, c11] := ⟨_, rfl⟩
  have HCS := Lib.hid hcs
  have hlen : 12 ≤ cs.length := by rw [hcs]; simp
  clear hcs
  go_enter Tryd.func9, Tryd.ntmps9
  go_wp2_with fail
  generalize hw1 : (w.alloc (.cells #[.int .i64 c0, .int .i64 c1, .int .i64 c2, .int .i64 c3, .int .i64 c4, .int .i64 c5, .int .i64 c6, .int .i64 c7, .int .i64 c8, .int .i64 c9, .int .i64 c10, .int .i64 c11] 24)).alloc (.cells #[.int .i64 c0, .int .i64 c1, .int .i64 c2, .int .i64 c3, .int .i64 c4, .int .i64 c5, .int .i64 c6, .int .i64 c7, .int .i64 c8, .int .i64 c9, .int .i64 c10, .int .i64 c11] 24) = w1
  have h1 : CellsAt w1 w.heap.size 0 [.int .i64 c0, .int .i64 c1, .int .i64 c2, .int .i64 c3, .int .i64 c4, .int .i64 c5, .int .i64 c6, .int .i64 c7, .int .i64 c8, .int .i64 c9, .int .i64 c10, .int .i64 c11] := by subst hw1; simp [CellsAt, go_sem]
  have h2 : CellsAt w1 (w.heap.size + 1) 0 [.int .i64 c0, .int .i64 c1, .int .i64 c2, .int .i64 c3, .int .i64 c4, .int .i64 c5, .int .i64 c6, .int .i64 c7, .int .i64 c8, .int .i64 c9, .int .i64 c10, .int .i64 c11] := by subst hw1; simp [CellsAt, go_sem]
  have hb : Below w.heap.size w w1 := by subst hw1; exact ((Below.refl _ _).alloc (Nat.le_refl _) _).alloc (by simp) _
  clear hw1
  have H1 := Lib.hid (fun (k : Nat) (hk : k < 12) => ints_cells (w' := w1) (g := w.heap.size) (cs := cs) (by rw [HCS.out]; exact h1) k (by omega))
  have H2 := Lib.hid (fun (k : Nat) (hk : k < 12) => ints_cells (w' := w1) (g := w.heap.size + 1) (cs := cs) (by rw [HCS.out]; exact h2) k (by omega))
  have HC1 := Lib.hid h1
  have HC2 := Lib.hid h2
  clear h1 h2
  go_loopw [6] (fun i wr => ∃ (m n : Nat), m ≤ 6 ∧ i = .int .i64 (m : Int) ∧ wr = w1.drewN n) (fun i _ => 6 - (intOf i).toNat)
  case atStart => exact ⟨0, 0, by omega, rfl, rfl⟩
  case round =>
    obtain ⟨m, n, hm, rfl, rfl⟩ := hrel
    have hbr : Below w.heap.size w (w1.drewN n) := below_drewN hb n
    by_cases hlt : m < 6
    · have hx := H1.out m (by omega)
      have hy := H2.out m (by omega)
      generalize cs.getD m 0 = x at *
      have hxx : (x != x) = false := by simp
      go_wp2_with fail
      have e3 : (m : Int) < 6 := by omega
      have e4 : (0 : Int) ≤ (m : Int) := by omega
      go_quiet (fail)
      go_wp2
      exact ⟨⟨m + 1, n + nq, by omega, by rw [Int.natCast_add]; rfl, rfl⟩, by simp [intOf]; omega⟩
    · have hq := HC1.out
      have hr := HC2.out
      simp only [CellsAt, Nat.zero_add, Nat.reduceAdd, and_true] at hq hr
      obtain ⟨q0, q1, q2, q3, q4, q5, q6, q7, q8, q9, q10, q11⟩ := hq
      obtain ⟨r0, r1, r2, r3, r4, r5, r6, r7, r8, r9, r10, r11⟩ := hr
      go_wp2_with fail
      go_ret
      exact ⟨rfl, hbr⟩
def PhiC (c0 c1 c2 c3 c4 c5 c6 c7 c8 c9 c10 c11 x : Int) : Nat → Value → World → Prop
  | 5, v, _ | 7, v, _ => v = .agg #[.int .i64 c0, .int .i64 c1, .int .i64 c2, .int .i64 c3, .int .i64 c4, .int .i64 c5, .int .i64 c6, .int .i64 c7, .int .i64 c8, .int .i64 c9, .int .i64 c10, .int .i64 c11]
  | 6, v, _ | 8, v, _ => v = .int .i64 x
  | 12, v, _ | 13, v, _ | 17, v, _ => v = (tbl 4000 1200 600 300 100 0 20 50 500 40 100 300)
  | 18, v, _ => v = .int .i64 0
  | 2, v, _ | 3, v, _ | 4, v, _ | 9, v, _ | 10, v, _ | 11, v, _ | 14, v, _ | 15, v, _ | 16, v, _ | 19, v, _ | 20, v, _ => v = .bool true
  | _, _, _ => True
theorem PhiC.all {c0 c1 c2 c3 c4 c5 c6 c7 c8 c9 c10 c11 x : Int} {w w' : World} : ∀ s u, PhiC c0 c1 c2 c3 c4 c5 c6 c7 c8 c9 c10 c11 x s u w → PhiC c0 c1 c2 c3 c4 c5 c6 c7 c8 c9 c10 c11 x s u w' := by
  intro s u h
  unfold PhiC at h ⊢
  split at h <;> exact h
end Go.Proofs.YtbebnbpdemdocaaDoor
