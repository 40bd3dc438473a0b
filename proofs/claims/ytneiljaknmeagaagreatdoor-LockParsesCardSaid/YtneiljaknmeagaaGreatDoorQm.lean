/-
  The contract of take in the program, whatever the line. Its conditions are its hypotheses.
-/
import Derived.Test.YtneiljaknmeagaaGreatDoorQl
namespace Go.Proofs.YtneiljaknmeagaaGreatDoor
open Go.RowKit Go.Joins
set_option linter.unusedVariables false
set_option linter.unusedSimpArgs false
set_option maxRecDepth 100000 in
set_option maxHeartbeats 8000000 in
theorem take_no (B p : Nat) (sv lv : Value) (T : Tb) (i : Nat) (g n : Nat) (w0 : List UInt8) (w : World) (h : Rep B p sv lv T w) (e0 : w.cell? ⟨g, 0, none⟩ = some (.string (sB w0))) (hn0 : 0 < n)
    (hA : ¬ (i = 0 ∧ w0 = locksW ∧ n = 4)) (hB : ¬ (0 < i ∧ w0 = sessionW ∧ n = 2 ∧ T.lea.length = 0)) (hC : ¬ (0 < i ∧ w0 = leaW ∧ n = 5)) :
    Calls Tryz.prog 25 #[.pointer (some ⟨p, 0, none⟩), .int .i64 i, .slice (some ⟨g, 0, none⟩) n n] w fun e w' => e = .returned (.bool false) ∧ w' = w := by
  have hgw : g < w.heap.size := World.block_lt_of_cell? w _ e0
  have q := h.block.cell
  have hpw := h.lt
  obtain ⟨LA, lc, rfl, hlr, hlc, hlm, hfl⟩ := row_of_ownK h.2.2.2
  have f1 := word_eq w0 [76, 79, 67, 75, 83]
  have f2 := word_eq w0 [83, 69, 83, 83, 73, 79, 78]
  have f3 := word_eq w0 [76, 69, 65, 83, 69]
  have hn1 : (0 : Int) < (n : Int) := by omega
  clear hlr hfl hlm h
  by_cases hi : i = 0
  · subst hi
    by_cases c1 : w0 = locksW
    · have t1 : ((sB w0).toList == [76, 79, 67, 75, 83]) = true := f1.trans (decide_eq_true c1)
      have t4 : ((n : Int) == 4) = false := by rw [beq_eq_false_iff_ne]; intro e; exact hA ⟨rfl, c1, by omega⟩
      clear hA hB hC c1 f1 f2 f3
      go_enter Tryz.func25, Tryz.ntmps25
      go_wp2_with fail
      go_ret
      exact ⟨rfl, rfl⟩
    · have t1 : ((sB w0).toList == [76, 79, 67, 75, 83]) = false := f1.trans (decide_eq_false c1)
      clear hA hB hC c1 f1 f2 f3
      go_enter Tryz.func25, Tryz.ntmps25
      go_wp2_with fail
      go_ret
      exact ⟨rfl, rfl⟩
  · have t0 : ((i : Int) == 0) = false := by rw [beq_eq_false_iff_ne]; omega
    have t9 : (0 : Int) < (i : Int) := by omega
    by_cases c2 : w0 = sessionW
    · have t2 : ((sB w0).toList == [83, 69, 83, 83, 73, 79, 78]) = true := f2.trans (decide_eq_true c2)
      have t3 : ((sB w0).toList == [76, 69, 65, 83, 69]) = false := f3.trans (decide_eq_false (by rw [c2]; decide))
      by_cases c4 : n = 2
      · have t4 : ((n : Int) == 2) = true := by rw [c4]; rfl
        have t5 : ((T.lea.length : Int) == 0) = false := by rw [beq_eq_false_iff_ne]; intro e; exact hB ⟨by omega, c2, c4, by omega⟩
        clear hA hB hC c2 c4 f1 f2 f3
        go_enter Tryz.func25, Tryz.ntmps25
        go_wp2_with fail
        go_ret
        exact ⟨rfl, rfl⟩
      · have t4 : ((n : Int) == 2) = false := by rw [beq_eq_false_iff_ne]; omega
        clear hA hB hC c2 c4 f1 f2 f3
        go_enter Tryz.func25, Tryz.ntmps25
        go_wp2_with fail
        go_ret
        exact ⟨rfl, rfl⟩
    · have t2 : ((sB w0).toList == [83, 69, 83, 83, 73, 79, 78]) = false := f2.trans (decide_eq_false c2)
      by_cases c3 : w0 = leaW
      · have t3 : ((sB w0).toList == [76, 69, 65, 83, 69]) = true := f3.trans (decide_eq_true c3)
        have t4 : ((n : Int) == 5) = false := by rw [beq_eq_false_iff_ne]; intro e; exact hC ⟨by omega, c3, by omega⟩
        clear hA hB hC c2 c3 f1 f2 f3
        go_enter Tryz.func25, Tryz.ntmps25
        go_wp2_with fail
        go_ret
        exact ⟨rfl, rfl⟩
      · have t3 : ((sB w0).toList == [76, 69, 65, 83, 69]) = false := f3.trans (decide_eq_false c3)
        clear hA hB hC c2 c3 f1 f2 f3
        go_enter Tryz.func25, Tryz.ntmps25
        go_wp2_with fail
        go_ret
        exact ⟨rfl, rfl⟩
end Go.Proofs.YtneiljaknmeagaaGreatDoor
