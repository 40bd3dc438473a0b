/-
  The law Checks returns true for all numbers. Without conditions.
-/
import Derived.Test.YtbebnbpdemdocaaAwk
namespace Go.Proofs.Ytbebnbpdemdocaa
open Go.RowKit
set_option linter.unusedVariables false
set_option linter.unusedSimpArgs false
set_option maxHeartbeats 400000 in
theorem equal_same (c0 c1 c2 c3 c4 c5 c6 c7 c8 c9 c10 c11 : Int) (w : World) : Calls Try.prog 11 #[.agg #[.int .i64 c0, .int .i64 c1, .int .i64 c2, .int .i64 c3, .int .i64 c4, .int .i64 c5, .int .i64 c6, .int .i64 c7, .int .i64 c8, .int .i64 c9, .int .i64 c10, .int .i64 c11], .agg #[.int .i64 c0, .int .i64 c1, .int .i64 c2, .int .i64 c3, .int .i64 c4, .int .i64 c5, .int .i64 c6, .int .i64 c7, .int .i64 c8, .int .i64 c9, .int .i64 c10, .int .i64 c11]] w fun e w' => e = .returned (.bool true) ∧ Below w.heap.size w w' := by
  obtain ⟨cs, hcs⟩ : ∃ cs : List Int, cs = [c0, c1, c2, c3, c4, c5, c6, c7, c8, c9, c10, c11] := ⟨_, rfl⟩
  have HCS := Lib.hid hcs
  have hlen : 12 ≤ cs.length := by rw [hcs]; simp
  clear hcs
  go_enter Try.func11, Try.ntmps11
  go_wp2_with fail
  generalize hw1 : (w.alloc (.cells #[.int .i64 c0, .int .i64 c1, .int .i64 c2, .int .i64 c3, .int .i64 c4, .int .i64 c5, .int .i64 c6, .int .i64 c7, .int .i64 c8, .int .i64 c9, .int .i64 c10, .int .i64 c11] 24)).alloc (.cells #[.int .i64 c0, .int .i64 c1, .int .i64 c2, .int .i64 c3, .int .i64 c4, .int .i64 c5, .int .i64 c6, .int .i64 c7, .int .i64 c8, .int .i64 c9, .int .i64 c10, .int .i64 c11] 24) = w1
  have h1 : CellsAt w1 w.heap.size 0 [.int .i64 c0, .int .i64 c1, .int .i64 c2, .int .i64 c3, .int .i64 c4, .int .i64 c5, .int .i64 c6, .int .i64 c7, .int .i64 c8, .int .i64 c9, .int .i64 c10, .int .i64 c11] := by subst hw1; simp [CellsAt, go_sem]
  have h2 : CellsAt w1 (w.heap.size + 1) 0 [.int .i64 c0, .int .i64 c1, .int .i64 c2, .int .i64 c3, .int .i64 c4, .int .i64 c5, .int .i64 c6, .int .i64 c7, .int .i64 c8, .int .i64 c9, .int .i64 c10, .int .i64 c11] := by subst hw1; simp [CellsAt, go_sem]
  have hb : Below w.heap.size w w1 := by subst hw1; exact ((Below.refl _ _).alloc (Nat.le_refl _) _).alloc (by simp) _
  clear hw1
  have H1 := Lib.hid (fun (k : Nat) (hk : k < 12) => ints_cells (w' := w1) (g := w.heap.size) (cs := cs) (by rw [HCS.out]; exact h1) k (by omega))
  have H2 := Lib.hid (fun (k : Nat) (hk : k < 12) => ints_cells (w' := w1) (g := w.heap.size + 1) (cs := cs) (by rw [HCS.out]; exact h2) k (by omega))
  have HC1 := Lib.hid h1
  have HC2 := Lib.hid h2
  clear h1 h2
  go_loopw [6] (fun i wr => ∃ (m n : Nat), m ≤ 6 ∧ i = .int .i64 (m : Int) ∧ wr = w1.drewN n) (fun i _ => 6 - (intOf i).toNat)
  case atStart => exact ⟨0, 0, by omega, rfl, rfl⟩
  case round =>
    obtain ⟨m, n, hm, rfl, rfl⟩ := hrel
    have hbr : Below w.heap.size w (w1.drewN n) := below_drewN hb n
    by_cases hlt : m < 6
    · have hx := H1.out m (by omega)
      have hy := H2.out m (by omega)
      generalize cs.getD m 0 = x at *
      have hxx : (x != x) = false := by simp
      go_wp2_with fail
      have e3 : (m : Int) < 6 := by omega
      have e4 : (0 : Int) ≤ (m : Int) := by omega
      go_quiet (fail)
      go_wp2
      exact ⟨⟨m + 1, n + nq, by omega, by rw [Int.natCast_add]; rfl, rfl⟩, by simp [intOf]; omega⟩
    · have hq := HC1.out
      have hr := HC2.out
      simp only [CellsAt, Nat.zero_add, Nat.reduceAdd, and_true] at hq hr
      obtain ⟨q0, q1, q2, q3, q4, q5, q6, q7, q8, q9, q10, q11⟩ := hq
      obtain ⟨r0, r1, r2, r3, r4, r5, r6, r7, r8, r9, r10, r11⟩ := hr
      go_wp2_with fail
      go_ret
      exact ⟨rfl, hbr⟩
def PhiC (c0 c1 c2 c3 c4 c5 c6 c7 c8 c9 c10 c11 x : Int) : Nat → Value → World → Prop
  | 5, v, _ | 7, v, _ => v = .agg #[.int .i64 c0, .int .i64 c1, .int .i64 c2, .int .i64 c3, .int .i64 c4, .int .i64 c5, .int .i64 c6, .int .i64 c7, .int .i64 c8, .int .i64 c9, .int .i64 c10, .int .i64 c11]
  | 6, v, _ | 8, v, _ => v = .int .i64 x
  | 12, v, _ | 13, v, _ | 17, v, _ => v = (tbl 4000 1200 600 300 100 0 20 50 500 40 100 300)
  | 18, v, _ => v = .int .i64 0
  | 2, v, _ | 3, v, _ | 4, v, _ | 9, v, _ | 10, v, _ | 11, v, _ | 14, v, _ | 15, v, _ | 16, v, _ | 19, v, _ | 20, v, _ => v = .bool true
  | _, _, _ => True
theorem PhiC.all {c0 c1 c2 c3 c4 c5 c6 c7 c8 c9 c10 c11 x : Int} {w w' : World} : ∀ s u, PhiC c0 c1 c2 c3 c4 c5 c6 c7 c8 c9 c10 c11 x s u w → PhiC c0 c1 c2 c3 c4 c5 c6 c7 c8 c9 c10 c11 x s u w' := by
  intro s u h
  unfold PhiC at h ⊢
  split at h <;> exact h
theorem runs_call {P : Program} {ρ : Operand → Value} {o : Oper} {w : World} {R : Value → World → Prop} {f : FuncId} {args : Array Value}
    (hr : (execOp ρ o).run P w = .ok (.enter f args) w) (hc : Calls P f args w fun e w' => ∃ v, e = .returned v ∧ R v w') : OpRuns P ρ o w R := by
  unfold OpRuns
  rw [hr]
  exact hc.mono fun e w' ⟨v, he, h⟩ => by subst he; exact h
set_option maxHeartbeats 400000 in
theorem checks_any (c0 c1 c2 c3 c4 c5 c6 c7 c8 c9 c10 c11 : Int) (W : World) : Calls Try.prog 3 #[.agg #[.int .i64 c0, .int .i64 c1, .int .i64 c2, .int .i64 c3, .int .i64 c4, .int .i64 c5, .int .i64 c6, .int .i64 c7, .int .i64 c8, .int .i64 c9, .int .i64 c10, .int .i64 c11]] W fun e w' => e = .returned (.bool true) ∧ Below W.heap.size W w' := by
  obtain ⟨x, hx⟩ : ∃ x, x = pchk [c0, c1, c2, c3, c4, c5, c6, c7, c8, c9, c10, c11] := ⟨_, rfl⟩
  have HX := Lib.hid hx
  clear hx
  go_enter Try.func3, Try.ntmps3
  go_wp2_with fail
  generalize hw1 : W.alloc (.cells #[.int .i64 c0, .int .i64 c1, .int .i64 c2, .int .i64 c3, .int .i64 c4, .int .i64 c5, .int .i64 c6, .int .i64 c7, .int .i64 c8, .int .i64 c9, .int .i64 c10, .int .i64 c11] 24) = w1
  have hcells : CellsAt w1 W.heap.size 0 [.int .i64 c0, .int .i64 c1, .int .i64 c2, .int .i64 c3, .int .i64 c4, .int .i64 c5, .int .i64 c6, .int .i64 c7, .int .i64 c8, .int .i64 c9, .int .i64 c10, .int .i64 c11] := by subst hw1; simp [CellsAt, go_sem]
  have hb1 : Below W.heap.size W w1 := by subst hw1; exact (Below.refl _ _).alloc (Nat.le_refl _) _
  have hsize : w1.heap.size = W.heap.size + 1 := by subst hw1; simp
  clear hw1
  refine wp_region_spec (by kernel_rfl) (fun w' => Below (W.heap.size + 1) w1 w') (PhiC c0 c1 c2 c3 c4 c5 c6 c7 c8 c9 c10 c11 x) 21 rfl (by kernel_rfl) (Below.refl _ _).drew ?hops ?hend
  case hops =>
    refine ⟨?o0, ?o1, ?o2, ?o3, ?o4, ?o5, ?o6, ?o7, ?o8, ?o9, ?o10, ?o11, ?o12, ?o13, ?o14, ?o15, ?o16, ?o17, ?o18, trivial⟩
    case o0 =>
      intro ev w2 hI hdep hfree
      clear hdep hfree
      try dsimp only
      refine runs_call (f := 8) (args := #[]) (by simp [execOp, evalOf, resolve, invoke, go_sem]) ((awake_any w2).mono ?_)
      rintro e w3 ⟨he, hb⟩
      exact ⟨_, he, hI.trans (hb.mono (by have := hI.size; omega)), PhiC.all, fun d hd => by cases hd; exact rfl⟩
    case o1 =>
      intro ev w2 hI hdep hfree
      have a1 : ev 3 = .bool true := hdep 0 3 (by kernel_rfl) (by kernel_rfl)
      clear hdep hfree
      try dsimp only
      simp [OpRuns, execOp, evalOf, a1, go_sem]
      exact ⟨hI, rfl⟩
    case o2 =>
      intro ev w2 hI hdep hfree
      have h1 : ev 1 = .pointer (some ⟨W.heap.size, 0, none⟩) := hfree 1 (by kernel_rfl)
      have hg : ev 4 = .bool true := hdep 1 4 (by kernel_rfl) (by kernel_rfl)
      refine ⟨fun _ => ?_, fun hno => absurd (show yieldedEv _ ev 1 = some true by simp only [yieldedEv, dstOf, hg]; simp [hg]) hno⟩
      clear hdep hfree
      try dsimp only
      have hc2 := hcells.below hI (by omega)
      simp only [CellsAt, Nat.zero_add, Nat.reduceAdd, and_true] at hc2
      obtain ⟨q0, q1, q2, q3, q4, q5, q6, q7, q8, q9, q10, q11⟩ := hc2
      simp [OpRuns, execOp, evalOf, h1, q0, q1, q2, q3, q4, q5, q6, q7, q8, q9, q10, q11, go_sem]
      exact ⟨hI, rfl⟩
    case o3 =>
      intro ev w2 hI hdep hfree
      have a1 : ev 5 = .agg #[.int .i64 c0, .int .i64 c1, .int .i64 c2, .int .i64 c3, .int .i64 c4, .int .i64 c5, .int .i64 c6, .int .i64 c7, .int .i64 c8, .int .i64 c9, .int .i64 c10, .int .i64 c11] := hdep 2 5 (by kernel_rfl) (by kernel_rfl)
      have hg : ev 4 = .bool true := hdep 1 4 (by kernel_rfl) (by kernel_rfl)
      refine ⟨fun _ => ?_, fun hno => absurd (show yieldedEv _ ev 1 = some true by simp only [yieldedEv, dstOf, hg]; simp [hg]) hno⟩
      clear hdep hfree
      try dsimp only
      refine runs_call (f := 9) (args := #[.agg #[.int .i64 c0, .int .i64 c1, .int .i64 c2, .int .i64 c3, .int .i64 c4, .int .i64 c5, .int .i64 c6, .int .i64 c7, .int .i64 c8, .int .i64 c9, .int .i64 c10, .int .i64 c11]]) (by simp [execOp, evalOf, resolve, invoke, a1, go_sem]) ((check_any c0 c1 c2 c3 c4 c5 c6 c7 c8 c9 c10 c11 w2).mono ?_)
      rintro e w3 ⟨he, hb⟩
      exact ⟨_, he, hI.trans (hb.mono (by have := hI.size; omega)), PhiC.all, fun d hd => by cases hd; exact congrArg _ HX.out.symm⟩
    case o4 =>
      intro ev w2 hI hdep hfree
      have h1 : ev 1 = .pointer (some ⟨W.heap.size, 0, none⟩) := hfree 1 (by kernel_rfl)
      have hg : ev 4 = .bool true := hdep 1 4 (by kernel_rfl) (by kernel_rfl)
      refine ⟨fun _ => ?_, fun hno => absurd (show yieldedEv _ ev 1 = some true by simp only [yieldedEv, dstOf, hg]; simp [hg]) hno⟩
      clear hdep hfree
      try dsimp only
      have hc2 := hcells.below hI (by omega)
      simp only [CellsAt, Nat.zero_add, Nat.reduceAdd, and_true] at hc2
      obtain ⟨q0, q1, q2, q3, q4, q5, q6, q7, q8, q9, q10, q11⟩ := hc2
      simp [OpRuns, execOp, evalOf, h1, q0, q1, q2, q3, q4, q5, q6, q7, q8, q9, q10, q11, go_sem]
      exact ⟨hI, rfl⟩
    case o5 =>
      intro ev w2 hI hdep hfree
      have a1 : ev 7 = .agg #[.int .i64 c0, .int .i64 c1, .int .i64 c2, .int .i64 c3, .int .i64 c4, .int .i64 c5, .int .i64 c6, .int .i64 c7, .int .i64 c8, .int .i64 c9, .int .i64 c10, .int .i64 c11] := hdep 4 7 (by kernel_rfl) (by kernel_rfl)
      have hg : ev 4 = .bool true := hdep 1 4 (by kernel_rfl) (by kernel_rfl)
      refine ⟨fun _ => ?_, fun hno => absurd (show yieldedEv _ ev 1 = some true by simp only [yieldedEv, dstOf, hg]; simp [hg]) hno⟩
      clear hdep hfree
      try dsimp only
      refine runs_call (f := 10) (args := #[.agg #[.int .i64 c0, .int .i64 c1, .int .i64 c2, .int .i64 c3, .int .i64 c4, .int .i64 c5, .int .i64 c6, .int .i64 c7, .int .i64 c8, .int .i64 c9, .int .i64 c10, .int .i64 c11]]) (by simp [execOp, evalOf, resolve, invoke, a1, go_sem]) ((checkr_any c0 c1 c2 c3 c4 c5 c6 c7 c8 c9 c10 c11 w2).mono ?_)
      rintro e w3 ⟨he, hb⟩
      exact ⟨_, he, hI.trans (hb.mono (by have := hI.size; omega)), PhiC.all, fun d hd => by cases hd; exact congrArg _ HX.out.symm⟩
    case o6 =>
      intro ev w2 hI hdep hfree
      have a1 : ev 6 = .int .i64 x := hdep 3 6 (by kernel_rfl) (by kernel_rfl)
      have a2 : ev 8 = .int .i64 x := hdep 5 8 (by kernel_rfl) (by kernel_rfl)
      have hg : ev 4 = .bool true := hdep 1 4 (by kernel_rfl) (by kernel_rfl)
      refine ⟨fun _ => ?_, fun hno => absurd (show yieldedEv _ ev 1 = some true by simp only [yieldedEv, dstOf, hg]; simp [hg]) hno⟩
      clear hdep hfree
      try dsimp only
      simp [OpRuns, execOp, evalOf, a1, a2, go_sem]
      exact ⟨hI, rfl⟩
    case o7 =>
      intro ev w2 hI hdep hfree
      have a1 : ev 4 = .bool true := hdep 1 4 (by kernel_rfl) (by kernel_rfl)
      have a2 : ev 9 = .bool true := hdep 6 9 (by kernel_rfl) (by kernel_rfl)
      clear hdep hfree
      try dsimp only
      simp [OpRuns, execOp, evalOf, a1, a2, go_sem]
      exact ⟨hI, rfl⟩
    case o8 =>
      intro ev w2 hI hdep hfree
      have a1 : ev 10 = .bool true := hdep 7 10 (by kernel_rfl) (by kernel_rfl)
      clear hdep hfree
      try dsimp only
      simp [OpRuns, execOp, evalOf, a1, go_sem]
      exact ⟨hI, rfl⟩
    case o9 =>
      intro ev w2 hI hdep hfree
      have hg : ev 11 = .bool true := hdep 8 11 (by kernel_rfl) (by kernel_rfl)
      refine ⟨fun _ => ?_, fun hno => absurd (show yieldedEv _ ev 8 = some true by simp only [yieldedEv, dstOf, hg]; simp [hg]) hno⟩
      clear hdep hfree
      try dsimp only
      refine runs_call (f := 12) (args := #[]) (by simp [execOp, evalOf, resolve, invoke, go_sem]) ((standard_any w2).mono ?_)
      rintro e w3 ⟨he, hb⟩
      exact ⟨_, he, hI.trans (hb.mono (by have := hI.size; omega)), PhiC.all, fun d hd => by cases hd; exact rfl⟩
    case o10 =>
      intro ev w2 hI hdep hfree
      have hg : ev 11 = .bool true := hdep 8 11 (by kernel_rfl) (by kernel_rfl)
      refine ⟨fun _ => ?_, fun hno => absurd (show yieldedEv _ ev 8 = some true by simp only [yieldedEv, dstOf, hg]; simp [hg]) hno⟩
      clear hdep hfree
      try dsimp only
      refine runs_call (f := 13) (args := #[]) (by simp [execOp, evalOf, resolve, invoke, go_sem]) ((standardr_any w2).mono ?_)
      rintro e w3 ⟨he, hb⟩
      exact ⟨_, he, hI.trans (hb.mono (by have := hI.size; omega)), PhiC.all, fun d hd => by cases hd; exact rfl⟩
    case o11 =>
      intro ev w2 hI hdep hfree
      have a1 : ev 12 = (tbl 4000 1200 600 300 100 0 20 50 500 40 100 300) := hdep 9 12 (by kernel_rfl) (by kernel_rfl)
      have a2 : ev 13 = (tbl 4000 1200 600 300 100 0 20 50 500 40 100 300) := hdep 10 13 (by kernel_rfl) (by kernel_rfl)
      have hg : ev 11 = .bool true := hdep 8 11 (by kernel_rfl) (by kernel_rfl)
      refine ⟨fun _ => ?_, fun hno => absurd (show yieldedEv _ ev 8 = some true by simp only [yieldedEv, dstOf, hg]; simp [hg]) hno⟩
      clear hdep hfree
      try dsimp only
      refine runs_call (f := 11) (args := #[(tbl 4000 1200 600 300 100 0 20 50 500 40 100 300), (tbl 4000 1200 600 300 100 0 20 50 500 40 100 300)]) (by simp [execOp, evalOf, resolve, invoke, a1, a2, go_sem]) ((equal_same 4000 1200 600 300 100 0 20 50 500 40 100 300 w2).mono ?_)
      rintro e w3 ⟨he, hb⟩
      exact ⟨_, he, hI.trans (hb.mono (by have := hI.size; omega)), PhiC.all, fun d hd => by cases hd; exact rfl⟩
    case o12 =>
      intro ev w2 hI hdep hfree
      have a1 : ev 11 = .bool true := hdep 8 11 (by kernel_rfl) (by kernel_rfl)
      have a2 : ev 14 = .bool true := hdep 11 14 (by kernel_rfl) (by kernel_rfl)
      clear hdep hfree
      try dsimp only
      simp [OpRuns, execOp, evalOf, a1, a2, go_sem]
      exact ⟨hI, rfl⟩
    case o13 =>
      intro ev w2 hI hdep hfree
      have a1 : ev 15 = .bool true := hdep 12 15 (by kernel_rfl) (by kernel_rfl)
      clear hdep hfree
      try dsimp only
      simp [OpRuns, execOp, evalOf, a1, go_sem]
      exact ⟨hI, rfl⟩
    case o14 =>
      intro ev w2 hI hdep hfree
      have hg : ev 16 = .bool true := hdep 13 16 (by kernel_rfl) (by kernel_rfl)
      refine ⟨fun _ => ?_, fun hno => absurd (show yieldedEv _ ev 13 = some true by simp only [yieldedEv, dstOf, hg]; simp [hg]) hno⟩
      clear hdep hfree
      try dsimp only
      refine runs_call (f := 12) (args := #[]) (by simp [execOp, evalOf, resolve, invoke, go_sem]) ((standard_any w2).mono ?_)
      rintro e w3 ⟨he, hb⟩
      exact ⟨_, he, hI.trans (hb.mono (by have := hI.size; omega)), PhiC.all, fun d hd => by cases hd; exact rfl⟩
    case o15 =>
      intro ev w2 hI hdep hfree
      have a1 : ev 17 = (tbl 4000 1200 600 300 100 0 20 50 500 40 100 300) := hdep 14 17 (by kernel_rfl) (by kernel_rfl)
      have hg : ev 16 = .bool true := hdep 13 16 (by kernel_rfl) (by kernel_rfl)
      refine ⟨fun _ => ?_, fun hno => absurd (show yieldedEv _ ev 13 = some true by simp only [yieldedEv, dstOf, hg]; simp [hg]) hno⟩
      clear hdep hfree
      try dsimp only
      refine runs_call (f := 9) (args := #[(tbl 4000 1200 600 300 100 0 20 50 500 40 100 300)]) (by simp [execOp, evalOf, resolve, invoke, a1, go_sem]) ((check_any 4000 1200 600 300 100 0 20 50 500 40 100 300 w2).mono ?_)
      rintro e w3 ⟨he, hb⟩
      exact ⟨_, he, hI.trans (hb.mono (by have := hI.size; omega)), PhiC.all, fun d hd => by cases hd; exact congrArg _ std_ok⟩
    case o16 =>
      intro ev w2 hI hdep hfree
      have a1 : ev 18 = .int .i64 0 := hdep 15 18 (by kernel_rfl) (by kernel_rfl)
      have hg : ev 16 = .bool true := hdep 13 16 (by kernel_rfl) (by kernel_rfl)
      refine ⟨fun _ => ?_, fun hno => absurd (show yieldedEv _ ev 13 = some true by simp only [yieldedEv, dstOf, hg]; simp [hg]) hno⟩
      clear hdep hfree
      try dsimp only
      simp [OpRuns, execOp, evalOf, a1, go_sem]
      exact ⟨hI, rfl⟩
    case o17 =>
      intro ev w2 hI hdep hfree
      have a1 : ev 16 = .bool true := hdep 13 16 (by kernel_rfl) (by kernel_rfl)
      have a2 : ev 19 = .bool true := hdep 16 19 (by kernel_rfl) (by kernel_rfl)
      clear hdep hfree
      try dsimp only
      simp [OpRuns, execOp, evalOf, a1, a2, go_sem]
      exact ⟨hI, rfl⟩
    case o18 =>
      intro ev w2 hI hdep hfree
      have a1 : ev 20 = .bool true := hdep 17 20 (by kernel_rfl) (by kernel_rfl)
      clear hdep hfree
      try dsimp only
      simp [OpRuns, execOp, evalOf, a1, go_sem]
      exact ⟨hI, rfl⟩
  case hend =>
    intro a w2 hd hs hI hv hk
    have h2 : a.tmps.getD 2 undef = .bool true := hv 18 2 rfl
    have hd : a.defers = [] := hd
    have hbf : Below W.heap.size W w2 := hb1.trans (hI.mono (by omega))
    clear hv hk hs hI
    go_wp2
    obtain ⟨t, ds⟩ := a
    simp only at h2 hd
    subst hd
    go_ret
    exact ⟨by rw [h2], hbf⟩
end Go.Proofs.Ytbebnbpdemdocaa
