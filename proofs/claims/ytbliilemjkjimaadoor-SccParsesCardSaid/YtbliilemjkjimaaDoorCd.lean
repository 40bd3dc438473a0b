/-
  The contracts of Frame of layer 3 at the rate 29.97, in the program and in the reference. Their conditions are their hypotheses.
-/
import Derived.Test.YtbliilemjkjimaaDoorCb
import Derived.Test.YtbliilemjkjimaaDoorC9
namespace Go.Proofs.YtbliilemjkjimaaDoor
open Go.RowKit Go.Joins
set_option linter.unusedVariables false
set_option linter.unusedSimpArgs false
theorem ret_pair {a b : Int} (h : a = b) : Ending.returned (.tuple #[.int .i64 a, .int .i64 0]) = Ending.returned (.tuple #[.int .i64 b, .int .i64 0]) := by rw [h]
set_option maxHeartbeats 1000000 in
theorem frame_f (h m s f : Int) (w : World) (hc : chkL ⟨h, m, s, f, false⟩ = 0) :
    Calls Tryd.prog 66 #[.int .u8 4, .agg #[.int .i64 h, .int .i64 m, .int .i64 s, .int .i64 f, .bool false]] w fun e w' => e = .returned (.tuple #[.int .i64 (frmV ⟨h, m, s, f, false⟩), .int .i64 0]) ∧ Below w.heap.size w w' := by
  have HC := Lib.hid hc
  obtain ⟨t1, t2, t3, t4, t5, t6, t7, t8⟩ := chkL_zero hc
  simp only [] at t1 t2 t3 t4 t5 t6 t7 t8
  obtain ⟨T, hT⟩ : ∃ T, T = frmV ⟨h, m, s, f, false⟩ := ⟨_, rfl⟩
  have HT := Lib.hid hT
  rw [← hT]
  clear hc hT
  obtain ⟨B, hB⟩ : ∃ B, B = w.heap.size := ⟨_, rfl⟩
  rw [← hB]
  go_enter Tryd.func66, Tryd.ntmps66
  go_wp2_with (go_at_call 54; refine (chk_any ⟨h, m, s, f, false⟩ _).mono ?_; rintro e w1 ⟨rfl, hb⟩; rw [HC.out]; have H := Lib.hid ((show Held (w.alloc (.cells #[.int .i64 h, .int .i64 m, .int .i64 s, .int .i64 f, .bool false] 56)) B [.int .i64 h, .int .i64 m, .int .i64 s, .int .i64 f, .bool false] from Held.new hB).ext hb); have FB := Lib.hid (show Below B w w1 by subst hB; exact bthen (below_one _ _) hb); rw [← hB]; clear hb hB; have q0 := H.out.cell 0; have q1 := H.out.cell 1; have q2 := H.out.cell 2; have q3 := H.out.cell 3; have q4 := H.out.cell 4; simp only [List.getElem?_cons_zero, List.getElem?_cons_succ] at q0 q1 q2 q3 q4)
  have fbb := FB.out
  have fs : B + 1 ≤ w1.heap.size := H.out.lt
  have u1 : 0 ≤ h * 60 + m ∧ h * 60 + m ≤ 1439 := by omega
  have s1 : IntKind.i64.wrap ((h * 60 + m) * 60) = (h * 60 + m) * 60 := IntWalk.i64_in _ (by omega)
  have s2 : IntKind.i64.wrap ((h * 60 + m) * 60 + s) = (h * 60 + m) * 60 + s := IntWalk.i64_in _ (by omega)
  have s3 : IntKind.i64.wrap (((h * 60 + m) * 60 + s) * 30) = ((h * 60 + m) * 60 + s) * 30 := IntWalk.i64_in _ (by omega)
  have s4 : IntKind.i64.wrap (((h * 60 + m) * 60 + s) * 30 + f) = ((h * 60 + m) * 60 + s) * 30 + f := IntWalk.i64_in _ (by omega)
  go_region_held3 (fun w9 => w9.cell? ⟨B, 0, none⟩ = some (.int .i64 h) ∧ w9.cell? ⟨B, 1, none⟩ = some (.int .i64 m) ∧ w9.cell? ⟨B, 2, none⟩ = some (.int .i64 s) ∧ w9.cell? ⟨B, 3, none⟩ = some (.int .i64 f) ∧ w9.cell? ⟨B, 4, none⟩ = some (.bool false) ∧ Below B w w9 ∧ B + 1 ≤ w9.heap.size)
    ((refine ⟨?_, ?_, ?_, ?_, ?_, ?_, ?_⟩ <;> first
        | assumption
        | exact Below.drew ‹_›
        | exact (hb.cell (Nat.lt_of_lt_of_le (Nat.lt_succ_self _) hks)).trans hk0
        | exact (hb.cell (Nat.lt_of_lt_of_le (Nat.lt_succ_self _) hks)).trans hk1
        | exact (hb.cell (Nat.lt_of_lt_of_le (Nat.lt_succ_self _) hks)).trans hk2
        | exact (hb.cell (Nat.lt_of_lt_of_le (Nat.lt_succ_self _) hks)).trans hk3
        | exact (hb.cell (Nat.lt_of_lt_of_le (Nat.lt_succ_self _) hks)).trans hk4
        | exact hkb.trans (hb.mono (Nat.le_of_succ_le hks))
        | exact Nat.le_trans hks hb.size))
    ((go_at_call 51; obtain ⟨hk0, hk1, hk2, hk3, hk4, hkb, hks⟩ := ‹_ ∧ _ ∧ _ ∧ _ ∧ _ ∧ Below B w _ ∧ _›; refine (nominal_any _).mono ?_; rintro e w' ⟨rfl, hb⟩))
  obtain ⟨hk0, hk1, hk2, hk3, hk4, hkb, _⟩ := ‹_ ∧ _ ∧ _ ∧ _ ∧ _ ∧ Below B w _ ∧ _›
  have HKB := Lib.hid hkb
  clear hkb fbb q0 q1 q2 q3 q4 FB H s1 s2 s3 s4
  go_wp2_with (go_at_call 52; refine (dropped_any _ _).mono ?_; rintro e w4 ⟨rfl, rfl⟩; simp only [show drp false = 0 from rfl])
  go_ret2
  exact ⟨ret_pair (by rw [HT.out]; simp only [frmV, show drp false = 0 from rfl] <;> omega), HKB.out⟩
set_option maxHeartbeats 1000000 in
theorem frame_t (h m s f : Int) (w : World) (hc : chkL ⟨h, m, s, f, true⟩ = 0) :
    Calls Tryd.prog 66 #[.int .u8 4, .agg #[.int .i64 h, .int .i64 m, .int .i64 s, .int .i64 f, .bool true]] w fun e w' => e = .returned (.tuple #[.int .i64 (frmV ⟨h, m, s, f, true⟩), .int .i64 0]) ∧ Below w.heap.size w w' := by
  have HC := Lib.hid hc
  obtain ⟨t1, t2, t3, t4, t5, t6, t7, t8⟩ := chkL_zero hc
  simp only [] at t1 t2 t3 t4 t5 t6 t7 t8
  obtain ⟨T, hT⟩ : ∃ T, T = frmV ⟨h, m, s, f, true⟩ := ⟨_, rfl⟩
  have HT := Lib.hid hT
  rw [← hT]
  clear hc hT
  obtain ⟨B, hB⟩ : ∃ B, B = w.heap.size := ⟨_, rfl⟩
  rw [← hB]
  go_enter Tryd.func66, Tryd.ntmps66
  go_wp2_with (go_at_call 54; refine (chk_any ⟨h, m, s, f, true⟩ _).mono ?_; rintro e w1 ⟨rfl, hb⟩; rw [HC.out]; have H := Lib.hid ((show Held (w.alloc (.cells #[.int .i64 h, .int .i64 m, .int .i64 s, .int .i64 f, .bool true] 56)) B [.int .i64 h, .int .i64 m, .int .i64 s, .int .i64 f, .bool true] from Held.new hB).ext hb); have FB := Lib.hid (show Below B w w1 by subst hB; exact bthen (below_one _ _) hb); rw [← hB]; clear hb hB; have q0 := H.out.cell 0; have q1 := H.out.cell 1; have q2 := H.out.cell 2; have q3 := H.out.cell 3; have q4 := H.out.cell 4; simp only [List.getElem?_cons_zero, List.getElem?_cons_succ] at q0 q1 q2 q3 q4)
  have fbb := FB.out
  have fs : B + 1 ≤ w1.heap.size := H.out.lt
  have u1 : 0 ≤ h * 60 + m ∧ h * 60 + m ≤ 1439 := by omega
  have s1 : IntKind.i64.wrap ((h * 60 + m) * 60) = (h * 60 + m) * 60 := IntWalk.i64_in _ (by omega)
  have s2 : IntKind.i64.wrap ((h * 60 + m) * 60 + s) = (h * 60 + m) * 60 + s := IntWalk.i64_in _ (by omega)
  have s3 : IntKind.i64.wrap (((h * 60 + m) * 60 + s) * 30) = ((h * 60 + m) * 60 + s) * 30 := IntWalk.i64_in _ (by omega)
  have s4 : IntKind.i64.wrap (((h * 60 + m) * 60 + s) * 30 + f) = ((h * 60 + m) * 60 + s) * 30 + f := IntWalk.i64_in _ (by omega)
  go_region_held3 (fun w9 => w9.cell? ⟨B, 0, none⟩ = some (.int .i64 h) ∧ w9.cell? ⟨B, 1, none⟩ = some (.int .i64 m) ∧ w9.cell? ⟨B, 2, none⟩ = some (.int .i64 s) ∧ w9.cell? ⟨B, 3, none⟩ = some (.int .i64 f) ∧ w9.cell? ⟨B, 4, none⟩ = some (.bool true) ∧ Below B w w9 ∧ B + 1 ≤ w9.heap.size)
    ((refine ⟨?_, ?_, ?_, ?_, ?_, ?_, ?_⟩ <;> first
        | assumption
        | exact Below.drew ‹_›
        | exact (hb.cell (Nat.lt_of_lt_of_le (Nat.lt_succ_self _) hks)).trans hk0
        | exact (hb.cell (Nat.lt_of_lt_of_le (Nat.lt_succ_self _) hks)).trans hk1
        | exact (hb.cell (Nat.lt_of_lt_of_le (Nat.lt_succ_self _) hks)).trans hk2
        | exact (hb.cell (Nat.lt_of_lt_of_le (Nat.lt_succ_self _) hks)).trans hk3
        | exact (hb.cell (Nat.lt_of_lt_of_le (Nat.lt_succ_self _) hks)).trans hk4
        | exact hkb.trans (hb.mono (Nat.le_of_succ_le hks))
        | exact Nat.le_trans hks hb.size))
    ((go_at_call 51; obtain ⟨hk0, hk1, hk2, hk3, hk4, hkb, hks⟩ := ‹_ ∧ _ ∧ _ ∧ _ ∧ _ ∧ Below B w _ ∧ _›; refine (nominal_any _).mono ?_; rintro e w' ⟨rfl, hb⟩))
  obtain ⟨hk0, hk1, hk2, hk3, hk4, hkb, _⟩ := ‹_ ∧ _ ∧ _ ∧ _ ∧ _ ∧ Below B w _ ∧ _›
  have HKB := Lib.hid hkb
  clear hkb fbb q0 q1 q2 q3 q4 FB H s1 s2 s3 s4
  go_wp2_with (go_at_call 52; refine (dropped_any _ _).mono ?_; rintro e w4 ⟨rfl, rfl⟩; simp only [show drp true = 2 from rfl])
  go_ret2
  exact ⟨ret_pair (by rw [HT.out]; simp only [frmV, show drp true = 2 from rfl] <;> omega), HKB.out⟩
theorem frame_any (l : Lab) (w : World) (hc : chkL l = 0) :
    Calls Tryd.prog 66 #[.int .u8 4, labA l] w fun e w' => e = .returned (.tuple #[.int .i64 (frmV l), .int .i64 0]) ∧ Below w.heap.size w w' := by
  obtain ⟨h, m, s, f, d⟩ := l
  cases d
  · exact frame_f h m s f w hc
  · exact frame_t h m s f w hc
set_option maxHeartbeats 1000000 in
theorem framer_f (h m s f : Int) (w : World) (hc : chkL ⟨h, m, s, f, false⟩ = 0) :
    Calls Tryd.prog 44 #[.int .u8 4, .agg #[.int .i64 h, .int .i64 m, .int .i64 s, .int .i64 f, .bool false]] w fun e w' => e = .returned (.tuple #[.int .i64 (frmV ⟨h, m, s, f, false⟩), .int .i64 0]) ∧ Below w.heap.size w w' := by
  have HC := Lib.hid hc
  obtain ⟨t1, t2, t3, t4, t5, t6, t7, t8⟩ := chkL_zero hc
  simp only [] at t1 t2 t3 t4 t5 t6 t7 t8
  obtain ⟨T, hT⟩ : ∃ T, T = frmV ⟨h, m, s, f, false⟩ := ⟨_, rfl⟩
  have HT := Lib.hid hT
  rw [← hT]
  clear hc hT
  obtain ⟨B, hB⟩ : ∃ B, B = w.heap.size := ⟨_, rfl⟩
  rw [← hB]
  go_enter Tryd.func44, Tryd.ntmps44
  go_wp2_with (go_at_call 61; refine (chkr_any ⟨h, m, s, f, false⟩ _).mono ?_; rintro e w1 ⟨rfl, hb⟩; rw [HC.out]; have H := Lib.hid ((show Held (w.alloc (.cells #[.int .i64 h, .int .i64 m, .int .i64 s, .int .i64 f, .bool false] 56)) B [.int .i64 h, .int .i64 m, .int .i64 s, .int .i64 f, .bool false] from Held.new hB).ext hb); have FB := Lib.hid (show Below B w w1 by subst hB; exact bthen (below_one _ _) hb); rw [← hB]; clear hb hB; have q0 := H.out.cell 0; have q1 := H.out.cell 1; have q2 := H.out.cell 2; have q3 := H.out.cell 3; have q4 := H.out.cell 4; simp only [List.getElem?_cons_zero, List.getElem?_cons_succ] at q0 q1 q2 q3 q4)
  go_wp2_with (first | (go_at_call 58; refine (nominalr_any _).mono ?_; rintro e w2 ⟨rfl, hb⟩; replace FB := Lib.hid (FB.out.trans (hb.mono (Nat.le_of_lt H.out.lt))); replace H := Lib.hid (H.out.ext hb); clear hb q0 q1 q2 q3 q4; have q0 := H.out.cell 0; have q1 := H.out.cell 1; have q2 := H.out.cell 2; have q3 := H.out.cell 3; have q4 := H.out.cell 4; simp only [List.getElem?_cons_zero, List.getElem?_cons_succ] at q0 q1 q2 q3 q4) | (go_at_call 59; refine (droppedr_any _).mono ?_; rintro e w4 ⟨rfl, rfl⟩))
  go_ret2
  exact ⟨ret_pair (by rw [HT.out]; simp only [frmV, show drp false = 0 from rfl] <;> omega), FB.out⟩
set_option maxHeartbeats 1000000 in
theorem framer_t (h m s f : Int) (w : World) (hc : chkL ⟨h, m, s, f, true⟩ = 0) :
    Calls Tryd.prog 44 #[.int .u8 4, .agg #[.int .i64 h, .int .i64 m, .int .i64 s, .int .i64 f, .bool true]] w fun e w' => e = .returned (.tuple #[.int .i64 (frmV ⟨h, m, s, f, true⟩), .int .i64 0]) ∧ Below w.heap.size w w' := by
  have HC := Lib.hid hc
  obtain ⟨t1, t2, t3, t4, t5, t6, t7, t8⟩ := chkL_zero hc
  simp only [] at t1 t2 t3 t4 t5 t6 t7 t8
  obtain ⟨T, hT⟩ : ∃ T, T = frmV ⟨h, m, s, f, true⟩ := ⟨_, rfl⟩
  have HT := Lib.hid hT
  rw [← hT]
  clear hc hT
  obtain ⟨B, hB⟩ : ∃ B, B = w.heap.size := ⟨_, rfl⟩
  rw [← hB]
  go_enter Tryd.func44, Tryd.ntmps44
  go_wp2_with (go_at_call 61; refine (chkr_any ⟨h, m, s, f, true⟩ _).mono ?_; rintro e w1 ⟨rfl, hb⟩; rw [HC.out]; have H := Lib.hid ((show Held (w.alloc (.cells #[.int .i64 h, .int .i64 m, .int .i64 s, .int .i64 f, .bool true] 56)) B [.int .i64 h, .int .i64 m, .int .i64 s, .int .i64 f, .bool true] from Held.new hB).ext hb); have FB := Lib.hid (show Below B w w1 by subst hB; exact bthen (below_one _ _) hb); rw [← hB]; clear hb hB; have q0 := H.out.cell 0; have q1 := H.out.cell 1; have q2 := H.out.cell 2; have q3 := H.out.cell 3; have q4 := H.out.cell 4; simp only [List.getElem?_cons_zero, List.getElem?_cons_succ] at q0 q1 q2 q3 q4)
  go_wp2_with (first | (go_at_call 58; refine (nominalr_any _).mono ?_; rintro e w2 ⟨rfl, hb⟩; replace FB := Lib.hid (FB.out.trans (hb.mono (Nat.le_of_lt H.out.lt))); replace H := Lib.hid (H.out.ext hb); clear hb q0 q1 q2 q3 q4; have q0 := H.out.cell 0; have q1 := H.out.cell 1; have q2 := H.out.cell 2; have q3 := H.out.cell 3; have q4 := H.out.cell 4; simp only [List.getElem?_cons_zero, List.getElem?_cons_succ] at q0 q1 q2 q3 q4) | (go_at_call 59; refine (droppedr_any _).mono ?_; rintro e w4 ⟨rfl, rfl⟩))
  go_ret2
  exact ⟨ret_pair (by rw [HT.out]; simp only [frmV, show drp true = 2 from rfl] <;> omega), FB.out⟩
theorem framer_any (l : Lab) (w : World) (hc : chkL l = 0) :
    Calls Tryd.prog 44 #[.int .u8 4, labA l] w fun e w' => e = .returned (.tuple #[.int .i64 (frmV l), .int .i64 0]) ∧ Below w.heap.size w w' := by
  obtain ⟨h, m, s, f, d⟩ := l
  cases d
  · exact framer_f h m s f w hc
  · exact framer_t h m s f w hc
end Go.Proofs.YtbliilemjkjimaaDoor
