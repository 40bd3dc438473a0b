/-
  The contract of the reference's Text of layer 3 at the rate 29.97. Its conditions are its hypotheses.
-/
import Derived.Test.YtbliilemjkjimaaDoorC9
import Derived.Test.YtbliilemjkjimaaDoorCb
namespace Go.Proofs.YtbliilemjkjimaaDoor
open Go.RowKit Go.Joins
set_option linter.unusedVariables false
set_option linter.unusedSimpArgs false
theorem twoB_size (n : Int) : (twoB n).size = 2 := rfl
set_option maxHeartbeats 1000000 in
theorem textr_f (h m s f : Int) (w : World) (hc : chkL ⟨h, m, s, f, false⟩ = 0) :
    Calls Tryd.prog 36 #[.int .u8 4, .agg #[.int .i64 h, .int .i64 m, .int .i64 s, .int .i64 f, .bool false]] w fun e w' => e = .returned (.tuple #[.string (txtB ⟨h, m, s, f, false⟩), .int .i64 0]) ∧ Below w.heap.size w w' := by
  have HC := Lib.hid hc
  obtain ⟨t1, t2, t3, t4, t5, t6, t7, t8⟩ := chkL_zero hc
  simp only [] at t1 t2 t3 t4 t5 t6 t7 t8
  obtain ⟨T, hT⟩ : ∃ T, T = txtB ⟨h, m, s, f, false⟩ := ⟨_, rfl⟩
  have HT := Lib.hid (show T = twoB h ++ ⟨#[58]⟩ ++ twoB m ++ ⟨#[58]⟩ ++ twoB s ++ ⟨#[58]⟩ ++ twoB f by
    rw [hT]
    exact ByteArray.ext (by simp [txtB, txtL, twoB]))
  rw [← hT]
  clear hc hT
  obtain ⟨B, hB⟩ : ∃ B, B = w.heap.size := ⟨_, rfl⟩
  rw [← hB]
  go_enter Tryd.func36, Tryd.ntmps36
  go_wp2_with (go_at_call 61; refine (chkr_any ⟨h, m, s, f, false⟩ _).mono ?_; rintro e w1 ⟨rfl, hb⟩; rw [HC.out]; have H := Lib.hid ((show Held (w.alloc (.cells #[.int .i64 h, .int .i64 m, .int .i64 s, .int .i64 f, .bool false] 56)) B [.int .i64 h, .int .i64 m, .int .i64 s, .int .i64 f, .bool false] from Held.new hB).ext hb); have FB := Lib.hid (show Below B w w1 by subst hB; exact bthen (below_one _ _) hb); rw [← hB]; clear hb hB; have q0 := H.out.cell 0; have q1 := H.out.cell 1; have q2 := H.out.cell 2; have q3 := H.out.cell 3; have q4 := H.out.cell 4; simp only [List.getElem?_cons_zero, List.getElem?_cons_succ] at q0 q1 q2 q3 q4)
  have fbb := FB.out
  have fs : B + 1 ≤ w1.heap.size := H.out.lt
  have y0 : ∀ w', (Op.stringOp .add (twoB h) (⟨#[58]⟩)).run Tryd.prog w' = .ok (.string (twoB h ++ ⟨#[58]⟩)) w' := fun w' => run_string_add_sum w' _ _ (by simp only [ByteArray.size_append, twoB_size]; decide)
  have y1 : ∀ w', (Op.stringOp .add (twoB h ++ ⟨#[58]⟩) (twoB m)).run Tryd.prog w' = .ok (.string (twoB h ++ ⟨#[58]⟩ ++ twoB m)) w' := fun w' => run_string_add_sum w' _ _ (by simp only [ByteArray.size_append, twoB_size]; decide)
  have y2 : ∀ w', (Op.stringOp .add (twoB h ++ ⟨#[58]⟩ ++ twoB m) (⟨#[58]⟩)).run Tryd.prog w' = .ok (.string (twoB h ++ ⟨#[58]⟩ ++ twoB m ++ ⟨#[58]⟩)) w' := fun w' => run_string_add_sum w' _ _ (by simp only [ByteArray.size_append, twoB_size]; decide)
  have y3 : ∀ w', (Op.stringOp .add (twoB h ++ ⟨#[58]⟩ ++ twoB m ++ ⟨#[58]⟩) (twoB s)).run Tryd.prog w' = .ok (.string (twoB h ++ ⟨#[58]⟩ ++ twoB m ++ ⟨#[58]⟩ ++ twoB s)) w' := fun w' => run_string_add_sum w' _ _ (by simp only [ByteArray.size_append, twoB_size]; decide)
  have y4 : ∀ w', (Op.stringOp .add (twoB h ++ ⟨#[58]⟩ ++ twoB m ++ ⟨#[58]⟩ ++ twoB s) (⟨#[58]⟩)).run Tryd.prog w' = .ok (.string (twoB h ++ ⟨#[58]⟩ ++ twoB m ++ ⟨#[58]⟩ ++ twoB s ++ ⟨#[58]⟩)) w' := fun w' => run_string_add_sum w' _ _ (by simp only [ByteArray.size_append, twoB_size]; decide)
  have y5 : ∀ w', (Op.stringOp .add (twoB h ++ ⟨#[58]⟩ ++ twoB m ++ ⟨#[58]⟩ ++ twoB s ++ ⟨#[58]⟩) (twoB f)).run Tryd.prog w' = .ok (.string (twoB h ++ ⟨#[58]⟩ ++ twoB m ++ ⟨#[58]⟩ ++ twoB s ++ ⟨#[58]⟩ ++ twoB f)) w' := fun w' => run_string_add_sum w' _ _ (by simp only [ByteArray.size_append, twoB_size]; decide)
  go_region_held3 (fun w9 => w9.cell? ⟨B, 0, none⟩ = some (.int .i64 h) ∧ w9.cell? ⟨B, 1, none⟩ = some (.int .i64 m) ∧ w9.cell? ⟨B, 2, none⟩ = some (.int .i64 s) ∧ w9.cell? ⟨B, 3, none⟩ = some (.int .i64 f) ∧ Below B w w9 ∧ B + 1 ≤ w9.heap.size)
    ((refine ⟨?_, ?_, ?_, ?_, ?_, ?_⟩ <;> first
        | assumption
        | exact Below.drew ‹_›
        | exact (hb.cell (Nat.lt_of_lt_of_le (Nat.lt_succ_self _) hks)).trans hk0
        | exact (hb.cell (Nat.lt_of_lt_of_le (Nat.lt_succ_self _) hks)).trans hk1
        | exact (hb.cell (Nat.lt_of_lt_of_le (Nat.lt_succ_self _) hks)).trans hk2
        | exact (hb.cell (Nat.lt_of_lt_of_le (Nat.lt_succ_self _) hks)).trans hk3
        | exact hkb.trans (hb.mono (Nat.le_of_succ_le hks))
        | exact Nat.le_trans hks hb.size))
    (first | (go_at_call_of 62 (Value.int .i64 h); obtain ⟨hk0, hk1, hk2, hk3, hkb, hks⟩ := ‹_ ∧ _ ∧ _ ∧ _ ∧ Below B w _ ∧ _›; refine (two_any h _ (by omega) (by omega)).mono ?_; rintro e w' ⟨rfl, hb⟩) | (go_at_call_of 62 (Value.int .i64 m); obtain ⟨hk0, hk1, hk2, hk3, hkb, hks⟩ := ‹_ ∧ _ ∧ _ ∧ _ ∧ Below B w _ ∧ _›; refine (two_any m _ (by omega) (by omega)).mono ?_; rintro e w' ⟨rfl, hb⟩) | (go_at_call_of 62 (Value.int .i64 s); obtain ⟨hk0, hk1, hk2, hk3, hkb, hks⟩ := ‹_ ∧ _ ∧ _ ∧ _ ∧ Below B w _ ∧ _›; refine (two_any s _ (by omega) (by omega)).mono ?_; rintro e w' ⟨rfl, hb⟩) | (go_at_call_of 62 (Value.int .i64 f); obtain ⟨hk0, hk1, hk2, hk3, hkb, hks⟩ := ‹_ ∧ _ ∧ _ ∧ _ ∧ Below B w _ ∧ _›; refine (two_any f _ (by omega) (by omega)).mono ?_; rintro e w' ⟨rfl, hb⟩))
  all_goals
    obtain ⟨_, _, _, _, hkb, _⟩ := ‹_ ∧ _ ∧ _ ∧ _ ∧ Below B w _ ∧ _›
    have HKB := Lib.hid hkb
    go_wp2_with fail
    go_ret2
    exact ⟨by rw [HT.out]; rfl, HKB.out⟩
set_option maxHeartbeats 1000000 in
theorem textr_t (h m s f : Int) (w : World) (hc : chkL ⟨h, m, s, f, true⟩ = 0) :
    Calls Tryd.prog 36 #[.int .u8 4, .agg #[.int .i64 h, .int .i64 m, .int .i64 s, .int .i64 f, .bool true]] w fun e w' => e = .returned (.tuple #[.string (txtB ⟨h, m, s, f, true⟩), .int .i64 0]) ∧ Below w.heap.size w w' := by
  have HC := Lib.hid hc
  obtain ⟨t1, t2, t3, t4, t5, t6, t7, t8⟩ := chkL_zero hc
  simp only [] at t1 t2 t3 t4 t5 t6 t7 t8
  obtain ⟨T, hT⟩ : ∃ T, T = txtB ⟨h, m, s, f, true⟩ := ⟨_, rfl⟩
  have HT := Lib.hid (show T = twoB h ++ ⟨#[58]⟩ ++ twoB m ++ ⟨#[58]⟩ ++ twoB s ++ ⟨#[59]⟩ ++ twoB f by
    rw [hT]
    exact ByteArray.ext (by simp [txtB, txtL, twoB]))
  rw [← hT]
  clear hc hT
  obtain ⟨B, hB⟩ : ∃ B, B = w.heap.size := ⟨_, rfl⟩
  rw [← hB]
  go_enter Tryd.func36, Tryd.ntmps36
  go_wp2_with (go_at_call 61; refine (chkr_any ⟨h, m, s, f, true⟩ _).mono ?_; rintro e w1 ⟨rfl, hb⟩; rw [HC.out]; have H := Lib.hid ((show Held (w.alloc (.cells #[.int .i64 h, .int .i64 m, .int .i64 s, .int .i64 f, .bool true] 56)) B [.int .i64 h, .int .i64 m, .int .i64 s, .int .i64 f, .bool true] from Held.new hB).ext hb); have FB := Lib.hid (show Below B w w1 by subst hB; exact bthen (below_one _ _) hb); rw [← hB]; clear hb hB; have q0 := H.out.cell 0; have q1 := H.out.cell 1; have q2 := H.out.cell 2; have q3 := H.out.cell 3; have q4 := H.out.cell 4; simp only [List.getElem?_cons_zero, List.getElem?_cons_succ] at q0 q1 q2 q3 q4)
  have fbb := FB.out
  have fs : B + 1 ≤ w1.heap.size := H.out.lt
  have y0 : ∀ w', (Op.stringOp .add (twoB h) (⟨#[58]⟩)).run Tryd.prog w' = .ok (.string (twoB h ++ ⟨#[58]⟩)) w' := fun w' => run_string_add_sum w' _ _ (by simp only [ByteArray.size_append, twoB_size]; decide)
  have y1 : ∀ w', (Op.stringOp .add (twoB h ++ ⟨#[58]⟩) (twoB m)).run Tryd.prog w' = .ok (.string (twoB h ++ ⟨#[58]⟩ ++ twoB m)) w' := fun w' => run_string_add_sum w' _ _ (by simp only [ByteArray.size_append, twoB_size]; decide)
  have y2 : ∀ w', (Op.stringOp .add (twoB h ++ ⟨#[58]⟩ ++ twoB m) (⟨#[58]⟩)).run Tryd.prog w' = .ok (.string (twoB h ++ ⟨#[58]⟩ ++ twoB m ++ ⟨#[58]⟩)) w' := fun w' => run_string_add_sum w' _ _ (by simp only [ByteArray.size_append, twoB_size]; decide)
  have y3 : ∀ w', (Op.stringOp .add (twoB h ++ ⟨#[58]⟩ ++ twoB m ++ ⟨#[58]⟩) (twoB s)).run Tryd.prog w' = .ok (.string (twoB h ++ ⟨#[58]⟩ ++ twoB m ++ ⟨#[58]⟩ ++ twoB s)) w' := fun w' => run_string_add_sum w' _ _ (by simp only [ByteArray.size_append, twoB_size]; decide)
  have y4 : ∀ w', (Op.stringOp .add (twoB h ++ ⟨#[58]⟩ ++ twoB m ++ ⟨#[58]⟩ ++ twoB s) (⟨#[59]⟩)).run Tryd.prog w' = .ok (.string (twoB h ++ ⟨#[58]⟩ ++ twoB m ++ ⟨#[58]⟩ ++ twoB s ++ ⟨#[59]⟩)) w' := fun w' => run_string_add_sum w' _ _ (by simp only [ByteArray.size_append, twoB_size]; decide)
  have y5 : ∀ w', (Op.stringOp .add (twoB h ++ ⟨#[58]⟩ ++ twoB m ++ ⟨#[58]⟩ ++ twoB s ++ ⟨#[59]⟩) (twoB f)).run Tryd.prog w' = .ok (.string (twoB h ++ ⟨#[58]⟩ ++ twoB m ++ ⟨#[58]⟩ ++ twoB s ++ ⟨#[59]⟩ ++ twoB f)) w' := fun w' => run_string_add_sum w' _ _ (by simp only [ByteArray.size_append, twoB_size]; decide)
  go_region_held3 (fun w9 => w9.cell? ⟨B, 0, none⟩ = some (.int .i64 h) ∧ w9.cell? ⟨B, 1, none⟩ = some (.int .i64 m) ∧ w9.cell? ⟨B, 2, none⟩ = some (.int .i64 s) ∧ w9.cell? ⟨B, 3, none⟩ = some (.int .i64 f) ∧ Below B w w9 ∧ B + 1 ≤ w9.heap.size)
    ((refine ⟨?_, ?_, ?_, ?_, ?_, ?_⟩ <;> first
        | assumption
        | exact Below.drew ‹_›
        | exact (hb.cell (Nat.lt_of_lt_of_le (Nat.lt_succ_self _) hks)).trans hk0
        | exact (hb.cell (Nat.lt_of_lt_of_le (Nat.lt_succ_self _) hks)).trans hk1
        | exact (hb.cell (Nat.lt_of_lt_of_le (Nat.lt_succ_self _) hks)).trans hk2
        | exact (hb.cell (Nat.lt_of_lt_of_le (Nat.lt_succ_self _) hks)).trans hk3
        | exact hkb.trans (hb.mono (Nat.le_of_succ_le hks))
        | exact Nat.le_trans hks hb.size))
    (first | (go_at_call_of 62 (Value.int .i64 h); obtain ⟨hk0, hk1, hk2, hk3, hkb, hks⟩ := ‹_ ∧ _ ∧ _ ∧ _ ∧ Below B w _ ∧ _›; refine (two_any h _ (by omega) (by omega)).mono ?_; rintro e w' ⟨rfl, hb⟩) | (go_at_call_of 62 (Value.int .i64 m); obtain ⟨hk0, hk1, hk2, hk3, hkb, hks⟩ := ‹_ ∧ _ ∧ _ ∧ _ ∧ Below B w _ ∧ _›; refine (two_any m _ (by omega) (by omega)).mono ?_; rintro e w' ⟨rfl, hb⟩) | (go_at_call_of 62 (Value.int .i64 s); obtain ⟨hk0, hk1, hk2, hk3, hkb, hks⟩ := ‹_ ∧ _ ∧ _ ∧ _ ∧ Below B w _ ∧ _›; refine (two_any s _ (by omega) (by omega)).mono ?_; rintro e w' ⟨rfl, hb⟩) | (go_at_call_of 62 (Value.int .i64 f); obtain ⟨hk0, hk1, hk2, hk3, hkb, hks⟩ := ‹_ ∧ _ ∧ _ ∧ _ ∧ Below B w _ ∧ _›; refine (two_any f _ (by omega) (by omega)).mono ?_; rintro e w' ⟨rfl, hb⟩))
  all_goals
    obtain ⟨_, _, _, _, hkb, _⟩ := ‹_ ∧ _ ∧ _ ∧ _ ∧ Below B w _ ∧ _›
    have HKB := Lib.hid hkb
    go_wp2_with fail
    go_ret2
    exact ⟨by rw [HT.out]; rfl, HKB.out⟩
theorem textr_any (l : Lab) (w : World) (hc : chkL l = 0) :
    Calls Tryd.prog 36 #[.int .u8 4, labA l] w fun e w' => e = .returned (.tuple #[.string (txtB l), .int .i64 0]) ∧ Below w.heap.size w w' := by
  obtain ⟨h, m, s, f, d⟩ := l
  cases d
  · exact textr_f h m s f w hc
  · exact textr_t h m s f w hc
end Go.Proofs.YtbliilemjkjimaaDoor
