/-
  The contracts of Check of layer 3 at the rate 29.97, in the program and in the reference. Their conditions are their hypotheses.
-/
import Derived.Test.YtbliilemjkjimaaDoorC7
namespace Go.Proofs.YtbliilemjkjimaaDoor
open Go.RowKit Go.Joins
set_option linter.unusedVariables false
set_option linter.unusedSimpArgs false
theorem Calls.quiet_of_left {P : Program} {f : FuncId} {args : Array Value} {w : World} {v : Value} (h : Calls P f args w fun e w' => e = .returned v ∧ w = w') : Calls P f args w fun e w'' => e = .returned v ∧ ∃ m, w'' = w.drewN m :=
  h.mono fun _ _ ⟨he, hm⟩ => ⟨he, 0, hm.symm⟩
theorem quiet_left {P : Program} {f : FuncId} {args : Array Value} {w : World} {n : Nat} {v : Value}
    (h : Calls P f args (w.drewN n) fun e w' => e = .returned v ∧ w.drewN n = w') : Calls P f args (w.drewN n) fun e w'' => e = .returned v ∧ ∃ m, w'' = w.drewN m :=
  h.mono fun _ _ ⟨he, hm⟩ => ⟨he, n, hm.symm⟩
set_option maxHeartbeats 1000000 in
theorem chk_0 (h m s f : Int) (d : Bool) (w : World) (a0 : decide (h < 0) = true) :
    Calls Tryd.prog 54 #[.int .u8 4, .agg #[.int .i64 h, .int .i64 m, .int .i64 s, .int .i64 f, .bool d]] w fun e w' => e = .returned (.int .i64 2) ∧ Below w.heap.size w w' := by
  obtain ⟨B, hB⟩ : ∃ B, B = w.heap.size := ⟨_, rfl⟩
  rw [← hB]
  go_enter Tryd.func54, Tryd.ntmps54
  go_wp2_with (go_at_call 50; refine (rateError_any _ _).mono ?_; rintro e w1 ⟨rfl, hb⟩)
  have H := Lib.hid ((show Held (w.alloc (.cells #[.int .i64 h, .int .i64 m, .int .i64 s, .int .i64 f, .bool d] 56)) B [.int .i64 h, .int .i64 m, .int .i64 s, .int .i64 f, .bool d] from Held.new hB).ext hb)
  have FB := Lib.hid (show Below B w w1 by subst hB; exact bthen (below_one _ _) hb)
  clear hb
  rw [← hB]
  clear hB
  have q0 := H.out.cell 0
  have q1 := H.out.cell 1
  have q2 := H.out.cell 2
  have q3 := H.out.cell 3
  have q4 := H.out.cell 4
  simp only [List.getElem?_cons_zero, List.getElem?_cons_succ] at q0 q1 q2 q3 q4
  go_quiet (fail)
  go_wp2_with fail
  go_ret
  exact ⟨rfl, below_drewN FB.out _⟩
set_option maxHeartbeats 1000000 in
theorem chk_1 (h m s f : Int) (d : Bool) (w : World) (a0 : decide (h < 0) = false) (a1 : decide (23 < h) = true) :
    Calls Tryd.prog 54 #[.int .u8 4, .agg #[.int .i64 h, .int .i64 m, .int .i64 s, .int .i64 f, .bool d]] w fun e w' => e = .returned (.int .i64 2) ∧ Below w.heap.size w w' := by
  obtain ⟨B, hB⟩ : ∃ B, B = w.heap.size := ⟨_, rfl⟩
  rw [← hB]
  go_enter Tryd.func54, Tryd.ntmps54
  go_wp2_with (go_at_call 50; refine (rateError_any _ _).mono ?_; rintro e w1 ⟨rfl, hb⟩)
  have H := Lib.hid ((show Held (w.alloc (.cells #[.int .i64 h, .int .i64 m, .int .i64 s, .int .i64 f, .bool d] 56)) B [.int .i64 h, .int .i64 m, .int .i64 s, .int .i64 f, .bool d] from Held.new hB).ext hb)
  have FB := Lib.hid (show Below B w w1 by subst hB; exact bthen (below_one _ _) hb)
  clear hb
  rw [← hB]
  clear hB
  have q0 := H.out.cell 0
  have q1 := H.out.cell 1
  have q2 := H.out.cell 2
  have q3 := H.out.cell 3
  have q4 := H.out.cell 4
  simp only [List.getElem?_cons_zero, List.getElem?_cons_succ] at q0 q1 q2 q3 q4
  go_quiet (fail)
  go_wp2_with fail
  go_ret
  exact ⟨rfl, below_drewN FB.out _⟩
set_option maxHeartbeats 1000000 in
theorem chk_2 (h m s f : Int) (d : Bool) (w : World) (a0 : decide (h < 0) = false) (a1 : decide (23 < h) = false) (a2 : decide (m < 0) = true) :
    Calls Tryd.prog 54 #[.int .u8 4, .agg #[.int .i64 h, .int .i64 m, .int .i64 s, .int .i64 f, .bool d]] w fun e w' => e = .returned (.int .i64 2) ∧ Below w.heap.size w w' := by
  obtain ⟨B, hB⟩ : ∃ B, B = w.heap.size := ⟨_, rfl⟩
  rw [← hB]
  go_enter Tryd.func54, Tryd.ntmps54
  go_wp2_with (go_at_call 50; refine (rateError_any _ _).mono ?_; rintro e w1 ⟨rfl, hb⟩)
  have H := Lib.hid ((show Held (w.alloc (.cells #[.int .i64 h, .int .i64 m, .int .i64 s, .int .i64 f, .bool d] 56)) B [.int .i64 h, .int .i64 m, .int .i64 s, .int .i64 f, .bool d] from Held.new hB).ext hb)
  have FB := Lib.hid (show Below B w w1 by subst hB; exact bthen (below_one _ _) hb)
  clear hb
  rw [← hB]
  clear hB
  have q0 := H.out.cell 0
  have q1 := H.out.cell 1
  have q2 := H.out.cell 2
  have q3 := H.out.cell 3
  have q4 := H.out.cell 4
  simp only [List.getElem?_cons_zero, List.getElem?_cons_succ] at q0 q1 q2 q3 q4
  go_quiet (fail)
  go_wp2_with fail
  go_ret
  exact ⟨rfl, below_drewN FB.out _⟩
set_option maxHeartbeats 1000000 in
theorem chk_3 (h m s f : Int) (d : Bool) (w : World) (a0 : decide (h < 0) = false) (a1 : decide (23 < h) = false) (a2 : decide (m < 0) = false) (a3 : decide (59 < m) = true) :
    Calls Tryd.prog 54 #[.int .u8 4, .agg #[.int .i64 h, .int .i64 m, .int .i64 s, .int .i64 f, .bool d]] w fun e w' => e = .returned (.int .i64 2) ∧ Below w.heap.size w w' := by
  obtain ⟨B, hB⟩ : ∃ B, B = w.heap.size := ⟨_, rfl⟩
  rw [← hB]
  go_enter Tryd.func54, Tryd.ntmps54
  go_wp2_with (go_at_call 50; refine (rateError_any _ _).mono ?_; rintro e w1 ⟨rfl, hb⟩)
  have H := Lib.hid ((show Held (w.alloc (.cells #[.int .i64 h, .int .i64 m, .int .i64 s, .int .i64 f, .bool d] 56)) B [.int .i64 h, .int .i64 m, .int .i64 s, .int .i64 f, .bool d] from Held.new hB).ext hb)
  have FB := Lib.hid (show Below B w w1 by subst hB; exact bthen (below_one _ _) hb)
  clear hb
  rw [← hB]
  clear hB
  have q0 := H.out.cell 0
  have q1 := H.out.cell 1
  have q2 := H.out.cell 2
  have q3 := H.out.cell 3
  have q4 := H.out.cell 4
  simp only [List.getElem?_cons_zero, List.getElem?_cons_succ] at q0 q1 q2 q3 q4
  go_quiet (fail)
  go_wp2_with fail
  go_ret
  exact ⟨rfl, below_drewN FB.out _⟩
set_option maxHeartbeats 1000000 in
theorem chk_4 (h m s f : Int) (d : Bool) (w : World) (a0 : decide (h < 0) = false) (a1 : decide (23 < h) = false) (a2 : decide (m < 0) = false) (a3 : decide (59 < m) = false) (a4 : decide (s < 0) = true) :
    Calls Tryd.prog 54 #[.int .u8 4, .agg #[.int .i64 h, .int .i64 m, .int .i64 s, .int .i64 f, .bool d]] w fun e w' => e = .returned (.int .i64 2) ∧ Below w.heap.size w w' := by
  obtain ⟨B, hB⟩ : ∃ B, B = w.heap.size := ⟨_, rfl⟩
  rw [← hB]
  go_enter Tryd.func54, Tryd.ntmps54
  go_wp2_with (go_at_call 50; refine (rateError_any _ _).mono ?_; rintro e w1 ⟨rfl, hb⟩)
  have H := Lib.hid ((show Held (w.alloc (.cells #[.int .i64 h, .int .i64 m, .int .i64 s, .int .i64 f, .bool d] 56)) B [.int .i64 h, .int .i64 m, .int .i64 s, .int .i64 f, .bool d] from Held.new hB).ext hb)
  have FB := Lib.hid (show Below B w w1 by subst hB; exact bthen (below_one _ _) hb)
  clear hb
  rw [← hB]
  clear hB
  have q0 := H.out.cell 0
  have q1 := H.out.cell 1
  have q2 := H.out.cell 2
  have q3 := H.out.cell 3
  have q4 := H.out.cell 4
  simp only [List.getElem?_cons_zero, List.getElem?_cons_succ] at q0 q1 q2 q3 q4
  go_quiet (fail)
  go_wp2_with fail
  go_ret
  exact ⟨rfl, below_drewN FB.out _⟩
set_option maxHeartbeats 1000000 in
theorem chk_5 (h m s f : Int) (d : Bool) (w : World) (a0 : decide (h < 0) = false) (a1 : decide (23 < h) = false) (a2 : decide (m < 0) = false) (a3 : decide (59 < m) = false) (a4 : decide (s < 0) = false) (a5 : decide (59 < s) = true) :
    Calls Tryd.prog 54 #[.int .u8 4, .agg #[.int .i64 h, .int .i64 m, .int .i64 s, .int .i64 f, .bool d]] w fun e w' => e = .returned (.int .i64 2) ∧ Below w.heap.size w w' := by
  obtain ⟨B, hB⟩ : ∃ B, B = w.heap.size := ⟨_, rfl⟩
  rw [← hB]
  go_enter Tryd.func54, Tryd.ntmps54
  go_wp2_with (go_at_call 50; refine (rateError_any _ _).mono ?_; rintro e w1 ⟨rfl, hb⟩)
  have H := Lib.hid ((show Held (w.alloc (.cells #[.int .i64 h, .int .i64 m, .int .i64 s, .int .i64 f, .bool d] 56)) B [.int .i64 h, .int .i64 m, .int .i64 s, .int .i64 f, .bool d] from Held.new hB).ext hb)
  have FB := Lib.hid (show Below B w w1 by subst hB; exact bthen (below_one _ _) hb)
  clear hb
  rw [← hB]
  clear hB
  have q0 := H.out.cell 0
  have q1 := H.out.cell 1
  have q2 := H.out.cell 2
  have q3 := H.out.cell 3
  have q4 := H.out.cell 4
  simp only [List.getElem?_cons_zero, List.getElem?_cons_succ] at q0 q1 q2 q3 q4
  go_quiet (fail)
  go_wp2_with fail
  go_ret
  exact ⟨rfl, below_drewN FB.out _⟩
set_option maxHeartbeats 1000000 in
theorem chk_6 (h m s f : Int) (d : Bool) (w : World) (a0 : decide (h < 0) = false) (a1 : decide (23 < h) = false) (a2 : decide (m < 0) = false) (a3 : decide (59 < m) = false) (a4 : decide (s < 0) = false) (a5 : decide (59 < s) = false) (a6 : decide (f < 0) = true) :
    Calls Tryd.prog 54 #[.int .u8 4, .agg #[.int .i64 h, .int .i64 m, .int .i64 s, .int .i64 f, .bool d]] w fun e w' => e = .returned (.int .i64 2) ∧ Below w.heap.size w w' := by
  obtain ⟨B, hB⟩ : ∃ B, B = w.heap.size := ⟨_, rfl⟩
  rw [← hB]
  go_enter Tryd.func54, Tryd.ntmps54
  go_wp2_with (go_at_call 50; refine (rateError_any _ _).mono ?_; rintro e w1 ⟨rfl, hb⟩)
  have H := Lib.hid ((show Held (w.alloc (.cells #[.int .i64 h, .int .i64 m, .int .i64 s, .int .i64 f, .bool d] 56)) B [.int .i64 h, .int .i64 m, .int .i64 s, .int .i64 f, .bool d] from Held.new hB).ext hb)
  have FB := Lib.hid (show Below B w w1 by subst hB; exact bthen (below_one _ _) hb)
  clear hb
  rw [← hB]
  clear hB
  have q0 := H.out.cell 0
  have q1 := H.out.cell 1
  have q2 := H.out.cell 2
  have q3 := H.out.cell 3
  have q4 := H.out.cell 4
  simp only [List.getElem?_cons_zero, List.getElem?_cons_succ] at q0 q1 q2 q3 q4
  go_quiet (fail)
  go_wp2_with fail
  go_ret
  exact ⟨rfl, below_drewN FB.out _⟩
set_option maxHeartbeats 1000000 in
theorem chk_7 (h m s f : Int) (d : Bool) (w : World) (a0 : decide (h < 0) = false) (a1 : decide (23 < h) = false) (a2 : decide (m < 0) = false) (a3 : decide (59 < m) = false) (a4 : decide (s < 0) = false) (a5 : decide (59 < s) = false) (a6 : decide (f < 0) = false) (a7 : decide (30 ≤ f) = true) :
    Calls Tryd.prog 54 #[.int .u8 4, .agg #[.int .i64 h, .int .i64 m, .int .i64 s, .int .i64 f, .bool d]] w fun e w' => e = .returned (.int .i64 2) ∧ Below w.heap.size w w' := by
  obtain ⟨B, hB⟩ : ∃ B, B = w.heap.size := ⟨_, rfl⟩
  rw [← hB]
  go_enter Tryd.func54, Tryd.ntmps54
  go_wp2_with (go_at_call 50; refine (rateError_any _ _).mono ?_; rintro e w1 ⟨rfl, hb⟩)
  have H := Lib.hid ((show Held (w.alloc (.cells #[.int .i64 h, .int .i64 m, .int .i64 s, .int .i64 f, .bool d] 56)) B [.int .i64 h, .int .i64 m, .int .i64 s, .int .i64 f, .bool d] from Held.new hB).ext hb)
  have FB := Lib.hid (show Below B w w1 by subst hB; exact bthen (below_one _ _) hb)
  clear hb
  rw [← hB]
  clear hB
  have q0 := H.out.cell 0
  have q1 := H.out.cell 1
  have q2 := H.out.cell 2
  have q3 := H.out.cell 3
  have q4 := H.out.cell 4
  simp only [List.getElem?_cons_zero, List.getElem?_cons_succ] at q0 q1 q2 q3 q4
  have hlt : B < w1.heap.size := H.out.lt
  go_region_held3 (fun w9 => w9.cell? ⟨B, 0, none⟩ = some (.int .i64 h) ∧ w9.cell? ⟨B, 1, none⟩ = some (.int .i64 m) ∧ w9.cell? ⟨B, 2, none⟩ = some (.int .i64 s) ∧ w9.cell? ⟨B, 3, none⟩ = some (.int .i64 f) ∧ w9.cell? ⟨B, 4, none⟩ = some (.bool d))
    (first
      | go_keep
      | (go_split_ands
         refine ⟨?_, ?_, ?_, ?_, ?_⟩ <;> (rw [hb2.cell (by simp; omega)]; go_simp)))
    ((go_at_call 51; refine (nominal_any _).mono ?_; rintro e w2 ⟨rfl, hb2⟩))
  go_wp2_with fail
  go_ret
  exact ⟨rfl, FB.out.drew.trans (hb2.mono (by simp; omega))⟩
set_option maxHeartbeats 1000000 in
theorem chk_8a (h m s f : Int) (d : Bool) (w : World) (a0 : decide (h < 0) = false) (a1 : decide (23 < h) = false) (a2 : decide (m < 0) = false) (a3 : decide (59 < m) = false) (a4 : decide (s < 0) = false) (a5 : decide (59 < s) = false) (a6 : decide (f < 0) = false) (a7 : decide (30 ≤ f) = false) (b9 : 0 ≤ m) (b0 : (s == 0) = false) :
    Calls Tryd.prog 54 #[.int .u8 4, .agg #[.int .i64 h, .int .i64 m, .int .i64 s, .int .i64 f, .bool d]] w fun e w' => e = .returned (.int .i64 0) ∧ Below w.heap.size w w' := by
  obtain ⟨B, hB⟩ : ∃ B, B = w.heap.size := ⟨_, rfl⟩
  rw [← hB]
  go_enter Tryd.func54, Tryd.ntmps54
  go_wp2_with (go_at_call 50; refine (rateError_any _ _).mono ?_; rintro e w1 ⟨rfl, hb⟩)
  have H := Lib.hid ((show Held (w.alloc (.cells #[.int .i64 h, .int .i64 m, .int .i64 s, .int .i64 f, .bool d] 56)) B [.int .i64 h, .int .i64 m, .int .i64 s, .int .i64 f, .bool d] from Held.new hB).ext hb)
  have FB := Lib.hid (show Below B w w1 by subst hB; exact bthen (below_one _ _) hb)
  clear hb
  rw [← hB]
  clear hB
  have q0 := H.out.cell 0
  have q1 := H.out.cell 1
  have q2 := H.out.cell 2
  have q3 := H.out.cell 3
  have q4 := H.out.cell 4
  simp only [List.getElem?_cons_zero, List.getElem?_cons_succ] at q0 q1 q2 q3 q4
  have hlt : B < w1.heap.size := H.out.lt
  go_region_held3 (fun w9 => w9.cell? ⟨B, 0, none⟩ = some (.int .i64 h) ∧ w9.cell? ⟨B, 1, none⟩ = some (.int .i64 m) ∧ w9.cell? ⟨B, 2, none⟩ = some (.int .i64 s) ∧ w9.cell? ⟨B, 3, none⟩ = some (.int .i64 f) ∧ w9.cell? ⟨B, 4, none⟩ = some (.bool d))
    (first
      | go_keep
      | (go_split_ands
         refine ⟨?_, ?_, ?_, ?_, ?_⟩ <;> (rw [hb2.cell (by simp; omega)]; go_simp)))
    ((go_at_call 51; refine (nominal_any _).mono ?_; rintro e w2 ⟨rfl, hb2⟩))
  have HB2 := Lib.hid (FB.out.drew.trans (hb2.mono (by simp; omega)))
  have H2 := Lib.hid (H.out.drewN 1 |>.ext (w := w1.drew) hb2)
  clear hb2
  have p0 := H2.out.cell 0
  have p1 := H2.out.cell 1
  have p2 := H2.out.cell 2
  have p3 := H2.out.cell 3
  have p4 := H2.out.cell 4
  simp only [List.getElem?_cons_zero, List.getElem?_cons_succ] at p0 p1 p2 p3 p4
  go_wp2_with fail
  go_quiet (fail)
  go_wp2_with fail
  go_ret
  exact ⟨rfl, below_drewN HB2.out _⟩
set_option maxHeartbeats 1000000 in
theorem chk_8b (h m s f : Int) (d : Bool) (w : World) (a0 : decide (h < 0) = false) (a1 : decide (23 < h) = false) (a2 : decide (m < 0) = false) (a3 : decide (59 < m) = false) (a4 : decide (s < 0) = false) (a5 : decide (59 < s) = false) (a6 : decide (f < 0) = false) (a7 : decide (30 ≤ f) = false) (b9 : 0 ≤ m) (b0 : (s == 0) = true) (b1 : (m % 10 != 0) = false) :
    Calls Tryd.prog 54 #[.int .u8 4, .agg #[.int .i64 h, .int .i64 m, .int .i64 s, .int .i64 f, .bool d]] w fun e w' => e = .returned (.int .i64 0) ∧ Below w.heap.size w w' := by
  obtain ⟨B, hB⟩ : ∃ B, B = w.heap.size := ⟨_, rfl⟩
  rw [← hB]
  go_enter Tryd.func54, Tryd.ntmps54
  go_wp2_with (go_at_call 50; refine (rateError_any _ _).mono ?_; rintro e w1 ⟨rfl, hb⟩)
  have H := Lib.hid ((show Held (w.alloc (.cells #[.int .i64 h, .int .i64 m, .int .i64 s, .int .i64 f, .bool d] 56)) B [.int .i64 h, .int .i64 m, .int .i64 s, .int .i64 f, .bool d] from Held.new hB).ext hb)
  have FB := Lib.hid (show Below B w w1 by subst hB; exact bthen (below_one _ _) hb)
  clear hb
  rw [← hB]
  clear hB
  have q0 := H.out.cell 0
  have q1 := H.out.cell 1
  have q2 := H.out.cell 2
  have q3 := H.out.cell 3
  have q4 := H.out.cell 4
  simp only [List.getElem?_cons_zero, List.getElem?_cons_succ] at q0 q1 q2 q3 q4
  have hlt : B < w1.heap.size := H.out.lt
  go_region_held3 (fun w9 => w9.cell? ⟨B, 0, none⟩ = some (.int .i64 h) ∧ w9.cell? ⟨B, 1, none⟩ = some (.int .i64 m) ∧ w9.cell? ⟨B, 2, none⟩ = some (.int .i64 s) ∧ w9.cell? ⟨B, 3, none⟩ = some (.int .i64 f) ∧ w9.cell? ⟨B, 4, none⟩ = some (.bool d))
    (first
      | go_keep
      | (go_split_ands
         refine ⟨?_, ?_, ?_, ?_, ?_⟩ <;> (rw [hb2.cell (by simp; omega)]; go_simp)))
    ((go_at_call 51; refine (nominal_any _).mono ?_; rintro e w2 ⟨rfl, hb2⟩))
  have HB2 := Lib.hid (FB.out.drew.trans (hb2.mono (by simp; omega)))
  have H2 := Lib.hid (H.out.drewN 1 |>.ext (w := w1.drew) hb2)
  clear hb2
  have p0 := H2.out.cell 0
  have p1 := H2.out.cell 1
  have p2 := H2.out.cell 2
  have p3 := H2.out.cell 3
  have p4 := H2.out.cell 4
  simp only [List.getElem?_cons_zero, List.getElem?_cons_succ] at p0 p1 p2 p3 p4
  go_wp2_with fail
  go_quiet (fail)
  go_wp2_with fail
  go_ret
  exact ⟨rfl, below_drewN HB2.out _⟩
set_option maxHeartbeats 1000000 in
theorem chk_8c (h m s f : Int) (d : Bool) (w : World) (a0 : decide (h < 0) = false) (a1 : decide (23 < h) = false) (a2 : decide (m < 0) = false) (a3 : decide (59 < m) = false) (a4 : decide (s < 0) = false) (a5 : decide (59 < s) = false) (a6 : decide (f < 0) = false) (a7 : decide (30 ≤ f) = false) (b9 : 0 ≤ m) (b0 : (s == 0) = true) (b1 : (m % 10 != 0) = true) (b2 : decide (f < drp d) = true) :
    Calls Tryd.prog 54 #[.int .u8 4, .agg #[.int .i64 h, .int .i64 m, .int .i64 s, .int .i64 f, .bool d]] w fun e w' => e = .returned (.int .i64 6) ∧ Below w.heap.size w w' := by
  obtain ⟨B, hB⟩ : ∃ B, B = w.heap.size := ⟨_, rfl⟩
  rw [← hB]
  go_enter Tryd.func54, Tryd.ntmps54
  go_wp2_with (go_at_call 50; refine (rateError_any _ _).mono ?_; rintro e w1 ⟨rfl, hb⟩)
  have H := Lib.hid ((show Held (w.alloc (.cells #[.int .i64 h, .int .i64 m, .int .i64 s, .int .i64 f, .bool d] 56)) B [.int .i64 h, .int .i64 m, .int .i64 s, .int .i64 f, .bool d] from Held.new hB).ext hb)
  have FB := Lib.hid (show Below B w w1 by subst hB; exact bthen (below_one _ _) hb)
  clear hb
  rw [← hB]
  clear hB
  have q0 := H.out.cell 0
  have q1 := H.out.cell 1
  have q2 := H.out.cell 2
  have q3 := H.out.cell 3
  have q4 := H.out.cell 4
  simp only [List.getElem?_cons_zero, List.getElem?_cons_succ] at q0 q1 q2 q3 q4
  have hlt : B < w1.heap.size := H.out.lt
  go_region_held3 (fun w9 => w9.cell? ⟨B, 0, none⟩ = some (.int .i64 h) ∧ w9.cell? ⟨B, 1, none⟩ = some (.int .i64 m) ∧ w9.cell? ⟨B, 2, none⟩ = some (.int .i64 s) ∧ w9.cell? ⟨B, 3, none⟩ = some (.int .i64 f) ∧ w9.cell? ⟨B, 4, none⟩ = some (.bool d))
    (first
      | go_keep
      | (go_split_ands
         refine ⟨?_, ?_, ?_, ?_, ?_⟩ <;> (rw [hb2.cell (by simp; omega)]; go_simp)))
    ((go_at_call 51; refine (nominal_any _).mono ?_; rintro e w2 ⟨rfl, hb2⟩))
  have HB2 := Lib.hid (FB.out.drew.trans (hb2.mono (by simp; omega)))
  have H2 := Lib.hid (H.out.drewN 1 |>.ext (w := w1.drew) hb2)
  clear hb2
  have p0 := H2.out.cell 0
  have p1 := H2.out.cell 1
  have p2 := H2.out.cell 2
  have p3 := H2.out.cell 3
  have p4 := H2.out.cell 4
  simp only [List.getElem?_cons_zero, List.getElem?_cons_succ] at p0 p1 p2 p3 p4
  go_wp2_with fail
  go_quiet ((go_at_call 52; exact quiet_left (dropped_any _ _)))
  go_wp2_with fail
  go_ret
  exact ⟨rfl, below_drewN HB2.out _⟩
set_option maxHeartbeats 1000000 in
theorem chk_8d (h m s f : Int) (d : Bool) (w : World) (a0 : decide (h < 0) = false) (a1 : decide (23 < h) = false) (a2 : decide (m < 0) = false) (a3 : decide (59 < m) = false) (a4 : decide (s < 0) = false) (a5 : decide (59 < s) = false) (a6 : decide (f < 0) = false) (a7 : decide (30 ≤ f) = false) (b9 : 0 ≤ m) (b0 : (s == 0) = true) (b1 : (m % 10 != 0) = true) (b2 : decide (f < drp d) = false) :
    Calls Tryd.prog 54 #[.int .u8 4, .agg #[.int .i64 h, .int .i64 m, .int .i64 s, .int .i64 f, .bool d]] w fun e w' => e = .returned (.int .i64 0) ∧ Below w.heap.size w w' := by
  obtain ⟨B, hB⟩ : ∃ B, B = w.heap.size := ⟨_, rfl⟩
  rw [← hB]
  go_enter Tryd.func54, Tryd.ntmps54
  go_wp2_with (go_at_call 50; refine (rateError_any _ _).mono ?_; rintro e w1 ⟨rfl, hb⟩)
  have H := Lib.hid ((show Held (w.alloc (.cells #[.int .i64 h, .int .i64 m, .int .i64 s, .int .i64 f, .bool d] 56)) B [.int .i64 h, .int .i64 m, .int .i64 s, .int .i64 f, .bool d] from Held.new hB).ext hb)
  have FB := Lib.hid (show Below B w w1 by subst hB; exact bthen (below_one _ _) hb)
  clear hb
  rw [← hB]
  clear hB
  have q0 := H.out.cell 0
  have q1 := H.out.cell 1
  have q2 := H.out.cell 2
  have q3 := H.out.cell 3
  have q4 := H.out.cell 4
  simp only [List.getElem?_cons_zero, List.getElem?_cons_succ] at q0 q1 q2 q3 q4
  have hlt : B < w1.heap.size := H.out.lt
  go_region_held3 (fun w9 => w9.cell? ⟨B, 0, none⟩ = some (.int .i64 h) ∧ w9.cell? ⟨B, 1, none⟩ = some (.int .i64 m) ∧ w9.cell? ⟨B, 2, none⟩ = some (.int .i64 s) ∧ w9.cell? ⟨B, 3, none⟩ = some (.int .i64 f) ∧ w9.cell? ⟨B, 4, none⟩ = some (.bool d))
    (first
      | go_keep
      | (go_split_ands
         refine ⟨?_, ?_, ?_, ?_, ?_⟩ <;> (rw [hb2.cell (by simp; omega)]; go_simp)))
    ((go_at_call 51; refine (nominal_any _).mono ?_; rintro e w2 ⟨rfl, hb2⟩))
  have HB2 := Lib.hid (FB.out.drew.trans (hb2.mono (by simp; omega)))
  have H2 := Lib.hid (H.out.drewN 1 |>.ext (w := w1.drew) hb2)
  clear hb2
  have p0 := H2.out.cell 0
  have p1 := H2.out.cell 1
  have p2 := H2.out.cell 2
  have p3 := H2.out.cell 3
  have p4 := H2.out.cell 4
  simp only [List.getElem?_cons_zero, List.getElem?_cons_succ] at p0 p1 p2 p3 p4
  go_wp2_with fail
  go_quiet ((go_at_call 52; exact quiet_left (dropped_any _ _)))
  go_wp2_with fail
  go_ret
  exact ⟨rfl, below_drewN HB2.out _⟩
theorem chk_any (l : Lab) (w : World) :
    Calls Tryd.prog 54 #[.int .u8 4, labA l] w fun e w' => e = .returned (.int .i64 (chkL l)) ∧ Below w.heap.size w w' := by
  obtain ⟨h, m, s, f, d⟩ := l
  unfold chkL labA
  simp only []
  by_cases c0 : h < 0
  · rw [if_pos (by omega)]
    exact chk_0 h m s f d w  (by simp; omega)
  by_cases c1 : 23 < h
  · rw [if_pos (by omega)]
    exact chk_1 h m s f d w (by simp; omega) (by simp; omega)
  by_cases c2 : m < 0
  · rw [if_pos (by omega)]
    exact chk_2 h m s f d w (by simp; omega) (by simp; omega) (by simp; omega)
  by_cases c3 : 59 < m
  · rw [if_pos (by omega)]
    exact chk_3 h m s f d w (by simp; omega) (by simp; omega) (by simp; omega) (by simp; omega)
  by_cases c4 : s < 0
  · rw [if_pos (by omega)]
    exact chk_4 h m s f d w (by simp; omega) (by simp; omega) (by simp; omega) (by simp; omega) (by simp; omega)
  by_cases c5 : 59 < s
  · rw [if_pos (by omega)]
    exact chk_5 h m s f d w (by simp; omega) (by simp; omega) (by simp; omega) (by simp; omega) (by simp; omega) (by simp; omega)
  by_cases c6 : f < 0
  · rw [if_pos (by omega)]
    exact chk_6 h m s f d w (by simp; omega) (by simp; omega) (by simp; omega) (by simp; omega) (by simp; omega) (by simp; omega) (by simp; omega)
  by_cases c7 : 30 ≤ f
  · rw [if_pos (by omega)]
    exact chk_7 h m s f d w (by simp; omega) (by simp; omega) (by simp; omega) (by simp; omega) (by simp; omega) (by simp; omega) (by simp; omega) (by simp; omega)
  rw [if_neg (by omega)]
  by_cases e0 : s = 0
  · by_cases e1 : m % 10 = 0
    · rw [if_neg (by omega)]
      exact chk_8b h m s f d w (by simp; omega) (by simp; omega) (by simp; omega) (by simp; omega) (by simp; omega) (by simp; omega) (by simp; omega) (by simp; omega) (by omega) (by simp [e0]) (by simp [e1])
    · by_cases e2 : f < drp d
      · rw [if_pos ⟨e0, e1, e2⟩]
        exact chk_8c h m s f d w (by simp; omega) (by simp; omega) (by simp; omega) (by simp; omega) (by simp; omega) (by simp; omega) (by simp; omega) (by simp; omega) (by omega) (by simp [e0]) (by simp [e1]) (by simp [e2])
      · rw [if_neg (by omega)]
        exact chk_8d h m s f d w (by simp; omega) (by simp; omega) (by simp; omega) (by simp; omega) (by simp; omega) (by simp; omega) (by simp; omega) (by simp; omega) (by omega) (by simp [e0]) (by simp [e1]) (by simpa using e2)
  · rw [if_neg (by omega)]
    exact chk_8a h m s f d w (by simp; omega) (by simp; omega) (by simp; omega) (by simp; omega) (by simp; omega) (by simp; omega) (by simp; omega) (by simp; omega) (by omega) (by simp [e0])
end Go.Proofs.YtbliilemjkjimaaDoor
