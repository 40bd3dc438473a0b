/-
  The contracts of Check of layer 3 at the rate 29.97, in the program and in the reference. Their conditions are their hypotheses.
-/
import Derived.Test.YtbliilemjkjimaaDoorC8
namespace Go.Proofs.YtbliilemjkjimaaDoor
open Go.RowKit Go.Joins
set_option linter.unusedVariables false
set_option linter.unusedSimpArgs false
set_option maxHeartbeats 1000000 in
theorem chkr_0 (h m s f : Int) (d : Bool) (w : World) (a0 : decide (h < 0) = true) :
    Calls Tryd.prog 61 #[.int .u8 4, .agg #[.int .i64 h, .int .i64 m, .int .i64 s, .int .i64 f, .bool d]] w fun e w' => e = .returned (.int .i64 2) ∧ Below w.heap.size w w' := by
  obtain ⟨B, hB⟩ : ∃ B, B = w.heap.size := ⟨_, rfl⟩
  rw [← hB]
  go_enter Tryd.func61, Tryd.ntmps61
  go_wp2_with (go_at_call 60; refine (kind_any _ _).mono ?_; rintro e w1 ⟨rfl, rfl⟩)
  generalize hw : w.alloc _ = w1
  have H := Lib.hid (show Held w1 B [.int .i64 h, .int .i64 m, .int .i64 s, .int .i64 f, .bool d] by subst hw; exact Held.new hB)
  have FB := Lib.hid (show Below B w w1 by subst hw; subst hB; exact below_one _ _)
  clear hw
  rw [← hB]
  clear hB
  have q0 := H.out.cell 0
  have q1 := H.out.cell 1
  have q2 := H.out.cell 2
  have q3 := H.out.cell 3
  have q4 := H.out.cell 4
  simp only [List.getElem?_cons_zero, List.getElem?_cons_succ] at q0 q1 q2 q3 q4
  go_quiet (fail)
  go_wp2_with fail
  go_ret
  exact ⟨rfl, below_drewN FB.out _⟩
set_option maxHeartbeats 1000000 in
theorem chkr_1 (h m s f : Int) (d : Bool) (w : World) (a0 : decide (h < 0) = false) (a1 : decide (23 < h) = true) :
    Calls Tryd.prog 61 #[.int .u8 4, .agg #[.int .i64 h, .int .i64 m, .int .i64 s, .int .i64 f, .bool d]] w fun e w' => e = .returned (.int .i64 2) ∧ Below w.heap.size w w' := by
  obtain ⟨B, hB⟩ : ∃ B, B = w.heap.size := ⟨_, rfl⟩
  rw [← hB]
  go_enter Tryd.func61, Tryd.ntmps61
  go_wp2_with (go_at_call 60; refine (kind_any _ _).mono ?_; rintro e w1 ⟨rfl, rfl⟩)
  generalize hw : w.alloc _ = w1
  have H := Lib.hid (show Held w1 B [.int .i64 h, .int .i64 m, .int .i64 s, .int .i64 f, .bool d] by subst hw; exact Held.new hB)
  have FB := Lib.hid (show Below B w w1 by subst hw; subst hB; exact below_one _ _)
  clear hw
  rw [← hB]
  clear hB
  have q0 := H.out.cell 0
  have q1 := H.out.cell 1
  have q2 := H.out.cell 2
  have q3 := H.out.cell 3
  have q4 := H.out.cell 4
  simp only [List.getElem?_cons_zero, List.getElem?_cons_succ] at q0 q1 q2 q3 q4
  go_quiet (fail)
  go_wp2_with fail
  go_ret
  exact ⟨rfl, below_drewN FB.out _⟩
set_option maxHeartbeats 1000000 in
theorem chkr_2 (h m s f : Int) (d : Bool) (w : World) (a0 : decide (h < 0) = false) (a1 : decide (23 < h) = false) (a2 : decide (m < 0) = true) :
    Calls Tryd.prog 61 #[.int .u8 4, .agg #[.int .i64 h, .int .i64 m, .int .i64 s, .int .i64 f, .bool d]] w fun e w' => e = .returned (.int .i64 2) ∧ Below w.heap.size w w' := by
  obtain ⟨B, hB⟩ : ∃ B, B = w.heap.size := ⟨_, rfl⟩
  rw [← hB]
  go_enter Tryd.func61, Tryd.ntmps61
  go_wp2_with (go_at_call 60; refine (kind_any _ _).mono ?_; rintro e w1 ⟨rfl, rfl⟩)
  generalize hw : w.alloc _ = w1
  have H := Lib.hid (show Held w1 B [.int .i64 h, .int .i64 m, .int .i64 s, .int .i64 f, .bool d] by subst hw; exact Held.new hB)
  have FB := Lib.hid (show Below B w w1 by subst hw; subst hB; exact below_one _ _)
  clear hw
  rw [← hB]
  clear hB
  have q0 := H.out.cell 0
  have q1 := H.out.cell 1
  have q2 := H.out.cell 2
  have q3 := H.out.cell 3
  have q4 := H.out.cell 4
  simp only [List.getElem?_cons_zero, List.getElem?_cons_succ] at q0 q1 q2 q3 q4
  go_quiet (fail)
  go_wp2_with fail
  go_ret
  exact ⟨rfl, below_drewN FB.out _⟩
set_option maxHeartbeats 1000000 in
theorem chkr_3 (h m s f : Int) (d : Bool) (w : World) (a0 : decide (h < 0) = false) (a1 : decide (23 < h) = false) (a2 : decide (m < 0) = false) (a3 : decide (59 < m) = true) :
    Calls Tryd.prog 61 #[.int .u8 4, .agg #[.int .i64 h, .int .i64 m, .int .i64 s, .int .i64 f, .bool d]] w fun e w' => e = .returned (.int .i64 2) ∧ Below w.heap.size w w' := by
  obtain ⟨B, hB⟩ : ∃ B, B = w.heap.size := ⟨_, rfl⟩
  rw [← hB]
  go_enter Tryd.func61, Tryd.ntmps61
  go_wp2_with (go_at_call 60; refine (kind_any _ _).mono ?_; rintro e w1 ⟨rfl, rfl⟩)
  generalize hw : w.alloc _ = w1
  have H := Lib.hid (show Held w1 B [.int .i64 h, .int .i64 m, .int .i64 s, .int .i64 f, .bool d] by subst hw; exact Held.new hB)
  have FB := Lib.hid (show Below B w w1 by subst hw; subst hB; exact below_one _ _)
  clear hw
  rw [← hB]
  clear hB
  have q0 := H.out.cell 0
  have q1 := H.out.cell 1
  have q2 := H.out.cell 2
  have q3 := H.out.cell 3
  have q4 := H.out.cell 4
  simp only [List.getElem?_cons_zero, List.getElem?_cons_succ] at q0 q1 q2 q3 q4
  go_quiet (fail)
  go_wp2_with fail
  go_ret
  exact ⟨rfl, below_drewN FB.out _⟩
set_option maxHeartbeats 1000000 in
theorem chkr_4 (h m s f : Int) (d : Bool) (w : World) (a0 : decide (h < 0) = false) (a1 : decide (23 < h) = false) (a2 : decide (m < 0) = false) (a3 : decide (59 < m) = false) (a4 : decide (s < 0) = true) :
    Calls Tryd.prog 61 #[.int .u8 4, .agg #[.int .i64 h, .int .i64 m, .int .i64 s, .int .i64 f, .bool d]] w fun e w' => e = .returned (.int .i64 2) ∧ Below w.heap.size w w' := by
  obtain ⟨B, hB⟩ : ∃ B, B = w.heap.size := ⟨_, rfl⟩
  rw [← hB]
  go_enter Tryd.func61, Tryd.ntmps61
  go_wp2_with (go_at_call 60; refine (kind_any _ _).mono ?_; rintro e w1 ⟨rfl, rfl⟩)
  generalize hw : w.alloc _ = w1
  have H := Lib.hid (show Held w1 B [.int .i64 h, .int .i64 m, .int .i64 s, .int .i64 f, .bool d] by subst hw; exact Held.new hB)
  have FB := Lib.hid (show Below B w w1 by subst hw; subst hB; exact below_one _ _)
  clear hw
  rw [← hB]
  clear hB
  have q0 := H.out.cell 0
  have q1 := H.out.cell 1
  have q2 := H.out.cell 2
  have q3 := H.out.cell 3
  have q4 := H.out.cell 4
  simp only [List.getElem?_cons_zero, List.getElem?_cons_succ] at q0 q1 q2 q3 q4
  go_quiet (fail)
  go_wp2_with fail
  go_ret
  exact ⟨rfl, below_drewN FB.out _⟩
set_option maxHeartbeats 1000000 in
theorem chkr_5 (h m s f : Int) (d : Bool) (w : World) (a0 : decide (h < 0) = false) (a1 : decide (23 < h) = false) (a2 : decide (m < 0) = false) (a3 : decide (59 < m) = false) (a4 : decide (s < 0) = false) (a5 : decide (59 < s) = true) :
    Calls Tryd.prog 61 #[.int .u8 4, .agg #[.int .i64 h, .int .i64 m, .int .i64 s, .int .i64 f, .bool d]] w fun e w' => e = .returned (.int .i64 2) ∧ Below w.heap.size w w' := by
  obtain ⟨B, hB⟩ : ∃ B, B = w.heap.size := ⟨_, rfl⟩
  rw [← hB]
  go_enter Tryd.func61, Tryd.ntmps61
  go_wp2_with (go_at_call 60; refine (kind_any _ _).mono ?_; rintro e w1 ⟨rfl, rfl⟩)
  generalize hw : w.alloc _ = w1
  have H := Lib.hid (show Held w1 B [.int .i64 h, .int .i64 m, .int .i64 s, .int .i64 f, .bool d] by subst hw; exact Held.new hB)
  have FB := Lib.hid (show Below B w w1 by subst hw; subst hB; exact below_one _ _)
  clear hw
  rw [← hB]
  clear hB
  have q0 := H.out.cell 0
  have q1 := H.out.cell 1
  have q2 := H.out.cell 2
  have q3 := H.out.cell 3
  have q4 := H.out.cell 4
  simp only [List.getElem?_cons_zero, List.getElem?_cons_succ] at q0 q1 q2 q3 q4
  go_quiet (fail)
  go_wp2_with fail
  go_ret
  exact ⟨rfl, below_drewN FB.out _⟩
set_option maxHeartbeats 1000000 in
theorem chkr_6 (h m s f : Int) (d : Bool) (w : World) (a0 : decide (h < 0) = false) (a1 : decide (23 < h) = false) (a2 : decide (m < 0) = false) (a3 : decide (59 < m) = false) (a4 : decide (s < 0) = false) (a5 : decide (59 < s) = false) (a6 : decide (f < 0) = true) :
    Calls Tryd.prog 61 #[.int .u8 4, .agg #[.int .i64 h, .int .i64 m, .int .i64 s, .int .i64 f, .bool d]] w fun e w' => e = .returned (.int .i64 2) ∧ Below w.heap.size w w' := by
  obtain ⟨B, hB⟩ : ∃ B, B = w.heap.size := ⟨_, rfl⟩
  rw [← hB]
  go_enter Tryd.func61, Tryd.ntmps61
  go_wp2_with (go_at_call 60; refine (kind_any _ _).mono ?_; rintro e w1 ⟨rfl, rfl⟩)
  generalize hw : w.alloc _ = w1
  have H := Lib.hid (show Held w1 B [.int .i64 h, .int .i64 m, .int .i64 s, .int .i64 f, .bool d] by subst hw; exact Held.new hB)
  have FB := Lib.hid (show Below B w w1 by subst hw; subst hB; exact below_one _ _)
  clear hw
  rw [← hB]
  clear hB
  have q0 := H.out.cell 0
  have q1 := H.out.cell 1
  have q2 := H.out.cell 2
  have q3 := H.out.cell 3
  have q4 := H.out.cell 4
  simp only [List.getElem?_cons_zero, List.getElem?_cons_succ] at q0 q1 q2 q3 q4
  go_quiet (fail)
  go_wp2_with fail
  go_ret
  exact ⟨rfl, below_drewN FB.out _⟩
set_option maxHeartbeats 1000000 in
theorem chkr_7 (h m s f : Int) (d : Bool) (w : World) (a0 : decide (h < 0) = false) (a1 : decide (23 < h) = false) (a2 : decide (m < 0) = false) (a3 : decide (59 < m) = false) (a4 : decide (s < 0) = false) (a5 : decide (59 < s) = false) (a6 : decide (f < 0) = false) (a7 : decide (30 ≤ f) = true) :
    Calls Tryd.prog 61 #[.int .u8 4, .agg #[.int .i64 h, .int .i64 m, .int .i64 s, .int .i64 f, .bool d]] w fun e w' => e = .returned (.int .i64 2) ∧ Below w.heap.size w w' := by
  obtain ⟨B, hB⟩ : ∃ B, B = w.heap.size := ⟨_, rfl⟩
  rw [← hB]
  go_enter Tryd.func61, Tryd.ntmps61
  go_wp2_with (go_at_call 60; refine (kind_any _ _).mono ?_; rintro e w1 ⟨rfl, rfl⟩)
  generalize hw : w.alloc _ = w1
  have H := Lib.hid (show Held w1 B [.int .i64 h, .int .i64 m, .int .i64 s, .int .i64 f, .bool d] by subst hw; exact Held.new hB)
  have FB := Lib.hid (show Below B w w1 by subst hw; subst hB; exact below_one _ _)
  clear hw
  rw [← hB]
  clear hB
  have q0 := H.out.cell 0
  have q1 := H.out.cell 1
  have q2 := H.out.cell 2
  have q3 := H.out.cell 3
  have q4 := H.out.cell 4
  simp only [List.getElem?_cons_zero, List.getElem?_cons_succ] at q0 q1 q2 q3 q4
  have hlt : B < w1.heap.size := H.out.lt
  go_region_held3 (fun w9 => w9.cell? ⟨B, 0, none⟩ = some (.int .i64 h) ∧ w9.cell? ⟨B, 1, none⟩ = some (.int .i64 m) ∧ w9.cell? ⟨B, 2, none⟩ = some (.int .i64 s) ∧ w9.cell? ⟨B, 3, none⟩ = some (.int .i64 f) ∧ w9.cell? ⟨B, 4, none⟩ = some (.bool d))
    (first
      | go_keep
      | (go_split_ands
         refine ⟨?_, ?_, ?_, ?_, ?_⟩ <;> (rw [hb2.cell (by simp; omega)]; go_simp)))
    ((go_at_call 58; refine (nominalr_any _).mono ?_; rintro e w2 ⟨rfl, hb2⟩))
  go_wp2_with fail
  go_ret
  exact ⟨rfl, FB.out.drew.trans (hb2.mono (by simp; omega))⟩
set_option maxHeartbeats 1000000 in
theorem chkr_8a0 (h m s f : Int) (d : Bool) (w : World) (a0 : decide (h < 0) = false) (a1 : decide (23 < h) = false) (a2 : decide (m < 0) = false) (a3 : decide (59 < m) = false) (a4 : decide (s < 0) = false) (a5 : decide (59 < s) = false) (a6 : decide (f < 0) = false) (a7 : decide (30 ≤ f) = false) (b9 : 0 ≤ m)  :
    Calls Tryd.prog 61 #[.int .u8 4, .agg #[.int .i64 h, .int .i64 m, .int .i64 s, .int .i64 f, .bool false]] w fun e w' => e = .returned (.int .i64 0) ∧ Below w.heap.size w w' := by
  obtain ⟨B, hB⟩ : ∃ B, B = w.heap.size := ⟨_, rfl⟩
  rw [← hB]
  go_enter Tryd.func61, Tryd.ntmps61
  go_wp2_with (go_at_call 60; refine (kind_any _ _).mono ?_; rintro e w1 ⟨rfl, rfl⟩)
  generalize hw : w.alloc _ = w1
  have H := Lib.hid (show Held w1 B [.int .i64 h, .int .i64 m, .int .i64 s, .int .i64 f, .bool false] by subst hw; exact Held.new hB)
  have FB := Lib.hid (show Below B w w1 by subst hw; subst hB; exact below_one _ _)
  clear hw
  rw [← hB]
  clear hB
  have q0 := H.out.cell 0
  have q1 := H.out.cell 1
  have q2 := H.out.cell 2
  have q3 := H.out.cell 3
  have q4 := H.out.cell 4
  simp only [List.getElem?_cons_zero, List.getElem?_cons_succ] at q0 q1 q2 q3 q4
  have hlt : B < w1.heap.size := H.out.lt
  go_region_held3 (fun w9 => w9.cell? ⟨B, 0, none⟩ = some (.int .i64 h) ∧ w9.cell? ⟨B, 1, none⟩ = some (.int .i64 m) ∧ w9.cell? ⟨B, 2, none⟩ = some (.int .i64 s) ∧ w9.cell? ⟨B, 3, none⟩ = some (.int .i64 f) ∧ w9.cell? ⟨B, 4, none⟩ = some (.bool false))
    (first
      | go_keep
      | (go_split_ands
         refine ⟨?_, ?_, ?_, ?_, ?_⟩ <;> (rw [hb2.cell (by simp; omega)]; go_simp)))
    ((go_at_call 58; refine (nominalr_any _).mono ?_; rintro e w2 ⟨rfl, hb2⟩))
  have HB2 := Lib.hid (FB.out.drew.trans (hb2.mono (by simp; omega)))
  have H2 := Lib.hid (H.out.drewN 1 |>.ext (w := w1.drew) hb2)
  clear hb2
  have p0 := H2.out.cell 0
  have p1 := H2.out.cell 1
  have p2 := H2.out.cell 2
  have p3 := H2.out.cell 3
  have p4 := H2.out.cell 4
  simp only [List.getElem?_cons_zero, List.getElem?_cons_succ] at p0 p1 p2 p3 p4
  go_wp2_with fail
  go_quiet (fail)
  go_wp2_with fail
  go_ret
  exact ⟨rfl, below_drewN HB2.out _⟩
set_option maxHeartbeats 1000000 in
theorem chkr_8a (h m s f : Int) (d : Bool) (w : World) (a0 : decide (h < 0) = false) (a1 : decide (23 < h) = false) (a2 : decide (m < 0) = false) (a3 : decide (59 < m) = false) (a4 : decide (s < 0) = false) (a5 : decide (59 < s) = false) (a6 : decide (f < 0) = false) (a7 : decide (30 ≤ f) = false) (b9 : 0 ≤ m)  (b0 : (s == 0) = false) :
    Calls Tryd.prog 61 #[.int .u8 4, .agg #[.int .i64 h, .int .i64 m, .int .i64 s, .int .i64 f, .bool true]] w fun e w' => e = .returned (.int .i64 0) ∧ Below w.heap.size w w' := by
  obtain ⟨B, hB⟩ : ∃ B, B = w.heap.size := ⟨_, rfl⟩
  rw [← hB]
  go_enter Tryd.func61, Tryd.ntmps61
  go_wp2_with (go_at_call 60; refine (kind_any _ _).mono ?_; rintro e w1 ⟨rfl, rfl⟩)
  generalize hw : w.alloc _ = w1
  have H := Lib.hid (show Held w1 B [.int .i64 h, .int .i64 m, .int .i64 s, .int .i64 f, .bool true] by subst hw; exact Held.new hB)
  have FB := Lib.hid (show Below B w w1 by subst hw; subst hB; exact below_one _ _)
  clear hw
  rw [← hB]
  clear hB
  have q0 := H.out.cell 0
  have q1 := H.out.cell 1
  have q2 := H.out.cell 2
  have q3 := H.out.cell 3
  have q4 := H.out.cell 4
  simp only [List.getElem?_cons_zero, List.getElem?_cons_succ] at q0 q1 q2 q3 q4
  have hlt : B < w1.heap.size := H.out.lt
  go_region_held3 (fun w9 => w9.cell? ⟨B, 0, none⟩ = some (.int .i64 h) ∧ w9.cell? ⟨B, 1, none⟩ = some (.int .i64 m) ∧ w9.cell? ⟨B, 2, none⟩ = some (.int .i64 s) ∧ w9.cell? ⟨B, 3, none⟩ = some (.int .i64 f) ∧ w9.cell? ⟨B, 4, none⟩ = some (.bool true))
    (first
      | go_keep
      | (go_split_ands
         refine ⟨?_, ?_, ?_, ?_, ?_⟩ <;> (rw [hb2.cell (by simp; omega)]; go_simp)))
    ((go_at_call 58; refine (nominalr_any _).mono ?_; rintro e w2 ⟨rfl, hb2⟩))
  have HB2 := Lib.hid (FB.out.drew.trans (hb2.mono (by simp; omega)))
  have H2 := Lib.hid (H.out.drewN 1 |>.ext (w := w1.drew) hb2)
  clear hb2
  have p0 := H2.out.cell 0
  have p1 := H2.out.cell 1
  have p2 := H2.out.cell 2
  have p3 := H2.out.cell 3
  have p4 := H2.out.cell 4
  simp only [List.getElem?_cons_zero, List.getElem?_cons_succ] at p0 p1 p2 p3 p4
  go_wp2_with fail
  go_quiet (fail)
  go_wp2_with fail
  go_ret
  exact ⟨rfl, below_drewN HB2.out _⟩
set_option maxHeartbeats 1000000 in
theorem chkr_8b (h m s f : Int) (d : Bool) (w : World) (a0 : decide (h < 0) = false) (a1 : decide (23 < h) = false) (a2 : decide (m < 0) = false) (a3 : decide (59 < m) = false) (a4 : decide (s < 0) = false) (a5 : decide (59 < s) = false) (a6 : decide (f < 0) = false) (a7 : decide (30 ≤ f) = false) (b9 : 0 ≤ m)  (b0 : (s == 0) = true) (b1 : (m % 10 != 0) = false) :
    Calls Tryd.prog 61 #[.int .u8 4, .agg #[.int .i64 h, .int .i64 m, .int .i64 s, .int .i64 f, .bool true]] w fun e w' => e = .returned (.int .i64 0) ∧ Below w.heap.size w w' := by
  obtain ⟨B, hB⟩ : ∃ B, B = w.heap.size := ⟨_, rfl⟩
  rw [← hB]
  go_enter Tryd.func61, Tryd.ntmps61
  go_wp2_with (go_at_call 60; refine (kind_any _ _).mono ?_; rintro e w1 ⟨rfl, rfl⟩)
  generalize hw : w.alloc _ = w1
  have H := Lib.hid (show Held w1 B [.int .i64 h, .int .i64 m, .int .i64 s, .int .i64 f, .bool true] by subst hw; exact Held.new hB)
  have FB := Lib.hid (show Below B w w1 by subst hw; subst hB; exact below_one _ _)
  clear hw
  rw [← hB]
  clear hB
  have q0 := H.out.cell 0
  have q1 := H.out.cell 1
  have q2 := H.out.cell 2
  have q3 := H.out.cell 3
  have q4 := H.out.cell 4
  simp only [List.getElem?_cons_zero, List.getElem?_cons_succ] at q0 q1 q2 q3 q4
  have hlt : B < w1.heap.size := H.out.lt
  go_region_held3 (fun w9 => w9.cell? ⟨B, 0, none⟩ = some (.int .i64 h) ∧ w9.cell? ⟨B, 1, none⟩ = some (.int .i64 m) ∧ w9.cell? ⟨B, 2, none⟩ = some (.int .i64 s) ∧ w9.cell? ⟨B, 3, none⟩ = some (.int .i64 f) ∧ w9.cell? ⟨B, 4, none⟩ = some (.bool true))
    (first
      | go_keep
      | (go_split_ands
         refine ⟨?_, ?_, ?_, ?_, ?_⟩ <;> (rw [hb2.cell (by simp; omega)]; go_simp)))
    ((go_at_call 58; refine (nominalr_any _).mono ?_; rintro e w2 ⟨rfl, hb2⟩))
  have HB2 := Lib.hid (FB.out.drew.trans (hb2.mono (by simp; omega)))
  have H2 := Lib.hid (H.out.drewN 1 |>.ext (w := w1.drew) hb2)
  clear hb2
  have p0 := H2.out.cell 0
  have p1 := H2.out.cell 1
  have p2 := H2.out.cell 2
  have p3 := H2.out.cell 3
  have p4 := H2.out.cell 4
  simp only [List.getElem?_cons_zero, List.getElem?_cons_succ] at p0 p1 p2 p3 p4
  go_wp2_with fail
  go_quiet (fail)
  go_wp2_with fail
  go_ret
  exact ⟨rfl, below_drewN HB2.out _⟩
set_option maxHeartbeats 1000000 in
theorem chkr_8c (h m s f : Int) (d : Bool) (w : World) (a0 : decide (h < 0) = false) (a1 : decide (23 < h) = false) (a2 : decide (m < 0) = false) (a3 : decide (59 < m) = false) (a4 : decide (s < 0) = false) (a5 : decide (59 < s) = false) (a6 : decide (f < 0) = false) (a7 : decide (30 ≤ f) = false) (b9 : 0 ≤ m)  (b0 : (s == 0) = true) (b1 : (m % 10 != 0) = true) (b2 : decide (f < 2) = true) :
    Calls Tryd.prog 61 #[.int .u8 4, .agg #[.int .i64 h, .int .i64 m, .int .i64 s, .int .i64 f, .bool true]] w fun e w' => e = .returned (.int .i64 6) ∧ Below w.heap.size w w' := by
  obtain ⟨B, hB⟩ : ∃ B, B = w.heap.size := ⟨_, rfl⟩
  rw [← hB]
  go_enter Tryd.func61, Tryd.ntmps61
  go_wp2_with (go_at_call 60; refine (kind_any _ _).mono ?_; rintro e w1 ⟨rfl, rfl⟩)
  generalize hw : w.alloc _ = w1
  have H := Lib.hid (show Held w1 B [.int .i64 h, .int .i64 m, .int .i64 s, .int .i64 f, .bool true] by subst hw; exact Held.new hB)
  have FB := Lib.hid (show Below B w w1 by subst hw; subst hB; exact below_one _ _)
  clear hw
  rw [← hB]
  clear hB
  have q0 := H.out.cell 0
  have q1 := H.out.cell 1
  have q2 := H.out.cell 2
  have q3 := H.out.cell 3
  have q4 := H.out.cell 4
  simp only [List.getElem?_cons_zero, List.getElem?_cons_succ] at q0 q1 q2 q3 q4
  have hlt : B < w1.heap.size := H.out.lt
  go_region_held3 (fun w9 => w9.cell? ⟨B, 0, none⟩ = some (.int .i64 h) ∧ w9.cell? ⟨B, 1, none⟩ = some (.int .i64 m) ∧ w9.cell? ⟨B, 2, none⟩ = some (.int .i64 s) ∧ w9.cell? ⟨B, 3, none⟩ = some (.int .i64 f) ∧ w9.cell? ⟨B, 4, none⟩ = some (.bool true))
    (first
      | go_keep
      | (go_split_ands
         refine ⟨?_, ?_, ?_, ?_, ?_⟩ <;> (rw [hb2.cell (by simp; omega)]; go_simp)))
    ((go_at_call 58; refine (nominalr_any _).mono ?_; rintro e w2 ⟨rfl, hb2⟩))
  have HB2 := Lib.hid (FB.out.drew.trans (hb2.mono (by simp; omega)))
  have H2 := Lib.hid (H.out.drewN 1 |>.ext (w := w1.drew) hb2)
  clear hb2
  have p0 := H2.out.cell 0
  have p1 := H2.out.cell 1
  have p2 := H2.out.cell 2
  have p3 := H2.out.cell 3
  have p4 := H2.out.cell 4
  simp only [List.getElem?_cons_zero, List.getElem?_cons_succ] at p0 p1 p2 p3 p4
  go_wp2_with fail
  go_quiet ((go_at_call 59; exact quiet_left (droppedr_any _)))
  go_wp2_with fail
  go_ret
  exact ⟨rfl, below_drewN HB2.out _⟩
set_option maxHeartbeats 1000000 in
theorem chkr_8d (h m s f : Int) (d : Bool) (w : World) (a0 : decide (h < 0) = false) (a1 : decide (23 < h) = false) (a2 : decide (m < 0) = false) (a3 : decide (59 < m) = false) (a4 : decide (s < 0) = false) (a5 : decide (59 < s) = false) (a6 : decide (f < 0) = false) (a7 : decide (30 ≤ f) = false) (b9 : 0 ≤ m)  (b0 : (s == 0) = true) (b1 : (m % 10 != 0) = true) (b2 : decide (f < 2) = false) :
    Calls Tryd.prog 61 #[.int .u8 4, .agg #[.int .i64 h, .int .i64 m, .int .i64 s, .int .i64 f, .bool true]] w fun e w' => e = .returned (.int .i64 0) ∧ Below w.heap.size w w' := by
  obtain ⟨B, hB⟩ : ∃ B, B = w.heap.size := ⟨_, rfl⟩
  rw [← hB]
  go_enter Tryd.func61, Tryd.ntmps61
  go_wp2_with (go_at_call 60; refine (kind_any _ _).mono ?_; rintro e w1 ⟨rfl, rfl⟩)
  generalize hw : w.alloc _ = w1
  have H := Lib.hid (show Held w1 B [.int .i64 h, .int .i64 m, .int .i64 s, .int .i64 f, .bool true] by subst hw; exact Held.new hB)
  have FB := Lib.hid (show Below B w w1 by subst hw; subst hB; exact below_one _ _)
  clear hw
  rw [← hB]
  clear hB
  have q0 := H.out.cell 0
  have q1 := H.out.cell 1
  have q2 := H.out.cell 2
  have q3 := H.out.cell 3
  have q4 := H.out.cell 4
  simp only [List.getElem?_cons_zero, List.getElem?_cons_succ] at q0 q1 q2 q3 q4
  have hlt : B < w1.heap.size := H.out.lt
  go_region_held3 (fun w9 => w9.cell? ⟨B, 0, none⟩ = some (.int .i64 h) ∧ w9.cell? ⟨B, 1, none⟩ = some (.int .i64 m) ∧ w9.cell? ⟨B, 2, none⟩ = some (.int .i64 s) ∧ w9.cell? ⟨B, 3, none⟩ = some (.int .i64 f) ∧ w9.cell? ⟨B, 4, none⟩ = some (.bool true))
    (first
      | go_keep
      | (go_split_ands
         refine ⟨?_, ?_, ?_, ?_, ?_⟩ <;> (rw [hb2.cell (by simp; omega)]; go_simp)))
    ((go_at_call 58; refine (nominalr_any _).mono ?_; rintro e w2 ⟨rfl, hb2⟩))
  have HB2 := Lib.hid (FB.out.drew.trans (hb2.mono (by simp; omega)))
  have H2 := Lib.hid (H.out.drewN 1 |>.ext (w := w1.drew) hb2)
  clear hb2
  have p0 := H2.out.cell 0
  have p1 := H2.out.cell 1
  have p2 := H2.out.cell 2
  have p3 := H2.out.cell 3
  have p4 := H2.out.cell 4
  simp only [List.getElem?_cons_zero, List.getElem?_cons_succ] at p0 p1 p2 p3 p4
  go_wp2_with fail
  go_quiet ((go_at_call 59; exact quiet_left (droppedr_any _)))
  go_wp2_with fail
  go_ret
  exact ⟨rfl, below_drewN HB2.out _⟩
theorem chkr_any (l : Lab) (w : World) :
    Calls Tryd.prog 61 #[.int .u8 4, labA l] w fun e w' => e = .returned (.int .i64 (chkL l)) ∧ Below w.heap.size w w' := by
  obtain ⟨h, m, s, f, d⟩ := l
  unfold chkL labA
  simp only []
  by_cases c0 : h < 0
  · rw [if_pos (by omega)]
    exact chkr_0 h m s f d w  (by simp; omega)
  by_cases c1 : 23 < h
  · rw [if_pos (by omega)]
    exact chkr_1 h m s f d w (by simp; omega) (by simp; omega)
  by_cases c2 : m < 0
  · rw [if_pos (by omega)]
    exact chkr_2 h m s f d w (by simp; omega) (by simp; omega) (by simp; omega)
  by_cases c3 : 59 < m
  · rw [if_pos (by omega)]
    exact chkr_3 h m s f d w (by simp; omega) (by simp; omega) (by simp; omega) (by simp; omega)
  by_cases c4 : s < 0
  · rw [if_pos (by omega)]
    exact chkr_4 h m s f d w (by simp; omega) (by simp; omega) (by simp; omega) (by simp; omega) (by simp; omega)
  by_cases c5 : 59 < s
  · rw [if_pos (by omega)]
    exact chkr_5 h m s f d w (by simp; omega) (by simp; omega) (by simp; omega) (by simp; omega) (by simp; omega) (by simp; omega)
  by_cases c6 : f < 0
  · rw [if_pos (by omega)]
    exact chkr_6 h m s f d w (by simp; omega) (by simp; omega) (by simp; omega) (by simp; omega) (by simp; omega) (by simp; omega) (by simp; omega)
  by_cases c7 : 30 ≤ f
  · rw [if_pos (by omega)]
    exact chkr_7 h m s f d w (by simp; omega) (by simp; omega) (by simp; omega) (by simp; omega) (by simp; omega) (by simp; omega) (by simp; omega) (by simp; omega)
  rw [if_neg (by omega)]
  cases d
  · rw [if_neg (by simp [drp]; omega)]
    exact chkr_8a0 h m s f false w (by simp; omega) (by simp; omega) (by simp; omega) (by simp; omega) (by simp; omega) (by simp; omega) (by simp; omega) (by simp; omega) (by omega)
  have e3 : drp true = 2 := rfl
  rw [e3]
  by_cases e0 : s = 0
  · by_cases e1 : m % 10 = 0
    · rw [if_neg (by omega)]
      exact chkr_8b h m s f true w (by simp; omega) (by simp; omega) (by simp; omega) (by simp; omega) (by simp; omega) (by simp; omega) (by simp; omega) (by simp; omega) (by omega) (by simp [e0]) (by simp [e1])
    · by_cases e2 : f < 2
      · rw [if_pos ⟨e0, e1, e2⟩]
        exact chkr_8c h m s f true w (by simp; omega) (by simp; omega) (by simp; omega) (by simp; omega) (by simp; omega) (by simp; omega) (by simp; omega) (by simp; omega) (by omega) (by simp [e0]) (by simp [e1]) (by simp [e2])
      · rw [if_neg (by omega)]
        exact chkr_8d h m s f true w (by simp; omega) (by simp; omega) (by simp; omega) (by simp; omega) (by simp; omega) (by simp; omega) (by simp; omega) (by simp; omega) (by omega) (by simp [e0]) (by simp [e1]) (by simpa using e2)
  · rw [if_neg (by omega)]
    exact chkr_8a h m s f true w (by simp; omega) (by simp; omega) (by simp; omega) (by simp; omega) (by simp; omega) (by simp; omega) (by simp; omega) (by simp; omega) (by omega) (by simp [e0])
end Go.Proofs.YtbliilemjkjimaaDoor
