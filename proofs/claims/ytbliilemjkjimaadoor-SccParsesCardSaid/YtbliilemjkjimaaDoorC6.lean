/-
  The contracts of Label of layer 3 at the rate 29.97, in the program and in the reference. Their conditions are their hypotheses.
-/
import Derived.Test.YtbliilemjkjimaaDoorC5
namespace Go.Proofs.YtbliilemjkjimaaDoor
open Go.RowKit Go.Joins
set_option linter.unusedVariables false
set_option linter.unusedSimpArgs false
def labA (l : Lab) : Value := .agg #[.int .i64 l.h, .int .i64 l.m, .int .i64 l.s, .int .i64 l.f, .bool l.d]
theorem bthen {w w1 w2 : World} (h : Below w.heap.size w w1) (h2 : Below w1.heap.size w1 w2) : Below w.heap.size w w2 := h.trans (h2.mono h.size)
theorem labV_true {f : Int} (h : 1800 ≤ f % 17982) : labV true f = labN true (f + 18 * (f / 17982) + 2 * ((f % 17982 - 1800) / 1798 + 1)) := by
  have : numP true f = f + 18 * (f / 17982) + 2 * ((f % 17982 - 1800) / 1798 + 1) := by
    unfold numP drp
    simp only [if_true]
    simp only [Int.reduceMul, Int.reduceSub]
    rw [if_pos h]
  rw [labV, this]
theorem labV_true' {f : Int} (h : ¬ 1800 ≤ f % 17982) : labV true f = labN true (f + 18 * (f / 17982)) := by
  have : numP true f = f + 18 * (f / 17982) := by
    unfold numP drp
    simp only [if_true]
    simp only [Int.reduceMul, Int.reduceSub]
    rw [if_neg h]; omega
  rw [labV, this]
theorem labV_false {f : Int} : labV false f = labN false f := by
  have : numP false f = f := by simp [numP, drp]
  rw [labV, this]
set_option maxHeartbeats 800000 in
theorem label_f (f : Int) (w : World) (h0 : 0 ≤ f) (h1 : f < 2592000) :
    Calls Tryd.prog 30 #[.int .u8 4, .bool false, .int .i64 f] w fun e w' => e = .returned (.tuple #[labA (labV false f), .int .i64 0]) ∧ Below w.heap.size w w' := by
  rw [labV_false]
  unfold labA labN
  have h1' : f < 2592000 := h1
  clear h1
  have n0 : 0 ≤ f % 18000 ∧ f % 18000 < 18000 := by omega
  have n1 : 0 ≤ f / 18000 ∧ f / 18000 ≤ 144 := by omega
  obtain ⟨B, hB⟩ : ∃ B, B = w.heap.size := ⟨_, rfl⟩
  rw [← hB]
  go_enter Tryd.func30, Tryd.ntmps30
  go_wp2_with (first | (go_at_call 50; refine (rateError_any _ _).mono ?_; rintro e w1 ⟨rfl, hb⟩) | (go_at_call 28; refine (day_any _ _).mono ?_; rintro e w2 ⟨rfl, hb2⟩; simp only [show dayV false = 2592000 from rfl]) | (go_at_call 51; refine (nominal_any _).mono ?_; rintro e w3 ⟨rfl, hb3⟩) | (go_at_call 52; refine (dropped_any _ _).mono ?_; rintro e w4 ⟨rfl, rfl⟩; simp only [show drp false = 0 from rfl]))
  rw [← hB]
  have H0 : Held (w.alloc (.cells #[.int .i64 0, .int .i64 0, .int .i64 0, .int .i64 0, .bool false] 56)) B [.int .i64 0, .int .i64 0, .int .i64 0, .int .i64 0, .bool false] := Held.new hB
  have H := Lib.hid (((H0.ext hb).ext hb2).ext hb3)
  have FB := Lib.hid (show Below B w w3 by subst hB; exact bthen (bthen (bthen (below_one _ _) hb) hb2) hb3)
  clear H0 hb hb2 hb3 hB
  go_quiet (fail)
  generalize hw4 : w3.drewN _ = w4
  replace H := Lib.hid (show Held w4 B [.int .i64 0, .int .i64 0, .int .i64 0, .int .i64 0, .bool false] by subst hw4; exact H.out.drewN _)
  replace FB := Lib.hid (show Below B w w4 by subst hw4; exact below_drewN FB.out _)
  clear hw4
  have q0 := H.out.cell 0
  have q1 := H.out.cell 1
  have q2 := H.out.cell 2
  have q3 := H.out.cell 3
  have q4 := H.out.cell 4
  have z0 := H.out.free 0
  have z1 := H.out.free 1
  have z2 := H.out.free 2
  have z3 := H.out.free 3
  have z4 := H.out.free 4
  simp only [List.getElem?_cons_zero, List.getElem?_cons_succ] at q0 q1 q2 q3 q4
  go_wp2_with fail
  all_goals
    have r := (((((H.out.set 0 (.int .i64 (f / 30 / 3600))).set 1 (.int .i64 (f / 30 / 60 % 60))).set 2 (.int .i64 (f / 30 % 60))).set 3 (.int .i64 (f % 30))).set 4 (.bool false))
    have rb := (((((FB.out.setCell (p := ⟨B, 0, none⟩) (by simp) (.int .i64 (f / 30 / 3600))).setCell (p := ⟨B, 1, none⟩) (by simp) (.int .i64 (f / 30 / 60 % 60))).setCell (p := ⟨B, 2, none⟩) (by simp) (.int .i64 (f / 30 % 60))).setCell (p := ⟨B, 3, none⟩) (by simp) (.int .i64 (f % 30))).setCell (p := ⟨B, 4, none⟩) (by simp) (.bool false))
    generalize World.setCell (World.setCell (World.setCell (World.setCell (World.setCell _ _ _) _ _) _ _) _ _) _ _ = w5 at *
    have r0 := r.cell 0
    have r1 := r.cell 1
    have r2 := r.cell 2
    have r3 := r.cell 3
    have r4 := r.cell 4
    simp only [List.set_cons_zero, List.set_cons_succ, List.getElem?_cons_zero, List.getElem?_cons_succ] at r0 r1 r2 r3 r4
    refine bodyPost_ret (by simp [results, Tryd.results30, r0, r1, r2, r3, r4, go_sem]; try rfl) rfl ?_
    exact ⟨rfl, rb⟩
set_option maxHeartbeats 800000 in
theorem label_t (f : Int) (w : World) (h0 : 0 ≤ f) (h1 : f < 2589408) (hc : 1800 ≤ f % 17982) :
    Calls Tryd.prog 30 #[.int .u8 4, .bool true, .int .i64 f] w fun e w' => e = .returned (.tuple #[labA (labV true f), .int .i64 0]) ∧ Below w.heap.size w w' := by
  rw [labV_true hc]
  unfold labA labN
  have n2 : 0 ≤ (f % 17982 - 1800) / 1798 ∧ (f % 17982 - 1800) / 1798 ≤ 9 := by omega
  have h1' : f < 2589408 := h1
  clear h1
  have n0 : 0 ≤ f % 17982 ∧ f % 17982 < 17982 := by omega
  have n1 : 0 ≤ f / 17982 ∧ f / 17982 ≤ 144 := by omega
  obtain ⟨B, hB⟩ : ∃ B, B = w.heap.size := ⟨_, rfl⟩
  rw [← hB]
  go_enter Tryd.func30, Tryd.ntmps30
  go_wp2_with (first | (go_at_call 50; refine (rateError_any _ _).mono ?_; rintro e w1 ⟨rfl, hb⟩) | (go_at_call 28; refine (day_any _ _).mono ?_; rintro e w2 ⟨rfl, hb2⟩; simp only [show dayV true = 2589408 from rfl]) | (go_at_call 51; refine (nominal_any _).mono ?_; rintro e w3 ⟨rfl, hb3⟩) | (go_at_call 52; refine (dropped_any _ _).mono ?_; rintro e w4 ⟨rfl, rfl⟩; simp only [show drp true = 2 from rfl]))
  rw [← hB]
  have H0 : Held (w.alloc (.cells #[.int .i64 0, .int .i64 0, .int .i64 0, .int .i64 0, .bool false] 56)) B [.int .i64 0, .int .i64 0, .int .i64 0, .int .i64 0, .bool false] := Held.new hB
  have H := Lib.hid (((H0.ext hb).ext hb2).ext hb3)
  have FB := Lib.hid (show Below B w w3 by subst hB; exact bthen (bthen (bthen (below_one _ _) hb) hb2) hb3)
  clear H0 hb hb2 hb3 hB
  go_quiet (fail)
  generalize hw4 : w3.drewN _ = w4
  replace H := Lib.hid (show Held w4 B [.int .i64 0, .int .i64 0, .int .i64 0, .int .i64 0, .bool false] by subst hw4; exact H.out.drewN _)
  replace FB := Lib.hid (show Below B w w4 by subst hw4; exact below_drewN FB.out _)
  clear hw4
  have q0 := H.out.cell 0
  have q1 := H.out.cell 1
  have q2 := H.out.cell 2
  have q3 := H.out.cell 3
  have q4 := H.out.cell 4
  have z0 := H.out.free 0
  have z1 := H.out.free 1
  have z2 := H.out.free 2
  have z3 := H.out.free 3
  have z4 := H.out.free 4
  simp only [List.getElem?_cons_zero, List.getElem?_cons_succ] at q0 q1 q2 q3 q4
  go_wp2_with fail
  have r := (((((H.out.set 0 (.int .i64 ((f + 18 * (f / 17982) + 2 * ((f % 17982 - 1800) / 1798 + 1)) / 30 / 3600))).set 1 (.int .i64 ((f + 18 * (f / 17982) + 2 * ((f % 17982 - 1800) / 1798 + 1)) / 30 / 60 % 60))).set 2 (.int .i64 ((f + 18 * (f / 17982) + 2 * ((f % 17982 - 1800) / 1798 + 1)) / 30 % 60))).set 3 (.int .i64 ((f + 18 * (f / 17982) + 2 * ((f % 17982 - 1800) / 1798 + 1)) % 30))).set 4 (.bool true))
  have rb := (((((FB.out.setCell (p := ⟨B, 0, none⟩) (by simp) (.int .i64 ((f + 18 * (f / 17982) + 2 * ((f % 17982 - 1800) / 1798 + 1)) / 30 / 3600))).setCell (p := ⟨B, 1, none⟩) (by simp) (.int .i64 ((f + 18 * (f / 17982) + 2 * ((f % 17982 - 1800) / 1798 + 1)) / 30 / 60 % 60))).setCell (p := ⟨B, 2, none⟩) (by simp) (.int .i64 ((f + 18 * (f / 17982) + 2 * ((f % 17982 - 1800) / 1798 + 1)) / 30 % 60))).setCell (p := ⟨B, 3, none⟩) (by simp) (.int .i64 ((f + 18 * (f / 17982) + 2 * ((f % 17982 - 1800) / 1798 + 1)) % 30))).setCell (p := ⟨B, 4, none⟩) (by simp) (.bool true))
  generalize World.setCell (World.setCell (World.setCell (World.setCell (World.setCell _ _ _) _ _) _ _) _ _) _ _ = w5 at *
  have r0 := r.cell 0
  have r1 := r.cell 1
  have r2 := r.cell 2
  have r3 := r.cell 3
  have r4 := r.cell 4
  simp only [List.set_cons_zero, List.set_cons_succ, List.getElem?_cons_zero, List.getElem?_cons_succ] at r0 r1 r2 r3 r4
  refine bodyPost_ret (by simp [results, Tryd.results30, r0, r1, r2, r3, r4, go_sem]; try rfl) rfl ?_
  exact ⟨rfl, rb⟩
set_option maxHeartbeats 800000 in
theorem label_u (f : Int) (w : World) (h0 : 0 ≤ f) (h1 : f < 2589408) (hc : ¬ 1800 ≤ f % 17982) :
    Calls Tryd.prog 30 #[.int .u8 4, .bool true, .int .i64 f] w fun e w' => e = .returned (.tuple #[labA (labV true f), .int .i64 0]) ∧ Below w.heap.size w w' := by
  rw [labV_true' hc]
  unfold labA labN
  have h1' : f < 2589408 := h1
  clear h1
  have n0 : 0 ≤ f % 17982 ∧ f % 17982 < 17982 := by omega
  have n1 : 0 ≤ f / 17982 ∧ f / 17982 ≤ 144 := by omega
  obtain ⟨B, hB⟩ : ∃ B, B = w.heap.size := ⟨_, rfl⟩
  rw [← hB]
  go_enter Tryd.func30, Tryd.ntmps30
  go_wp2_with (first | (go_at_call 50; refine (rateError_any _ _).mono ?_; rintro e w1 ⟨rfl, hb⟩) | (go_at_call 28; refine (day_any _ _).mono ?_; rintro e w2 ⟨rfl, hb2⟩; simp only [show dayV true = 2589408 from rfl]) | (go_at_call 51; refine (nominal_any _).mono ?_; rintro e w3 ⟨rfl, hb3⟩) | (go_at_call 52; refine (dropped_any _ _).mono ?_; rintro e w4 ⟨rfl, rfl⟩; simp only [show drp true = 2 from rfl]))
  rw [← hB]
  have H0 : Held (w.alloc (.cells #[.int .i64 0, .int .i64 0, .int .i64 0, .int .i64 0, .bool false] 56)) B [.int .i64 0, .int .i64 0, .int .i64 0, .int .i64 0, .bool false] := Held.new hB
  have H := Lib.hid (((H0.ext hb).ext hb2).ext hb3)
  have FB := Lib.hid (show Below B w w3 by subst hB; exact bthen (bthen (bthen (below_one _ _) hb) hb2) hb3)
  clear H0 hb hb2 hb3 hB
  go_quiet (fail)
  generalize hw4 : w3.drewN _ = w4
  replace H := Lib.hid (show Held w4 B [.int .i64 0, .int .i64 0, .int .i64 0, .int .i64 0, .bool false] by subst hw4; exact H.out.drewN _)
  replace FB := Lib.hid (show Below B w w4 by subst hw4; exact below_drewN FB.out _)
  clear hw4
  have q0 := H.out.cell 0
  have q1 := H.out.cell 1
  have q2 := H.out.cell 2
  have q3 := H.out.cell 3
  have q4 := H.out.cell 4
  have z0 := H.out.free 0
  have z1 := H.out.free 1
  have z2 := H.out.free 2
  have z3 := H.out.free 3
  have z4 := H.out.free 4
  simp only [List.getElem?_cons_zero, List.getElem?_cons_succ] at q0 q1 q2 q3 q4
  go_wp2_with fail
  have r := (((((H.out.set 0 (.int .i64 ((f + 18 * (f / 17982)) / 30 / 3600))).set 1 (.int .i64 ((f + 18 * (f / 17982)) / 30 / 60 % 60))).set 2 (.int .i64 ((f + 18 * (f / 17982)) / 30 % 60))).set 3 (.int .i64 ((f + 18 * (f / 17982)) % 30))).set 4 (.bool true))
  have rb := (((((FB.out.setCell (p := ⟨B, 0, none⟩) (by simp) (.int .i64 ((f + 18 * (f / 17982)) / 30 / 3600))).setCell (p := ⟨B, 1, none⟩) (by simp) (.int .i64 ((f + 18 * (f / 17982)) / 30 / 60 % 60))).setCell (p := ⟨B, 2, none⟩) (by simp) (.int .i64 ((f + 18 * (f / 17982)) / 30 % 60))).setCell (p := ⟨B, 3, none⟩) (by simp) (.int .i64 ((f + 18 * (f / 17982)) % 30))).setCell (p := ⟨B, 4, none⟩) (by simp) (.bool true))
  generalize World.setCell (World.setCell (World.setCell (World.setCell (World.setCell _ _ _) _ _) _ _) _ _) _ _ = w5 at *
  have r0 := r.cell 0
  have r1 := r.cell 1
  have r2 := r.cell 2
  have r3 := r.cell 3
  have r4 := r.cell 4
  simp only [List.set_cons_zero, List.set_cons_succ, List.getElem?_cons_zero, List.getElem?_cons_succ] at r0 r1 r2 r3 r4
  refine bodyPost_ret (by simp [results, Tryd.results30, r0, r1, r2, r3, r4, go_sem]; try rfl) rfl ?_
  exact ⟨rfl, rb⟩
theorem label_any (d : Bool) (f : Int) (w : World) (h0 : 0 ≤ f) (h1 : f < dayV d) :
    Calls Tryd.prog 30 #[.int .u8 4, .bool d, .int .i64 f] w fun e w' => e = .returned (.tuple #[labA (labV d f), .int .i64 0]) ∧ Below w.heap.size w w' := by
  cases d
  · exact label_f f w h0 h1
  · by_cases hc : 1800 ≤ f % 17982
    · exact label_t f w h0 h1 hc
    · exact label_u f w h0 h1 hc
end Go.Proofs.YtbliilemjkjimaaDoor
