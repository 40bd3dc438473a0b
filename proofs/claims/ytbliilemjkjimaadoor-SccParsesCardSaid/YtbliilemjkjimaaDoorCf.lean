/-
  The contract of the reference's Parse of layer 3 at the rate 29.97. Its conditions are its hypotheses.
-/
import Derived.Test.YtbliilemjkjimaaDoorC9
import Derived.Test.YtbliilemjkjimaaDoorCe
namespace Go.Proofs.YtbliilemjkjimaaDoor
open Go.RowKit Go.Joins
set_option linter.unusedVariables false
set_option linter.unusedSimpArgs false
set_option maxHeartbeats 800000 in
theorem parser_a (s : ByteArray) (w : World) (hs : s.size = 11) (h2 : bt s 2 ≠ 58) :
    Calls Tryd.prog 42 #[.int .u8 4, .string s] w (ParseP s w.heap.size w) := by
  have HN := Lib.hid (labR_form hs (by unfold okS; simp_all))
  have ix2 := idx_str (s := s) (x := 2) (j := 2) rfl (by omega)
  have ix5 := idx_str (s := s) (x := 5) (j := 5) rfl (by omega)
  have ix8 := idx_str (s := s) (x := 8) (j := 8) rfl (by omega)
  have t2 : (((bt s 2).toNat : Int) != 58) = true := bne_byte h2
  have hsz : ((s.size : Nat) : Int) = 11 := by omega
  generalize bt s 2 = b2 at *
  generalize bt s 5 = b5 at *
  generalize bt s 8 = b8 at *
  clear h2
  obtain ⟨B, hB⟩ : ∃ B, B = w.heap.size := ⟨_, rfl⟩
  rw [← hB]
  go_enter Tryd.func42, Tryd.ntmps42
  go_wp2_with fail
  rw [← hB]
  generalize hw1 : World.alloc _ _ = w1
  have H4 := Lib.hid (show Held w1 B [.int .i64 0, .int .i64 0, .int .i64 0, .int .i64 0, .bool false] by subst hw1; exact Held.new hB)
  have FB := Lib.hid (show Below B w w1 by subst hw1; subst hB; exact below_one _ _)
  clear hw1 hB
  refine (validr_any _).mono ?_
  rintro e w2 ⟨rfl, rfl⟩
  have w2 := w1
  have q0 := H4.out.cell 0
  have q1 := H4.out.cell 1
  have q2 := H4.out.cell 2
  have q3 := H4.out.cell 3
  have q4 := H4.out.cell 4
  have z0 := H4.out.free 0
  have z1 := H4.out.free 1
  have z2 := H4.out.free 2
  have z3 := H4.out.free 3
  have z4 := H4.out.free 4
  simp only [List.getElem?_cons_zero, List.getElem?_cons_succ] at q0 q1 q2 q3 q4
  go_wp2_with fail
  have r := (((((H4.out.set 0 (.int .i64 0)).set 1 (.int .i64 0)).set 2 (.int .i64 0)).set 3 (.int .i64 0)).set 4 (.bool false))
  have rb := (((((FB.out.setCell (p := ⟨B, 0, none⟩) (by simp) (.int .i64 0)).setCell (p := ⟨B, 1, none⟩) (by simp) (.int .i64 0)).setCell (p := ⟨B, 2, none⟩) (by simp) (.int .i64 0)).setCell (p := ⟨B, 3, none⟩) (by simp) (.int .i64 0)).setCell (p := ⟨B, 4, none⟩) (by simp) (.bool false))
  generalize World.setCell (World.setCell (World.setCell (World.setCell (World.setCell _ _ _) _ _) _ _) _ _) _ _ = w5 at *
  have r0 := r.cell 0
  have r1 := r.cell 1
  have r2 := r.cell 2
  have r3 := r.cell 3
  have r4 := r.cell 4
  simp only [List.set_cons_zero, List.set_cons_succ, List.getElem?_cons_zero, List.getElem?_cons_succ] at r0 r1 r2 r3 r4
  refine bodyPost_ret (by simp [results, Tryd.results42, r0, r1, r2, r3, r4, go_sem]; try rfl) rfl ?_
  exact ParseP.none HN.out (by decide) rb
set_option maxHeartbeats 800000 in
theorem parser_b (s : ByteArray) (w : World) (hs : s.size = 11) (h2 : bt s 2 = 58) (h5 : bt s 5 ≠ 58) :
    Calls Tryd.prog 42 #[.int .u8 4, .string s] w (ParseP s w.heap.size w) := by
  have HN := Lib.hid (labR_form hs (by unfold okS; simp_all))
  have ix2 := idx_str (s := s) (x := 2) (j := 2) rfl (by omega)
  have ix5 := idx_str (s := s) (x := 5) (j := 5) rfl (by omega)
  have ix8 := idx_str (s := s) (x := 8) (j := 8) rfl (by omega)
  replace ix2 : ∀ w, (Instr.index 9 (.string s) (.int .i64 2)).run Tryd.prog w = .ok (.int .u8 58) w := fun w => by have := ix2 w; rw [h2] at this; exact this
  have t5 : (((bt s 5).toNat : Int) != 58) = true := bne_byte h5
  have hsz : ((s.size : Nat) : Int) = 11 := by omega
  generalize bt s 2 = b2 at *
  generalize bt s 5 = b5 at *
  generalize bt s 8 = b8 at *
  clear h2 h5
  obtain ⟨B, hB⟩ : ∃ B, B = w.heap.size := ⟨_, rfl⟩
  rw [← hB]
  go_enter Tryd.func42, Tryd.ntmps42
  go_wp2_with fail
  rw [← hB]
  generalize hw1 : World.alloc _ _ = w1
  have H4 := Lib.hid (show Held w1 B [.int .i64 0, .int .i64 0, .int .i64 0, .int .i64 0, .bool false] by subst hw1; exact Held.new hB)
  have FB := Lib.hid (show Below B w w1 by subst hw1; subst hB; exact below_one _ _)
  clear hw1 hB
  refine (validr_any _).mono ?_
  rintro e w2 ⟨rfl, rfl⟩
  have w2 := w1
  have q0 := H4.out.cell 0
  have q1 := H4.out.cell 1
  have q2 := H4.out.cell 2
  have q3 := H4.out.cell 3
  have q4 := H4.out.cell 4
  have z0 := H4.out.free 0
  have z1 := H4.out.free 1
  have z2 := H4.out.free 2
  have z3 := H4.out.free 3
  have z4 := H4.out.free 4
  simp only [List.getElem?_cons_zero, List.getElem?_cons_succ] at q0 q1 q2 q3 q4
  go_wp2_with fail
  have r := (((((H4.out.set 0 (.int .i64 0)).set 1 (.int .i64 0)).set 2 (.int .i64 0)).set 3 (.int .i64 0)).set 4 (.bool false))
  have rb := (((((FB.out.setCell (p := ⟨B, 0, none⟩) (by simp) (.int .i64 0)).setCell (p := ⟨B, 1, none⟩) (by simp) (.int .i64 0)).setCell (p := ⟨B, 2, none⟩) (by simp) (.int .i64 0)).setCell (p := ⟨B, 3, none⟩) (by simp) (.int .i64 0)).setCell (p := ⟨B, 4, none⟩) (by simp) (.bool false))
  generalize World.setCell (World.setCell (World.setCell (World.setCell (World.setCell _ _ _) _ _) _ _) _ _) _ _ = w5 at *
  have r0 := r.cell 0
  have r1 := r.cell 1
  have r2 := r.cell 2
  have r3 := r.cell 3
  have r4 := r.cell 4
  simp only [List.set_cons_zero, List.set_cons_succ, List.getElem?_cons_zero, List.getElem?_cons_succ] at r0 r1 r2 r3 r4
  refine bodyPost_ret (by simp [results, Tryd.results42, r0, r1, r2, r3, r4, go_sem]; try rfl) rfl ?_
  exact ParseP.none HN.out (by decide) rb
set_option maxHeartbeats 800000 in
theorem parser_c (s : ByteArray) (w : World) (hs : s.size = 11) (h2 : bt s 2 = 58) (h5 : bt s 5 = 58) (h8 : bt s 8 ≠ 58) (h9 : bt s 8 ≠ 59) :
    Calls Tryd.prog 42 #[.int .u8 4, .string s] w (ParseP s w.heap.size w) := by
  have HN := Lib.hid (labR_form hs (by unfold okS; simp_all))
  have ix2 := idx_str (s := s) (x := 2) (j := 2) rfl (by omega)
  have ix5 := idx_str (s := s) (x := 5) (j := 5) rfl (by omega)
  have ix8 := idx_str (s := s) (x := 8) (j := 8) rfl (by omega)
  replace ix2 : ∀ w, (Instr.index 9 (.string s) (.int .i64 2)).run Tryd.prog w = .ok (.int .u8 58) w := fun w => by have := ix2 w; rw [h2] at this; exact this
  replace ix5 : ∀ w, (Instr.index 9 (.string s) (.int .i64 5)).run Tryd.prog w = .ok (.int .u8 58) w := fun w => by have := ix5 w; rw [h5] at this; exact this
  have t8 : (((bt s 8).toNat : Int) != 58) = true := bne_byte h8
  have t9 : (((bt s 8).toNat : Int) != 59) = true := bne_byte h9
  have hsz : ((s.size : Nat) : Int) = 11 := by omega
  generalize bt s 2 = b2 at *
  generalize bt s 5 = b5 at *
  generalize bt s 8 = b8 at *
  clear h2 h5 h8 h9
  obtain ⟨B, hB⟩ : ∃ B, B = w.heap.size := ⟨_, rfl⟩
  rw [← hB]
  go_enter Tryd.func42, Tryd.ntmps42
  go_wp2_with fail
  rw [← hB]
  generalize hw1 : World.alloc _ _ = w1
  have H4 := Lib.hid (show Held w1 B [.int .i64 0, .int .i64 0, .int .i64 0, .int .i64 0, .bool false] by subst hw1; exact Held.new hB)
  have FB := Lib.hid (show Below B w w1 by subst hw1; subst hB; exact below_one _ _)
  clear hw1 hB
  refine (validr_any _).mono ?_
  rintro e w2 ⟨rfl, rfl⟩
  have w2 := w1
  have q0 := H4.out.cell 0
  have q1 := H4.out.cell 1
  have q2 := H4.out.cell 2
  have q3 := H4.out.cell 3
  have q4 := H4.out.cell 4
  have z0 := H4.out.free 0
  have z1 := H4.out.free 1
  have z2 := H4.out.free 2
  have z3 := H4.out.free 3
  have z4 := H4.out.free 4
  simp only [List.getElem?_cons_zero, List.getElem?_cons_succ] at q0 q1 q2 q3 q4
  go_wp2_with fail
  have r := (((((H4.out.set 0 (.int .i64 0)).set 1 (.int .i64 0)).set 2 (.int .i64 0)).set 3 (.int .i64 0)).set 4 (.bool false))
  have rb := (((((FB.out.setCell (p := ⟨B, 0, none⟩) (by simp) (.int .i64 0)).setCell (p := ⟨B, 1, none⟩) (by simp) (.int .i64 0)).setCell (p := ⟨B, 2, none⟩) (by simp) (.int .i64 0)).setCell (p := ⟨B, 3, none⟩) (by simp) (.int .i64 0)).setCell (p := ⟨B, 4, none⟩) (by simp) (.bool false))
  generalize World.setCell (World.setCell (World.setCell (World.setCell (World.setCell _ _ _) _ _) _ _) _ _) _ _ = w5 at *
  have r0 := r.cell 0
  have r1 := r.cell 1
  have r2 := r.cell 2
  have r3 := r.cell 3
  have r4 := r.cell 4
  simp only [List.set_cons_zero, List.set_cons_succ, List.getElem?_cons_zero, List.getElem?_cons_succ] at r0 r1 r2 r3 r4
  refine bodyPost_ret (by simp [results, Tryd.results42, r0, r1, r2, r3, r4, go_sem]; try rfl) rfl ?_
  exact ParseP.none HN.out (by decide) rb
set_option maxHeartbeats 2000000 in
theorem parser_58 (s : ByteArray) (w : World) (hs : s.size = 11) (h2 : bt s 2 = 58) (h5 : bt s 5 = 58) (h8 : bt s 8 = 58) :
    Calls Tryd.prog 42 #[.int .u8 4, .string s] w (ParseP s w.heap.size w) := by
  have HOK : Hid (okS s) := Lib.hid (by unfold okS; simp_all)
  have H8 : Hid (decide (bt s 8 = 59) = false) := Lib.hid (by rw [h8]; decide)
  have ix2 := idx_str (s := s) (x := 2) (j := 2) rfl (by omega)
  have ix5 := idx_str (s := s) (x := 5) (j := 5) rfl (by omega)
  have ix8 := idx_str (s := s) (x := 8) (j := 8) rfl (by omega)
  replace ix2 : ∀ w, (Instr.index 9 (.string s) (.int .i64 2)).run Tryd.prog w = .ok (.int .u8 58) w := fun w => by have := ix2 w; rw [h2] at this; exact this
  replace ix5 : ∀ w, (Instr.index 9 (.string s) (.int .i64 5)).run Tryd.prog w = .ok (.int .u8 58) w := fun w => by have := ix5 w; rw [h5] at this; exact this
  replace ix8 : ∀ w, (Instr.index 9 (.string s) (.int .i64 8)).run Tryd.prog w = .ok (.int .u8 58) w := fun w => by have := ix8 w; rw [h8] at this; exact this
  have hsz : ((s.size : Nat) : Int) = 11 := by omega
  have HS := Lib.hid hs
  clear h2 h5 h8
  obtain ⟨B, hB⟩ : ∃ B, B = w.heap.size := ⟨_, rfl⟩
  rw [← hB]
  go_enter Tryd.func42, Tryd.ntmps42
  go_wp2_with fail
  rw [← hB]
  generalize hw1 : World.alloc _ _ = w1
  have H4 := Lib.hid (show Held w1 B [.int .i64 0, .int .i64 0, .int .i64 0, .int .i64 0, .bool false] by subst hw1; exact Held.new hB)
  have FB := Lib.hid (show Below B w w1 by subst hw1; subst hB; exact below_one _ _)
  clear hw1 hB
  refine (validr_any _).mono ?_
  rintro e w2 ⟨rfl, rfl⟩
  have w2 := w1
  have q0 := H4.out.cell 0
  have q1 := H4.out.cell 1
  have q2 := H4.out.cell 2
  have q3 := H4.out.cell 3
  have q4 := H4.out.cell 4
  have z0 := H4.out.free 0
  have z1 := H4.out.free 1
  have z2 := H4.out.free 2
  have z3 := H4.out.free 3
  have z4 := H4.out.free 4
  simp only [List.getElem?_cons_zero, List.getElem?_cons_succ] at q0 q1 q2 q3 q4
  go_wp2_with fail
  obtain ⟨g, hg⟩ : ∃ g, g = w1.heap.size := ⟨_, rfl⟩
  have hBg : B < g := by rw [hg]; exact H4.out.lt
  rw [← hg]
  generalize hx : World.alloc _ _ = x1
  replace FB := Lib.hid (show Below B w x1 by subst hx; exact FB.out.alloc (by omega) _)
  replace H4 := Lib.hid (show Held x1 B [.int .i64 0, .int .i64 0, .int .i64 0, .int .i64 0, .bool false] by subst hx; exact H4.out.alloc _)
  have HG := Lib.hid (show Held x1 g (arrV s 0) by subst hx; exact Held.new hg)
  clear hx hg q0 q1 q2 q3 q4 z0 z1 z2 z3 z4
  go_loopw [40] (fun i wr => ∃ k : Nat, k ≤ 4 ∧ i = .int .i64 k ∧ Hid (Held wr g (arrV s k)) ∧ Hid (Held wr B [.int .i64 0, .int .i64 0, .int .i64 0, .int .i64 0, .bool false]) ∧ Hid (Below B w wr) ∧ Hid (∀ j, j < k → dvk s j = some (dval s j))) (fun i _ => 4 - (intOf i).toNat)
  case atStart => exact ⟨0, by omega, rfl, HG, H4, FB, Lib.hid (fun j h => by omega)⟩
  case round =>
    obtain ⟨k, hk, rfl, HG, H4, FB, HD⟩ := hrel
    by_cases hlt : k < 4
    · have ixa := idx_str (s := s) (x := 3 * (k : Int)) (j := 3 * k) (by omega) (by omega)
      have ixb := idx_str (s := s) (x := 3 * (k : Int) + 1) (j := 3 * k + 1) (by omega) (by omega)
      have HV := Lib.hid (show dval s k = 10 * (((bt s (3 * k)).toNat : Int) - 48) + (((bt s (3 * k + 1)).toNat : Int) - 48) from rfl)
      have HGD := Lib.hid (dvk_good (s := s) (k := k))
      have HBD := Lib.hid (dvk_bad (s := s) (k := k))
      generalize bt s (3 * k) = a at *
      generalize bt s (3 * k + 1) = b at *
      have a0 := a.toNat_lt
      have b0 := b.toNat_lt
      have s1 : IntKind.i64.wrap (3 * (k : Int)) = 3 * (k : Int) := IntWalk.i64_in _ (by omega)
      have s2 : IntKind.i64.wrap (3 * (k : Int) + 1) = 3 * (k : Int) + 1 := IntWalk.i64_in _ (by omega)
      go_wp2_with fail
      go_quiet (fail)
      generalize hwr : wr.drewN _ = wr2
      replace HG := Lib.hid (show Held wr2 g (arrV s k) by subst hwr; exact HG.out.drewN _)
      replace H4 := Lib.hid (show Held wr2 B [.int .i64 0, .int .i64 0, .int .i64 0, .int .i64 0, .bool false] by subst hwr; exact H4.out.drewN _)
      replace FB := Lib.hid (show Below B w wr2 by subst hwr; exact below_drewN FB.out _)
      clear hwr
      by_cases hgd : 48 ≤ a.toNat ∧ a.toNat ≤ 57 ∧ 48 ≤ b.toNat ∧ b.toNat ≤ 57
      · have cg : wr2.cell? ⟨g, k, none⟩ = some (.int .i64 0) := by rw [HG.out.cell k]; exact arrV_get s hlt
        have cf := HG.out.free k
        obtain ⟨g1, g2, g3, g4⟩ := hgd
        have HGE := Lib.hid (HGD.out ⟨g1, g2, g3, g4⟩)
        have g1' : (48 : Int) ≤ (a.toNat : Int) := by omega
        have g2' : (a.toNat : Int) ≤ 57 := by omega
        have g3' : (48 : Int) ≤ (b.toNat : Int) := by omega
        have g4' : (b.toNat : Int) ≤ 57 := by omega
        have hk0 : (0 : Int) ≤ (k : Int) := by omega
        have hk4 : (k : Int) < 4 := by omega
        clear s1 s2 g1 g2 g3 g4 HBD HGD
        go_wp2_with fail
        go_roundw
        case rel => exact ⟨k + 1, by omega, by go_num, Lib.hid (by rw [← arrV_set s hlt, HV.out, show 10 * ((a.toNat : Int) - 48) + ((b.toNat : Int) - 48) = ((a.toNat : Int) - 48) * 10 + ((b.toNat : Int) - 48) from by omega]; exact HG.out.set k _), Lib.hid (H4.out.other (by omega) _ _), Lib.hid (FB.out.setCell (p := ⟨g, k, none⟩) (by simp; omega) _), Lib.hid (fun j hj => by
          by_cases e : j = k
          · rw [e]; exact HGE.out
          · exact HD.out j (by omega))⟩
        case measure => simp [intOf]; omega
      · have HBE := Lib.hid (HBD.out (by omega))
        have HN := Lib.hid (labR_bad HS.out hlt HBE.out)
        clear HBD HGD s1 s2
        have q0 := H4.out.cell 0
        have q1 := H4.out.cell 1
        have q2 := H4.out.cell 2
        have q3 := H4.out.cell 3
        have q4 := H4.out.cell 4
        have z0 := H4.out.free 0
        have z1 := H4.out.free 1
        have z2 := H4.out.free 2
        have z3 := H4.out.free 3
        have z4 := H4.out.free 4
        simp only [List.getElem?_cons_zero, List.getElem?_cons_succ] at q0 q1 q2 q3 q4
        by_cases c1 : a.toNat < 48
        · go_wp2_with fail
          have r := (((((H4.out.set 0 (.int .i64 0)).set 1 (.int .i64 0)).set 2 (.int .i64 0)).set 3 (.int .i64 0)).set 4 (.bool false))
          have rb := (((((FB.out.setCell (p := ⟨B, 0, none⟩) (by simp) (.int .i64 0)).setCell (p := ⟨B, 1, none⟩) (by simp) (.int .i64 0)).setCell (p := ⟨B, 2, none⟩) (by simp) (.int .i64 0)).setCell (p := ⟨B, 3, none⟩) (by simp) (.int .i64 0)).setCell (p := ⟨B, 4, none⟩) (by simp) (.bool false))
          generalize World.setCell (World.setCell (World.setCell (World.setCell (World.setCell _ _ _) _ _) _ _) _ _) _ _ = w5 at *
          have r0 := r.cell 0
          have r1 := r.cell 1
          have r2 := r.cell 2
          have r3 := r.cell 3
          have r4 := r.cell 4
          simp only [List.set_cons_zero, List.set_cons_succ, List.getElem?_cons_zero, List.getElem?_cons_succ] at r0 r1 r2 r3 r4
          refine bodyPost_ret (by simp [results, Tryd.results42, r0, r1, r2, r3, r4, go_sem]; try rfl) rfl ?_
          exact ParseP.none HN.out (by decide) rb
        by_cases c2 : 57 < a.toNat
        · go_wp2_with fail
          have r := (((((H4.out.set 0 (.int .i64 0)).set 1 (.int .i64 0)).set 2 (.int .i64 0)).set 3 (.int .i64 0)).set 4 (.bool false))
          have rb := (((((FB.out.setCell (p := ⟨B, 0, none⟩) (by simp) (.int .i64 0)).setCell (p := ⟨B, 1, none⟩) (by simp) (.int .i64 0)).setCell (p := ⟨B, 2, none⟩) (by simp) (.int .i64 0)).setCell (p := ⟨B, 3, none⟩) (by simp) (.int .i64 0)).setCell (p := ⟨B, 4, none⟩) (by simp) (.bool false))
          generalize World.setCell (World.setCell (World.setCell (World.setCell (World.setCell _ _ _) _ _) _ _) _ _) _ _ = w5 at *
          have r0 := r.cell 0
          have r1 := r.cell 1
          have r2 := r.cell 2
          have r3 := r.cell 3
          have r4 := r.cell 4
          simp only [List.set_cons_zero, List.set_cons_succ, List.getElem?_cons_zero, List.getElem?_cons_succ] at r0 r1 r2 r3 r4
          refine bodyPost_ret (by simp [results, Tryd.results42, r0, r1, r2, r3, r4, go_sem]; try rfl) rfl ?_
          exact ParseP.none HN.out (by decide) rb
        by_cases c3 : b.toNat < 48
        · go_wp2_with fail
          have r := (((((H4.out.set 0 (.int .i64 0)).set 1 (.int .i64 0)).set 2 (.int .i64 0)).set 3 (.int .i64 0)).set 4 (.bool false))
          have rb := (((((FB.out.setCell (p := ⟨B, 0, none⟩) (by simp) (.int .i64 0)).setCell (p := ⟨B, 1, none⟩) (by simp) (.int .i64 0)).setCell (p := ⟨B, 2, none⟩) (by simp) (.int .i64 0)).setCell (p := ⟨B, 3, none⟩) (by simp) (.int .i64 0)).setCell (p := ⟨B, 4, none⟩) (by simp) (.bool false))
          generalize World.setCell (World.setCell (World.setCell (World.setCell (World.setCell _ _ _) _ _) _ _) _ _) _ _ = w5 at *
          have r0 := r.cell 0
          have r1 := r.cell 1
          have r2 := r.cell 2
          have r3 := r.cell 3
          have r4 := r.cell 4
          simp only [List.set_cons_zero, List.set_cons_succ, List.getElem?_cons_zero, List.getElem?_cons_succ] at r0 r1 r2 r3 r4
          refine bodyPost_ret (by simp [results, Tryd.results42, r0, r1, r2, r3, r4, go_sem]; try rfl) rfl ?_
          exact ParseP.none HN.out (by decide) rb
        have c4 : 57 < b.toNat := by omega
        go_wp2_with fail
        have r := (((((H4.out.set 0 (.int .i64 0)).set 1 (.int .i64 0)).set 2 (.int .i64 0)).set 3 (.int .i64 0)).set 4 (.bool false))
        have rb := (((((FB.out.setCell (p := ⟨B, 0, none⟩) (by simp) (.int .i64 0)).setCell (p := ⟨B, 1, none⟩) (by simp) (.int .i64 0)).setCell (p := ⟨B, 2, none⟩) (by simp) (.int .i64 0)).setCell (p := ⟨B, 3, none⟩) (by simp) (.int .i64 0)).setCell (p := ⟨B, 4, none⟩) (by simp) (.bool false))
        generalize World.setCell (World.setCell (World.setCell (World.setCell (World.setCell _ _ _) _ _) _ _) _ _) _ _ = w5 at *
        have r0 := r.cell 0
        have r1 := r.cell 1
        have r2 := r.cell 2
        have r3 := r.cell 3
        have r4 := r.cell 4
        simp only [List.set_cons_zero, List.set_cons_succ, List.getElem?_cons_zero, List.getElem?_cons_succ] at r0 r1 r2 r3 r4
        refine bodyPost_ret (by simp [results, Tryd.results42, r0, r1, r2, r3, r4, go_sem]; try rfl) rfl ?_
        exact ParseP.none HN.out (by decide) rb
    · have ek : k = 4 := by omega
      subst ek
      have hl := labR_good HS.out HOK.out (fun j hj => HD.out j hj)
      rw [H8.out] at hl
      have HL := Lib.hid hl
      replace HG := Lib.hid (show Held wr g [.int .i64 (dval s 0), .int .i64 (dval s 1), .int .i64 (dval s 2), .int .i64 (dval s 3)] from HG.out)
      clear hl HD
      generalize dval s 0 = d0 at *
      generalize dval s 1 = d1 at *
      generalize dval s 2 = d2 at *
      generalize dval s 3 = d3 at *
      have p0 := HG.out.cell 0
      have p1 := HG.out.cell 1
      have p2 := HG.out.cell 2
      have p3 := HG.out.cell 3
      simp only [List.getElem?_cons_zero, List.getElem?_cons_succ] at p0 p1 p2 p3
      have n0 := World.new_ne wr _ p0
      have n1 := World.new_ne wr _ p1
      have n2 := World.new_ne wr _ p2
      have n3 := World.new_ne wr _ p3
      go_wp2_with fail
      go_region_held3 (fun w9 => w9.cell? ⟨g, 0, none⟩ = some (.int .i64 d0) ∧ w9.cell? ⟨g, 1, none⟩ = some (.int .i64 d1) ∧ w9.cell? ⟨g, 2, none⟩ = some (.int .i64 d2) ∧ w9.cell? ⟨g, 3, none⟩ = some (.int .i64 d3)) (go_keep) (fail)
      all_goals
        obtain ⟨c, hc⟩ : ∃ c, c = wr.heap.size := ⟨_, rfl⟩
        have hBc : B < c := by rw [hc]; exact H4.out.lt
        rw [← hc]
        generalize hy : World.drew _ = y
        have HT := Lib.hid (show Held y c [.int .i64 d0, .int .i64 d1, .int .i64 d2, .int .i64 d3, .bool false] by subst hy; exact (Held.new hc).drewN 1)
        have HB4 := Lib.hid (show Held y B [.int .i64 0, .int .i64 0, .int .i64 0, .int .i64 0, .bool false] by subst hy; exact (H4.out.alloc _).drewN 1)
        have FY := Lib.hid (show Below B w y by subst hy; exact (FB.out.alloc (by omega) _).drew)
        clear hy hc n0 n1 n2 n3 p0 p1 p2 p3
        have q0 := HT.out.cell 0
        have q1 := HT.out.cell 1
        have q2 := HT.out.cell 2
        have q3 := HT.out.cell 3
        have q4 := HT.out.cell 4
        have z0 := HT.out.free 0
        have z1 := HT.out.free 1
        have z2 := HT.out.free 2
        have z3 := HT.out.free 3
        have z4 := HT.out.free 4
        simp only [List.getElem?_cons_zero, List.getElem?_cons_succ] at q0 q1 q2 q3 q4
        go_wp2_with fail
        refine (chkr_any ⟨d0, d1, d2, d3, false⟩ _).mono ?_
        rintro e w6 ⟨rfl, hb⟩
        replace FY := Lib.hid (FY.out.trans (hb.mono (Nat.le_of_lt HB4.out.lt)))
        replace HT := Lib.hid (HT.out.ext hb)
        replace HB4 := Lib.hid (HB4.out.ext hb)
        clear hb q0 q1 q2 q3 q4 z0 z1 z2 z3 z4
        have q0 := HT.out.cell 0
        have q1 := HT.out.cell 1
        have q2 := HT.out.cell 2
        have q3 := HT.out.cell 3
        have q4 := HT.out.cell 4
        have z0 := HT.out.free 0
        have z1 := HT.out.free 1
        have z2 := HT.out.free 2
        have z3 := HT.out.free 3
        have z4 := HT.out.free 4
        simp only [List.getElem?_cons_zero, List.getElem?_cons_succ] at q0 q1 q2 q3 q4
        have x0 := HB4.out.cell 0
        have x1 := HB4.out.cell 1
        have x2 := HB4.out.cell 2
        have x3 := HB4.out.cell 3
        have x4 := HB4.out.cell 4
        have y0 := HB4.out.free 0
        have y1 := HB4.out.free 1
        have y2 := HB4.out.free 2
        have y3 := HB4.out.free 3
        have y4 := HB4.out.free 4
        simp only [List.getElem?_cons_zero, List.getElem?_cons_succ] at x0 x1 x2 x3 x4
        by_cases hr : chkL ⟨d0, d1, d2, d3, false⟩ = 0
        · have HS2 := Lib.hid (HL.out.trans (if_pos hr))
          rw [hr]
          clear hr
          go_wp2_with fail
          have r := (((((HB4.out.set 0 (.int .i64 d0)).set 1 (.int .i64 d1)).set 2 (.int .i64 d2)).set 3 (.int .i64 d3)).set 4 (.bool false))
          have rb := (((((FY.out.setCell (p := ⟨B, 0, none⟩) (by simp) (.int .i64 d0)).setCell (p := ⟨B, 1, none⟩) (by simp) (.int .i64 d1)).setCell (p := ⟨B, 2, none⟩) (by simp) (.int .i64 d2)).setCell (p := ⟨B, 3, none⟩) (by simp) (.int .i64 d3)).setCell (p := ⟨B, 4, none⟩) (by simp) (.bool false))
          generalize World.setCell (World.setCell (World.setCell (World.setCell (World.setCell _ _ _) _ _) _ _) _ _) _ _ = w5 at *
          have r0 := r.cell 0
          have r1 := r.cell 1
          have r2 := r.cell 2
          have r3 := r.cell 3
          have r4 := r.cell 4
          simp only [List.set_cons_zero, List.set_cons_succ, List.getElem?_cons_zero, List.getElem?_cons_succ] at r0 r1 r2 r3 r4
          refine bodyPost_ret (by simp [results, Tryd.results42, r0, r1, r2, r3, r4, go_sem]; try rfl) rfl ?_
          exact ParseP.some HS2.out rb
        · have HN := Lib.hid (HL.out.trans (if_neg hr))
          have hrb : (chkL ⟨d0, d1, d2, d3, false⟩ != 0) = true := by simpa using hr
          clear hr
          generalize chkL ⟨d0, d1, d2, d3, false⟩ = cr at *
          go_wp2_with fail
          have r := (((((HB4.out.set 0 (.int .i64 0)).set 1 (.int .i64 0)).set 2 (.int .i64 0)).set 3 (.int .i64 0)).set 4 (.bool false))
          have rb := (((((FY.out.setCell (p := ⟨B, 0, none⟩) (by simp) (.int .i64 0)).setCell (p := ⟨B, 1, none⟩) (by simp) (.int .i64 0)).setCell (p := ⟨B, 2, none⟩) (by simp) (.int .i64 0)).setCell (p := ⟨B, 3, none⟩) (by simp) (.int .i64 0)).setCell (p := ⟨B, 4, none⟩) (by simp) (.bool false))
          generalize World.setCell (World.setCell (World.setCell (World.setCell (World.setCell _ _ _) _ _) _ _) _ _) _ _ = w5 at *
          have r0 := r.cell 0
          have r1 := r.cell 1
          have r2 := r.cell 2
          have r3 := r.cell 3
          have r4 := r.cell 4
          simp only [List.set_cons_zero, List.set_cons_succ, List.getElem?_cons_zero, List.getElem?_cons_succ] at r0 r1 r2 r3 r4
          refine bodyPost_ret (by simp [results, Tryd.results42, r0, r1, r2, r3, r4, go_sem]; try rfl) rfl ?_
          exact ParseP.none HN.out hrb rb
set_option maxHeartbeats 2000000 in
theorem parser_59 (s : ByteArray) (w : World) (hs : s.size = 11) (h2 : bt s 2 = 58) (h5 : bt s 5 = 58) (h8 : bt s 8 = 59) :
    Calls Tryd.prog 42 #[.int .u8 4, .string s] w (ParseP s w.heap.size w) := by
  have HOK : Hid (okS s) := Lib.hid (by unfold okS; simp_all)
  have H8 : Hid (decide (bt s 8 = 59) = true) := Lib.hid (by rw [h8]; decide)
  have ix2 := idx_str (s := s) (x := 2) (j := 2) rfl (by omega)
  have ix5 := idx_str (s := s) (x := 5) (j := 5) rfl (by omega)
  have ix8 := idx_str (s := s) (x := 8) (j := 8) rfl (by omega)
  replace ix2 : ∀ w, (Instr.index 9 (.string s) (.int .i64 2)).run Tryd.prog w = .ok (.int .u8 58) w := fun w => by have := ix2 w; rw [h2] at this; exact this
  replace ix5 : ∀ w, (Instr.index 9 (.string s) (.int .i64 5)).run Tryd.prog w = .ok (.int .u8 58) w := fun w => by have := ix5 w; rw [h5] at this; exact this
  replace ix8 : ∀ w, (Instr.index 9 (.string s) (.int .i64 8)).run Tryd.prog w = .ok (.int .u8 59) w := fun w => by have := ix8 w; rw [h8] at this; exact this
  have hsz : ((s.size : Nat) : Int) = 11 := by omega
  have HS := Lib.hid hs
  clear h2 h5 h8
  obtain ⟨B, hB⟩ : ∃ B, B = w.heap.size := ⟨_, rfl⟩
  rw [← hB]
  go_enter Tryd.func42, Tryd.ntmps42
  go_wp2_with fail
  rw [← hB]
  generalize hw1 : World.alloc _ _ = w1
  have H4 := Lib.hid (show Held w1 B [.int .i64 0, .int .i64 0, .int .i64 0, .int .i64 0, .bool false] by subst hw1; exact Held.new hB)
  have FB := Lib.hid (show Below B w w1 by subst hw1; subst hB; exact below_one _ _)
  clear hw1 hB
  refine (validr_any _).mono ?_
  rintro e w2 ⟨rfl, rfl⟩
  have w2 := w1
  have q0 := H4.out.cell 0
  have q1 := H4.out.cell 1
  have q2 := H4.out.cell 2
  have q3 := H4.out.cell 3
  have q4 := H4.out.cell 4
  have z0 := H4.out.free 0
  have z1 := H4.out.free 1
  have z2 := H4.out.free 2
  have z3 := H4.out.free 3
  have z4 := H4.out.free 4
  simp only [List.getElem?_cons_zero, List.getElem?_cons_succ] at q0 q1 q2 q3 q4
  go_wp2_with fail
  obtain ⟨g, hg⟩ : ∃ g, g = w1.heap.size := ⟨_, rfl⟩
  have hBg : B < g := by rw [hg]; exact H4.out.lt
  rw [← hg]
  generalize hx : World.alloc _ _ = x1
  replace FB := Lib.hid (show Below B w x1 by subst hx; exact FB.out.alloc (by omega) _)
  replace H4 := Lib.hid (show Held x1 B [.int .i64 0, .int .i64 0, .int .i64 0, .int .i64 0, .bool false] by subst hx; exact H4.out.alloc _)
  have HG := Lib.hid (show Held x1 g (arrV s 0) by subst hx; exact Held.new hg)
  clear hx hg q0 q1 q2 q3 q4 z0 z1 z2 z3 z4
  go_loopw [40] (fun i wr => ∃ k : Nat, k ≤ 4 ∧ i = .int .i64 k ∧ Hid (Held wr g (arrV s k)) ∧ Hid (Held wr B [.int .i64 0, .int .i64 0, .int .i64 0, .int .i64 0, .bool false]) ∧ Hid (Below B w wr) ∧ Hid (∀ j, j < k → dvk s j = some (dval s j))) (fun i _ => 4 - (intOf i).toNat)
  case atStart => exact ⟨0, by omega, rfl, HG, H4, FB, Lib.hid (fun j h => by omega)⟩
  case round =>
    obtain ⟨k, hk, rfl, HG, H4, FB, HD⟩ := hrel
    by_cases hlt : k < 4
    · have ixa := idx_str (s := s) (x := 3 * (k : Int)) (j := 3 * k) (by omega) (by omega)
      have ixb := idx_str (s := s) (x := 3 * (k : Int) + 1) (j := 3 * k + 1) (by omega) (by omega)
      have HV := Lib.hid (show dval s k = 10 * (((bt s (3 * k)).toNat : Int) - 48) + (((bt s (3 * k + 1)).toNat : Int) - 48) from rfl)
      have HGD := Lib.hid (dvk_good (s := s) (k := k))
      have HBD := Lib.hid (dvk_bad (s := s) (k := k))
      generalize bt s (3 * k) = a at *
      generalize bt s (3 * k + 1) = b at *
      have a0 := a.toNat_lt
      have b0 := b.toNat_lt
      have s1 : IntKind.i64.wrap (3 * (k : Int)) = 3 * (k : Int) := IntWalk.i64_in _ (by omega)
      have s2 : IntKind.i64.wrap (3 * (k : Int) + 1) = 3 * (k : Int) + 1 := IntWalk.i64_in _ (by omega)
      go_wp2_with fail
      go_quiet (fail)
      generalize hwr : wr.drewN _ = wr2
      replace HG := Lib.hid (show Held wr2 g (arrV s k) by subst hwr; exact HG.out.drewN _)
      replace H4 := Lib.hid (show Held wr2 B [.int .i64 0, .int .i64 0, .int .i64 0, .int .i64 0, .bool false] by subst hwr; exact H4.out.drewN _)
      replace FB := Lib.hid (show Below B w wr2 by subst hwr; exact below_drewN FB.out _)
      clear hwr
      by_cases hgd : 48 ≤ a.toNat ∧ a.toNat ≤ 57 ∧ 48 ≤ b.toNat ∧ b.toNat ≤ 57
      · have cg : wr2.cell? ⟨g, k, none⟩ = some (.int .i64 0) := by rw [HG.out.cell k]; exact arrV_get s hlt
        have cf := HG.out.free k
        obtain ⟨g1, g2, g3, g4⟩ := hgd
        have HGE := Lib.hid (HGD.out ⟨g1, g2, g3, g4⟩)
        have g1' : (48 : Int) ≤ (a.toNat : Int) := by omega
        have g2' : (a.toNat : Int) ≤ 57 := by omega
        have g3' : (48 : Int) ≤ (b.toNat : Int) := by omega
        have g4' : (b.toNat : Int) ≤ 57 := by omega
        have hk0 : (0 : Int) ≤ (k : Int) := by omega
        have hk4 : (k : Int) < 4 := by omega
        clear s1 s2 g1 g2 g3 g4 HBD HGD
        go_wp2_with fail
        go_roundw
        case rel => exact ⟨k + 1, by omega, by go_num, Lib.hid (by rw [← arrV_set s hlt, HV.out, show 10 * ((a.toNat : Int) - 48) + ((b.toNat : Int) - 48) = ((a.toNat : Int) - 48) * 10 + ((b.toNat : Int) - 48) from by omega]; exact HG.out.set k _), Lib.hid (H4.out.other (by omega) _ _), Lib.hid (FB.out.setCell (p := ⟨g, k, none⟩) (by simp; omega) _), Lib.hid (fun j hj => by
          by_cases e : j = k
          · rw [e]; exact HGE.out
          · exact HD.out j (by omega))⟩
        case measure => simp [intOf]; omega
      · have HBE := Lib.hid (HBD.out (by omega))
        have HN := Lib.hid (labR_bad HS.out hlt HBE.out)
        clear HBD HGD s1 s2
        have q0 := H4.out.cell 0
        have q1 := H4.out.cell 1
        have q2 := H4.out.cell 2
        have q3 := H4.out.cell 3
        have q4 := H4.out.cell 4
        have z0 := H4.out.free 0
        have z1 := H4.out.free 1
        have z2 := H4.out.free 2
        have z3 := H4.out.free 3
        have z4 := H4.out.free 4
        simp only [List.getElem?_cons_zero, List.getElem?_cons_succ] at q0 q1 q2 q3 q4
        by_cases c1 : a.toNat < 48
        · go_wp2_with fail
          have r := (((((H4.out.set 0 (.int .i64 0)).set 1 (.int .i64 0)).set 2 (.int .i64 0)).set 3 (.int .i64 0)).set 4 (.bool false))
          have rb := (((((FB.out.setCell (p := ⟨B, 0, none⟩) (by simp) (.int .i64 0)).setCell (p := ⟨B, 1, none⟩) (by simp) (.int .i64 0)).setCell (p := ⟨B, 2, none⟩) (by simp) (.int .i64 0)).setCell (p := ⟨B, 3, none⟩) (by simp) (.int .i64 0)).setCell (p := ⟨B, 4, none⟩) (by simp) (.bool false))
          generalize World.setCell (World.setCell (World.setCell (World.setCell (World.setCell _ _ _) _ _) _ _) _ _) _ _ = w5 at *
          have r0 := r.cell 0
          have r1 := r.cell 1
          have r2 := r.cell 2
          have r3 := r.cell 3
          have r4 := r.cell 4
          simp only [List.set_cons_zero, List.set_cons_succ, List.getElem?_cons_zero, List.getElem?_cons_succ] at r0 r1 r2 r3 r4
          refine bodyPost_ret (by simp [results, Tryd.results42, r0, r1, r2, r3, r4, go_sem]; try rfl) rfl ?_
          exact ParseP.none HN.out (by decide) rb
        by_cases c2 : 57 < a.toNat
        · go_wp2_with fail
          have r := (((((H4.out.set 0 (.int .i64 0)).set 1 (.int .i64 0)).set 2 (.int .i64 0)).set 3 (.int .i64 0)).set 4 (.bool false))
          have rb := (((((FB.out.setCell (p := ⟨B, 0, none⟩) (by simp) (.int .i64 0)).setCell (p := ⟨B, 1, none⟩) (by simp) (.int .i64 0)).setCell (p := ⟨B, 2, none⟩) (by simp) (.int .i64 0)).setCell (p := ⟨B, 3, none⟩) (by simp) (.int .i64 0)).setCell (p := ⟨B, 4, none⟩) (by simp) (.bool false))
          generalize World.setCell (World.setCell (World.setCell (World.setCell (World.setCell _ _ _) _ _) _ _) _ _) _ _ = w5 at *
          have r0 := r.cell 0
          have r1 := r.cell 1
          have r2 := r.cell 2
          have r3 := r.cell 3
          have r4 := r.cell 4
          simp only [List.set_cons_zero, List.set_cons_succ, List.getElem?_cons_zero, List.getElem?_cons_succ] at r0 r1 r2 r3 r4
          refine bodyPost_ret (by simp [results, Tryd.results42, r0, r1, r2, r3, r4, go_sem]; try rfl) rfl ?_
          exact ParseP.none HN.out (by decide) rb
        by_cases c3 : b.toNat < 48
        · go_wp2_with fail
          have r := (((((H4.out.set 0 (.int .i64 0)).set 1 (.int .i64 0)).set 2 (.int .i64 0)).set 3 (.int .i64 0)).set 4 (.bool false))
          have rb := (((((FB.out.setCell (p := ⟨B, 0, none⟩) (by simp) (.int .i64 0)).setCell (p := ⟨B, 1, none⟩) (by simp) (.int .i64 0)).setCell (p := ⟨B, 2, none⟩) (by simp) (.int .i64 0)).setCell (p := ⟨B, 3, none⟩) (by simp) (.int .i64 0)).setCell (p := ⟨B, 4, none⟩) (by simp) (.bool false))
          generalize World.setCell (World.setCell (World.setCell (World.setCell (World.setCell _ _ _) _ _) _ _) _ _) _ _ = w5 at *
          have r0 := r.cell 0
          have r1 := r.cell 1
          have r2 := r.cell 2
          have r3 := r.cell 3
          have r4 := r.cell 4
          simp only [List.set_cons_zero, List.set_cons_succ, List.getElem?_cons_zero, List.getElem?_cons_succ] at r0 r1 r2 r3 r4
          refine bodyPost_ret (by simp [results, Tryd.results42, r0, r1, r2, r3, r4, go_sem]; try rfl) rfl ?_
          exact ParseP.none HN.out (by decide) rb
        have c4 : 57 < b.toNat := by omega
        go_wp2_with fail
        have r := (((((H4.out.set 0 (.int .i64 0)).set 1 (.int .i64 0)).set 2 (.int .i64 0)).set 3 (.int .i64 0)).set 4 (.bool false))
        have rb := (((((FB.out.setCell (p := ⟨B, 0, none⟩) (by simp) (.int .i64 0)).setCell (p := ⟨B, 1, none⟩) (by simp) (.int .i64 0)).setCell (p := ⟨B, 2, none⟩) (by simp) (.int .i64 0)).setCell (p := ⟨B, 3, none⟩) (by simp) (.int .i64 0)).setCell (p := ⟨B, 4, none⟩) (by simp) (.bool false))
        generalize World.setCell (World.setCell (World.setCell (World.setCell (World.setCell _ _ _) _ _) _ _) _ _) _ _ = w5 at *
        have r0 := r.cell 0
        have r1 := r.cell 1
        have r2 := r.cell 2
        have r3 := r.cell 3
        have r4 := r.cell 4
        simp only [List.set_cons_zero, List.set_cons_succ, List.getElem?_cons_zero, List.getElem?_cons_succ] at r0 r1 r2 r3 r4
        refine bodyPost_ret (by simp [results, Tryd.results42, r0, r1, r2, r3, r4, go_sem]; try rfl) rfl ?_
        exact ParseP.none HN.out (by decide) rb
    · have ek : k = 4 := by omega
      subst ek
      have hl := labR_good HS.out HOK.out (fun j hj => HD.out j hj)
      rw [H8.out] at hl
      have HL := Lib.hid hl
      replace HG := Lib.hid (show Held wr g [.int .i64 (dval s 0), .int .i64 (dval s 1), .int .i64 (dval s 2), .int .i64 (dval s 3)] from HG.out)
      clear hl HD
      generalize dval s 0 = d0 at *
      generalize dval s 1 = d1 at *
      generalize dval s 2 = d2 at *
      generalize dval s 3 = d3 at *
      have p0 := HG.out.cell 0
      have p1 := HG.out.cell 1
      have p2 := HG.out.cell 2
      have p3 := HG.out.cell 3
      simp only [List.getElem?_cons_zero, List.getElem?_cons_succ] at p0 p1 p2 p3
      have n0 := World.new_ne wr _ p0
      have n1 := World.new_ne wr _ p1
      have n2 := World.new_ne wr _ p2
      have n3 := World.new_ne wr _ p3
      go_wp2_with fail
      go_region_held3 (fun w9 => w9.cell? ⟨g, 0, none⟩ = some (.int .i64 d0) ∧ w9.cell? ⟨g, 1, none⟩ = some (.int .i64 d1) ∧ w9.cell? ⟨g, 2, none⟩ = some (.int .i64 d2) ∧ w9.cell? ⟨g, 3, none⟩ = some (.int .i64 d3)) (go_keep) (fail)
      all_goals
        obtain ⟨c, hc⟩ : ∃ c, c = wr.heap.size := ⟨_, rfl⟩
        have hBc : B < c := by rw [hc]; exact H4.out.lt
        rw [← hc]
        generalize hy : World.drew _ = y
        have HT := Lib.hid (show Held y c [.int .i64 d0, .int .i64 d1, .int .i64 d2, .int .i64 d3, .bool true] by subst hy; exact (Held.new hc).drewN 1)
        have HB4 := Lib.hid (show Held y B [.int .i64 0, .int .i64 0, .int .i64 0, .int .i64 0, .bool false] by subst hy; exact (H4.out.alloc _).drewN 1)
        have FY := Lib.hid (show Below B w y by subst hy; exact (FB.out.alloc (by omega) _).drew)
        clear hy hc n0 n1 n2 n3 p0 p1 p2 p3
        have q0 := HT.out.cell 0
        have q1 := HT.out.cell 1
        have q2 := HT.out.cell 2
        have q3 := HT.out.cell 3
        have q4 := HT.out.cell 4
        have z0 := HT.out.free 0
        have z1 := HT.out.free 1
        have z2 := HT.out.free 2
        have z3 := HT.out.free 3
        have z4 := HT.out.free 4
        simp only [List.getElem?_cons_zero, List.getElem?_cons_succ] at q0 q1 q2 q3 q4
        go_wp2_with fail
        refine (chkr_any ⟨d0, d1, d2, d3, true⟩ _).mono ?_
        rintro e w6 ⟨rfl, hb⟩
        replace FY := Lib.hid (FY.out.trans (hb.mono (Nat.le_of_lt HB4.out.lt)))
        replace HT := Lib.hid (HT.out.ext hb)
        replace HB4 := Lib.hid (HB4.out.ext hb)
        clear hb q0 q1 q2 q3 q4 z0 z1 z2 z3 z4
        have q0 := HT.out.cell 0
        have q1 := HT.out.cell 1
        have q2 := HT.out.cell 2
        have q3 := HT.out.cell 3
        have q4 := HT.out.cell 4
        have z0 := HT.out.free 0
        have z1 := HT.out.free 1
        have z2 := HT.out.free 2
        have z3 := HT.out.free 3
        have z4 := HT.out.free 4
        simp only [List.getElem?_cons_zero, List.getElem?_cons_succ] at q0 q1 q2 q3 q4
        have x0 := HB4.out.cell 0
        have x1 := HB4.out.cell 1
        have x2 := HB4.out.cell 2
        have x3 := HB4.out.cell 3
        have x4 := HB4.out.cell 4
        have y0 := HB4.out.free 0
        have y1 := HB4.out.free 1
        have y2 := HB4.out.free 2
        have y3 := HB4.out.free 3
        have y4 := HB4.out.free 4
        simp only [List.getElem?_cons_zero, List.getElem?_cons_succ] at x0 x1 x2 x3 x4
        by_cases hr : chkL ⟨d0, d1, d2, d3, true⟩ = 0
        · have HS2 := Lib.hid (HL.out.trans (if_pos hr))
          rw [hr]
          clear hr
          go_wp2_with fail
          have r := (((((HB4.out.set 0 (.int .i64 d0)).set 1 (.int .i64 d1)).set 2 (.int .i64 d2)).set 3 (.int .i64 d3)).set 4 (.bool true))
          have rb := (((((FY.out.setCell (p := ⟨B, 0, none⟩) (by simp) (.int .i64 d0)).setCell (p := ⟨B, 1, none⟩) (by simp) (.int .i64 d1)).setCell (p := ⟨B, 2, none⟩) (by simp) (.int .i64 d2)).setCell (p := ⟨B, 3, none⟩) (by simp) (.int .i64 d3)).setCell (p := ⟨B, 4, none⟩) (by simp) (.bool true))
          generalize World.setCell (World.setCell (World.setCell (World.setCell (World.setCell _ _ _) _ _) _ _) _ _) _ _ = w5 at *
          have r0 := r.cell 0
          have r1 := r.cell 1
          have r2 := r.cell 2
          have r3 := r.cell 3
          have r4 := r.cell 4
          simp only [List.set_cons_zero, List.set_cons_succ, List.getElem?_cons_zero, List.getElem?_cons_succ] at r0 r1 r2 r3 r4
          refine bodyPost_ret (by simp [results, Tryd.results42, r0, r1, r2, r3, r4, go_sem]; try rfl) rfl ?_
          exact ParseP.some HS2.out rb
        · have HN := Lib.hid (HL.out.trans (if_neg hr))
          have hrb : (chkL ⟨d0, d1, d2, d3, true⟩ != 0) = true := by simpa using hr
          clear hr
          generalize chkL ⟨d0, d1, d2, d3, true⟩ = cr at *
          go_wp2_with fail
          have r := (((((HB4.out.set 0 (.int .i64 0)).set 1 (.int .i64 0)).set 2 (.int .i64 0)).set 3 (.int .i64 0)).set 4 (.bool false))
          have rb := (((((FY.out.setCell (p := ⟨B, 0, none⟩) (by simp) (.int .i64 0)).setCell (p := ⟨B, 1, none⟩) (by simp) (.int .i64 0)).setCell (p := ⟨B, 2, none⟩) (by simp) (.int .i64 0)).setCell (p := ⟨B, 3, none⟩) (by simp) (.int .i64 0)).setCell (p := ⟨B, 4, none⟩) (by simp) (.bool false))
          generalize World.setCell (World.setCell (World.setCell (World.setCell (World.setCell _ _ _) _ _) _ _) _ _) _ _ = w5 at *
          have r0 := r.cell 0
          have r1 := r.cell 1
          have r2 := r.cell 2
          have r3 := r.cell 3
          have r4 := r.cell 4
          simp only [List.set_cons_zero, List.set_cons_succ, List.getElem?_cons_zero, List.getElem?_cons_succ] at r0 r1 r2 r3 r4
          refine bodyPost_ret (by simp [results, Tryd.results42, r0, r1, r2, r3, r4, go_sem]; try rfl) rfl ?_
          exact ParseP.none HN.out hrb rb
theorem parser_any (s : ByteArray) (w : World) (hs : s.size = 11) :
    Calls Tryd.prog 42 #[.int .u8 4, .string s] w (ParseP s w.heap.size w) := by
  by_cases h2 : bt s 2 = 58
  · by_cases h5 : bt s 5 = 58
    · by_cases h8 : bt s 8 = 58
      · exact parser_58 s w hs h2 h5 h8
      · by_cases h9 : bt s 8 = 59
        · exact parser_59 s w hs h2 h5 h9
        · exact parser_c s w hs h2 h5 h8 h9
    · exact parser_b s w hs h2 h5
  · exact parser_a s w hs h2
end Go.Proofs.YtbliilemjkjimaaDoor
