/-
  The contract of Parse. Its conditions are its hypotheses.
-/
import Derived.Test.YtdccjkbhmpfcmaaDoorR9
namespace Go.Proofs.YtdccjkbhmpfcmaaDoor
open Go.RowKit
set_option linter.unusedVariables false
set_option linter.unusedSimpArgs false
abbrev Ev (g : Nat) (w : World) : Prop := ∃ ev, w.cell? ⟨g, 0, none⟩ = some ev ∧ (ev = .nilIface ∨ ∃ te pe, ev = .iface te pe)
structure Wd (w : World) : Prop where
  tab : Tab w
  mx : ∃ m, w.cell? ⟨3, 0, none⟩ = some (.int .i64 m)
  es : Ev 4 w
  er : Ev 5 w
theorem Wd.on {w w' : World} (h : Wd w) (hb : Below w.heap.size w w') : Wd w' := by
  obtain ⟨h1, ⟨m, h2⟩, ⟨e1, h3, h3'⟩, ⟨e2, h4, h4'⟩⟩ := h
  exact ⟨h1.on hb, ⟨m, (hb.cell (World.block_lt_of_cell? w _ h2)).trans h2⟩, ⟨e1, (hb.cell (World.block_lt_of_cell? w _ h3)).trans h3, h3'⟩, ⟨e2, (hb.cell (World.block_lt_of_cell? w _ h4)).trans h4, h4'⟩⟩
theorem parseIntB_bd {l : List UInt8} {v : Int} (h : Lib.parseIntB 64 l = .ok v) : I64 v := by
  have e63 : 2 ^ (64 - 1) = 9223372036854775808 := rfl
  cases l with
  | nil => cases h
  | cons c r =>
    rw [Lib.parseIntB] at h
    simp only [e63] at h
    split at h
    · cases h
    · cases h
    · rename_i u hu
      split at h
      · cases h
      · split at h
        · cases h
        · rename_i h1 h2
          injection h with h
          subst h
          unfold I64
          split <;> omega
theorem pint_any (s : ByteArray) (w : World) (hs : s.size ≤ 1000) (hw : Wd w) :
    Calls Tryd.prog 50 #[.string s, .int .i64 10, .int .i64 64] w fun e w' => ∃ v ev, e = .returned (.tuple #[.int .i64 v, ev]) ∧ I64 v ∧
      ((Lib.parseIntB 64 s.data.toList = .ok v ∧ ev = .nilIface) ∨ ((∀ v, Lib.parseIntB 64 s.data.toList ≠ .ok v) ∧ ∃ tp p, ev = .iface tp p)) ∧ Below w.heap.size w w' := by
  rcases hp : Lib.parseIntB 64 s.data.toList with v | _ | _
  · refine (Tryd.strconv_ParseInt_10_at64_ok s (by omega) v hp w).mono ?_
    rintro e w' ⟨rfl, hw'⟩
    refine ⟨v, .nilIface, rfl, parseIntB_bd hp, .inl ⟨rfl, rfl⟩, ?_⟩
    rcases hw' with rfl | ⟨t, rfl⟩
    · exact Below.refl _ _
    · exact Go.Joins.below_bytesWorld _ w _ t (Nat.le_refl _)
  · obtain ⟨ev, h1, h2⟩ := hw.es
    refine (Tryd.strconv_ParseInt_10_at64_syntax s (by omega) hp ev w h1 h2).mono ?_
    rintro e w' ⟨N, rfl, _, _, hb⟩
    exact ⟨0, _, rfl, ⟨by decide, by decide⟩, .inr ⟨fun v h => (by cases h), _, _, rfl⟩, hb⟩
  · obtain ⟨ev, h1, h2⟩ := hw.er
    refine (Tryd.strconv_ParseInt_10_at64_range s (by omega) hp ev w h1 h2).mono ?_
    rintro e w' ⟨N, rfl, _, _, hb⟩
    refine ⟨_, _, rfl, ?_, .inr ⟨fun v h => (by cases h), _, _, rfl⟩, hb⟩
    unfold Lib.intSat I64
    split
    · exact ⟨by decide, by decide⟩
    · exact ⟨by decide, by decide⟩
theorem cut_any (s : ByteArray) (w : World) (hs : s.size ≤ 1000) (hw : Wd w) :
    Calls Tryd.prog 49 #[.string s, .string ⟨#[47]⟩] w fun e w' => e = .returned (.tuple #[.string ⟨(cutC 47 s.data.toList).1.toArray⟩, .string ⟨(cutC 47 s.data.toList).2.toArray⟩, .bool (decide (47 ∈ s.data.toList))]) ∧ ∃ n, w' = w.drewN n := by
  obtain ⟨m, hm⟩ := hw.mx
  have := Tryd.strings_Cut s ⟨#[47]⟩ m w (by omega) hm
  rw [show (⟨#[47]⟩ : ByteArray).data.toList = [47] from rfl, lib_cut] at this
  exact this
theorem cutC_len (c : UInt8) : ∀ l : List UInt8, (cutC c l).1.length ≤ l.length ∧ (cutC c l).2.length ≤ l.length
  | [] => ⟨Nat.le_refl _, Nat.le_refl _⟩
  | b :: r => by
    have := cutC_len c r
    rw [cutC]
    split
    · simp
    · simp; omega
theorem parse_any (s : ByteArray) (w : World) (hs : s.size ≤ 1000) (hw : Wd w) :
    Calls Tryd.prog 24 #[.string s] w fun e w' => e = .returned (pairE (parseRV s.data.toList)) ∧ Below w.heap.size w w' := by
  obtain ⟨V, hV⟩ : ∃ V, V = parseRV s.data.toList := ⟨_, rfl⟩
  rw [← hV]
  have HV := Lib.hid hV
  have HW := Lib.hid hw
  have hc := cutC_len 47 s.data.toList
  rw [len_data] at hc
  have HC := Lib.hid (fun w => cut_any s w hs)
  obtain ⟨a, ha⟩ : ∃ a : ByteArray, a = ⟨(cutC 47 s.data.toList).1.toArray⟩ := ⟨_, rfl⟩
  obtain ⟨b, hb⟩ : ∃ b : ByteArray, b = ⟨(cutC 47 s.data.toList).2.toArray⟩ := ⟨_, rfl⟩
  have ha2 : a.data.toList = (cutC 47 s.data.toList).1 := by rw [ha]
  have hb2 : b.data.toList = (cutC 47 s.data.toList).2 := by rw [hb]
  have sa : a.size ≤ 1000 := by rw [← len_data, ha2]; omega
  have sb : b.size ≤ 1000 := by rw [← len_data, hb2]; omega
  rw [← ha, ← hb] at HC
  have HA2 := Lib.hid ha2
  have HB2 := Lib.hid hb2
  obtain ⟨B, hB⟩ : ∃ B, B = w.heap.size := ⟨_, rfl⟩
  have HB := Lib.hid hB
  rw [← hB]
  clear hV hw hc ha hb ha2 hb2
  go_enter Tryd.func24, Tryd.ntmps24
  go_wp2_with fail
  refine (HC.out _ (HW.out.on (below_one _ _))).mono ?_
  rintro e w2 ⟨rfl, k, hw2⟩
  rw [← hB]
  have f0 : Held w2 B [.int .i64 0, .int .i64 0] := by subst hw2; exact (Held.new hB).drewN _
  have fb : Below B w w2 := by subst hw2; rw [hB]; exact below_drewN (below_one _ _) k
  have fs : B + 1 ≤ w2.heap.size := by subst hw2; simp [hB]
  clear hw2 hB HC
  have F0 := Lib.hid f0
  have FB := Lib.hid fb
  clear f0 fb
  go_wp2_with fail
  refine (pint_any a _ sa (HW.out.on (by rw [← HB.out]; exact FB.out))).mono ?_
  rintro e w3 ⟨v1, ev1, rfl, hi1, hm1, hb⟩
  have F0 := Lib.hid (F0.out.ext hb)
  have FB := Lib.hid (FB.out.trans (hb.mono (by omega)))
  have fs := Nat.le_trans fs hb.size
  have HI1 := Lib.hid hi1
  have HM1 := Lib.hid hm1
  clear hb hi1 hm1
  go_wp2_with fail
  refine (pint_any b _ sb (HW.out.on (by rw [← HB.out]; exact FB.out))).mono ?_
  rintro e w4 ⟨v2, ev2, rfl, hi2, hm2, hb⟩
  have F0 := Lib.hid (F0.out.ext hb)
  have FB := Lib.hid (FB.out.trans (hb.mono (by omega)))
  have fs := Nat.le_trans fs hb.size
  have HI2 := Lib.hid hi2
  have HM2 := Lib.hid hm2
  clear hb hi2 hm2
  have VBAD := Lib.hid (show (∀ n d, textL n d = s.data.toList → s.data.toList = []) → V = ((0, 0), 4) from fun h => HV.out.trans (parse_miss h))
  have VHIT := Lib.hid (show ∀ n d, textL n d = s.data.toList → s.data.toList ≠ [] → V = ((n, d), 0) from fun n d h1 h2 => HV.out.trans (parse_hit h1 h2))
  clear HV
  have SPLIT : ∀ n d, textL n d = s.data.toList → s.data.toList ≠ [] → a.data.toList = Lib.itoa n ∧ b.data.toList = Lib.itoa d ∧ validV n d = true := by
    intro n d h1 h2
    have hv : validV n d = true := textL_ne (by rw [h1]; exact h2)
    have hc := textL_cut hv
    rw [h1] at hc
    rw [HA2.out, HB2.out, hc]
    exact ⟨rfl, rfl, hv⟩
  have SP := Lib.hid SPLIT
  clear SPLIT
  obtain ⟨w5, hw5⟩ : ∃ w5, w5 = w4.alloc (.cells #[.int .i64 v1, .int .i64 v2] 24) := ⟨_, rfl⟩
  obtain ⟨R, hR⟩ : ∃ R, R = w4.heap.size := ⟨_, rfl⟩
  have g0 : Held w5 R [.int .i64 v1, .int .i64 v2] := by subst hw5; exact Held.new hR
  have g1 : Held w5 B [.int .i64 0, .int .i64 0] := by subst hw5; exact F0.out.alloc _
  have g2 : Below B w w5 := by subst hw5; exact FB.out.alloc (by omega) _
  have g3 : w5.heap.size = R + 1 := by subst hw5; simp [hR]
  have g4 : B + 1 ≤ R := by omega
  have G0 := Lib.hid g0
  have G1 := Lib.hid g1
  have G2 := Lib.hid g2
  have HR := Lib.hid hR
  have HW5 := Lib.hid hw5
  obtain ⟨x0, x1, _, _⟩ := g0.two
  obtain ⟨y0, y1, y2, y3⟩ := g1.two
  clear F0 FB g0 g1 g2 hR hw5
  rcases HM1.out with ⟨p1, rfl⟩ | ⟨p1, tp1, q1, rfl⟩
  · have P1 := Lib.hid p1
    rcases HM2.out with ⟨p2, rfl⟩ | ⟨p2, tp2, q2, rfl⟩
    · have P2 := Lib.hid p2
      clear HM1 HM2 p1 p2 x0 x1 y0 y1 y2 y3
      have TX := Lib.hid (text_any v1 v2 w5 HI1.out HI2.out (HW.out.on (by rw [← HB.out]; exact G2.out)).tab)
      go_wp2_with fail
      rw [← HW5.out, ← HR.out]
      refine (TX.out).mono ?_
      rintro e w6 ⟨rfl, hb⟩
      have g0 := G0.out.ext hb
      have g1 := G1.out.ext hb
      have GG1 := Lib.hid g1
      have GG2 := Lib.hid (G2.out.trans (hb.mono (by omega)))
      obtain ⟨x0, x1, _, _⟩ := g0.two
      obtain ⟨y0, y1, y2, y3⟩ := g1.two
      clear g0 g1 hb TX HW5
      by_cases hit : textL v1 v2 = s.data.toList
      · have hs0 : s.data.toList ≠ [] := by
          intro h
          have ha := HA2.out
          rw [h] at ha
          have hp := P1.out
          rw [ha] at hp
          cases hp
        have HV2 := Lib.hid (VHIT.out v1 v2 hit hs0)
        have eb : ((textB v1 v2).toList == s.toList) = true := by
          rw [beq_iff_eq, Lib.toList_data, Lib.toList_data, textB]; exact hit
        clear hit hs0
        go_wp2_with fail
        have r := Lib.hid (((GG1.out).set 0 (.int .i64 v1)).set 1 (.int .i64 v2))
        have rb := Lib.hid ((GG2.out.setCell (p := ⟨B, 0, none⟩) (Nat.le_refl _) (.int .i64 v1)).setCell (p := ⟨B, 1, none⟩) (Nat.le_refl _) (.int .i64 v2))
        generalize World.setCell _ _ _ = w9 at *
        have r0' := r.out.cell 0
        have r1' := r.out.cell 1
        simp only [List.set_cons_zero, List.set_cons_succ, List.getElem?_cons_zero, List.getElem?_cons_succ] at r0' r1'
        refine bodyPost_ret (by simp [results, Tryd.results24, r0', r1', go_sem]; try rfl) rfl ?_
        exact ⟨by rw [HV2.out], rb.out⟩
      · have HV2 := Lib.hid (VBAD.out (by
          intro n d h
          apply Classical.byContradiction
          intro h0
          obtain ⟨e1, e2, hv⟩ := SP.out n d h h0
          have bb := valid_bd hv
          have q1 := parseInt_itoa (n := n) (by omega) (by omega)
          have q2 := parseInt_itoa (n := d) (by omega) (by omega)
          rw [← e1, P1.out] at q1
          rw [← e2, P2.out] at q2
          injection q1 with q1
          injection q2 with q2
          subst q1 q2
          exact hit h))
        have eb : ((textB v1 v2).toList == s.toList) = false := by
          rw [beq_eq_false_iff_ne, Lib.toList_data, Lib.toList_data, textB]; exact hit
        clear hit
        go_wp2_with fail
        have r := Lib.hid (((GG1.out).set 0 (.int .i64 0)).set 1 (.int .i64 0))
        have rb := Lib.hid ((GG2.out.setCell (p := ⟨B, 0, none⟩) (Nat.le_refl _) (.int .i64 0)).setCell (p := ⟨B, 1, none⟩) (Nat.le_refl _) (.int .i64 0))
        generalize World.setCell _ _ _ = w9 at *
        have r0' := r.out.cell 0
        have r1' := r.out.cell 1
        simp only [List.set_cons_zero, List.set_cons_succ, List.getElem?_cons_zero, List.getElem?_cons_succ] at r0' r1'
        refine bodyPost_ret (by simp [results, Tryd.results24, r0', r1', go_sem]; try rfl) rfl ?_
        exact ⟨by rw [HV2.out], rb.out⟩
    · have HV2 := Lib.hid (VBAD.out (by
        intro n d h
        apply Classical.byContradiction
        intro h0
        obtain ⟨e1, e2, hv⟩ := SP.out n d h h0
        have bb := valid_bd hv
        have q2 := parseInt_itoa (n := d) (by omega) (by omega)
        rw [← e2] at q2
        exact p2 _ q2))
      have GG1 := G1
      have GG2 := G2
      clear HM1 HM2 p1 p2
      rw [HW5.out] at y0 y1 y2 y3
      go_wp2_with fail
      rw [← HW5.out, ← HR.out]
      have r := Lib.hid (((GG1.out).set 0 (.int .i64 0)).set 1 (.int .i64 0))
      have rb := Lib.hid ((GG2.out.setCell (p := ⟨B, 0, none⟩) (Nat.le_refl _) (.int .i64 0)).setCell (p := ⟨B, 1, none⟩) (Nat.le_refl _) (.int .i64 0))
      generalize World.setCell _ _ _ = w9 at *
      have r0' := r.out.cell 0
      have r1' := r.out.cell 1
      simp only [List.set_cons_zero, List.set_cons_succ, List.getElem?_cons_zero, List.getElem?_cons_succ] at r0' r1'
      refine bodyPost_ret (by simp [results, Tryd.results24, r0', r1', go_sem]; try rfl) rfl ?_
      exact ⟨by rw [HV2.out], rb.out⟩
  · have HV2 := Lib.hid (VBAD.out (by
      intro n d h
      apply Classical.byContradiction
      intro h0
      obtain ⟨e1, e2, hv⟩ := SP.out n d h h0
      have bb := valid_bd hv
      have q1 := parseInt_itoa (n := n) (by omega) (by omega)
      rw [← e1] at q1
      exact p1 _ q1))
    have GG1 := G1
    have GG2 := G2
    clear HM1 p1
    rw [HW5.out] at y0 y1 y2 y3
    rcases HM2.out with ⟨p2, rfl⟩ | ⟨p2, tp2, q2, rfl⟩
    · clear HM2 p2
      go_wp2_with fail
      rw [← HW5.out, ← HR.out]
      have r := Lib.hid (((GG1.out).set 0 (.int .i64 0)).set 1 (.int .i64 0))
      have rb := Lib.hid ((GG2.out.setCell (p := ⟨B, 0, none⟩) (Nat.le_refl _) (.int .i64 0)).setCell (p := ⟨B, 1, none⟩) (Nat.le_refl _) (.int .i64 0))
      generalize World.setCell _ _ _ = w9 at *
      have r0' := r.out.cell 0
      have r1' := r.out.cell 1
      simp only [List.set_cons_zero, List.set_cons_succ, List.getElem?_cons_zero, List.getElem?_cons_succ] at r0' r1'
      refine bodyPost_ret (by simp [results, Tryd.results24, r0', r1', go_sem]; try rfl) rfl ?_
      exact ⟨by rw [HV2.out], rb.out⟩
    · clear HM2 p2
      go_wp2_with fail
      rw [← HW5.out, ← HR.out]
      have r := Lib.hid (((GG1.out).set 0 (.int .i64 0)).set 1 (.int .i64 0))
      have rb := Lib.hid ((GG2.out.setCell (p := ⟨B, 0, none⟩) (Nat.le_refl _) (.int .i64 0)).setCell (p := ⟨B, 1, none⟩) (Nat.le_refl _) (.int .i64 0))
      generalize World.setCell _ _ _ = w9 at *
      have r0' := r.out.cell 0
      have r1' := r.out.cell 1
      simp only [List.set_cons_zero, List.set_cons_succ, List.getElem?_cons_zero, List.getElem?_cons_succ] at r0' r1'
      refine bodyPost_ret (by simp [results, Tryd.results24, r0', r1', go_sem]; try rfl) rfl ?_
      exact ⟨by rw [HV2.out], rb.out⟩
end Go.Proofs.YtdccjkbhmpfcmaaDoor
