/-
  The contract of Parse in the reference. Its conditions are its hypotheses.
-/
import Derived.Test.YtdccjkbhmpfcmaaDoorRa
namespace Go.Proofs.YtdccjkbhmpfcmaaDoor
open Go.RowKit
set_option linter.unusedVariables false
set_option linter.unusedSimpArgs false
theorem cut_at {S : List UInt8} {i : Nat} (hi : i < S.length) (hc : S[i] = 47) (hn : 47 ∉ S.take i) : cutC 47 S = (S.take i, S.drop (i + 1)) := by
  have e : S = S.take i ++ 47 :: S.drop (i + 1) := by
    have := (List.take_append_drop i S).symm
    rw [List.drop_eq_getElem_cons hi, hc] at this
    exact this
  have := cutC_cut (v := S.drop (i + 1)) hn
  rwa [← e] at this
theorem take_not {S : List UInt8} {i : Nat} (hi : i < S.length) (hc : S[i] ≠ 47) (hn : 47 ∉ S.take i) : 47 ∉ S.take (i + 1) := by
  rw [List.take_succ_eq_append_getElem hi, List.mem_append]
  rintro (h | h)
  · exact hn h
  · rw [List.mem_singleton] at h; exact hc h.symm
theorem getB (s : ByteArray) {k : Nat} (hk : k < s.size) (hk' : k < s.data.toList.length) : s.data.toList[k] = s[k] := rfl
theorem parser_any (s : ByteArray) (w : World) (hs : s.size ≤ 1000) :
    Calls Tryd.prog 25 #[.string s] w fun e w' => e = .returned (pairE (parseRV s.data.toList)) ∧ Below w.heap.size w w' := by
  obtain ⟨V, hV⟩ : ∃ V, V = parseRV s.data.toList := ⟨_, rfl⟩
  rw [← hV]
  have HV := Lib.hid hV
  have HLN := Lib.hid (len_data s)
  obtain ⟨B, hB⟩ : ∃ B, B = w.heap.size := ⟨_, rfl⟩
  have HB := Lib.hid hB
  rw [← hB]
  have VBAD := Lib.hid (show (∀ n d, textL n d = s.data.toList → s.data.toList = []) → V = ((0, 0), 4) from fun h => HV.out.trans (parse_miss h))
  have VHIT := Lib.hid (show ∀ n d, textL n d = s.data.toList → s.data.toList ≠ [] → V = ((n, d), 0) from fun n d h1 h2 => HV.out.trans (parse_hit h1 h2))
  clear hV HV
  go_enter Tryd.func25, Tryd.ntmps25
  go_wp2_with fail
  rw [← hB]
  generalize hw2 : World.alloc _ _ = w2
  have f0 : Held w2 B [.int .i64 0, .int .i64 0] := by subst hw2; exact Held.new hB
  have fb : Below B w w2 := by subst hw2; rw [hB]; exact below_one _ _
  have fs : B + 1 ≤ w2.heap.size := by subst hw2; simp [hB]
  clear hw2 hB
  have F0 := Lib.hid f0
  have FB := Lib.hid fb
  obtain ⟨y0, y1, y2, y3⟩ := f0.two
  clear f0 fb
  go_loopw [4] (fun iv wr => ∃ i : Nat, i ≤ s.size ∧ iv = .int .i64 i ∧ Hid (47 ∉ s.data.toList.take i) ∧ wr = w2) (fun iv _ => s.size - (intOf iv).toNat)
  case atStart => exact ⟨0, by omega, rfl, Lib.hid (by simp), rfl⟩
  case round =>
    obtain ⟨i, hi, rfl, hno, rfl⟩ := hrel
    by_cases hlt : i < s.size
    · by_cases hc : s[i].toNat = 47
      · have hcb : (((s[i].toNat : Nat) : Int) != 47) = false := by rw [hc]; rfl
        have CUT := Lib.hid (cut_at (S := s.data.toList) (by rw [HLN.out]; exact hlt) ((getB s hlt (by rw [HLN.out]; exact hlt)).trans (UInt8.toNat_inj.1 hc)) hno.out)
        have HNE := Lib.hid (show s.data.toList ≠ [] from fun h => by have := HLN.out; rw [h] at this; simp at this; omega)
        have NA := Lib.hid (number_any (s.extract 0 i) wr (by rw [ByteArray.size_extract]; omega))
        have ha2 : (s.extract 0 i).data.toList = s.data.toList.take i := Lib.extract_from_zero s i
        have hb2 : (s.extract (i + 1) s.size).data.toList = s.data.toList.drop (i + 1) := Lib.extract_to_end s (i + 1)
        obtain ⟨a, ha⟩ : ∃ a, a = s.extract 0 i := ⟨_, rfl⟩
        obtain ⟨b, hb⟩ : ∃ b, b = s.extract (i + 1) s.size := ⟨_, rfl⟩
        have sb : b.size ≤ 9223372036854775807 := by rw [hb, ByteArray.size_extract]; omega
        rw [← ha] at ha2 NA
        rw [← hb] at hb2
        have HA := Lib.hid ha
        have HBB := Lib.hid hb
        have SPLIT : ∀ n d, textL n d = s.data.toList → s.data.toList ≠ [] → a.data.toList = Lib.itoa n ∧ b.data.toList = Lib.itoa d ∧ validV n d = true := by
          intro n d h1 h2
          have hv : validV n d = true := textL_ne (by rw [h1]; exact h2)
          have hc := textL_cut hv
          rw [h1, CUT.out] at hc
          rw [ha2, hb2]
          injection hc with e1 e2
          exact ⟨e1, e2, hv⟩
        have SP := Lib.hid SPLIT
        have hi1 : ((i : Int) + 1) ≤ s.size := by omega
        clear SPLIT CUT ha2 hb2 ha hb hc hno
        go_wp2_with fail
        rw [← HA.out]
        refine (NA.out).mono ?_
        rintro e w3 ⟨rfl, hv1, hb⟩
        have F0 := Lib.hid (F0.out.ext hb)
        have FB := Lib.hid (FB.out.trans (hb.mono (by omega)))
        have fs := Nat.le_trans fs hb.size
        clear hb y0 y1 y2 y3
        go_wp2_with fail
        rw [← HBB.out]
        refine (number_any b _ sb).mono ?_
        rintro e w4 ⟨rfl, hv2, hb⟩
        have F0 := Lib.hid (F0.out.ext hb)
        have FB := Lib.hid (FB.out.trans (hb.mono (by omega)))
        have fs := Nat.le_trans fs hb.size
        clear hb
        obtain ⟨V1, hV1⟩ : ∃ V1, V1 = numRV a.data.toList := ⟨_, rfl⟩
        obtain ⟨V2, hV2⟩ : ∃ V2, V2 = numRV b.data.toList := ⟨_, rfl⟩
        rw [← hV1] at hv1 ⊢
        rw [← hV2] at hv2 ⊢
        have N1 := Lib.hid hV1
        have N2 := Lib.hid hV2
        clear hV1 hV2 NA
        obtain ⟨v1, k1⟩ := V1
        obtain ⟨v2, k2⟩ := V2
        dsimp only at hv1 hv2 ⊢
        have HI1 : Hid (I64 v1) := Lib.hid ⟨by omega, by omega⟩
        have HI2 : Hid (I64 v2) := Lib.hid ⟨by omega, by omega⟩
        clear hv1 hv2
        obtain ⟨w5, hw5⟩ : ∃ w5, w5 = w4.alloc (.cells #[.int .i64 v1, .int .i64 v2] 24) := ⟨_, rfl⟩
        obtain ⟨R, hR⟩ : ∃ R, R = w4.heap.size := ⟨_, rfl⟩
        have g0 : Held w5 R [.int .i64 v1, .int .i64 v2] := by subst hw5; exact Held.new hR
        have g1 : Held w5 B [.int .i64 0, .int .i64 0] := by subst hw5; exact F0.out.alloc _
        have g2 : Below B w w5 := by subst hw5; exact FB.out.alloc (by omega) _
        have g3 : w5.heap.size = R + 1 := by subst hw5; simp [hR]
        have g4 : B + 1 ≤ R := by omega
        have G0 := Lib.hid g0
        have G1 := Lib.hid g1
        have G2 := Lib.hid g2
        have HR := Lib.hid hR
        have HW5 := Lib.hid hw5
        obtain ⟨y0, y1, y2, y3⟩ := g1.two
        clear F0 FB g0 g1 g2 hR hw5
        cases k1 with
        | false =>
          have HV2 := Lib.hid (VBAD.out (by
            intro n d h
            apply Classical.byContradiction
            intro h0
            obtain ⟨e1, e2, hv⟩ := SP.out n d h h0
            have bb := valid_bd hv
            have q1 := N1.out
            rw [e1, numRV_itoa (by omega) (by omega)] at q1
            injection q1 with q1 q2
            cases q2))
          have GG1 := G1
          have GG2 := G2
          rw [HW5.out] at y0 y1 y2 y3
          go_wp2_with fail
          rw [← HW5.out, ← HR.out]
          have r := Lib.hid (((GG1.out).set 0 (.int .i64 0)).set 1 (.int .i64 0))
          have rb := Lib.hid ((GG2.out.setCell (p := ⟨B, 0, none⟩) (Nat.le_refl _) (.int .i64 0)).setCell (p := ⟨B, 1, none⟩) (Nat.le_refl _) (.int .i64 0))
          generalize World.setCell _ _ _ = w9 at *
          have r0' := r.out.cell 0
          have r1' := r.out.cell 1
          simp only [List.set_cons_zero, List.set_cons_succ, List.getElem?_cons_zero, List.getElem?_cons_succ] at r0' r1'
          refine bodyPost_ret (by simp [results, Tryd.results25, r0', r1', go_sem]; try rfl) rfl ?_
          exact ⟨by rw [HV2.out], rb.out⟩
        | true =>
          cases k2 with
          | false =>
            have HV2 := Lib.hid (VBAD.out (by
              intro n d h
              apply Classical.byContradiction
              intro h0
              obtain ⟨e1, e2, hv⟩ := SP.out n d h h0
              have bb := valid_bd hv
              have q1 := N2.out
              rw [e2, numRV_itoa (by omega) (by omega)] at q1
              injection q1 with q1 q2
              cases q2))
            have GG1 := G1
            have GG2 := G2
            rw [HW5.out] at y0 y1 y2 y3
            go_wp2_with fail
            rw [← HW5.out, ← HR.out]
            have r := Lib.hid (((GG1.out).set 0 (.int .i64 0)).set 1 (.int .i64 0))
            have rb := Lib.hid ((GG2.out.setCell (p := ⟨B, 0, none⟩) (Nat.le_refl _) (.int .i64 0)).setCell (p := ⟨B, 1, none⟩) (Nat.le_refl _) (.int .i64 0))
            generalize World.setCell _ _ _ = w9 at *
            have r0' := r.out.cell 0
            have r1' := r.out.cell 1
            simp only [List.set_cons_zero, List.set_cons_succ, List.getElem?_cons_zero, List.getElem?_cons_succ] at r0' r1'
            refine bodyPost_ret (by simp [results, Tryd.results25, r0', r1', go_sem]; try rfl) rfl ?_
            exact ⟨by rw [HV2.out], rb.out⟩
          | true =>
            have TX := Lib.hid (textr_any v1 v2 w5 HI1.out HI2.out)
            clear y0 y1 y2 y3
            go_wp2_with fail
            rw [← HW5.out, ← HR.out]
            refine (TX.out).mono ?_
            rintro e w6 ⟨rfl, hb⟩
            have g0 := G0.out.ext hb
            have g1 := G1.out.ext hb
            have GG1 := Lib.hid g1
            have GG2 := Lib.hid (G2.out.trans (hb.mono (by omega)))
            obtain ⟨x0, x1, _, _⟩ := g0.two
            obtain ⟨y0, y1, y2, y3⟩ := g1.two
            clear g0 g1 hb TX HW5
            by_cases hit : textL v1 v2 = s.data.toList
            · have HV2 := Lib.hid (VHIT.out v1 v2 hit HNE.out)
              have eb : ((textB v1 v2).toList == s.toList) = true := by
                rw [beq_iff_eq, Lib.toList_data, Lib.toList_data, textB]; exact hit
              clear hit
              go_wp2_with fail
              have r := Lib.hid (((GG1.out).set 0 (.int .i64 v1)).set 1 (.int .i64 v2))
              have rb := Lib.hid ((GG2.out.setCell (p := ⟨B, 0, none⟩) (Nat.le_refl _) (.int .i64 v1)).setCell (p := ⟨B, 1, none⟩) (Nat.le_refl _) (.int .i64 v2))
              generalize World.setCell _ _ _ = w9 at *
              have r0' := r.out.cell 0
              have r1' := r.out.cell 1
              simp only [List.set_cons_zero, List.set_cons_succ, List.getElem?_cons_zero, List.getElem?_cons_succ] at r0' r1'
              refine bodyPost_ret (by simp [results, Tryd.results25, r0', r1', go_sem]; try rfl) rfl ?_
              exact ⟨by rw [HV2.out], rb.out⟩
            · have HV2 := Lib.hid (VBAD.out (by
                intro n d h
                apply Classical.byContradiction
                intro h0
                obtain ⟨e1, e2, hv⟩ := SP.out n d h h0
                have bb := valid_bd hv
                have q1 := N1.out
                have q2 := N2.out
                rw [e1, numRV_itoa (by omega) (by omega)] at q1
                rw [e2, numRV_itoa (by omega) (by omega)] at q2
                injection q1 with q1 _
                injection q2 with q2 _
                subst q1 q2
                exact hit h))
              have eb : ((textB v1 v2).toList == s.toList) = false := by
                rw [beq_eq_false_iff_ne, Lib.toList_data, Lib.toList_data, textB]; exact hit
              clear hit
              go_wp2_with fail
              have r := Lib.hid (((GG1.out).set 0 (.int .i64 0)).set 1 (.int .i64 0))
              have rb := Lib.hid ((GG2.out.setCell (p := ⟨B, 0, none⟩) (Nat.le_refl _) (.int .i64 0)).setCell (p := ⟨B, 1, none⟩) (Nat.le_refl _) (.int .i64 0))
              generalize World.setCell _ _ _ = w9 at *
              have r0' := r.out.cell 0
              have r1' := r.out.cell 1
              simp only [List.set_cons_zero, List.set_cons_succ, List.getElem?_cons_zero, List.getElem?_cons_succ] at r0' r1'
              refine bodyPost_ret (by simp [results, Tryd.results25, r0', r1', go_sem]; try rfl) rfl ?_
              exact ⟨by rw [HV2.out], rb.out⟩
      · have hcb : (((s[i].toNat : Nat) : Int) != 47) = true := by rw [bne_iff_ne]; omega
        have HNO := Lib.hid (take_not (S := s.data.toList) (by rw [HLN.out]; exact hlt) (fun e => hc (by rw [getB s hlt] at e; rw [e]; rfl)) hno.out)
        clear hc
        go_wp2_with fail
        go_roundw
        case rel => exact ⟨i + 1, by omega, by go_num, HNO, by trivial⟩
        case measure => simp [intOf]; omega
    · have HV2 := Lib.hid (VBAD.out (by
        intro n d h
        apply Classical.byContradiction
        intro h0
        have hv : validV n d = true := textL_ne (by rw [h]; exact h0)
        have hm : 47 ∉ s.data.toList := by
          have := hno.out
          rwa [List.take_of_length_le (by rw [HLN.out]; omega)] at this
        rw [← h, textL_valid hv] at hm
        exact hm (by simp)))
      have GG1 := F0
      have GG2 := FB
      go_wp2_with fail
      have r := Lib.hid (((GG1.out).set 0 (.int .i64 0)).set 1 (.int .i64 0))
      have rb := Lib.hid ((GG2.out.setCell (p := ⟨B, 0, none⟩) (Nat.le_refl _) (.int .i64 0)).setCell (p := ⟨B, 1, none⟩) (Nat.le_refl _) (.int .i64 0))
      generalize World.setCell _ _ _ = w9 at *
      have r0' := r.out.cell 0
      have r1' := r.out.cell 1
      simp only [List.set_cons_zero, List.set_cons_succ, List.getElem?_cons_zero, List.getElem?_cons_succ] at r0' r1'
      refine bodyPost_ret (by simp [results, Tryd.results25, r0', r1', go_sem]; try rfl) rfl ?_
      exact ⟨by rw [HV2.out], rb.out⟩
end Go.Proofs.YtdccjkbhmpfcmaaDoor
