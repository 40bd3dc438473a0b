/-
  The contract of Open in the reference. Its conditions are its hypotheses.
-/
import Derived.Test.YtneiljaknmeagaaGreatDoorRg
import Derived.Test.YtneiljaknmeagaaGreatDoorRh
import Derived.Test.YtneiljaknmeagaaGreatDoorBe
import Derived.BigRegion
namespace Go.Proofs.YtneiljaknmeagaaGreatDoor
open Go.RowKit Go.Joins
set_option linter.unusedVariables false
set_option linter.unusedSimpArgs false
theorem kept_frontF {l : List Oper} {n s : Nat} (h : (List.range n).all (fun j => dstOf l j != some s) = true) : ∀ j, j < n → dstOf l j ≠ some s := fun j hj e => by
  have := List.all_eq_true.1 h j (List.mem_range.2 hj)
  rw [e] at this
  simp at this
theorem dst_onlyF {l : List Oper} {t d : Nat} (h : (List.range l.length).all (fun j => j == t || dstOf l j != some d) = true) : ∀ j, j ≠ t → dstOf l j ≠ some d := fun j hj e => by
  rcases Nat.lt_or_ge j l.length with hl | hl
  · have := List.all_eq_true.1 h j (List.mem_range.2 hl)
    rw [e] at this
    simp [hj] at this
  · simp [dstOf, List.getElem?_eq_none hl] at e
def PhiOpY (D n sb : Nat) (SB : Option Addr) (x : Int) : Nat → Value → Prop
  | 30, v => v = .pointer (some ⟨D, 3, none⟩)
  | 31, v => v = .slice SB n sb
  | 33, v => v = .pointer (some ⟨D, 1, none⟩)
  | 34, v => v = .int .i64 x
  | 37, v => v = .pointer (some ⟨D, 3, none⟩)
  | _, _ => True
set_option maxRecDepth 100000 in
set_option maxHeartbeats 2000000 in
theorem openr_any (N : Nat → Prop) (T : Tb) (sv lv : Value) (now : Int) (w : World) (h : RefN N T sv lv w) (hN : ∀ b, N b → b < w.heap.size) (hl : T.lea.length ≤ 1000) (hsl : T.ses.length ≤ 1000) (h0 : 0 ≤ T.ls) (h1 : T.ls ≤ 1000000000) :
    Calls Tryz.prog 36 #[refV T sv lv, .int .i64 now] w (RM2 N w (openR T now).1 (.int .i64 (openR T now).2.1) (.int .i64 (openR T now).2.2)) := by
  obtain ⟨j0, hi, hz0, hz1, hz2⟩ := info_parts infoI
  have HJ0 := Lib.hid (And.intro hi (And.intro hz0 (And.intro hz1 hz2)))
  clear hi hz0 hz1 hz2
  obtain ⟨R1, hR1⟩ : ∃ R, R = (openR T now).2.1 := ⟨_, rfl⟩
  obtain ⟨R2, hR2⟩ : ∃ R, R = (openR T now).2.2 := ⟨_, rfl⟩
  obtain ⟨V, hV⟩ : ∃ V, V = (openR T now).1 := ⟨_, rfl⟩
  have HR1 := Lib.hid hR1
  have HR2 := Lib.hid hR2
  have HV := Lib.hid hV
  rw [← hR1, ← hR2, ← hV]
  unfold openR at HR1 HR2 HV
  have HLS := Lib.hid (And.intro h0 h1)
  clear hR1 hR2 hV h0 h1
  have HTD := Lib.hid (fun M W hW hM => toldr_any M T sv lv now W hW hM hl)
  have H := Lib.hid h
  obtain ⟨D, hD⟩ : ∃ D, D = w.heap.size := ⟨_, rfl⟩
  have HD := Lib.hid hD
  have HN := Lib.hid (hD ▸ hN)
  obtain ⟨U, hU⟩ : ∃ U, U = toldT T now := ⟨_, rfl⟩
  obtain ⟨E0, hE0⟩ : ∃ E, E = toldE T now := ⟨_, rfl⟩
  have HU := Lib.hid hU
  have HE0 := Lib.hid hE0
  have HUL := Lib.hid (show U.lea.length ≤ 1000 ∧ U.ses = T.ses ∧ U.lf = T.lf ∧ U.ls = T.ls by
    rw [hU]
    have := toldT_len T now
    exact ⟨by omega, this.2⟩)
  have HUS := Lib.hid (show U.ses.length ≤ 1000 by rw [HUL.out.2.1]; exact hsl)
  rw [← hU, ← hE0] at HR1 HR2 HV
  clear hsl
  unfold RM2
  rw [← hD]
  rw [← hU, ← hE0] at HTD
  obtain ⟨⟨SA, sc, rfl, _⟩, A, c, rfl, _⟩ := h
  clear hU hE0 hN hl
  go_enter Tryz.func36, Tryz.ntmps36
  go_wp2_with fail
  rw [← hD]
  generalize hw2 : World.alloc _ _ = w2
  have X2 := Lib.hid (show RBox D w [.int .i64 T.now, .int .i64 T.ls, .int .i64 T.lf, .slice SA T.ses.length sc, .slice A T.lea.length c] [.int .i64 0, .int .i64 0, .int .i64 0, .slice none 0 0, .slice none 0 0] w2 by rw [← hw2]; exact RBox.start hD)
  have N2 := Lib.hid (H.out.box HD.out X2.out.bel)
  clear hw2 hD
  refine (HTD.out (NX N D) w2 N2.out (NX.lt X2.out HN.out)).mono ?_
  rintro e w3 ⟨⟨su, lu, rfl, hn3⟩, hb⟩
  have X3 := Lib.hid (X2.out.ext hb)
  have N3 := Lib.hid hn3
  have hM3 := NX.lt X3.out HN.out
  have HM3 := Lib.hid hM3
  obtain ⟨⟨SB, sb, rfl, _, hsb, hsm, _⟩, LB, lb, rfl, _, hlb, hlm, _⟩ := hn3
  clear hb N2 X2 HTD hM3
  have q := X3.out.box.cell
  have y := X3.out.box.free
  have q1 := X3.out.res.cell
  have y1 := X3.out.res.free
  have hlt := X3.out.lt
  by_cases h0 : E0 = 0
  · rw [if_pos h0] at HR1 HR2 HV
    subst h0
    by_cases h8 : 8 ≤ U.ses.length
    · rw [if_pos h8] at HR1 HR2 HV
      have t2 : (8 : Int) ≤ (U.ses.length : Int) := by omega
      have HY1 := Lib.hid (show R1 = 0 from HR1.out)
      have HY2 := Lib.hid (show R2 = 9 from HR2.out)
      have HT := Lib.hid (show V = U from HV.out)
      go_wp2_with (with_reducible refine stop_at ?_)
      unfold StopAt
      clear q y q1 y1
      generalize hw9 : World.setCell _ _ _ = w9
      have X9 := Lib.hid (show RBox D w _ [Value.int .i64 U.now, Value.int .i64 U.ls, Value.int .i64 U.lf, Value.slice SB U.ses.length sb, Value.slice LB U.lea.length lb] w9 by rw [← hw9]; exact (((((((((X3.out.setB 0 _).setB 1 _).setB 2 _).setB 3 _).setB 4 _).setR 0 _).setR 1 _).setR 2 _).setR 3 _).setR 4 _)
      have N9 := Lib.hid (show RefN (NX N D) _ _ _ w9 by rw [← hw9]; exact (((((((((N3.out.putB 0 _).putB 1 _).putB 2 _).putB 3 _).putB 4 _).putR 0 _).putR 1 _).putR 2 _).putR 3 _).putR 4 _)
      have r0 : w9.cell? ⟨D + 1, 0, none⟩ = some (Value.int .i64 U.now) := X9.out.res.cell 0
      have r1 : w9.cell? ⟨D + 1, 1, none⟩ = some (Value.int .i64 U.ls) := X9.out.res.cell 1
      have r2 : w9.cell? ⟨D + 1, 2, none⟩ = some (Value.int .i64 U.lf) := X9.out.res.cell 2
      have r3 : w9.cell? ⟨D + 1, 3, none⟩ = some (Value.slice SB U.ses.length sb) := X9.out.res.cell 3
      have r4 : w9.cell? ⟨D + 1, 4, none⟩ = some (Value.slice LB U.lea.length lb) := X9.out.res.cell 4
      refine bodyPost_ret (by simp [results, Tryz.results36, r0, r1, r2, r3, r4, go_sem]; try rfl) rfl ?_
      rw [HY1.out, HY2.out, HT.out]
      exact ⟨⟨_, _, rfl, N9.out.unbox⟩, X9.out.bel⟩
    · rw [if_neg h8] at HR1 HR2 HV
      have t2 : ¬ (8 : Int) ≤ (U.ses.length : Int) := by omega
      have hlf0 : 0 ≤ U.ls := by rw [HUL.out.2.2.2]; exact HLS.out.1
      have hlf1 : U.ls ≤ 1000000000 := by rw [HUL.out.2.2.2]; exact HLS.out.2
      have HY1 := Lib.hid (show R1 = U.ls + 1 from HR1.out)
      have HY2 := Lib.hid (show R2 = 0 from HR2.out)
      have HT := Lib.hid (show V = { U with ls := U.ls + 1, ses := U.ses ++ [U.ls + 1] } from HV.out)
      have hU2 : U.ses.length ≤ 1000 := HUS.out
      clear HR1 HR2 HV
      go_wp2_with fail
      generalize hw4 : World.setCell _ _ _ = w4
      have X4 := Lib.hid (show RBox D w [Value.int .i64 U.now, Value.int .i64 (U.ls + 1), Value.int .i64 U.lf, Value.slice SB U.ses.length sb, Value.slice LB U.lea.length lb] _ w4 by rw [← hw4]; exact (((((X3.out.setB 0 _).setB 1 _).setB 2 _).setB 3 _).setB 4 _).setB 1 _)
      have N4 := Lib.hid (show RefN (NX N D) U _ _ w4 by rw [← hw4]; exact (((((N3.out.putB 0 _).putB 1 _).putB 2 _).putB 3 _).putB 4 _).putB 1 _)
      have HM4 := Lib.hid (NX.lt X4.out HN.out)
      clear hw4 q y q1 y1 hlt
      obtain ⟨E, hE⟩ : ∃ E, E = w4.heap.size := ⟨_, rfl⟩
      have HE := Lib.hid hE
      have HSZ0 := Lib.hid (show ∀ w8, Below E w4 w8 → E ≤ w8.heap.size from fun w8 hb => by rw [hE]; exact hb.size)
      have hDE : D < E := by rw [hE]; exact X4.out.box.lt
      have b1 : w4.cell? ⟨D, 1, none⟩ = some (.int .i64 (U.ls + 1)) := X4.out.box.cell 1
      have b3 : w4.cell? ⟨D, 3, none⟩ = some (.slice SB U.ses.length sb) := X4.out.box.cell 3
      have HRS := Lib.hid (show RowAt w4 SB (U.ses.map (Value.int .i64)) ∧ (SB = none → sb = 0) by
        obtain ⟨⟨A', c', e', hr', _, _, hz⟩, _⟩ := N4.out
        cases e'
        exact ⟨hr'.row, hz⟩)
      have HONE := Lib.hid (show ∀ u ∈ U.ses.map (Value.int .i64), u.oneCell' = true by intro u hu; obtain ⟨n, _, rfl⟩ := List.mem_map.1 hu; rfl)
      clear hE
      refine wp_region_felt 9 (by kernel_rfl) (fun _ w' => Below E w4 w') (Phi2 (PhiOpY D U.ses.length sb SB (U.ls + 1)) E 2 1 29 32 36 35 3 7 U.ses.length (U.ses.length + 1) (U.ses.map (Value.int .i64)) (U.ses.map (Value.int .i64) ++ [.int .i64 (U.ls + 1)]) [.int .i64 (U.ls + 1)]) 41 rfl (by kernel_rfl) (by kernel_rfl) (by kernel_rfl) (by kernel_rfl) (by kernel_rfl) (Below.refl _ _).drew ?hops ?hend
      case hops =>
        refine ⟨?o0, ?o1, ?o2, ?o3, ?o4, ?o5, ?o6, ?o7, ?o8, trivial⟩
        case o0 =>
          refine OpOkF.make rfl (Nat.le_of_eq HE.out) ?_
          intro ev w8 hI hdep hfree
          have HSZ : E ≤ w8.heap.size := HSZ0.out w8 hI
          clear hdep hfree
          try dsimp only
          simp [OpRuns, execOp, evalOf, go_sem]
          exact ⟨below_one _ _, fun listed => ⟨trivial, (fun _ _ => ⟨_, rfl, HSZ, heap_alloc_new w8 _⟩), fun e => absurd e (by decide), fun e => absurd e (by decide), fun e => absurd e (by decide)⟩⟩
        case o1 =>
          refine OpOkF.read rfl (fun d hd => by cases hd; decide) ?_
          intro ev w8 hI hdep hfree
          have a2 : ev 2 = Value.pointer (some { block := D, off := 0 }) := hfree 2 (by kernel_rfl)
          clear hdep hfree
          try dsimp only
          simp [OpRuns, execOp, evalOf, a2, go_sem]
          all_goals first | rfl | trivial
        case o2 =>
          refine OpOkF.read rfl (fun d hd => by cases hd; decide) ?_
          intro ev w8 hI hdep hfree
          have a30 : ev 30 = .pointer (some ⟨D, 3, none⟩) := hdep 1 30 (by kernel_rfl) (by kernel_rfl)
          clear hdep hfree
          have y0 : w8.cell? ⟨D, 3, none⟩ = some (.slice SB U.ses.length sb) := (hI.cell (p := ⟨D, 3, none⟩) hDE).trans b3
          try dsimp only
          simp [OpRuns, execOp, evalOf, a30, y0, go_sem]
          all_goals first | rfl | trivial
        case o3 =>
          refine OpOkF.app1 (i0 := j0) (z := .int .i64 0) (bytes := 8) (t := 27) (s1 := 31) (j0 := 0) rfl rfl rfl (of_decide_eq_true (by kernel_rfl)) (by kernel_rfl) (by kernel_rfl) (Nat.le_of_eq HE.out) Tryz.underlying27 HJ0.out.1 HJ0.out.2.1 HJ0.out.2.2.1 HJ0.out.2.2.2 rfl (by decide) ?_ (by simp) HONE.out (by simp only [maxLen]; omega) (by omega) (dst_onlyF (by kernel_rfl)) (dst_onlyF (by kernel_rfl)) (by kernel_rfl) (by simp) (fun _ => trivial) (by decide)
          intro ev w8 hI hdep
          exact ⟨SB, sb, hdep 2 31 (by kernel_rfl) (by kernel_rfl), HRS.out.1.below hI (Nat.le_of_eq HE.out.symm), HRS.out.2⟩
        case o4 =>
          refine OpOkF.read rfl (fun d hd => by cases hd; decide) ?_
          intro ev w8 hI hdep hfree
          have a2 : ev 2 = Value.pointer (some { block := D, off := 0 }) := hfree 2 (by kernel_rfl)
          clear hdep hfree
          try dsimp only
          simp [OpRuns, execOp, evalOf, a2, go_sem]
          all_goals first | rfl | trivial
        case o5 =>
          refine OpOkF.read rfl (fun d hd => by cases hd; decide) ?_
          intro ev w8 hI hdep hfree
          have a33 : ev 33 = .pointer (some ⟨D, 1, none⟩) := hdep 4 33 (by kernel_rfl) (by kernel_rfl)
          clear hdep hfree
          have y0 : w8.cell? ⟨D, 1, none⟩ = some (.int .i64 (U.ls + 1)) := (hI.cell (p := ⟨D, 1, none⟩) hDE).trans b1
          try dsimp only
          simp [OpRuns, execOp, evalOf, a33, y0, go_sem]
          all_goals first | rfl | trivial
        case o6 =>
          refine OpOkF.make rfl (Nat.le_of_eq HE.out) ?_
          intro ev w8 hI hdep hfree
          have HSZ : E ≤ w8.heap.size := HSZ0.out w8 hI
          have a34 : ev 34 = .int .i64 (U.ls + 1) := hdep 5 34 (by kernel_rfl) (by kernel_rfl)
          clear hdep hfree
          try dsimp only
          simp [OpRuns, execOp, evalOf, a34, go_sem]
          exact ⟨below_one _ _, fun listed => ⟨trivial, (fun e => absurd e (by decide)), fun e => absurd e (by decide), fun e => absurd e (by decide), fun _ _ => ⟨_, rfl, HSZ, heap_alloc_new w8 _⟩⟩⟩
        case o7 =>
          refine OpOkF.app2 (i0 := j0) (z := .int .i64 0) (bytes := 8) (t := 27) (s2 := 35) (m := 1) (news := [.int .i64 (U.ls + 1)]) rfl rfl rfl (of_decide_eq_true (by kernel_rfl)) (by kernel_rfl) (Nat.le_of_eq HE.out) Tryz.underlying27 HJ0.out.1 HJ0.out.2.1 HJ0.out.2.2.1 HJ0.out.2.2.2 rfl (by decide) ?_ rfl (by simp [Value.oneCell']) (by simp only [maxLen]; omega) (by omega) rfl rfl (dst_onlyF (by kernel_rfl)) (by kernel_rfl) (fun _ => trivial) (by decide)
          intro ev w8 listed hI hun hdep
          obtain ⟨h, hv, _, hh⟩ := (hdep 6 35 (by kernel_rfl) (by kernel_rfl)).2.2.2.2 rfl hun
          exact ⟨some ⟨h, 0, none⟩, 1, hv, fun j u hj => ⟨h, 0, rfl, by
            have h2 := World.news_of_block hh j u (by simpa using hj)
            have hadd : (⟨h, 0, none⟩ : Addr).add j = ⟨h, 0 + j, none⟩ := by unfold Addr.add; split <;> simp_all
            rwa [hadd] at h2⟩, fun e => by cases e⟩
        case o8 =>
          refine OpOkF.read rfl (fun d hd => by cases hd; decide) ?_
          intro ev w8 hI hdep hfree
          have a2 : ev 2 = Value.pointer (some { block := D, off := 0 }) := hfree 2 (by kernel_rfl)
          clear hdep hfree
          try dsimp only
          simp [OpRuns, execOp, evalOf, a2, go_sem]
          all_goals first | rfl | trivial
      case hend =>
        intro listed a w6b hall hdf hsz hI hPhi hkept
        replace hI : Below E w4 w6b := hI
        replace hdf : a.defers = [] := hdf
        replace hsz : a.tmps.size = 41 := hsz
        have HO := (hPhi 7 36 (by omega) (by kernel_rfl)).2.2.2.1 rfl
        have x37 : a.tmps.getD 37 undef = .pointer (some ⟨D, 3, none⟩) := (hPhi 8 37 (by omega) (by kernel_rfl)).1
        obtain ⟨gg, cap, x36, _, _⟩ := HO.form (by omega)
        rw [x36] at HO
        have HOF := Lib.hid HO
        clear HO
        have x0 : a.tmps.getD 0 undef = refV T (Value.slice SA T.ses.length sc) (Value.slice A T.lea.length c) := hkept 0 (kept_frontF (by kernel_rfl))
        have x1 : a.tmps.getD 1 undef = Value.int IntKind.i64 now := hkept 1 (kept_frontF (by kernel_rfl))
        have x2 : a.tmps.getD 2 undef = Value.pointer (some { block := D, off := 0 }) := hkept 2 (kept_frontF (by kernel_rfl))
        have x3 : a.tmps.getD 3 undef = undef := hkept 3 (kept_frontF (by kernel_rfl))
        have x4 : a.tmps.getD 4 undef = Value.pointer (some { block := D + 1, off := 0 }) := hkept 4 (kept_frontF (by kernel_rfl))
        have x5 : a.tmps.getD 5 undef = Value.int IntKind.i64 0 := hkept 5 (kept_frontF (by kernel_rfl))
        have x6 : a.tmps.getD 6 undef = Value.int IntKind.i64 0 := hkept 6 (kept_frontF (by kernel_rfl))
        have x7 : a.tmps.getD 7 undef = Value.int IntKind.i64 0 := hkept 7 (kept_frontF (by kernel_rfl))
        have x8 : a.tmps.getD 8 undef = Value.tuple #[refV U (Value.slice SB U.ses.length sb) (Value.slice LB U.lea.length lb), Value.int IntKind.i64 0] := hkept 8 (kept_frontF (by kernel_rfl))
        have x9 : a.tmps.getD 9 undef = Value.agg #[Value.int IntKind.i64 T.now, Value.int IntKind.i64 T.ls, Value.int IntKind.i64 T.lf, Value.slice SA T.ses.length sc, Value.slice A T.lea.length c] := hkept 9 (kept_frontF (by kernel_rfl))
        have x10 : a.tmps.getD 10 undef = Value.int IntKind.i64 now := hkept 10 (kept_frontF (by kernel_rfl))
        have x11 : a.tmps.getD 11 undef = Value.tuple #[refV U (Value.slice SB U.ses.length sb) (Value.slice LB U.lea.length lb), Value.int IntKind.i64 0] := hkept 11 (kept_frontF (by kernel_rfl))
        have x12 : a.tmps.getD 12 undef = refV U (Value.slice SB U.ses.length sb) (Value.slice LB U.lea.length lb) := hkept 12 (kept_frontF (by kernel_rfl))
        have x13 : a.tmps.getD 13 undef = Value.int IntKind.i64 0 := hkept 13 (kept_frontF (by kernel_rfl))
        have x14 : a.tmps.getD 14 undef = Value.bool false := hkept 14 (kept_frontF (by kernel_rfl))
        have x15 : a.tmps.getD 15 undef = Value.int IntKind.i64 0 := hkept 15 (kept_frontF (by kernel_rfl))
        have x16 : a.tmps.getD 16 undef = Value.bool false := hkept 16 (kept_frontF (by kernel_rfl))
        have x17 : a.tmps.getD 17 undef = undef := hkept 17 (kept_frontF (by kernel_rfl))
        have x18 : a.tmps.getD 18 undef = undef := hkept 18 (kept_frontF (by kernel_rfl))
        have x19 : a.tmps.getD 19 undef = Value.bool (decide (8 ≤ (↑U.ses.length : Int))) := hkept 19 (kept_frontF (by kernel_rfl))
        have x20 : a.tmps.getD 20 undef = Value.pointer (some { block := D, off := 3 }) := hkept 20 (kept_frontF (by kernel_rfl))
        have x21 : a.tmps.getD 21 undef = Value.slice SB U.ses.length sb := hkept 21 (kept_frontF (by kernel_rfl))
        have x22 : a.tmps.getD 22 undef = Value.int IntKind.i64 (↑U.ses.length : Int) := hkept 22 (kept_frontF (by kernel_rfl))
        have x23 : a.tmps.getD 23 undef = Value.bool (decide (8 ≤ (↑U.ses.length : Int))) := hkept 23 (kept_frontF (by kernel_rfl))
        have x24 : a.tmps.getD 24 undef = undef := hkept 24 (kept_frontF (by kernel_rfl))
        have x25 : a.tmps.getD 25 undef = Value.pointer (some { block := D, off := 1 }) := hkept 25 (kept_frontF (by kernel_rfl))
        have x26 : a.tmps.getD 26 undef = Value.int IntKind.i64 U.ls := hkept 26 (kept_frontF (by kernel_rfl))
        have x27 : a.tmps.getD 27 undef = Value.int IntKind.i64 (U.ls + 1) := hkept 27 (kept_frontF (by kernel_rfl))
        have x28 : a.tmps.getD 28 undef = Value.pointer (some { block := D, off := 1 }) := hkept 28 (kept_frontF (by kernel_rfl))
        have x38 : a.tmps.getD 38 undef = undef := hkept 38 (kept_frontF (by kernel_rfl))
        have x39 : a.tmps.getD 39 undef = undef := hkept 39 (kept_frontF (by kernel_rfl))
        have x40 : a.tmps.getD 40 undef = undef := hkept 40 (kept_frontF (by kernel_rfl))
        have ea := act_lit hsz hdf
        simp only [getDs] at ea
        rw [x36, x37, x0, x1, x2, x3, x4, x5, x6, x7, x8, x9, x10, x11, x12, x13, x14, x15, x16, x17, x18, x19, x20, x21, x22, x23, x24, x25, x26, x27, x28, x38, x39, x40] at ea
        rw [ea]
        clear ea x36 x37 x0 x1 x2 x3 x4 x5 x6 x7 x8 x9 x10 x11 x12 x13 x14 x15 x16 x17 x18 x19 x20 x21 x22 x23 x24 x25 x26 x27 x28 x38 x39 x40 hPhi hkept hdf hsz hall
        generalize a.tmps.getD 29 undef = u29
        generalize a.tmps.getD 30 undef = u30
        generalize a.tmps.getD 31 undef = u31
        generalize a.tmps.getD 32 undef = u32
        generalize a.tmps.getD 33 undef = u33
        generalize a.tmps.getD 34 undef = u34
        generalize a.tmps.getD 35 undef = u35
        clear a
        have HB8 := Lib.hid (show Below w4.heap.size w4 w6b from HE.out ▸ hI)
        have X8 := Lib.hid (X4.out.ext HB8.out)
        have N8 := Lib.hid (N4.out.ext HB8.out)
        have NZ := Lib.hid (RefN.newS (T' := { U with ls := U.ls + 1, ses := U.ses ++ [U.ls + 1] }) N8.out rfl (by
          rw [List.map_append, List.length_append]
          exact HOF.out) (HE.out ▸ HM4.out))
        have XZ := X8
        have q := XZ.out.box.cell
        have y := XZ.out.box.free
        have q1 := XZ.out.res.cell
        have y1 := XZ.out.res.free
        have hlt := XZ.out.lt
        have hltd := XZ.out.box.lt
        clear hI b1 b3
        go_wp2_with fail
        go_region
        go_wp2_with (with_reducible refine stop_at ?_)
        unfold StopAt
        clear q y q1 y1
        generalize hw9 : World.drew _ = w9
        have X9 := Lib.hid (show RBox D w _ [Value.int .i64 U.now, Value.int .i64 (U.ls + 1), Value.int .i64 U.lf, Value.slice (some ⟨gg, 0, none⟩) (U.ses.length + 1) cap, Value.slice LB U.lea.length lb] w9 by rw [← hw9]; exact ((((((XZ.out.setB 3 _).setR 0 _).setR 1 _).setR 2 _).setR 3 _).setR 4 _).ext (Below.refl _ _).drew)
        have N9 := Lib.hid (show RefN (NX N D) { U with ls := U.ls + 1, ses := U.ses ++ [U.ls + 1] } _ _ w9 by rw [← hw9]; exact ((((((NZ.out.putB 3 _).putR 0 _).putR 1 _).putR 2 _).putR 3 _).putR 4 _).ext (Below.refl _ _).drew)
        have r0 : w9.cell? ⟨D + 1, 0, none⟩ = some (Value.int .i64 U.now) := X9.out.res.cell 0
        have r1 : w9.cell? ⟨D + 1, 1, none⟩ = some (Value.int .i64 (U.ls + 1)) := X9.out.res.cell 1
        have r2 : w9.cell? ⟨D + 1, 2, none⟩ = some (Value.int .i64 U.lf) := X9.out.res.cell 2
        have r3 : w9.cell? ⟨D + 1, 3, none⟩ = some (Value.slice (some ⟨gg, 0, none⟩) (U.ses.length + 1) cap) := X9.out.res.cell 3
        have r4 : w9.cell? ⟨D + 1, 4, none⟩ = some (Value.slice LB U.lea.length lb) := X9.out.res.cell 4
        refine bodyPost_ret (by simp [results, Tryz.results36, r0, r1, r2, r3, r4, go_sem]; try rfl) rfl ?_
        rw [HY1.out, HY2.out, HT.out]
        exact ⟨⟨_, _, rfl, N9.out.unbox⟩, X9.out.bel⟩
  · rw [if_neg h0] at HR1 HR2 HV
    have t0 : (E0 != 0) = true := by simpa using h0
    clear h0
    have HY1 := Lib.hid (show R1 = 0 from HR1.out)
    have HY2 := Lib.hid (show R2 = E0 from HR2.out)
    have HT := Lib.hid (show V = U from HV.out)
    go_wp2_with (with_reducible refine stop_at ?_)
    unfold StopAt
    clear q y q1 y1
    generalize hw9 : World.setCell _ _ _ = w9
    have X9 := Lib.hid (show RBox D w _ [Value.int .i64 U.now, Value.int .i64 U.ls, Value.int .i64 U.lf, Value.slice SB U.ses.length sb, Value.slice LB U.lea.length lb] w9 by rw [← hw9]; exact (((((((((X3.out.setB 0 _).setB 1 _).setB 2 _).setB 3 _).setB 4 _).setR 0 _).setR 1 _).setR 2 _).setR 3 _).setR 4 _)
    have N9 := Lib.hid (show RefN (NX N D) _ _ _ w9 by rw [← hw9]; exact (((((((((N3.out.putB 0 _).putB 1 _).putB 2 _).putB 3 _).putB 4 _).putR 0 _).putR 1 _).putR 2 _).putR 3 _).putR 4 _)
    have r0 : w9.cell? ⟨D + 1, 0, none⟩ = some (Value.int .i64 U.now) := X9.out.res.cell 0
    have r1 : w9.cell? ⟨D + 1, 1, none⟩ = some (Value.int .i64 U.ls) := X9.out.res.cell 1
    have r2 : w9.cell? ⟨D + 1, 2, none⟩ = some (Value.int .i64 U.lf) := X9.out.res.cell 2
    have r3 : w9.cell? ⟨D + 1, 3, none⟩ = some (Value.slice SB U.ses.length sb) := X9.out.res.cell 3
    have r4 : w9.cell? ⟨D + 1, 4, none⟩ = some (Value.slice LB U.lea.length lb) := X9.out.res.cell 4
    refine bodyPost_ret (by simp [results, Tryz.results36, r0, r1, r2, r3, r4, go_sem]; try rfl) rfl ?_
    rw [HY1.out, HY2.out, HT.out]
    exact ⟨⟨_, _, rfl, N9.out.unbox⟩, X9.out.bel⟩
end Go.Proofs.YtneiljaknmeagaaGreatDoor
