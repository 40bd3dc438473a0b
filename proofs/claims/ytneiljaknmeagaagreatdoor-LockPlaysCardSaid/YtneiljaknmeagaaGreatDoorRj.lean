/-
  The contract of Release in the reference. Its conditions are its hypotheses.
-/
import Derived.Test.YtneiljaknmeagaaGreatDoorRi
namespace Go.Proofs.YtneiljaknmeagaaGreatDoor
open Go.RowKit Go.Joins
set_option linter.unusedVariables false
set_option linter.unusedSimpArgs false
set_option maxRecDepth 100000 in
theorem slice_lea {w : World} {g o n c k : Nat} {kk : Int} (hkk : kk = (k : Int)) {L : List Ls} (hr : LeasAt w (some ⟨g, o, none⟩) L) (hn : n = L.length) (hk : k ≤ n) (hc : n ≤ c) :
    ∃ A c1, (∀ w', (Instr.slice 28 (.slice (some ⟨g, o, none⟩) n c) (some (.int .i64 kk)) none none).run Tryz.prog w' = .ok (.slice A (n - k) c1) w') ∧ RowAt w A ((L.drop k).flatMap lsV) ∧ (A = none → c1 = 0) := by
  subst hkk
  have h1 : (0 : Int) ≤ (k : Int) := by omega
  have h2 : (k : Int) ≤ (n : Int) := by omega
  have sz : ∀ w', (sizeOf (Tryz.prog.elem 28)).run Tryz.prog w' = .ok 4 w' := fun w' => by
    obtain ⟨i0, hi, hz0, hz1, hz2⟩ := info_parts infoL
    have he : Tryz.prog.elem 28 = 49 := by kernel_rfl
    rw [he]
    simp [sizeOf, typeInfo, hi, hz1]
  by_cases hk2 : c = k
  · refine ⟨some ⟨g, o, none⟩, 0, fun w' => ?_, ?_, fun e => by cases e⟩
    · rw [run_slice_l (ht := Tryz.underlying28) (h0 := h1) (h1 := h2), sz]
      simp [Result.andThen, sliced, hk2]
    · have hL : L.drop k = [] := List.drop_eq_nil_of_le (by omega)
      rw [hL]
      exact RowAt.nil _ _
  · refine ⟨some ⟨g, o + k * 4, none⟩, c - k, fun w' => ?_, ?_, fun e => by cases e⟩
    · rw [run_slice_l (ht := Tryz.underlying28) (h0 := h1) (h1 := h2), sz]
      have hadd : (⟨g, o, none⟩ : Addr).add (k * 4) = ⟨g, o + k * 4, none⟩ := by unfold Addr.add; split <;> simp_all
      simp [Result.andThen, sliced, hk2, hadd]
    · intro j u hj
      rw [← flat_drop lsV_len, List.getElem?_drop] at hj
      obtain ⟨b', o', e, hc'⟩ := hr (k * 4 + j) u hj
      cases e
      exact ⟨g, o + k * 4, rfl, by rw [Nat.add_assoc]; exact hc'⟩
def PhiRlY (D n lb k : Nat) (LB A2 : Option Addr) (c2 : Nat) : Nat → Value → Prop
  | 31, v => v = .pointer (some ⟨D, 4, none⟩)
  | 32, v => v = .slice LB n lb
  | 33, v => v = .int .i64 (k : Int)
  | 34, v => v = .slice LB k lb
  | 36, v => v = .pointer (some ⟨D, 4, none⟩)
  | 37, v => v = .slice LB n lb
  | 38, v => v = .int .i64 (k : Int)
  | 39, v => v = .int .i64 ((k : Int) + 1)
  | 40, v => v = .slice A2 (n - (k + 1)) c2
  | 42, v => v = .pointer (some ⟨D, 4, none⟩)
  | _, _ => True
set_option maxRecDepth 100000 in
set_option maxHeartbeats 2000000 in
theorem releaser_any (N : Nat → Prop) (T : Tb) (sv lv : Value) (now ses : Int) (reel : List UInt8) (fen : Int) (w : World) (h : RefN N T sv lv w) (hN : ∀ b, N b → b < w.heap.size) (hasc : Asc T.lea) (hl : T.lea.length ≤ 1000) :
    Calls Tryz.prog 43 #[refV T sv lv, .int .i64 now, .int .i64 ses, .string (sB reel), .int .i64 fen] w (RM1 N w (releaseT T now ses reel fen) (.int .i64 (heldE T now ses reel fen))) := by
  obtain ⟨i0, hi, hz0, hz1, hz2⟩ := info_parts infoL
  have HI0 := Lib.hid (And.intro hi (And.intro hz0 (And.intro hz1 hz2)))
  clear hi hz0 hz1 hz2
  have HCK := Lib.hid (fun M W hW hM => checkr_any M T sv lv now ses reel fen W hW hM hasc hl)
  have H := Lib.hid h
  obtain ⟨D, hD⟩ : ∃ D, D = w.heap.size := ⟨_, rfl⟩
  have HD := Lib.hid hD
  have HN := Lib.hid (hD ▸ hN)
  have HTZ := Lib.hid (toldE_zero (T := T) (now := now))
  have HEZ := Lib.hid (heldE_zero (T := T) (now := now) (ses := ses) (reel := reel) (fen := fen))
  have HAS := Lib.hid (toldT_asc hasc now)
  obtain ⟨U, hU⟩ : ∃ U, U = toldT T now := ⟨_, rfl⟩
  obtain ⟨E0, hE0⟩ : ∃ E, E = heldE T now ses reel fen := ⟨_, rfl⟩
  have HU := Lib.hid hU
  have HE0 := Lib.hid hE0
  have HUL := Lib.hid (show U.lea.length ≤ 1000 ∧ U.ses = T.ses ∧ U.lf = T.lf ∧ U.ls = T.ls by
    rw [hU]
    have := toldT_len T now
    exact ⟨by omega, this.2⟩)
  obtain ⟨R, hR⟩ : ∃ R, R = heldE T now ses reel fen := ⟨_, rfl⟩
  have HY := Lib.hid (show R = E0 from hR.trans hE0.symm)
  obtain ⟨V, hV⟩ : ∃ V, V = releaseT T now ses reel fen := ⟨_, rfl⟩
  have HV := Lib.hid hV
  unfold releaseT at HV
  unfold RM1
  rw [← hD, ← hR, ← hV]
  rw [← hU, ← hE0] at HCK HV
  rw [← hE0, ← hU] at HEZ
  rw [← hU] at HAS
  obtain ⟨⟨SA, sc, rfl, _⟩, A, c, rfl, _⟩ := h
  clear hU hE0 hN hl hR hV hasc
  go_enter Tryz.func43, Tryz.ntmps43
  go_wp2_with fail
  rw [← hD]
  generalize hw2 : World.alloc _ _ = w2
  have X2 := Lib.hid (show RBox D w [.int .i64 T.now, .int .i64 T.ls, .int .i64 T.lf, .slice SA T.ses.length sc, .slice A T.lea.length c] [.int .i64 0, .int .i64 0, .int .i64 0, .slice none 0 0, .slice none 0 0] w2 by rw [← hw2]; exact RBox.start hD)
  have N2 := Lib.hid (H.out.box HD.out X2.out.bel)
  clear hw2 hD
  refine (HCK.out (NX N D) w2 N2.out (NX.lt X2.out HN.out)).mono ?_
  rintro e w3 ⟨⟨su, lu, rfl, hn3⟩, hb⟩
  have X3 := Lib.hid (X2.out.ext hb)
  have N3 := Lib.hid hn3
  have HM3 := Lib.hid (NX.lt X3.out HN.out)
  obtain ⟨⟨SB, sb, rfl, _, hsb, hsm, _⟩, LB, lb, rfl, _, hlb, hlm, _⟩ := hn3
  clear hb N2 X2 HCK
  have q := X3.out.box.cell
  have y := X3.out.box.free
  have q1 := X3.out.res.cell
  have y1 := X3.out.res.free
  have hlt := X3.out.lt
  have hltd := X3.out.box.lt
  by_cases h0 : E0 = 0
  · rw [if_pos h0] at HV
    subst h0
    obtain ⟨ht0, x, hx, hxr, hxs, hxf⟩ := HEZ.out rfl
    have HMI := Lib.hid (show mineI U ses reel fen = heldK T now ses reel fen by
      unfold mineI
      rw [mine_some HAS.out hx hxr hxs hxf])
    obtain ⟨k, hk⟩ : ∃ k, k = heldK T now ses reel fen := ⟨_, rfl⟩
    rw [← hk] at hx HMI HV
    have hkl := (List.getElem?_eq_some_iff.1 hx).1
    have hkl2 : (k : Int) < (U.lea.length : Int) := by omega
    have hl1000 : U.lea.length ≤ 1000 := HUL.out.1
    have hlb' : lb ≤ 9223372036854775807 := by simpa [maxLen] using hlm
    have hklb : (k : Int) ≤ (lb : Int) := by omega
    have HX := Lib.hid hx
    clear hx hxr hxs hxf ht0 hk HEZ HTZ
    have HMC := Lib.hid (fun W (hW : RefT U (.slice SB U.ses.length sb) (.slice LB U.lea.length lb) W) => mine_any U _ _ ses reel fen W hW HAS.out HUL.out.1)
    rw [HMI.out] at HMC
    go_wp2_with fail
    generalize hw9 : World.setCell _ _ _ = w9
    have X9 := Lib.hid (show RBox D w [Value.int .i64 U.now, Value.int .i64 U.ls, Value.int .i64 U.lf, Value.slice SB U.ses.length sb, Value.slice LB U.lea.length lb] _ w9 by rw [← hw9]; exact (((((X3.out.setB 0 _).setB 1 _).setB 2 _).setB 3 _).setB 4 _))
    have N9 := Lib.hid (show RefN (NX N D) U _ _ w9 by rw [← hw9]; exact (((((N3.out.putB 0 _).putB 1 _).putB 2 _).putB 3 _).putB 4 _))
    clear hw9 q y q1 y1 hlt hltd
    refine (HMC.out w9 N9.out.ref).mono ?_
    rintro e w4 ⟨rfl, hb4⟩
    have X4 := Lib.hid (X9.out.ext hb4)
    have N4 := Lib.hid (N9.out.ext hb4)
    have HM4 := Lib.hid (NX.lt X4.out HN.out)
    clear hb4 HMC
    go_wp2_with fail
    obtain ⟨E, hE⟩ : ∃ E, E = w4.heap.size := ⟨_, rfl⟩
    have HE := Lib.hid hE
    have HSZ0 := Lib.hid (show ∀ w8, Below E w4 w8 → E ≤ w8.heap.size from fun w8 hb => by rw [hE]; exact hb.size)
    have hDE : D < E := by rw [hE]; exact X4.out.box.lt
    have b4 : w4.cell? ⟨D, 4, none⟩ = some (.slice LB U.lea.length lb) := X4.out.box.cell 4
    have HRL := Lib.hid (show LeasAt w4 LB U.lea by
      obtain ⟨_, A', c', e', hr', _⟩ := N4.out
      cases e'
      exact hr'.row)
    obtain ⟨g0, o0, hLB⟩ := LeasAt.some HRL.out HX.out
    subst hLB
    obtain ⟨A2, c2, hs2, hr2, hz2⟩ := slice_lea (k := k + 1) (kk := (k : Int) + 1) (by omega) HRL.out rfl (by omega) hlb
    have HR2 := Lib.hid (And.intro hr2 hz2)
    have HR1 := Lib.hid (show RowAt w4 (some ⟨g0, o0, none⟩) ((U.lea.take k).flatMap lsV) by
      rw [← flat_take lsV_len]
      exact RowAt.take HRL.out _)
    have HO1 := Lib.hid (show ∀ u ∈ (U.lea.take k).flatMap lsV, u.oneCell' = true from flat_one _)
    have HO2 := Lib.hid (show ∀ u ∈ (U.lea.drop (k + 1)).flatMap lsV, u.oneCell' = true from flat_one _)
    have HF1 := Lib.hid (show ((U.lea.take k).flatMap lsV).length = k * 4 by rw [flat_len lsV_len, List.length_take]; congr 1; omega)
    have HF2 := Lib.hid (show ((U.lea.drop (k + 1)).flatMap lsV).length = (U.lea.length - (k + 1)) * 4 by rw [flat_len lsV_len, List.length_drop])
    have HWR := Lib.hid (show IntKind.i64.wrap ((k : Int) + 1) = (k : Int) + 1 by rw [IntKind.wrap_i64]; omega)
    have HER := Lib.hid (show (U.lea.eraseIdx k).length = k + (U.lea.length - (k + 1)) ∧ (U.lea.eraseIdx k).flatMap lsV = (U.lea.take k).flatMap lsV ++ (U.lea.drop (k + 1)).flatMap lsV by
      rw [List.eraseIdx_eq_take_drop_succ, List.flatMap_append, List.length_append, List.length_take, List.length_drop]
      exact ⟨by omega, rfl⟩)
    clear hE hr2 hz2
    refine wp_region_felt 13 (by kernel_rfl) (fun _ w' => Below E w4 w') (Phi2 (PhiRlY D U.lea.length lb k (some ⟨g0, o0, none⟩) A2 c2) E 49 4 30 35 41 1000 5 11 k (k + (U.lea.length - (k + 1))) ((U.lea.take k).flatMap lsV) ((U.lea.take k).flatMap lsV ++ (U.lea.drop (k + 1)).flatMap lsV) [.int .i64 0]) 45 rfl (by kernel_rfl) (by kernel_rfl) (by kernel_rfl) (by kernel_rfl) (by kernel_rfl) (Below.refl _ _).drew ?hops ?hend
    case hops =>
      refine ⟨?o0, ?o1, ?o2, ?o3, ?o4, ?o5, ?o6, ?o7, ?o8, ?o9, ?o10, ?o11, ?o12, trivial⟩
      case o0 =>
        refine OpOkF.make rfl (Nat.le_of_eq HE.out) ?_
        intro ev w8 hI hdep hfree
        have HSZ : E ≤ w8.heap.size := HSZ0.out w8 hI
        clear hdep hfree
        try dsimp only
        simp [OpRuns, execOp, evalOf, go_sem]
        exact ⟨below_one _ _, fun listed => ⟨trivial, (fun _ _ => ⟨_, rfl, HSZ, heap_alloc_new w8 _⟩), fun e => absurd e (by decide), fun e => absurd e (by decide), fun e => absurd e (by decide)⟩⟩
      case o1 =>
        refine OpOkF.read rfl (fun d hd => by cases hd; decide) ?_
        intro ev w8 hI hdep hfree
        have a5 : ev 5 = Value.pointer (some { block := D, off := 0 }) := hfree 5 (by kernel_rfl)
        clear hdep hfree
        try dsimp only
        simp [OpRuns, execOp, evalOf, a5, go_sem]
        all_goals first | rfl | trivial
      case o2 =>
        refine OpOkF.read rfl (fun d hd => by cases hd; decide) ?_
        intro ev w8 hI hdep hfree
        have a31 : ev 31 = .pointer (some ⟨D, 4, none⟩) := hdep 1 31 (by kernel_rfl) (by kernel_rfl)
        clear hdep hfree
        have y0 : w8.cell? ⟨D, 4, none⟩ = some (.slice (some ⟨g0, o0, none⟩) U.lea.length lb) := (hI.cell (p := ⟨D, 4, none⟩) hDE).trans b4
        try dsimp only
        simp [OpRuns, execOp, evalOf, a31, y0, go_sem]
        all_goals first | rfl | trivial
      case o3 =>
        refine OpOkF.read rfl (fun d hd => by cases hd; decide) ?_
        intro ev w8 hI hdep hfree
        have a13 : ev 13 = Value.int IntKind.i64 (↑k : Int) := hfree 13 (by kernel_rfl)
        clear hdep hfree
        try dsimp only
        simp [OpRuns, execOp, evalOf, a13, go_sem]
        all_goals first | rfl | trivial
      case o4 =>
        refine OpOkF.read rfl (fun d hd => by cases hd; decide) ?_
        intro ev w8 hI hdep hfree
        have a32 : ev 32 = .slice (some ⟨g0, o0, none⟩) U.lea.length lb := hdep 2 32 (by kernel_rfl) (by kernel_rfl)
        have a33 : ev 33 = .int .i64 (k : Int) := hdep 3 33 (by kernel_rfl) (by kernel_rfl)
        clear hdep hfree
        try dsimp only
        simp [OpRuns, execOp, evalOf, a32, a33, hklb, go_sem]
        all_goals first | rfl | trivial
      case o5 =>
        refine OpOkF.app1 (i0 := i0) (z := .agg #[.string ⟨#[]⟩, .int .i64 0, .int .i64 0, .int .i64 0]) (bytes := 40) (t := 28) (s1 := 34) (j0 := 0) rfl rfl rfl (of_decide_eq_true (by kernel_rfl)) (by kernel_rfl) (by kernel_rfl) (Nat.le_of_eq HE.out) Tryz.underlying28 HI0.out.1 HI0.out.2.1 HI0.out.2.2.1 HI0.out.2.2.2 rfl (by decide) ?_ HF1.out HO1.out (by simp only [maxLen]; omega) (by omega) (dst_onlyF (by kernel_rfl)) (dst_onlyF (by kernel_rfl)) (by kernel_rfl) (by simp) (fun _ => trivial) (by decide)
        intro ev w8 hI hdep
        exact ⟨_, lb, hdep 4 34 (by kernel_rfl) (by kernel_rfl), HR1.out.below hI (Nat.le_of_eq HE.out.symm), fun e => by cases e⟩
      case o6 =>
        refine OpOkF.read rfl (fun d hd => by cases hd; decide) ?_
        intro ev w8 hI hdep hfree
        have a5 : ev 5 = Value.pointer (some { block := D, off := 0 }) := hfree 5 (by kernel_rfl)
        clear hdep hfree
        try dsimp only
        simp [OpRuns, execOp, evalOf, a5, go_sem]
        all_goals first | rfl | trivial
      case o7 =>
        refine OpOkF.read rfl (fun d hd => by cases hd; decide) ?_
        intro ev w8 hI hdep hfree
        have a36 : ev 36 = .pointer (some ⟨D, 4, none⟩) := hdep 6 36 (by kernel_rfl) (by kernel_rfl)
        clear hdep hfree
        have y0 : w8.cell? ⟨D, 4, none⟩ = some (.slice (some ⟨g0, o0, none⟩) U.lea.length lb) := (hI.cell (p := ⟨D, 4, none⟩) hDE).trans b4
        try dsimp only
        simp [OpRuns, execOp, evalOf, a36, y0, go_sem]
        all_goals first | rfl | trivial
      case o8 =>
        refine OpOkF.read rfl (fun d hd => by cases hd; decide) ?_
        intro ev w8 hI hdep hfree
        have a13 : ev 13 = Value.int IntKind.i64 (↑k : Int) := hfree 13 (by kernel_rfl)
        clear hdep hfree
        try dsimp only
        simp [OpRuns, execOp, evalOf, a13, go_sem]
        all_goals first | rfl | trivial
      case o9 =>
        refine OpOkF.read rfl (fun d hd => by cases hd; decide) ?_
        intro ev w8 hI hdep hfree
        have a38 : ev 38 = .int .i64 (k : Int) := hdep 8 38 (by kernel_rfl) (by kernel_rfl)
        clear hdep hfree
        try dsimp only
        simp [OpRuns, execOp, evalOf, a38, HWR.out, go_sem]
        all_goals first | rfl | trivial
      case o10 =>
        refine OpOkF.read rfl (fun d hd => by cases hd; decide) ?_
        intro ev w8 hI hdep hfree
        have a37 : ev 37 = .slice (some ⟨g0, o0, none⟩) U.lea.length lb := hdep 7 37 (by kernel_rfl) (by kernel_rfl)
        have a39 : ev 39 = .int .i64 ((k : Int) + 1) := hdep 9 39 (by kernel_rfl) (by kernel_rfl)
        clear hdep hfree
        try dsimp only
        simp [OpRuns, execOp, evalOf, a37, a39, hs2, go_sem]
        all_goals first | rfl | trivial
      case o11 =>
        refine OpOkF.app2 (i0 := i0) (z := .agg #[.string ⟨#[]⟩, .int .i64 0, .int .i64 0, .int .i64 0]) (bytes := 40) (t := 28) (s2 := 40) (m := U.lea.length - (k + 1)) (news := (U.lea.drop (k + 1)).flatMap lsV) rfl rfl rfl (of_decide_eq_true (by kernel_rfl)) (by kernel_rfl) (Nat.le_of_eq HE.out) Tryz.underlying28 HI0.out.1 HI0.out.2.1 HI0.out.2.2.1 HI0.out.2.2.2 rfl (by decide) ?_ HF2.out HO2.out (by simp only [maxLen]; omega) (by omega) rfl rfl (dst_onlyF (by kernel_rfl)) (by kernel_rfl) (fun _ => trivial) (by decide)
        intro ev w8 listed hI hun hdep
        exact ⟨A2, c2, (hdep 10 40 (by kernel_rfl) (by kernel_rfl)).1, HR2.out.1.below hI (Nat.le_of_eq HE.out.symm), HR2.out.2⟩
      case o12 =>
        refine OpOkF.read rfl (fun d hd => by cases hd; decide) ?_
        intro ev w8 hI hdep hfree
        have a5 : ev 5 = Value.pointer (some { block := D, off := 0 }) := hfree 5 (by kernel_rfl)
        clear hdep hfree
        try dsimp only
        simp [OpRuns, execOp, evalOf, a5, go_sem]
        all_goals first | rfl | trivial
    case hend =>
      intro listed a w6b hall hdf hsz hI hPhi hkept
      replace hI : Below E w4 w6b := hI
      replace hdf : a.defers = [] := hdf
      replace hsz : a.tmps.size = 45 := hsz
      have HO := (hPhi 11 41 (by omega) (by kernel_rfl)).2.2.2.1 rfl
      have x42 : a.tmps.getD 42 undef = .pointer (some ⟨D, 4, none⟩) := (hPhi 12 42 (by omega) (by kernel_rfl)).1
      obtain ⟨KL, kd, x41, _, _, _⟩ := row_of_ownK HO
      rw [x41] at HO
      have HOF := Lib.hid HO
      clear HO
      have x0 : a.tmps.getD 0 undef = refV T (Value.slice SA T.ses.length sc) (Value.slice A T.lea.length c) := hkept 0 (kept_frontF (by kernel_rfl))
      have x1 : a.tmps.getD 1 undef = Value.int IntKind.i64 now := hkept 1 (kept_frontF (by kernel_rfl))
      have x2 : a.tmps.getD 2 undef = Value.int IntKind.i64 ses := hkept 2 (kept_frontF (by kernel_rfl))
      have x3 : a.tmps.getD 3 undef = Value.string (sB reel) := hkept 3 (kept_frontF (by kernel_rfl))
      have x4 : a.tmps.getD 4 undef = Value.int IntKind.i64 fen := hkept 4 (kept_frontF (by kernel_rfl))
      have x5 : a.tmps.getD 5 undef = Value.pointer (some { block := D, off := 0 }) := hkept 5 (kept_frontF (by kernel_rfl))
      have x6 : a.tmps.getD 6 undef = undef := hkept 6 (kept_frontF (by kernel_rfl))
      have x7 : a.tmps.getD 7 undef = undef := hkept 7 (kept_frontF (by kernel_rfl))
      have x8 : a.tmps.getD 8 undef = undef := hkept 8 (kept_frontF (by kernel_rfl))
      have x9 : a.tmps.getD 9 undef = undef := hkept 9 (kept_frontF (by kernel_rfl))
      have x10 : a.tmps.getD 10 undef = Value.pointer (some { block := D + 1, off := 0 }) := hkept 10 (kept_frontF (by kernel_rfl))
      have x11 : a.tmps.getD 11 undef = Value.int IntKind.i64 0 := hkept 11 (kept_frontF (by kernel_rfl))
      have x12 : a.tmps.getD 12 undef = Value.int IntKind.i64 0 := hkept 12 (kept_frontF (by kernel_rfl))
      have x13 : a.tmps.getD 13 undef = Value.int IntKind.i64 (↑k : Int) := hkept 13 (kept_frontF (by kernel_rfl))
      have x14 : a.tmps.getD 14 undef = Value.tuple #[refV U (Value.slice SB U.ses.length sb) (Value.slice (some { block := g0, off := o0 }) U.lea.length lb), Value.int IntKind.i64 0] := hkept 14 (kept_frontF (by kernel_rfl))
      have x15 : a.tmps.getD 15 undef = Value.agg #[Value.int IntKind.i64 T.now, Value.int IntKind.i64 T.ls, Value.int IntKind.i64 T.lf, Value.slice SA T.ses.length sc, Value.slice A T.lea.length c] := hkept 15 (kept_frontF (by kernel_rfl))
      have x16 : a.tmps.getD 16 undef = Value.int IntKind.i64 now := hkept 16 (kept_frontF (by kernel_rfl))
      have x17 : a.tmps.getD 17 undef = Value.int IntKind.i64 ses := hkept 17 (kept_frontF (by kernel_rfl))
      have x18 : a.tmps.getD 18 undef = Value.string (sB reel) := hkept 18 (kept_frontF (by kernel_rfl))
      have x19 : a.tmps.getD 19 undef = Value.int IntKind.i64 fen := hkept 19 (kept_frontF (by kernel_rfl))
      have x20 : a.tmps.getD 20 undef = Value.tuple #[refV U (Value.slice SB U.ses.length sb) (Value.slice (some { block := g0, off := o0 }) U.lea.length lb), Value.int IntKind.i64 0] := hkept 20 (kept_frontF (by kernel_rfl))
      have x21 : a.tmps.getD 21 undef = refV U (Value.slice SB U.ses.length sb) (Value.slice (some { block := g0, off := o0 }) U.lea.length lb) := hkept 21 (kept_frontF (by kernel_rfl))
      have x22 : a.tmps.getD 22 undef = Value.int IntKind.i64 0 := hkept 22 (kept_frontF (by kernel_rfl))
      have x23 : a.tmps.getD 23 undef = Value.int IntKind.i64 0 := hkept 23 (kept_frontF (by kernel_rfl))
      have x24 : a.tmps.getD 24 undef = Value.bool true := hkept 24 (kept_frontF (by kernel_rfl))
      have x25 : a.tmps.getD 25 undef = Value.agg #[Value.int IntKind.i64 U.now, Value.int IntKind.i64 U.ls, Value.int IntKind.i64 U.lf, Value.slice SB U.ses.length sb, Value.slice (some { block := g0, off := o0 }) U.lea.length lb] := hkept 25 (kept_frontF (by kernel_rfl))
      have x26 : a.tmps.getD 26 undef = Value.int IntKind.i64 ses := hkept 26 (kept_frontF (by kernel_rfl))
      have x27 : a.tmps.getD 27 undef = Value.string (sB reel) := hkept 27 (kept_frontF (by kernel_rfl))
      have x28 : a.tmps.getD 28 undef = Value.int IntKind.i64 fen := hkept 28 (kept_frontF (by kernel_rfl))
      have x29 : a.tmps.getD 29 undef = Value.int IntKind.i64 (↑k : Int) := hkept 29 (kept_frontF (by kernel_rfl))
      have x43 : a.tmps.getD 43 undef = undef := hkept 43 (kept_frontF (by kernel_rfl))
      have x44 : a.tmps.getD 44 undef = undef := hkept 44 (kept_frontF (by kernel_rfl))
      have ea := act_lit hsz hdf
      simp only [getDs] at ea
      rw [x41, x42, x0, x1, x2, x3, x4, x5, x6, x7, x8, x9, x10, x11, x12, x13, x14, x15, x16, x17, x18, x19, x20, x21, x22, x23, x24, x25, x26, x27, x28, x29, x43, x44] at ea
      rw [ea]
      clear ea x41 x42 x0 x1 x2 x3 x4 x5 x6 x7 x8 x9 x10 x11 x12 x13 x14 x15 x16 x17 x18 x19 x20 x21 x22 x23 x24 x25 x26 x27 x28 x29 x43 x44 hPhi hkept hdf hsz hall
      generalize a.tmps.getD 30 undef = u30
      generalize a.tmps.getD 31 undef = u31
      generalize a.tmps.getD 32 undef = u32
      generalize a.tmps.getD 33 undef = u33
      generalize a.tmps.getD 34 undef = u34
      generalize a.tmps.getD 35 undef = u35
      generalize a.tmps.getD 36 undef = u36
      generalize a.tmps.getD 37 undef = u37
      generalize a.tmps.getD 38 undef = u38
      generalize a.tmps.getD 39 undef = u39
      generalize a.tmps.getD 40 undef = u40
      clear a
      have HB8 := Lib.hid (show Below w4.heap.size w4 w6b from HE.out ▸ hI)
      have X8 := Lib.hid (X4.out.ext HB8.out)
      have N8 := Lib.hid (N4.out.ext HB8.out)
      have NZ := Lib.hid (RefN.newL (T' := { U with lea := U.lea.eraseIdx k }) (lv' := .slice KL (k + (U.lea.length - (k + 1))) kd) N8.out rfl (by
        show w6b.ownsRow E _ 4 (.slice KL (k + (U.lea.length - (k + 1))) kd) (U.lea.eraseIdx k).length ((U.lea.eraseIdx k).flatMap lsV)
        rw [HER.out.1, HER.out.2]
        exact HOF.out) (HE.out ▸ HM4.out))
      have HT := Lib.hid (show V = { U with lea := U.lea.eraseIdx k } from HV.out)
      have XZ := X8
      have q := XZ.out.box.cell
      have y := XZ.out.box.free
      have q1 := XZ.out.res.cell
      have y1 := XZ.out.res.free
      have hlt := XZ.out.lt
      have hltd := XZ.out.box.lt
      clear hI b4 hs2
      go_wp2_with (with_reducible refine stop_at ?_)
      unfold StopAt
      clear q y q1 y1
      generalize hw9 : World.setCell _ _ _ = w9
      have X9 := Lib.hid (show RBox D w _ [Value.int .i64 U.now, Value.int .i64 U.ls, Value.int .i64 U.lf, Value.slice SB U.ses.length sb, Value.slice KL (k + (U.lea.length - (k + 1))) kd] w9 by rw [← hw9]; exact (((((XZ.out.setB 4 _).setR 0 _).setR 1 _).setR 2 _).setR 3 _).setR 4 _)
      have N9 := Lib.hid (show RefN (NX N D) _ _ _ w9 by rw [← hw9]; exact (((((NZ.out.putB 4 _).putR 0 _).putR 1 _).putR 2 _).putR 3 _).putR 4 _)
      have r0 : w9.cell? ⟨D + 1, 0, none⟩ = some (Value.int .i64 U.now) := X9.out.res.cell 0
      have r1 : w9.cell? ⟨D + 1, 1, none⟩ = some (Value.int .i64 U.ls) := X9.out.res.cell 1
      have r2 : w9.cell? ⟨D + 1, 2, none⟩ = some (Value.int .i64 U.lf) := X9.out.res.cell 2
      have r3 : w9.cell? ⟨D + 1, 3, none⟩ = some (Value.slice SB U.ses.length sb) := X9.out.res.cell 3
      have r4 : w9.cell? ⟨D + 1, 4, none⟩ = some (Value.slice KL (k + (U.lea.length - (k + 1))) kd) := X9.out.res.cell 4
      refine bodyPost_ret (by simp [results, Tryz.results43, r0, r1, r2, r3, r4, go_sem]; try rfl) rfl ?_
      rw [HY.out, HT.out]
      exact ⟨⟨_, _, by rw [← HER.out.1], N9.out.unbox⟩, X9.out.bel⟩
  · rw [if_neg h0] at HV
    have HT := Lib.hid (show V = U from HV.out)
    have t0 : (E0 == 0) = false := beq_eq_false_iff_ne.2 h0
    clear h0
    go_wp2_with (with_reducible refine stop_at ?_)
    unfold StopAt
    clear q y q1 y1
    generalize hw9 : World.setCell _ _ _ = w9
    have X9 := Lib.hid (show RBox D w _ [Value.int .i64 U.now, Value.int .i64 U.ls, Value.int .i64 U.lf, Value.slice SB U.ses.length sb, Value.slice LB U.lea.length lb] w9 by rw [← hw9]; exact (((((((((X3.out.setB 0 _).setB 1 _).setB 2 _).setB 3 _).setB 4 _).setR 0 _).setR 1 _).setR 2 _).setR 3 _).setR 4 _)
    have N9 := Lib.hid (show RefN (NX N D) _ _ _ w9 by rw [← hw9]; exact (((((((((N3.out.putB 0 _).putB 1 _).putB 2 _).putB 3 _).putB 4 _).putR 0 _).putR 1 _).putR 2 _).putR 3 _).putR 4 _)
    have r0 : w9.cell? ⟨D + 1, 0, none⟩ = some (Value.int .i64 U.now) := X9.out.res.cell 0
    have r1 : w9.cell? ⟨D + 1, 1, none⟩ = some (Value.int .i64 U.ls) := X9.out.res.cell 1
    have r2 : w9.cell? ⟨D + 1, 2, none⟩ = some (Value.int .i64 U.lf) := X9.out.res.cell 2
    have r3 : w9.cell? ⟨D + 1, 3, none⟩ = some (Value.slice SB U.ses.length sb) := X9.out.res.cell 3
    have r4 : w9.cell? ⟨D + 1, 4, none⟩ = some (Value.slice LB U.lea.length lb) := X9.out.res.cell 4
    refine bodyPost_ret (by simp [results, Tryz.results43, r0, r1, r2, r3, r4, go_sem]; try rfl) rfl ?_
    rw [HY.out, HT.out]
    exact ⟨⟨_, _, rfl, N9.out.unbox⟩, X9.out.bel⟩
end Go.Proofs.YtneiljaknmeagaaGreatDoor
