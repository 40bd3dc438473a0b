/-
  The contract of Print of the reference of layer 31. Its conditions are its hypotheses.
-/
import Derived.Test.YtbliilemjkjimaaDoorDa
import Derived.Test.YtbliilemjkjimaaDoorCc
import Derived.Deep.RegionHeld3
namespace Go.Proofs.YtbliilemjkjimaaDoor
open Go.RowKit Go.Joins
set_option linter.unusedVariables false
set_option linter.unusedSimpArgs false
theorem outR_null {lab : Int → List UInt8} {w : Bool} {i : Int} {p : Pr} {l : List Pr} (h : isN p = true) : outR lab w i (p :: l) = outR lab false (i + 1) l := by rw [outR, if_pos h]
theorem outR_on {lab : Int → List UInt8} {i : Int} {p : Pr} {l : List Pr} (h : isN p = false) : outR lab true i (p :: l) = pr1 p ++ (fin1 l ++ outR lab true (i + 1) l) := by rw [outR, if_neg (by simp [h])]; rfl
theorem outR_off {lab : Int → List UInt8} {i : Int} {p : Pr} {l : List Pr} (h : isN p = false) : outR lab false i (p :: l) = lab i ++ (pr1 p ++ (fin1 l ++ outR lab true (i + 1) l)) := by rw [outR, if_neg (by simp [h])]; rfl
theorem outR_len (lab : Int → List UInt8) (l : List Pr) (i : Int) : (outR lab false i l).length = (outP lab false i l).length := by
  have := congrArg List.length (out_same lab l false i)
  simp at this
  omega
theorem fin1_null {p : Pr} {l : List Pr} (h : isN p = true) : fin1 (p :: l) = [10] := by simp [fin1, h]
theorem fin1_on {p : Pr} {l : List Pr} (h : isN p = false) : fin1 (p :: l) = [] := by simp [fin1, h]
theorem nullr_flat (A : Option Addr) (n c k : Nat) (M : List Pr) (p : Pr) (w : World) (h : BytesAt w A (flat M)) (hn : n = (flat M).length) (hp : M[k]? = some p) (hl : n ≤ 9223372036854775807) :
    Calls Tryd.prog 27 #[.slice A n c, .int .i64 k] w fun e w' => e = .returned (.bool (isN p)) ∧ w = w' :=
  nullr_at A n c k (flat M) p w h hn (by rw [prs_flat]; exact hp) hl
def outS (X : List UInt8) : List UInt8 := headL ++ ([10] ++ X)
theorem outS_app (X Y : List UInt8) : outS X ++ Y = outS (X ++ Y) := by simp [outS]
theorem outS_len (X : List UInt8) : (outS X).length = X.length + 8 := by simp [outS, headL]
theorem sB_one : sB [32] = ⟨#[32]⟩ := rfl
theorem sB_ten : sB [10] = ⟨#[10]⟩ := rfl
theorem sB_head : sB (outS []) = ⟨#[83, 67, 67, 32, 49, 46, 48, 10]⟩ := rfl
def rbyte (w : World) (A : Option Addr) (k : Nat) (x : UInt8) : Prop := ∃ b o, A = some ⟨b, o, none⟩ ∧ w.cell? ⟨b, o + k, none⟩ = some (.int .u8 x.toNat)
theorem mem_flat {M : List Pr} {k : Nat} {p : Pr} (h : M[k]? = some p) {w : World} {b o : Nat} (hB : BytesAt w (some ⟨b, o, none⟩) (flat M)) : w.cell? ⟨b, o + 2 * k, none⟩ = some (.int .u8 p.1.toNat) ∧ w.cell? ⟨b, o + (2 * k + 1), none⟩ = some (.int .u8 p.2.toNat) := by
  have h1 := (flat_at h).1
  have hd := BytesAt.drop hB (2 * k)
  rw [h1] at hd
  obtain ⟨b1, o1, e1, g1⟩ := hd.get (k := 0) (by simp)
  obtain ⟨b2, o2, e2, g2⟩ := hd.get (k := 1) (by simp)
  cases e1
  cases e2
  exact ⟨g1, by rw [← Nat.add_assoc]; exact g2⟩
theorem printr_bad (f : Int) (A : Option Addr) (n c : Nat) (bs : List UInt8) (d : Bool) (w : World) (hn : n = bs.length) (hl : n ≤ 9223372036854775807) (hc : chkS f n ≠ 0) :
    Calls Tryd.prog 18 #[strm f A n c, .bool d] w fun e w' => e = .returned (prB (printV f bs d)) ∧ Below w.heap.size w w' := by
  have e : printV f bs d = ([], chkS f n) := by rw [printV, ← hn, if_pos hc]
  rw [e]
  have hcb : (chkS f n != 0) = true := by simpa using hc
  have HC := Lib.hid (checkr_any f A n c)
  unfold strm prB at *
  clear e hc hn
  generalize chkS f n = r at *
  go_enter Tryd.func18, Tryd.ntmps18
  go_wp2_with fail
  refine (HC.out _ hl).mono ?_
  rintro e w1 ⟨rfl, hb⟩
  have HB := Lib.hid (bthen (below_one w _) hb)
  clear hb
  go_wp2_with fail
  go_ret2
  exact ⟨rfl, HB.out⟩
set_option maxHeartbeats 1000000 in
theorem printr_late (f : Int) (A : Option Addr) (n c : Nat) (bs : List UInt8) (d : Bool) (w : World) (h : BytesAt w A bs) (hn : n = bs.length) (hnc : n ≤ c) (hcm : c ≤ maxLen) (hc : chkS f n = 0) (hla : late (normV f (prs bs)).1 (mid (prs bs)) d) :
    Calls Tryd.prog 18 #[strm f A n c, .bool d] w fun e w' => e = .returned (prB (printV f bs d)) ∧ Below w.heap.size w w' := by
  obtain ⟨z1, z2, z3, z4⟩ := chkS_zero hc
  have e : printV f bs d = ([], 2) := by rw [printV, ← hn, if_neg (by omega), printN, normV_2, if_pos hla]
  rw [e]
  have HF := Lib.hid (fstV_norm (l := prs bs) z3 z4 (by rw [prs_len, ← hn]; omega))
  have HM := Lib.hid hla
  have hml := lead_mid_le (prs bs)
  rw [prs_len, ← hn] at hml
  have HC := Lib.hid (checkr_any f A n c)
  have HC0 := Lib.hid hc
  have HH := Lib.hid (And.intro h hn)
  unfold prB
  clear e hc hn h hla
  obtain ⟨B, hB⟩ : ∃ B, B = w.heap.size := ⟨_, rfl⟩
  rw [← hB]
  unfold strm at *
  go_enter Tryd.func18, Tryd.ntmps18
  go_wp2_with fail
  refine (HC.out _ (by omega)).mono ?_
  rintro e w1 ⟨rfl, hb⟩
  rw [HC0.out, ← hB]
  have H := Lib.hid ((show Held (w.alloc (.cells #[.int .i64 f, .slice A n c] 24)) B [.int .i64 f, .slice A n c] from Held.new hB).ext hb)
  have FB := Lib.hid (show Below B w w1 by subst hB; exact bthen (below_one _ _) hb)
  have HX := Lib.hid (show BytesAt w1 A bs from HH.out.1.ext (hB ▸ FB.out))
  clear hb hB
  obtain ⟨q0, q1, q2, q3⟩ := H.out.pair
  go_wp2_with fail
  refine (normr_any f A n c bs _ HX.out HH.out.2 hnc hcm (by omega) ⟨by omega, by omega⟩).mono ?_
  rintro e w2 ⟨⟨A2, c2, rfl, hx, hc2, hcm2⟩, hb⟩
  rw [HF.out]
  have HX2 := Lib.hid hx
  replace FB := Lib.hid (FB.out.trans (hb.mono (Nat.le_of_lt H.out.lt)))
  replace H := Lib.hid (H.out.ext hb)
  clear hb q0 q1 q2 q3 hx
  obtain ⟨q0, q1, q2, q3⟩ := H.out.pair
  obtain ⟨F1, F2⟩ := normV_bd (f := f) (l := prs bs) z3 z4 (by rw [prs_len, ← HH.out.2]; omega)
  generalize (normV f (prs bs)).1 = F at *
  generalize mid (prs bs) = M at *
  generalize hL : M.length = L at *
  have HL := Lib.hid hL
  clear hL
  have e2 : (2 * (L : Int)).tdiv 2 = (L : Int) := by rw [Int.tdiv_eq_ediv_of_nonneg (by omega)]; omega
  unfold strm
  go_wp2_with fail
  have r := Lib.hid (((H.out).set 0 (.int .i64 F)).set 1 (.slice A2 (2 * L) c2))
  have rb := Lib.hid ((FB.out.setCell (p := ⟨B, 0, none⟩) (by simp) (.int .i64 F)).setCell (p := ⟨B, 1, none⟩) (by simp) (.slice A2 (2 * L) c2))
  have rx := Lib.hid (bytes_other (bytes_other HX2.out H.out (byte_no _ _ _ _) 0 (.int .i64 F)) (H.out.set 0 (.int .i64 F)) (byte_no F A n c) 1 (.slice A2 (2 * L) c2))
  generalize World.setCell (World.setCell _ _ _) _ _ = w3 at *
  clear q0 q1 q2 q3 e2
  obtain ⟨q0, q1, q2, q3⟩ := (show Held w3 B [.int .i64 F, .slice A2 (2 * L) c2] from r.out).pair
  have fs : B + 1 ≤ w3.heap.size := r.out.lt
  have fbb := rb.out
  obtain ⟨D, hD⟩ : ∃ D, D = dayV d := ⟨_, rfl⟩
  have HD := Lib.hid hD.symm
  have HM2 := Lib.hid (show M ≠ [] ∧ D ≤ F + M.length - 1 from ⟨HM.out.1, by rw [hD]; exact HM.out.2⟩)
  have hL0 : 0 < L := by rw [← HL.out]; exact List.length_pos_iff.2 HM2.out.1
  have t1 : decide ((0 : Int) < (L : Int)) = true := by simp; omega
  have s1 : IntKind.i64.wrap ((L : Int) - 1) = (L : Int) - 1 := IntWalk.i64_in _ (by omega)
  have s2 : IntKind.i64.wrap (F + ((L : Int) - 1)) = F + ((L : Int) - 1) := IntWalk.i64_in _ (by omega)
  have t2 : decide (D ≤ F + ((L : Int) - 1)) = true := by have h1 := HM2.out.2; rw [HL.out] at h1; simp; omega
  clear hD HM
  go_region_held3 (fun w' => w'.cell? ⟨B, 0, none⟩ = some (.int .i64 F) ∧ Below B w w' ∧ B + 1 ≤ w'.heap.size)
    ((refine ⟨?_, ?_, ?_⟩ <;> first
        | assumption
        | exact Below.drew ‹_›
        | exact (hb.cell (Nat.lt_of_lt_of_le (Nat.lt_succ_self _) hks)).trans hk0
        | exact hkb.trans (hb.mono (Nat.le_of_succ_le hks))
        | exact Nat.le_trans hks hb.size))
    ((go_at_call 34; obtain ⟨hk0, hkb, hks⟩ := ‹_ ∧ Below B w _ ∧ _›; refine (dayr_any _ _).mono ?_; rintro e w' ⟨rfl, hb⟩; rw [HD.out]))
  all_goals
    obtain ⟨_, hkb, _⟩ := ‹_ ∧ Below B w _ ∧ _›
    have HKB := Lib.hid hkb
    clear s1 s2
    go_wp2_with fail
    go_ret2
    exact ⟨rfl, HKB.out⟩
set_option maxRecDepth 100000 in
set_option maxHeartbeats 4000000 in
theorem printr_ok (f : Int) (A : Option Addr) (n c : Nat) (bs : List UInt8) (d : Bool) (w : World) (h : BytesAt w A bs) (hn : n = bs.length) (hnc : n ≤ c) (hcm : c ≤ maxLen) (hc : chkS f n = 0) (hla : ¬ late (normV f (prs bs)).1 (mid (prs bs)) d) :
    Calls Tryd.prog 18 #[strm f A n c, .bool d] w fun e w' => e = .returned (prB (printV f bs d)) ∧ Below w.heap.size w w' := by
  obtain ⟨z1, z2, z3, z4⟩ := chkS_zero hc
  have e : printV f bs d = (textP (normV f (prs bs)).1 (mid (prs bs)) d, 0) := by rw [printV, ← hn, if_neg (by omega), printN, normV_2, if_neg hla]
  rw [e]
  obtain ⟨T, hT⟩ : ∃ T, T = textP (normV f (prs bs)).1 (mid (prs bs)) d := ⟨_, rfl⟩
  rw [← hT]
  have HTX := Lib.hid (hT.trans (text_same _ _ _))
  clear hT
  have HF := Lib.hid (fstV_norm (l := prs bs) z3 z4 (by rw [prs_len, ← hn]; omega))
  have HM := Lib.hid hla
  have hml := lead_mid_le (prs bs)
  rw [prs_len, ← hn] at hml
  have HC := Lib.hid (checkr_any f A n c)
  have HC0 := Lib.hid hc
  have HH := Lib.hid (And.intro h hn)
  unfold prB
  clear e hc hn h hla
  obtain ⟨B, hB⟩ : ∃ B, B = w.heap.size := ⟨_, rfl⟩
  rw [← hB]
  unfold strm at *
  go_enter Tryd.func18, Tryd.ntmps18
  go_wp2_with fail
  refine (HC.out _ (by omega)).mono ?_
  rintro e w1 ⟨rfl, hb⟩
  rw [HC0.out, ← hB]
  have H := Lib.hid ((show Held (w.alloc (.cells #[.int .i64 f, .slice A n c] 24)) B [.int .i64 f, .slice A n c] from Held.new hB).ext hb)
  have FB := Lib.hid (show Below B w w1 by subst hB; exact bthen (below_one _ _) hb)
  have HX := Lib.hid (show BytesAt w1 A bs from HH.out.1.ext (hB ▸ FB.out))
  clear hb hB
  obtain ⟨q0, q1, q2, q3⟩ := H.out.pair
  go_wp2_with fail
  refine (normr_any f A n c bs _ HX.out HH.out.2 hnc hcm (by omega) ⟨by omega, by omega⟩).mono ?_
  rintro e w2 ⟨⟨A2, c2, rfl, hx, hc2, hcm2⟩, hb⟩
  rw [HF.out]
  have HX2 := Lib.hid hx
  replace FB := Lib.hid (FB.out.trans (hb.mono (Nat.le_of_lt H.out.lt)))
  replace H := Lib.hid (H.out.ext hb)
  clear hb q0 q1 q2 q3 hx
  obtain ⟨q0, q1, q2, q3⟩ := H.out.pair
  obtain ⟨F1, F2⟩ := normV_bd (f := f) (l := prs bs) z3 z4 (by rw [prs_len, ← HH.out.2]; omega)
  generalize (normV f (prs bs)).1 = F at *
  generalize mid (prs bs) = M at *
  generalize hL : M.length = L at *
  have HL := Lib.hid hL
  clear hL
  have e2 : (2 * (L : Int)).tdiv 2 = (L : Int) := by rw [Int.tdiv_eq_ediv_of_nonneg (by omega)]; omega
  unfold strm
  go_wp2_with fail
  have r := Lib.hid (((H.out).set 0 (.int .i64 F)).set 1 (.slice A2 (2 * L) c2))
  have rb := Lib.hid ((FB.out.setCell (p := ⟨B, 0, none⟩) (by simp) (.int .i64 F)).setCell (p := ⟨B, 1, none⟩) (by simp) (.slice A2 (2 * L) c2))
  have rx := Lib.hid (bytes_other (bytes_other HX2.out H.out (byte_no _ _ _ _) 0 (.int .i64 F)) (H.out.set 0 (.int .i64 F)) (byte_no F A n c) 1 (.slice A2 (2 * L) c2))
  generalize World.setCell (World.setCell _ _ _) _ _ = w3 at *
  clear q0 q1 q2 q3 e2
  obtain ⟨q0, q1, q2, q3⟩ := (show Held w3 B [.int .i64 F, .slice A2 (2 * L) c2] from r.out).pair
  have fs : B + 1 ≤ w3.heap.size := r.out.lt
  have fbb := rb.out
  obtain ⟨D, hD⟩ : ∃ D, D = dayV d := ⟨_, rfl⟩
  have HD := Lib.hid hD.symm
  have HDV := Lib.hid (show M ≠ [] → F + L - 1 < dayV d from fun hne => by
    have h1 : ¬ (M ≠ [] ∧ dayV d ≤ F + M.length - 1) := HM.out
    rw [HL.out] at h1
    exact Int.not_le.1 (fun h2 => h1 ⟨hne, h2⟩))
  have HXL := Lib.hid (show (outR (labT d F) false 0 M).length ≤ 17 * L from by
    have := out_len (d := d) (f := F) F1 M false 0 (by omega) (fun hne => by have := HDV.out hne; have h2 := HL.out; omega)
    rw [HL.out] at this
    rw [outR_len]
    exact this)
  have hL2 : L ≤ 200001 := by omega
  have hcc : 2 * L ≤ c2 := hc2
  have hcm' : c2 ≤ 9223372036854775807 := by simpa [maxLen] using hcm2
  clear hD
  have HW4 : Hid (∀ w4 : World, Below w3.heap.size w3 w4 → Held w4 B [.int .i64 F, .slice A2 (2 * L) c2] ∧ Below B w w4 ∧ BytesAt w4 A2 (flat M)) := Lib.hid (fun w4 hb => ⟨r.out.ext hb, rb.out.trans (hb.mono (Nat.le_of_lt r.out.lt)), BytesAt.ext rx.out hb⟩)
  by_cases hL0 : L = 0
  · have t1 : decide ((0 : Int) < (L : Int)) = false := by simp; omega
    have t1' : decide (0 < L) = false := by simp; omega
    go_quiet (fail)
    generalize hw4 : w3.drewN _ = w4
    obtain ⟨H4, FB4, HX4⟩ := HW4.out w4 (by subst hw4; exact below_drewN (Below.refl _ _) _)
    replace FB4 := Lib.hid FB4
    clear hw4 H4 HX4 t1 t1' q0 q1 q2 q3
    go_wp2_with fail
    go_loopw [8, 9] (fun o i wr => o = .string ⟨#[83, 67, 67, 32, 49, 46, 48, 10]⟩ ∧ i = .int .i64 0 ∧ wr = w4) (fun _ _ _ => 0)
    case atStart => exact ⟨rfl, rfl, rfl⟩
    case round =>
      obtain ⟨rfl, rfl, rfl⟩ := hrel
      have hL0' : ¬ ((0 : Int) < (L : Int)) := by omega
      go_wp2_with fail
      have HT := Lib.hid (show sB (outS []) = (⟨T.toArray⟩ : ByteArray) by
        rw [HTX.out]
        have : M = [] := List.eq_nil_of_length_eq_zero (by rw [HL.out, hL0])
        rw [this]; rfl)
      go_ret2
      exact ⟨congrArg (fun s => Ending.returned (.tuple #[.string s, .int .i64 0])) HT.out, FB4.out⟩
  · have t1 : 0 < L := by omega
    have t2 : decide (D ≤ F + ((L : Int) - 1)) = false := by
      have := HDV.out (fun e => hL0 (by rw [← HL.out, e]; rfl))
      rw [HD.out] at this
      simp
      omega
    have s1 : IntKind.i64.wrap ((L : Int) - 1) = (L : Int) - 1 := IntWalk.i64_in _ (by omega)
    have s2 : IntKind.i64.wrap (F + ((L : Int) - 1)) = F + ((L : Int) - 1) := IntWalk.i64_in _ (by omega)
    go_region_held3 (fun w' => w'.cell? ⟨B, 0, none⟩ = some (.int .i64 F) ∧ Below w3.heap.size w3 w' ∧ B + 1 ≤ w'.heap.size)
      ((refine ⟨?_, ?_, ?_⟩ <;> first
        | assumption
        | exact Below.refl _ _
        | exact (Below.refl _ _).drew
        | exact Below.drew ‹_›
        | exact (hb.cell (Nat.lt_of_lt_of_le (Nat.lt_succ_self _) hks)).trans hk0
        | exact bthen hkb hb
        | exact Nat.le_trans hks hb.size))
      ((go_at_call 34; obtain ⟨hk0, hkb, hks⟩ := ‹_ ∧ Below w3.heap.size w3 _ ∧ _›; refine (dayr_any _ _).mono ?_; rintro e w4 ⟨rfl, hb⟩; rw [HD.out]))
    obtain ⟨_, hkb, _⟩ := ‹_ ∧ Below w3.heap.size w3 _ ∧ _›
    obtain ⟨H4, FB4, HX4⟩ := HW4.out w4 hkb
    replace H4 := Lib.hid H4
    replace FB4 := Lib.hid FB4
    replace HX4 := Lib.hid HX4
    have hBw : B ≤ w4.heap.size := Nat.le_of_lt H4.out.lt
    clear hkb s1 s2 t1 t2 q0 q1 q2 q3 fs fbb
    obtain ⟨bA, oA, rfl, -⟩ := HX4.out.get (k := 0) (by rw [flat_len]; have := HL.out; omega)
    go_wp2_with fail
    go_loopw [8, 9] (fun o i wr => ∃ (k : Nat) (X : List UInt8) (wk : Bool), k ≤ L ∧ i = .int .i64 k ∧ o = .string (sB (outS X)) ∧ Hid (Below w4.heap.size w4 wr) ∧ Hid (outR (labT d F) false 0 M = X ++ outR (labT d F) wk k (M.drop k)) ∧ Hid (k = 0 → wk = false) ∧ Hid (∀ q, 0 < k → M[k - 1]? = some q → wk = !isN q)) (fun _ i _ => L - (intOf i).toNat)
    case atStart => exact ⟨0, [], false, by omega, rfl, rfl, Lib.hid (Below.refl _ _), Lib.hid rfl, Lib.hid (fun _ => rfl), Lib.hid (fun q h => absurd h (by omega))⟩
    case round =>
      obtain ⟨k, X, wk, hk, rfl, rfl, Gr, HO, HW0, HW1⟩ := hrel
      have hXl : X.length ≤ 4000000 := by
        have h1 := HXL.out
        rw [HO.out, List.length_append] at h1
        omega
      have HBr := Lib.hid (H4.out.ext Gr.out)
      have GX := Lib.hid (BytesAt.ext HX4.out Gr.out)
      by_cases hlt : k < L
      · obtain ⟨p, hp⟩ : ∃ p, M[k]? = some p := ⟨_, List.getElem?_eq_getElem (by have := HL.out; omega)⟩
        have HP := Lib.hid hp
        have HD2 := Lib.hid (flat_at hp).2
        clear hp
        obtain ⟨q0, q1, q2, q3⟩ := HBr.out.pair
        obtain ⟨pa, pb⟩ := p
        go_wp2_with fail
        refine (nullr_flat _ (2 * L) c2 k M (pa, pb) _ GX.out (by rw [flat_len, HL.out]) HP.out (by omega)).mono ?_
        rintro e wy ⟨rfl, rfl⟩
        cases hN : isN (pa, pb)
        · have HN := Lib.hid hN
          clear hN
          have hk0 : (0 : Int) ≤ (k : Int) := by omega
          by_cases hz : k = 0
          · have hzb : ((k : Int) == 0) = true := by rw [hz]; rfl
            have HWK := Lib.hid (HW0.out hz)
            clear hz
            go_wp2_with fail
            have HDAY := Lib.hid (show F + (k : Int) < dayV d by
              have := HDV.out (fun e => by have := HL.out; rw [e] at this; simp at this; omega)
              omega)
            refine (labelr_any d (F + (k : Int)) _ (by omega) HDAY.out).mono ?_
            rintro e w8 ⟨rfl, hb8⟩
            have HCL := Lib.hid (labV_ok (d := d) (f := F + (k : Int)) (by omega) HDAY.out).1
            have HLT := Lib.hid (show labT d F (k : Int) = txtL (labV d (F + (k : Int))) from rfl)
            generalize labV d (F + (k : Int)) = LB at *
            obtain ⟨lh, lm, ls, lf, ld⟩ := LB
            simp only [labA]
            have H8 := Lib.hid (HBr.out.ext hb8)
            have X8 := Lib.hid (BytesAt.ext GX.out hb8)
            have G8 := Lib.hid (Gr.out.trans (hb8.mono Gr.out.size))
            clear hb8 q0 q1 q2 q3 HBr GX
            go_wp2_with fail
            refine (textr_any ⟨lh, lm, ls, lf, ld⟩ _ HCL.out).mono ?_
            rintro e wq ⟨rfl, hb9⟩
            have hb9' := bthen (below_one _ _) hb9
            have HBr := Lib.hid (H8.out.ext hb9')
            have GX := Lib.hid (BytesAt.ext X8.out hb9')
            have Gq := Lib.hid (G8.out.trans (hb9'.mono G8.out.size))
            clear hb9 hb9' H8 X8 G8
            have hts : (txtL ⟨lh, lm, ls, lf, ld⟩).length = 11 := (txtL_no HCL.out).2
            have yl : ∀ w', (Op.stringOp .add (sB (outS X)) (txtB ⟨lh, lm, ls, lf, ld⟩)).run Tryd.prog w' = .ok (.string (sB (outS (X ++ txtL ⟨lh, lm, ls, lf, ld⟩)))) w' := fun w' => by rw [← outS_app]; exact add_sB (b := txtL ⟨lh, lm, ls, lf, ld⟩) (by rw [outS_len, hts]; omega) w'
            obtain ⟨X2, hX2⟩ : ∃ X2, X2 = X ++ txtL ⟨lh, lm, ls, lf, ld⟩ := ⟨_, rfl⟩
            rw [← hX2] at yl
            have HO2 := Lib.hid (show outR (labT d F) false 0 M = X2 ++ (pr1 (pa, pb) ++ (fin1 (M.drop (k + 1)) ++ outR (labT d F) true ((k : Int) + 1) (M.drop (k + 1)))) by rw [HO.out, HWK.out, HD2.out, outR_off HN.out, hX2, ← HLT.out]; simp)
            clear hX2 hts
            go_wp2_with fail
            clear yl
            have hX2 : X2.length ≤ 4000000 := by
              have h1 := HXL.out
              rw [HO2.out, List.length_append] at h1
              omega
            obtain ⟨c0, c1⟩ := mem_flat HP.out GX.out
            obtain ⟨q0, q1, q2, q3⟩ := HBr.out.pair
            have i1 : (2 * (k : Int)).toNat = 2 * k := by omega
            have i2 : (2 * (k : Int) + 1).toNat = 2 * k + 1 := by omega
            have s1 : IntKind.i64.wrap (2 * (k : Int)) = 2 * (k : Int) := IntWalk.i64_in _ (by omega)
            have s2 : IntKind.i64.wrap (2 * (k : Int) + 1) = 2 * (k : Int) + 1 := IntWalk.i64_in _ (by omega)
            have g0 : (0 : Int) ≤ 2 * (k : Int) := by omega
            have g3 : (0 : Int) ≤ 2 * (k : Int) + 1 := by omega
            have g1 : (2 * (k : Int) + 1) < 2 * (L : Int) := by omega
            have g2 : 2 * (k : Int) < 2 * (L : Int) := by omega
            have y0 : ∀ w', (Op.stringOp .add (⟨#[32]⟩ : ByteArray) (sB (hex2 pa))).run Tryd.prog w' = .ok (.string (sB (32 :: hex2 pa))) w' := fun w' => by rw [← sB_one]; exact add_sB (by simp [hex2]) w'
            have y1 : ∀ w', (Op.stringOp .add (sB (32 :: hex2 pa)) (sB (hex2 pb))).run Tryd.prog w' = .ok (.string (sB (pr1 (pa, pb)))) w' := fun w' => add_sB (by simp [hex2]) w'
            have y2 : ∀ w', (Op.stringOp .add (sB (outS X2)) (sB (pr1 (pa, pb)))).run Tryd.prog w' = .ok (.string (sB (outS (X2 ++ pr1 (pa, pb))))) w' := fun w' => by rw [← outS_app]; exact add_sB (by rw [outS_len]; simp [pr1, hex2]; omega) w'
            have wqq : Below wq.heap.size wq wq := Below.refl _ _
            have yq : w4.heap.size ≤ wq.heap.size := Gq.out.size
            go_region_held3 (fun w9 => w9.cell? ⟨B, 1, none⟩ = some (.slice (some ⟨bA, oA, none⟩) (2 * L) c2) ∧ w9.cell? ⟨bA, oA + 2 * k, none⟩ = some (.int .u8 pa.toNat) ∧ w9.cell? ⟨bA, oA + (2 * k + 1), none⟩ = some (.int .u8 pb.toNat) ∧ Below wq.heap.size wq w9)
              ((refine ⟨?_, ?_, ?_, ?_⟩ <;> first
                  | assumption
                  | exact Below.drew ‹_›
                  | exact (hb.cell (World.block_lt_of_cell? _ _ hk1)).trans hk1
                  | exact (hb.cell (World.block_lt_of_cell? _ _ hk2)).trans hk2
                  | exact (hb.cell (World.block_lt_of_cell? _ _ hk3)).trans hk3
                  | exact bthen hkb hb))
              (first
                | (go_at_call_of 37 (Value.int .u8 pa.toNat); obtain ⟨hk1, hk2, hk3, hkb⟩ := ‹_ ∧ _ ∧ _ ∧ Below wq.heap.size wq _›; refine (hexr_any pa _).mono ?_; rintro e w' ⟨rfl, hb⟩)
                | (go_at_call_of 37 (Value.int .u8 pb.toNat); obtain ⟨hk1, hk2, hk3, hkb⟩ := ‹_ ∧ _ ∧ _ ∧ Below wq.heap.size wq _›; refine (hexr_any pb _).mono ?_; rintro e w' ⟨rfl, hb⟩))
            all_goals
              obtain ⟨_, hk1, _, hkb⟩ := ‹_ ∧ _ ∧ _ ∧ Below wq.heap.size wq _›
              have HKB := Lib.hid hkb
              clear hkb s1 s2 y0 y1 y2 i1 i2 g0 g1 g2 g3 wqq
              have y3 : ∀ w', (Op.stringOp .add (sB (outS (X2 ++ pr1 (pa, pb)))) (⟨#[10]⟩ : ByteArray)).run Tryd.prog w' = .ok (.string (sB (outS (X2 ++ (pr1 (pa, pb) ++ [10]))))) w' := fun w' => by rw [← sB_ten, ← List.append_assoc, ← outS_app (X2 ++ pr1 (pa, pb)) [10]]; exact add_sB (by rw [outS_len]; simp [pr1, hex2]; omega) w'
              by_cases hkL : k + 1 = L
              · have hkb : ((k : Int) + 1 == (L : Int)) = true := by rw [beq_iff_eq]; omega
                have HFN := Lib.hid (show fin1 (M.drop (k + 1)) = [10] by rw [List.drop_of_length_le (by have := HL.out; omega)]; rfl)
                clear hkL
                go_wp2_with fail
                go_roundw
                case rel => exact ⟨k + 1, X2 ++ (pr1 (pa, pb) ++ [10]), true, by omega, by go_num, rfl, Lib.hid (Gq.out.trans (HKB.out.mono yq)), Lib.hid (by rw [HO2.out, HFN.out]; simp), Lib.hid (fun h0 => absurd h0 (by omega)), Lib.hid (fun q _ hq => by rw [Nat.add_sub_cancel, HP.out] at hq; cases hq; rw [HN.out]; rfl)⟩
                case measure => simp [intOf]; omega
              · have hkb : ((k : Int) + 1 == (L : Int)) = false := by rw [beq_eq_false_iff_ne]; omega
                obtain ⟨q, hq⟩ : ∃ q, M[k + 1]? = some q := ⟨_, List.getElem?_eq_getElem (by have := HL.out; omega)⟩
                have HQ := Lib.hid hq
                have HQD := Lib.hid (flat_at hq).2
                have hk1' : (0 : Int) ≤ (k : Int) + 1 := by omega
                have hs3 : IntKind.i64.wrap ((k : Int) + 1) = (k : Int) + 1 := IntWalk.i64_in _ (by omega)
                have HCC := Lib.hid (fun (W : World) (hW : Below wq.heap.size wq W) => nullr_flat (some ⟨bA, oA, none⟩) (2 * L) c2 (k + 1) M q W (BytesAt.ext GX.out hW) (by rw [flat_len, HL.out]) HQ.out (by omega))
                rw [show ((k + 1 : Nat) : Int) = (k : Int) + 1 from by omega] at HCC
                clear hq hkL
                cases hNq : isN q
                · have HFN := Lib.hid (show fin1 (M.drop (k + 1)) = [] by rw [HQD.out]; exact fin1_on hNq)
                  go_wp2_with fail
                  refine (HCC.out _ HKB.out).mono ?_
                  rintro e wz ⟨rfl, rfl⟩
                  rw [hNq]
                  go_wp2_with fail
                  go_roundw
                  case rel => exact ⟨k + 1, X2 ++ pr1 (pa, pb), true, by omega, by go_num, rfl, Lib.hid (Gq.out.trans (HKB.out.mono yq)), Lib.hid (by rw [HO2.out, HFN.out]; simp), Lib.hid (fun h0 => absurd h0 (by omega)), Lib.hid (fun q _ hq => by rw [Nat.add_sub_cancel, HP.out] at hq; cases hq; rw [HN.out]; rfl)⟩
                  case measure => simp [intOf]; omega
                · have HFN := Lib.hid (show fin1 (M.drop (k + 1)) = [10] by rw [HQD.out]; exact fin1_null hNq)
                  go_wp2_with fail
                  refine (HCC.out _ HKB.out).mono ?_
                  rintro e wz ⟨rfl, rfl⟩
                  rw [hNq]
                  go_wp2_with fail
                  go_roundw
                  case rel => exact ⟨k + 1, X2 ++ (pr1 (pa, pb) ++ [10]), true, by omega, by go_num, rfl, Lib.hid (Gq.out.trans (HKB.out.mono yq)), Lib.hid (by rw [HO2.out, HFN.out]; simp), Lib.hid (fun h0 => absurd h0 (by omega)), Lib.hid (fun q _ hq => by rw [Nat.add_sub_cancel, HP.out] at hq; cases hq; rw [HN.out]; rfl)⟩
                  case measure => simp [intOf]; omega
          · have hzb : ((k : Int) == 0) = false := by rw [beq_eq_false_iff_ne]; omega
            obtain ⟨q, hq⟩ : ∃ q, M[k - 1]? = some q := ⟨_, List.getElem?_eq_getElem (by have := HL.out; omega)⟩
            have HWQ := Lib.hid (HW1.out q (by omega) hq)
            have HNQ := Lib.hid (nullr_flat (some ⟨bA, oA, none⟩) (2 * L) c2 (k - 1) M q wr GX.out (by rw [flat_len, HL.out]) hq (by omega))
            rw [show ((k - 1 : Nat) : Int) = (k : Int) - 1 from by omega] at HNQ
            have hs3 : IntKind.i64.wrap ((k : Int) - 1) = (k : Int) - 1 := IntWalk.i64_in _ (by omega)
            clear hq hz
            go_wp2_with fail
            refine HNQ.out.mono ?_
            rintro e wy ⟨rfl, rfl⟩
            cases hNq : isN q
            · have HWK := Lib.hid (show wk = true by rw [HWQ.out, hNq]; rfl)
              go_wp2_with fail
              obtain ⟨wq, hwq⟩ : ∃ wq, wq = wr := ⟨_, rfl⟩
              rw [← hwq] at HBr GX Gr ⊢
              have Gq := Gr
              obtain ⟨X2, hX2⟩ : ∃ X2, X2 = X := ⟨_, rfl⟩
              rw [← hX2]
              have HO2 := Lib.hid (show outR (labT d F) false 0 M = X2 ++ (pr1 (pa, pb) ++ (fin1 (M.drop (k + 1)) ++ outR (labT d F) true ((k : Int) + 1) (M.drop (k + 1)))) by rw [HO.out, HWK.out, HD2.out, outR_on HN.out, hX2])
              clear hX2 hwq HNQ q0 q1 q2 q3
              have hX2 : X2.length ≤ 4000000 := by
                have h1 := HXL.out
                rw [HO2.out, List.length_append] at h1
                omega
              obtain ⟨c0, c1⟩ := mem_flat HP.out GX.out
              obtain ⟨q0, q1, q2, q3⟩ := HBr.out.pair
              have i1 : (2 * (k : Int)).toNat = 2 * k := by omega
              have i2 : (2 * (k : Int) + 1).toNat = 2 * k + 1 := by omega
              have s1 : IntKind.i64.wrap (2 * (k : Int)) = 2 * (k : Int) := IntWalk.i64_in _ (by omega)
              have s2 : IntKind.i64.wrap (2 * (k : Int) + 1) = 2 * (k : Int) + 1 := IntWalk.i64_in _ (by omega)
              have g0 : (0 : Int) ≤ 2 * (k : Int) := by omega
              have g3 : (0 : Int) ≤ 2 * (k : Int) + 1 := by omega
              have g1 : (2 * (k : Int) + 1) < 2 * (L : Int) := by omega
              have g2 : 2 * (k : Int) < 2 * (L : Int) := by omega
              have y0 : ∀ w', (Op.stringOp .add (⟨#[32]⟩ : ByteArray) (sB (hex2 pa))).run Tryd.prog w' = .ok (.string (sB (32 :: hex2 pa))) w' := fun w' => by rw [← sB_one]; exact add_sB (by simp [hex2]) w'
              have y1 : ∀ w', (Op.stringOp .add (sB (32 :: hex2 pa)) (sB (hex2 pb))).run Tryd.prog w' = .ok (.string (sB (pr1 (pa, pb)))) w' := fun w' => add_sB (by simp [hex2]) w'
              have y2 : ∀ w', (Op.stringOp .add (sB (outS X2)) (sB (pr1 (pa, pb)))).run Tryd.prog w' = .ok (.string (sB (outS (X2 ++ pr1 (pa, pb))))) w' := fun w' => by rw [← outS_app]; exact add_sB (by rw [outS_len]; simp [pr1, hex2]; omega) w'
              have wqq : Below wq.heap.size wq wq := Below.refl _ _
              have yq : w4.heap.size ≤ wq.heap.size := Gq.out.size
              go_region_held3 (fun w9 => w9.cell? ⟨B, 1, none⟩ = some (.slice (some ⟨bA, oA, none⟩) (2 * L) c2) ∧ w9.cell? ⟨bA, oA + 2 * k, none⟩ = some (.int .u8 pa.toNat) ∧ w9.cell? ⟨bA, oA + (2 * k + 1), none⟩ = some (.int .u8 pb.toNat) ∧ Below wq.heap.size wq w9)
                ((refine ⟨?_, ?_, ?_, ?_⟩ <;> first
                    | assumption
                    | exact Below.drew ‹_›
                    | exact (hb.cell (World.block_lt_of_cell? _ _ hk1)).trans hk1
                    | exact (hb.cell (World.block_lt_of_cell? _ _ hk2)).trans hk2
                    | exact (hb.cell (World.block_lt_of_cell? _ _ hk3)).trans hk3
                    | exact bthen hkb hb))
                (first
                  | (go_at_call_of 37 (Value.int .u8 pa.toNat); obtain ⟨hk1, hk2, hk3, hkb⟩ := ‹_ ∧ _ ∧ _ ∧ Below wq.heap.size wq _›; refine (hexr_any pa _).mono ?_; rintro e w' ⟨rfl, hb⟩)
                  | (go_at_call_of 37 (Value.int .u8 pb.toNat); obtain ⟨hk1, hk2, hk3, hkb⟩ := ‹_ ∧ _ ∧ _ ∧ Below wq.heap.size wq _›; refine (hexr_any pb _).mono ?_; rintro e w' ⟨rfl, hb⟩))
              all_goals
                obtain ⟨_, hk1, _, hkb⟩ := ‹_ ∧ _ ∧ _ ∧ Below wq.heap.size wq _›
                have HKB := Lib.hid hkb
                clear hkb s1 s2 y0 y1 y2 i1 i2 g0 g1 g2 g3 wqq
                have y3 : ∀ w', (Op.stringOp .add (sB (outS (X2 ++ pr1 (pa, pb)))) (⟨#[10]⟩ : ByteArray)).run Tryd.prog w' = .ok (.string (sB (outS (X2 ++ (pr1 (pa, pb) ++ [10]))))) w' := fun w' => by rw [← sB_ten, ← List.append_assoc, ← outS_app (X2 ++ pr1 (pa, pb)) [10]]; exact add_sB (by rw [outS_len]; simp [pr1, hex2]; omega) w'
                by_cases hkL : k + 1 = L
                · have hkb : ((k : Int) + 1 == (L : Int)) = true := by rw [beq_iff_eq]; omega
                  have HFN := Lib.hid (show fin1 (M.drop (k + 1)) = [10] by rw [List.drop_of_length_le (by have := HL.out; omega)]; rfl)
                  clear hkL
                  go_wp2_with fail
                  go_roundw
                  case rel => exact ⟨k + 1, X2 ++ (pr1 (pa, pb) ++ [10]), true, by omega, by go_num, rfl, Lib.hid (Gq.out.trans (HKB.out.mono yq)), Lib.hid (by rw [HO2.out, HFN.out]; simp), Lib.hid (fun h0 => absurd h0 (by omega)), Lib.hid (fun q _ hq => by rw [Nat.add_sub_cancel, HP.out] at hq; cases hq; rw [HN.out]; rfl)⟩
                  case measure => simp [intOf]; omega
                · have hkb : ((k : Int) + 1 == (L : Int)) = false := by rw [beq_eq_false_iff_ne]; omega
                  obtain ⟨q, hq⟩ : ∃ q, M[k + 1]? = some q := ⟨_, List.getElem?_eq_getElem (by have := HL.out; omega)⟩
                  have HQ := Lib.hid hq
                  have HQD := Lib.hid (flat_at hq).2
                  have hk1' : (0 : Int) ≤ (k : Int) + 1 := by omega
                  have hs3 : IntKind.i64.wrap ((k : Int) + 1) = (k : Int) + 1 := IntWalk.i64_in _ (by omega)
                  have HCC := Lib.hid (fun (W : World) (hW : Below wq.heap.size wq W) => nullr_flat (some ⟨bA, oA, none⟩) (2 * L) c2 (k + 1) M q W (BytesAt.ext GX.out hW) (by rw [flat_len, HL.out]) HQ.out (by omega))
                  rw [show ((k + 1 : Nat) : Int) = (k : Int) + 1 from by omega] at HCC
                  clear hq hkL
                  cases hNq : isN q
                  · have HFN := Lib.hid (show fin1 (M.drop (k + 1)) = [] by rw [HQD.out]; exact fin1_on hNq)
                    go_wp2_with fail
                    refine (HCC.out _ HKB.out).mono ?_
                    rintro e wz ⟨rfl, rfl⟩
                    rw [hNq]
                    go_wp2_with fail
                    go_roundw
                    case rel => exact ⟨k + 1, X2 ++ pr1 (pa, pb), true, by omega, by go_num, rfl, Lib.hid (Gq.out.trans (HKB.out.mono yq)), Lib.hid (by rw [HO2.out, HFN.out]; simp), Lib.hid (fun h0 => absurd h0 (by omega)), Lib.hid (fun q _ hq => by rw [Nat.add_sub_cancel, HP.out] at hq; cases hq; rw [HN.out]; rfl)⟩
                    case measure => simp [intOf]; omega
                  · have HFN := Lib.hid (show fin1 (M.drop (k + 1)) = [10] by rw [HQD.out]; exact fin1_null hNq)
                    go_wp2_with fail
                    refine (HCC.out _ HKB.out).mono ?_
                    rintro e wz ⟨rfl, rfl⟩
                    rw [hNq]
                    go_wp2_with fail
                    go_roundw
                    case rel => exact ⟨k + 1, X2 ++ (pr1 (pa, pb) ++ [10]), true, by omega, by go_num, rfl, Lib.hid (Gq.out.trans (HKB.out.mono yq)), Lib.hid (by rw [HO2.out, HFN.out]; simp), Lib.hid (fun h0 => absurd h0 (by omega)), Lib.hid (fun q _ hq => by rw [Nat.add_sub_cancel, HP.out] at hq; cases hq; rw [HN.out]; rfl)⟩
                    case measure => simp [intOf]; omega
            · have HWK := Lib.hid (show wk = false by rw [HWQ.out, hNq]; rfl)
              clear HNQ
              go_wp2_with fail
              have HDAY := Lib.hid (show F + (k : Int) < dayV d by
                have := HDV.out (fun e => by have := HL.out; rw [e] at this; simp at this; omega)
                omega)
              refine (labelr_any d (F + (k : Int)) _ (by omega) HDAY.out).mono ?_
              rintro e w8 ⟨rfl, hb8⟩
              have HCL := Lib.hid (labV_ok (d := d) (f := F + (k : Int)) (by omega) HDAY.out).1
              have HLT := Lib.hid (show labT d F (k : Int) = txtL (labV d (F + (k : Int))) from rfl)
              generalize labV d (F + (k : Int)) = LB at *
              obtain ⟨lh, lm, ls, lf, ld⟩ := LB
              simp only [labA]
              have H8 := Lib.hid (HBr.out.ext hb8)
              have X8 := Lib.hid (BytesAt.ext GX.out hb8)
              have G8 := Lib.hid (Gr.out.trans (hb8.mono Gr.out.size))
              clear hb8 q0 q1 q2 q3 HBr GX
              go_wp2_with fail
              refine (textr_any ⟨lh, lm, ls, lf, ld⟩ _ HCL.out).mono ?_
              rintro e wq ⟨rfl, hb9⟩
              have hb9' := bthen (below_one _ _) hb9
              have HBr := Lib.hid (H8.out.ext hb9')
              have GX := Lib.hid (BytesAt.ext X8.out hb9')
              have Gq := Lib.hid (G8.out.trans (hb9'.mono G8.out.size))
              clear hb9 hb9' H8 X8 G8
              have hts : (txtL ⟨lh, lm, ls, lf, ld⟩).length = 11 := (txtL_no HCL.out).2
              have yl : ∀ w', (Op.stringOp .add (sB (outS X)) (txtB ⟨lh, lm, ls, lf, ld⟩)).run Tryd.prog w' = .ok (.string (sB (outS (X ++ txtL ⟨lh, lm, ls, lf, ld⟩)))) w' := fun w' => by rw [← outS_app]; exact add_sB (b := txtL ⟨lh, lm, ls, lf, ld⟩) (by rw [outS_len, hts]; omega) w'
              obtain ⟨X2, hX2⟩ : ∃ X2, X2 = X ++ txtL ⟨lh, lm, ls, lf, ld⟩ := ⟨_, rfl⟩
              rw [← hX2] at yl
              have HO2 := Lib.hid (show outR (labT d F) false 0 M = X2 ++ (pr1 (pa, pb) ++ (fin1 (M.drop (k + 1)) ++ outR (labT d F) true ((k : Int) + 1) (M.drop (k + 1)))) by rw [HO.out, HWK.out, HD2.out, outR_off HN.out, hX2, ← HLT.out]; simp)
              clear hX2 hts
              go_wp2_with fail
              clear yl
              have hX2 : X2.length ≤ 4000000 := by
                have h1 := HXL.out
                rw [HO2.out, List.length_append] at h1
                omega
              obtain ⟨c0, c1⟩ := mem_flat HP.out GX.out
              obtain ⟨q0, q1, q2, q3⟩ := HBr.out.pair
              have i1 : (2 * (k : Int)).toNat = 2 * k := by omega
              have i2 : (2 * (k : Int) + 1).toNat = 2 * k + 1 := by omega
              have s1 : IntKind.i64.wrap (2 * (k : Int)) = 2 * (k : Int) := IntWalk.i64_in _ (by omega)
              have s2 : IntKind.i64.wrap (2 * (k : Int) + 1) = 2 * (k : Int) + 1 := IntWalk.i64_in _ (by omega)
              have g0 : (0 : Int) ≤ 2 * (k : Int) := by omega
              have g3 : (0 : Int) ≤ 2 * (k : Int) + 1 := by omega
              have g1 : (2 * (k : Int) + 1) < 2 * (L : Int) := by omega
              have g2 : 2 * (k : Int) < 2 * (L : Int) := by omega
              have y0 : ∀ w', (Op.stringOp .add (⟨#[32]⟩ : ByteArray) (sB (hex2 pa))).run Tryd.prog w' = .ok (.string (sB (32 :: hex2 pa))) w' := fun w' => by rw [← sB_one]; exact add_sB (by simp [hex2]) w'
              have y1 : ∀ w', (Op.stringOp .add (sB (32 :: hex2 pa)) (sB (hex2 pb))).run Tryd.prog w' = .ok (.string (sB (pr1 (pa, pb)))) w' := fun w' => add_sB (by simp [hex2]) w'
              have y2 : ∀ w', (Op.stringOp .add (sB (outS X2)) (sB (pr1 (pa, pb)))).run Tryd.prog w' = .ok (.string (sB (outS (X2 ++ pr1 (pa, pb))))) w' := fun w' => by rw [← outS_app]; exact add_sB (by rw [outS_len]; simp [pr1, hex2]; omega) w'
              have wqq : Below wq.heap.size wq wq := Below.refl _ _
              have yq : w4.heap.size ≤ wq.heap.size := Gq.out.size
              go_region_held3 (fun w9 => w9.cell? ⟨B, 1, none⟩ = some (.slice (some ⟨bA, oA, none⟩) (2 * L) c2) ∧ w9.cell? ⟨bA, oA + 2 * k, none⟩ = some (.int .u8 pa.toNat) ∧ w9.cell? ⟨bA, oA + (2 * k + 1), none⟩ = some (.int .u8 pb.toNat) ∧ Below wq.heap.size wq w9)
                ((refine ⟨?_, ?_, ?_, ?_⟩ <;> first
                    | assumption
                    | exact Below.drew ‹_›
                    | exact (hb.cell (World.block_lt_of_cell? _ _ hk1)).trans hk1
                    | exact (hb.cell (World.block_lt_of_cell? _ _ hk2)).trans hk2
                    | exact (hb.cell (World.block_lt_of_cell? _ _ hk3)).trans hk3
                    | exact bthen hkb hb))
                (first
                  | (go_at_call_of 37 (Value.int .u8 pa.toNat); obtain ⟨hk1, hk2, hk3, hkb⟩ := ‹_ ∧ _ ∧ _ ∧ Below wq.heap.size wq _›; refine (hexr_any pa _).mono ?_; rintro e w' ⟨rfl, hb⟩)
                  | (go_at_call_of 37 (Value.int .u8 pb.toNat); obtain ⟨hk1, hk2, hk3, hkb⟩ := ‹_ ∧ _ ∧ _ ∧ Below wq.heap.size wq _›; refine (hexr_any pb _).mono ?_; rintro e w' ⟨rfl, hb⟩))
              all_goals
                obtain ⟨_, hk1, _, hkb⟩ := ‹_ ∧ _ ∧ _ ∧ Below wq.heap.size wq _›
                have HKB := Lib.hid hkb
                clear hkb s1 s2 y0 y1 y2 i1 i2 g0 g1 g2 g3 wqq
                have y3 : ∀ w', (Op.stringOp .add (sB (outS (X2 ++ pr1 (pa, pb)))) (⟨#[10]⟩ : ByteArray)).run Tryd.prog w' = .ok (.string (sB (outS (X2 ++ (pr1 (pa, pb) ++ [10]))))) w' := fun w' => by rw [← sB_ten, ← List.append_assoc, ← outS_app (X2 ++ pr1 (pa, pb)) [10]]; exact add_sB (by rw [outS_len]; simp [pr1, hex2]; omega) w'
                by_cases hkL : k + 1 = L
                · have hkb : ((k : Int) + 1 == (L : Int)) = true := by rw [beq_iff_eq]; omega
                  have HFN := Lib.hid (show fin1 (M.drop (k + 1)) = [10] by rw [List.drop_of_length_le (by have := HL.out; omega)]; rfl)
                  clear hkL
                  go_wp2_with fail
                  go_roundw
                  case rel => exact ⟨k + 1, X2 ++ (pr1 (pa, pb) ++ [10]), true, by omega, by go_num, rfl, Lib.hid (Gq.out.trans (HKB.out.mono yq)), Lib.hid (by rw [HO2.out, HFN.out]; simp), Lib.hid (fun h0 => absurd h0 (by omega)), Lib.hid (fun q _ hq => by rw [Nat.add_sub_cancel, HP.out] at hq; cases hq; rw [HN.out]; rfl)⟩
                  case measure => simp [intOf]; omega
                · have hkb : ((k : Int) + 1 == (L : Int)) = false := by rw [beq_eq_false_iff_ne]; omega
                  obtain ⟨q, hq⟩ : ∃ q, M[k + 1]? = some q := ⟨_, List.getElem?_eq_getElem (by have := HL.out; omega)⟩
                  have HQ := Lib.hid hq
                  have HQD := Lib.hid (flat_at hq).2
                  have hk1' : (0 : Int) ≤ (k : Int) + 1 := by omega
                  have hs3 : IntKind.i64.wrap ((k : Int) + 1) = (k : Int) + 1 := IntWalk.i64_in _ (by omega)
                  have HCC := Lib.hid (fun (W : World) (hW : Below wq.heap.size wq W) => nullr_flat (some ⟨bA, oA, none⟩) (2 * L) c2 (k + 1) M q W (BytesAt.ext GX.out hW) (by rw [flat_len, HL.out]) HQ.out (by omega))
                  rw [show ((k + 1 : Nat) : Int) = (k : Int) + 1 from by omega] at HCC
                  clear hq hkL
                  cases hNq : isN q
                  · have HFN := Lib.hid (show fin1 (M.drop (k + 1)) = [] by rw [HQD.out]; exact fin1_on hNq)
                    go_wp2_with fail
                    refine (HCC.out _ HKB.out).mono ?_
                    rintro e wz ⟨rfl, rfl⟩
                    rw [hNq]
                    go_wp2_with fail
                    go_roundw
                    case rel => exact ⟨k + 1, X2 ++ pr1 (pa, pb), true, by omega, by go_num, rfl, Lib.hid (Gq.out.trans (HKB.out.mono yq)), Lib.hid (by rw [HO2.out, HFN.out]; simp), Lib.hid (fun h0 => absurd h0 (by omega)), Lib.hid (fun q _ hq => by rw [Nat.add_sub_cancel, HP.out] at hq; cases hq; rw [HN.out]; rfl)⟩
                    case measure => simp [intOf]; omega
                  · have HFN := Lib.hid (show fin1 (M.drop (k + 1)) = [10] by rw [HQD.out]; exact fin1_null hNq)
                    go_wp2_with fail
                    refine (HCC.out _ HKB.out).mono ?_
                    rintro e wz ⟨rfl, rfl⟩
                    rw [hNq]
                    go_wp2_with fail
                    go_roundw
                    case rel => exact ⟨k + 1, X2 ++ (pr1 (pa, pb) ++ [10]), true, by omega, by go_num, rfl, Lib.hid (Gq.out.trans (HKB.out.mono yq)), Lib.hid (by rw [HO2.out, HFN.out]; simp), Lib.hid (fun h0 => absurd h0 (by omega)), Lib.hid (fun q _ hq => by rw [Nat.add_sub_cancel, HP.out] at hq; cases hq; rw [HN.out]; rfl)⟩
                    case measure => simp [intOf]; omega
        · go_wp2_with fail
          go_roundw
          case rel => exact ⟨k + 1, X, false, by omega, by go_num, rfl, Gr, Lib.hid (by rw [HO.out, HD2.out, outR_null hN]; rfl), Lib.hid (fun _ => rfl), Lib.hid (fun q _ hq => by rw [Nat.add_sub_cancel, HP.out] at hq; cases hq; rw [hN]; rfl)⟩
          case measure => simp [intOf]; omega
      · have ek : k = L := by omega
        have hlt2 : ¬ ((k : Int) < (L : Int)) := by omega
        have HT := Lib.hid (show sB (outS X) = (⟨T.toArray⟩ : ByteArray) by
          have h1 := HO.out
          rw [ek, List.drop_of_length_le (by have := HL.out; omega), outR, List.append_nil] at h1
          rw [HTX.out, textR, h1]
          show sB _ = sB _
          simp [outS])
        clear hlt
        go_wp2_with fail
        go_ret2
        exact ⟨congrArg (fun s => Ending.returned (.tuple #[.string s, .int .i64 0])) HT.out, FB4.out.trans (Gr.out.mono hBw)⟩
theorem printr_any (f : Int) (A : Option Addr) (n c : Nat) (bs : List UInt8) (d : Bool) (w : World) (h : BytesAt w A bs) (hn : n = bs.length) (hnc : n ≤ c) (hcm : c ≤ maxLen) :
    Calls Tryd.prog 18 #[strm f A n c, .bool d] w fun e w' => e = .returned (prB (printV f bs d)) ∧ Below w.heap.size w w' := by
  have hm : c ≤ 9223372036854775807 := by simpa [maxLen] using hcm
  by_cases hc : chkS f n = 0
  · by_cases hla : late (normV f (prs bs)).1 (mid (prs bs)) d
    · exact printr_late f A n c bs d w h hn hnc hcm hc hla
    · exact printr_ok f A n c bs d w h hn hnc hcm hc hla
  · exact printr_bad f A n c bs d w hn (by omega) hc
end Go.Proofs.YtbliilemjkjimaaDoor
