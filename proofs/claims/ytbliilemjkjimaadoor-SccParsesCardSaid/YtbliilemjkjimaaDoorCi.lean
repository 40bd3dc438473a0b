/-
  The contract of Print of layer 31 at a stream that has a text. Its conditions are its hypotheses.
-/
import Derived.Test.YtbliilemjkjimaaDoorCh
namespace Go.Proofs.YtbliilemjkjimaaDoor
open Go.RowKit Go.Joins
set_option linter.unusedVariables false
set_option linter.unusedSimpArgs false
theorem bytes_other {w : World} {A : Option Addr} {bs : List UInt8} {B : Nat} {cs : List Value} (h : BytesAt w A bs) (hH : Held w B cs) (hne : ∀ x : UInt8, byteV x ∉ cs) (i : Nat) (v : Value) : BytesAt (w.setCell ⟨B, i, none⟩ v) A bs := fun k u hk => by
  obtain ⟨b, o, e, hc⟩ := h k u hk
  refine ⟨b, o, e, ?_⟩
  by_cases hb : b = B
  · subst hb
    rw [hH.cell] at hc
    obtain ⟨x, _, rfl⟩ := List.mem_map.1 (List.mem_of_getElem? hk)
    exact absurd (List.mem_of_getElem? hc) (hne x)
  · exact (cell_same (Below.heap_setCell w ⟨B, i, none⟩ v b hb) _).trans hc
theorem byte_no (f : Int) (A : Option Addr) (n c : Nat) (x : UInt8) : byteV x ∉ [Value.int .i64 f, .slice A n c] := by simp [byteV]
theorem flat_at : ∀ {M : List Pr} {k : Nat} {p : Pr}, M[k]? = some p → (flat M).drop (2 * k) = p.1 :: p.2 :: flat (M.drop (k + 1)) ∧ M.drop k = p :: M.drop (k + 1)
  | q :: M, 0, p, h => by cases h; exact ⟨rfl, rfl⟩
  | q :: M, k + 1, p, h => by
    have := flat_at (M := M) (k := k) (by simpa using h)
    rw [show 2 * (k + 1) = 2 * k + 1 + 1 from by omega]
    exact this
def hexs (l : List UInt8) : List UInt8 := l.flatMap hex2
theorem hx_idx : ∀ (m : Nat) (h : m < 16) {h' : m < (⟨#[48, 49, 50, 51, 52, 53, 54, 55, 56, 57, 97, 98, 99, 100, 101, 102]⟩ : ByteArray).size}, (⟨#[48, 49, 50, 51, 52, 53, 54, 55, 56, 57, 97, 98, 99, 100, 101, 102]⟩ : ByteArray)[m] = hx m
  | 0, _, _ => rfl
  | 1, _, _ => rfl
  | 2, _, _ => rfl
  | 3, _, _ => rfl
  | 4, _, _ => rfl
  | 5, _, _ => rfl
  | 6, _, _ => rfl
  | 7, _, _ => rfl
  | 8, _, _ => rfl
  | 9, _, _ => rfl
  | 10, _, _ => rfl
  | 11, _, _ => rfl
  | 12, _, _ => rfl
  | 13, _, _ => rfl
  | 14, _, _ => rfl
  | 15, _, _ => rfl
  | n + 16, h, _ => absurd h (by omega)
theorem hexs_le (a b : UInt8) (j : Nat) : (hexs ([a, b].take j)).length ≤ 4 := by
  match j with
  | 0 => simp [hexs]
  | 1 => simp [hexs, hex2]
  | j + 2 => simp [hexs, hex2]
theorem take_hexs {a b x : UInt8} {j : Nat} (h : [a, b][j]? = some x) : hexs ([a, b].take (j + 1)) = hexs ([a, b].take j) ++ [hx (x.toNat / 16)] ++ [hx (x.toNat % 16)] := by
  match j, h with
  | 0, h => cases h; simp [hexs, hex2]
  | 1, h => cases h; simp [hexs, hex2]
set_option maxHeartbeats 2000000 in
theorem print_ok (f : Int) (A : Option Addr) (n c : Nat) (bs : List UInt8) (d : Bool) (w : World) (h : BytesAt w A bs) (hn : n = bs.length) (hnc : n ≤ c) (hcm : c ≤ maxLen) (hc : chkS f n = 0) (hla : ¬ late (normV f (prs bs)).1 (mid (prs bs)) d) :
    Calls Tryd.prog 17 #[strm f A n c, .bool d] w fun e w' => e = .returned (prB (printV f bs d)) ∧ Below w.heap.size w w' := by
  obtain ⟨z1, z2, z3, z4⟩ := chkS_zero hc
  have e : printV f bs d = (textP (normV f (prs bs)).1 (mid (prs bs)) d, 0) := by rw [printV, ← hn, if_neg (by omega), printN, normV_2, if_neg hla]
  rw [e]
  obtain ⟨T, hT⟩ : ∃ T, T = textP (normV f (prs bs)).1 (mid (prs bs)) d := ⟨_, rfl⟩
  rw [← hT]
  have HTX := Lib.hid hT
  clear hT
  have HF := Lib.hid (fstV_norm (l := prs bs) z3 z4 (by rw [prs_len, ← hn]; omega))
  have HM := Lib.hid hla
  have hml := lead_mid_le (prs bs)
  rw [prs_len, ← hn] at hml
  have HC := Lib.hid (check_any f A n c)
  have HC0 := Lib.hid hc
  have HH := Lib.hid (And.intro h hn)
  unfold prB
  clear e hc hn h hla
  obtain ⟨B, hB⟩ : ∃ B, B = w.heap.size := ⟨_, rfl⟩
  rw [← hB]
  unfold strm at *
  go_enter Tryd.func17, Tryd.ntmps17
  go_wp2_with fail
  refine (HC.out _ (by omega)).mono ?_
  rintro e w1 ⟨rfl, hb⟩
  rw [HC0.out, ← hB]
  have H := Lib.hid ((show Held (w.alloc (.cells #[.int .i64 f, .slice A n c] 24)) B [.int .i64 f, .slice A n c] from Held.new hB).ext hb)
  have FB := Lib.hid (show Below B w w1 by subst hB; exact bthen (below_one _ _) hb)
  have HX := Lib.hid (show BytesAt w1 A bs from HH.out.1.ext (hB ▸ FB.out))
  clear hb hB
  obtain ⟨q0, q1, q2, q3⟩ := H.out.pair
  go_wp2_with fail
  refine (norm_any f A n c bs _ HX.out HH.out.2 hnc hcm (by omega) ⟨by omega, by omega⟩).mono ?_
  rintro e w2 ⟨⟨A2, c2, rfl, hx, hc2, hcm2⟩, hb⟩
  have HX2 := Lib.hid hx
  rw [HF.out]
  replace FB := Lib.hid (FB.out.trans (hb.mono (Nat.le_of_lt H.out.lt)))
  replace H := Lib.hid (H.out.ext hb)
  clear hb q0 q1 q2 q3 hx
  obtain ⟨q0, q1, q2, q3⟩ := H.out.pair
  obtain ⟨F1, F2⟩ := normV_bd (f := f) (l := prs bs) z3 z4 (by rw [prs_len, ← HH.out.2]; omega)
  generalize (normV f (prs bs)).1 = F at *
  generalize mid (prs bs) = M at *
  generalize hL : M.length = L at *
  have HL := Lib.hid hL
  clear hL
  unfold strm
  go_wp2_with fail
  have r := Lib.hid (((H.out).set 0 (.int .i64 F)).set 1 (.slice A2 (2 * L) c2))
  have rb := Lib.hid ((FB.out.setCell (p := ⟨B, 0, none⟩) (by simp) (.int .i64 F)).setCell (p := ⟨B, 1, none⟩) (by simp) (.slice A2 (2 * L) c2))
  have rx := Lib.hid (bytes_other (bytes_other HX2.out H.out (byte_no _ _ _ _) 0 (.int .i64 F)) (H.out.set 0 (.int .i64 F)) (byte_no F A n c) 1 (.slice A2 (2 * L) c2))
  generalize World.setCell (World.setCell _ _ _) _ _ = w3 at *
  clear q0 q1 q2 q3 H FB HX2 HX
  obtain ⟨q0, q1, q2, q3⟩ := (show Held w3 B [.int .i64 F, .slice A2 (2 * L) c2] from r.out).pair
  have fs : B + 1 ≤ w3.heap.size := r.out.lt
  have fbb := rb.out
  obtain ⟨D, hD⟩ : ∃ D, D = dayV d := ⟨_, rfl⟩
  have HD := Lib.hid hD.symm
  clear hD
  have HDV := Lib.hid (show M ≠ [] → F + L - 1 < dayV d from fun hne => by
    have h1 : ¬ (M ≠ [] ∧ dayV d ≤ F + M.length - 1) := HM.out
    rw [HL.out] at h1
    exact Int.not_le.1 (fun h2 => h1 ⟨hne, h2⟩))
  have hL2 : L ≤ 200001 := by omega
  have hcc : 2 * L ≤ c2 := hc2
  have hcm' : c2 ≤ 9223372036854775807 := by simpa [maxLen] using hcm2
  have HXL := Lib.hid (show (outP (labT d F) false 0 M).length ≤ 17 * L from by
    have := out_len (d := d) (f := F) F1 M false 0 (by omega) (fun hne => by have := HDV.out hne; have h2 := HL.out; omega)
    rw [HL.out] at this
    exact this)
  by_cases hL0 : L = 0
  · have t1 : decide (0 < L) = false := by simp; omega
    go_quiet (fail)
    generalize hw4 : w3.drewN _ = w4
    have HB4 := Lib.hid (show Below w3.heap.size w3 w4 by subst hw4; exact below_drewN (Below.refl _ _) _)
    clear hw4
    have H4 := Lib.hid (r.out.ext HB4.out)
    have FB4 := Lib.hid (rb.out.trans (HB4.out.mono (Nat.le_of_lt r.out.lt)))
    have HX4 := Lib.hid (BytesAt.ext rx.out HB4.out)
    clear HB4 r rb rx q0 q1 q2 q3 fbb fs t1
    obtain ⟨b, hbs⟩ : ∃ b, b = w4.heap.size := ⟨_, rfl⟩
    have hBb : B < b := by rw [hbs]; exact H4.out.lt
    have HBS := Lib.hid hbs
    go_wp2_with fail
    rw [← hbs]
    generalize hw5 : World.alloc _ _ = w5
    have BI := Lib.hid (show BldI b b [] w5 by subst hw5; rw [hbs]; exact Lib.fresh_isBuilder _ _ w4)
    have G5 := Lib.hid (show Below b w4 w5 by subst hw5; rw [hbs]; exact below_one _ _)
    have y5 : b ≤ w5.heap.size := Nat.le_of_lt BI.out.lt
    clear hw5 hbs
    refine (wstr_any b b [] ⟨#[83, 67, 67, 32, 49, 46, 48]⟩ _ BI.out (by simp) (by decide) (by decide) y5).mono ?_
    rintro e w6 ⟨rfl, h6, hb6⟩
    replace BI := Lib.hid (show BldI b b headL w6 from .inr h6)
    replace G5 := Lib.hid (G5.out.trans hb6)
    clear h6 hb6 y5
    go_wp2_with fail
    go_loopw [43, 9] (fun i v wr => ∃ (k : Nat) (X : List UInt8) (wk : Bool), k ≤ L ∧ i = .int .i64 k ∧ v = .bool wk ∧ Hid (BldI b b (headL ++ X) wr) ∧ Hid (Below b w4 wr) ∧ Hid (outP (labT d F) false 0 M = X ++ outP (labT d F) wk k (M.drop k))) (fun i _ _ => L - (intOf i).toNat)
    case atStart => exact ⟨0, [], false, by omega, rfl, rfl, BI, G5, Lib.hid rfl⟩
    case round =>
      obtain ⟨k, X, wk, hk, rfl, rfl, BI, G5, HO⟩ := hrel
      have hXl : X.length ≤ 4000000 := by
        have h1 := HXL.out
        rw [HO.out, List.length_append] at h1
        omega
      have yb := Nat.le_of_lt BI.out.lt
      by_cases hlt : k < L
      · omega
      · have ek : k = L := by omega
        go_wp2_with fail
        refine (wbyte_any b b (headL ++ X) 10 _ BI.out (by simp [headL]; omega) yb).mono ?_
        rintro e w7 ⟨rfl, h7, hb7⟩
        have HB7 := Lib.hid hb7
        have BI7 := Lib.hid h7
        have yb7 := Nat.le_trans yb hb7.size
        clear hb7 h7
        go_wp2_with fail
        have HT := Lib.hid (show headL ++ X ++ [10] = T by
          have h1 := HO.out
          rw [ek, List.drop_of_length_le (by have := HL.out; omega)] at h1
          rw [HTX.out, textP, h1, outP]
          simp)
        refine (Tryd.Builder_String_any b b (headL ++ X ++ [10]) _ (.inr BI7.out) yb7).mono ?_
        rintro e w8 ⟨rfl, hb8⟩
        rw [HT.out]
        have HB8 := Lib.hid hb8
        clear hb8
        go_wp2_with fail
        go_ret2
        exact ⟨rfl, ((FB4.out.trans (G5.out.mono (Nat.le_of_lt hBb))).trans (HB7.out.mono (Nat.le_of_lt hBb))).trans (HB8.out.mono (Nat.le_of_lt hBb))⟩
  · have t1 : 0 < L := by omega
    have t2 : decide (D ≤ F + (L : Int) - 1) = false := by
      have := HDV.out (fun e => hL0 (by rw [← HL.out, e]; rfl))
      rw [HD.out] at this
      simpa using this
    have s1 : IntKind.i64.wrap (F + (L : Int)) = F + (L : Int) := IntWalk.i64_in _ (by omega)
    have s2 : IntKind.i64.wrap (F + (L : Int) - 1) = F + (L : Int) - 1 := IntWalk.i64_in _ (by omega)
    go_region_held3 (fun w' => w'.cell? ⟨B, 0, none⟩ = some (.int .i64 F) ∧ Below w3.heap.size w3 w' ∧ B + 1 ≤ w'.heap.size)
      ((refine ⟨?_, ?_, ?_⟩ <;> first
        | assumption
        | exact Below.refl _ _
        | exact (Below.refl _ _).drew
        | exact Below.drew ‹_›
        | exact (hb.cell (Nat.lt_of_lt_of_le (Nat.lt_succ_self _) hks)).trans hk0
        | exact bthen hkb hb
        | exact Nat.le_trans hks hb.size))
      ((go_at_call 28; obtain ⟨hk0, hkb, hks⟩ := ‹_ ∧ Below w3.heap.size w3 _ ∧ _›; refine (day_any _ _).mono ?_; rintro e w4 ⟨rfl, hb⟩; rw [HD.out]))
    obtain ⟨_, hkb, _⟩ := ‹_ ∧ Below w3.heap.size w3 _ ∧ _›
    have HB4 := Lib.hid (show Below w3.heap.size w3 w4 from hkb)
    clear hkb s1 s2 t2
    have H4 := Lib.hid (r.out.ext HB4.out)
    have FB4 := Lib.hid (rb.out.trans (HB4.out.mono (Nat.le_of_lt r.out.lt)))
    have HX4 := Lib.hid (BytesAt.ext rx.out HB4.out)
    clear HB4 r rb rx q0 q1 q2 q3 fbb fs t1
    obtain ⟨b, hbs⟩ : ∃ b, b = w4.heap.size := ⟨_, rfl⟩
    have hBb : B < b := by rw [hbs]; exact H4.out.lt
    have HBS := Lib.hid hbs
    go_wp2_with fail
    rw [← hbs]
    generalize hw5 : World.alloc _ _ = w5
    have BI := Lib.hid (show BldI b b [] w5 by subst hw5; rw [hbs]; exact Lib.fresh_isBuilder _ _ w4)
    have G5 := Lib.hid (show Below b w4 w5 by subst hw5; rw [hbs]; exact below_one _ _)
    have y5 : b ≤ w5.heap.size := Nat.le_of_lt BI.out.lt
    clear hw5 hbs
    refine (wstr_any b b [] ⟨#[83, 67, 67, 32, 49, 46, 48]⟩ _ BI.out (by simp) (by decide) (by decide) y5).mono ?_
    rintro e w6 ⟨rfl, h6, hb6⟩
    replace BI := Lib.hid (show BldI b b headL w6 from .inr h6)
    replace G5 := Lib.hid (G5.out.trans hb6)
    clear h6 hb6 y5
    go_wp2_with fail
    go_loopw [43, 9] (fun i v wr => ∃ (k : Nat) (X : List UInt8) (wk : Bool), k ≤ L ∧ i = .int .i64 k ∧ v = .bool wk ∧ Hid (BldI b b (headL ++ X) wr) ∧ Hid (Below b w4 wr) ∧ Hid (outP (labT d F) false 0 M = X ++ outP (labT d F) wk k (M.drop k))) (fun i _ _ => L - (intOf i).toNat)
    case atStart => exact ⟨0, [], false, by omega, rfl, rfl, BI, G5, Lib.hid rfl⟩
    case round =>
      obtain ⟨k, X, wk, hk, rfl, rfl, BI, G5, HO⟩ := hrel
      have hXl : X.length ≤ 4000000 := by
        have h1 := HXL.out
        rw [HO.out, List.length_append] at h1
        omega
      have yb := Nat.le_of_lt BI.out.lt
      by_cases hlt : k < L
      · obtain ⟨p, hp⟩ : ∃ p, M[k]? = some p := ⟨_, List.getElem?_eq_getElem (by have := HL.out; omega)⟩
        obtain ⟨ef, ed⟩ := flat_at hp
        have HE := Lib.hid ef
        have HD2 := Lib.hid ed
        clear ef ed hp
        obtain ⟨bA, oA, rfl, -⟩ := HX4.out.get (k := 0) (by rw [flat_len]; have := HL.out; omega)
        have HXr := Lib.hid (show BytesAt wr (some ⟨bA, oA + 2 * k, none⟩) (p.1 :: p.2 :: flat (M.drop (k + 1))) by
          rw [← HE.out]
          exact BytesAt.drop (RowAt.below HX4.out G5.out (by rw [HBS.out]; exact Nat.le_refl _)) (2 * k))
        have H4r := Lib.hid (H4.out.below G5.out hBb)
        obtain ⟨q0, q1, q2, q3⟩ := H4r.out.pair
        have hs : ∀ w', (Instr.slice 22 (.slice (some ⟨bA, oA, none⟩) (2 * L) c2) (some (.int .i64 (2 * (k : Int)))) (some (.int .i64 (2 * (k : Int) + 2))) none).run Tryd.prog w' = .ok (.slice (some ⟨bA, oA + 2 * k, none⟩) 2 (c2 - 2 * k)) w' := fun w' => by
          have := slice_lh (b := bA) (o := oA) (n := 2 * L) (c := c2) (k := 2 * k) (r := 2 * k + 2) (x := 2 * (k : Int)) (y := 2 * (k : Int) + 2) (by omega) (by omega) (by omega) (by omega) (by omega) w'
          rw [show 2 * k + 2 - 2 * k = 2 from by omega] at this
          exact this
        obtain ⟨pa, pb⟩ := p
        go_wp2_with fail
        refine (null_any _ 2 (c2 - 2 * k) pa pb _ _ HXr.out (by omega) (by omega)).mono ?_
        rintro e w7 ⟨rfl, rfl⟩
        cases hN : isN (pa, pb)
        · have HDAY := Lib.hid (show F + (k : Int) < dayV d by
            have := HDV.out (fun e => by have := HL.out; rw [e] at this; simp at this; omega)
            omega)
          cases wk
          · go_wp2_with fail
            refine (label_any d (F + (k : Int)) _ (by omega) HDAY.out).mono ?_
            rintro e w8 ⟨rfl, hb8⟩
            have HCL := Lib.hid (labV_ok (d := d) (f := F + (k : Int)) (by omega) HDAY.out).1
            have HLT := Lib.hid (show labT d F (k : Int) = txtL (labV d (F + (k : Int))) from rfl)
            generalize labV d (F + (k : Int)) = LB at *
            obtain ⟨lh, lm, ls, lf, ld⟩ := LB
            simp only [labA]
            replace BI := Lib.hid (BldI.ext BI.out hb8)
            have Gq := Lib.hid (G5.out.trans (hb8.mono yb))
            clear hb8 q0 q1 q2 q3
            go_wp2_with fail
            refine (text_any ⟨lh, lm, ls, lf, ld⟩ _ HCL.out).mono ?_
            rintro e w9 ⟨rfl, hb9⟩
            have hb9' := bthen (below_one _ _) hb9
            have yb8 := Nat.le_of_lt BI.out.lt
            replace BI := Lib.hid (BldI.ext BI.out hb9')
            replace Gq := Lib.hid (Gq.out.trans (hb9'.mono yb8))
            clear hb9 hb9'
            have hts : (txtB ⟨lh, lm, ls, lf, ld⟩).size = 11 := by
              have := (txtL_no HCL.out).2
              rw [← this]; rfl
            obtain ⟨TB, hTB⟩ : ∃ TB : ByteArray, TB = ⟨#[10]⟩ ++ txtB ⟨lh, lm, ls, lf, ld⟩ := ⟨_, rfl⟩
            have y0 : ∀ w', (Op.stringOp .add (⟨#[10]⟩ : ByteArray) (txtB ⟨lh, lm, ls, lf, ld⟩)).run Tryd.prog w' = .ok (.string TB) w' := fun w' => by rw [hTB]; exact run_string_add_sum w' _ _ (by rw [hts]; decide)
            have hTs : TB.size = 12 := by rw [hTB, ByteArray.size_append, hts]; rfl
            have HTB := Lib.hid hTB
            clear hTB hts
            go_wp2_with fail
            refine (wstr_any b b (headL ++ X) TB _ BI.out (by simp [headL]; omega) (by omega) (by omega) (Nat.le_of_lt BI.out.lt)).mono ?_
            rintro e wq ⟨rfl, hq, hbq⟩
            replace Gq := Lib.hid (Gq.out.trans hbq)
            obtain ⟨Y, hY⟩ : ∃ Y, Y = headL ++ X ++ TB.data.toList := ⟨_, rfl⟩
            rw [← hY] at hq
            have hY2 : Y = headL ++ X ++ 10 :: labT d F (k : Int) := by rw [hY, HLT.out, HTB.out]; simp [txtB]
            have BIq := Lib.hid (show BldI b b Y wq from .inr hq)
            have hYl : Y.length ≤ 5000000 := by rw [hY2, HLT.out]; have := (txtL_no HCL.out).2; simp [headL, this]; omega
            obtain ⟨X2, hX2⟩ : ∃ X2, X2 = X ++ 10 :: labT d F (k : Int) := ⟨_, rfl⟩
            have HY := Lib.hid (show Y = headL ++ X2 by rw [hY2, hX2]; simp)
            have HO2 := Lib.hid (show outP (labT d F) false 0 M = X2 ++ (pr1 (pa, pb) ++ outP (labT d F) true ((k : Int) + 1) (M.drop (k + 1))) by rw [HO.out, HD2.out, outP_off hN, hX2]; simp)
            clear hX2
            clear hY hY2 hq hbq y0 hTs BI G5
            go_wp2_with fail
            have BIz0 := (wbyte_any b b Y 32 _ BIq.out (by omega) (Nat.le_of_lt BIq.out.lt))
            refine BIz0.mono ?_
            clear BIz0
            rintro e wz ⟨rfl, hz, hbz⟩
            have BIz := Lib.hid (show BldI b b (Y ++ [32] ++ hexs ([pa, pb].take 0)) wz by rw [show Y ++ [32] ++ hexs ([pa, pb].take 0) = Y ++ [32] from by simp [hexs]]; exact .inr hz)
            have Gz := Lib.hid (Gq.out.trans hbz)
            clear hz hbz
            go_wp2_with fail
            go_loopw [78] (fun i wv => ∃ j : Nat, j ≤ 2 ∧ i = .int .i64 j ∧ Hid (BldI b b (Y ++ [32] ++ hexs ([pa, pb].take j)) wv) ∧ Hid (Below b w4 wv)) (fun i _ => 2 - (intOf i).toNat)
            case atStart => exact ⟨0, by omega, rfl, BIz, Gz⟩
            case round =>
              obtain ⟨j, hj, rfl, BIj, Gj⟩ := hrel
              by_cases hj2 : j < 2
              · have HXj := BytesAt.drop (RowAt.below HX4.out Gj.out (by rw [HBS.out]; exact Nat.le_refl _)) (2 * k)
                rw [HE.out] at HXj
                obtain ⟨x, hx⟩ : ∃ x, [pa, pb][j]? = some x := ⟨_, List.getElem?_eq_getElem (by simpa using hj2)⟩
                have cx : wr.cell? ⟨bA, oA + 2 * k + j, none⟩ = some (.int .u8 x.toNat) := by
                  obtain ⟨b3, o3, e3, h3⟩ := HXj j (byteV x) (by
                    rw [List.getElem?_map]
                    have : (pa :: pb :: flat (M.drop (k + 1)))[j]? = some x := by
                      rw [← hx, show pa :: pb :: flat (M.drop (k + 1)) = [pa, pb] ++ flat (M.drop (k + 1)) from rfl, List.getElem?_append_left (by simpa using hj2)]
                    rw [this]; rfl)
                  cases e3
                  exact h3
                have HJ := Lib.hid hx
                have x0 := x.toNat_lt
                have hj0 : (0 : Int) ≤ (j : Int) := by omega
                have hj3 : (j : Int) < 2 := by omega
                clear HXj hx
                go_wp2_with fail
                rw [hx_idx (x.toNat / 16) (by omega)]
                have hjl : (hexs ([pa, pb].take j)).length ≤ 4 := hexs_le _ _ _
                refine (wbyte_any b b (Y ++ [32] ++ hexs ([pa, pb].take j)) (hx (x.toNat / 16)) _ BIj.out (by simp; omega) (Nat.le_of_lt BIj.out.lt)).mono ?_
                rintro e wg ⟨rfl, hg, hbg⟩
                have BIg := Lib.hid (bld_one hg)
                have Gg := Lib.hid (Gj.out.trans hbg)
                clear hg hbg cx
                go_wp2_with fail
                rw [hx_idx (x.toNat % 16) (by omega)]
                refine (wbyte_any b b (Y ++ [32] ++ hexs ([pa, pb].take j) ++ [hx (x.toNat / 16)]) (hx (x.toNat % 16)) _ BIg.out (by simp; omega) (Nat.le_of_lt BIg.out.lt)).mono ?_
                rintro e wh ⟨rfl, hh, hbh⟩
                have BIh := Lib.hid (show BldI b b (Y ++ [32] ++ hexs ([pa, pb].take (j + 1))) wh by
                  have e := take_hexs HJ.out
                  rw [e]
                  have := bld_one hh
                  simpa using this)
                have Gh := Lib.hid (Gg.out.trans hbh)
                clear hh hbh
                go_wp2_with fail
                go_roundw
                case rel => exact ⟨j + 1, by omega, by go_num, BIh, Gh⟩
                case measure => simp [intOf]; omega
              · have ej : j = 2 := by omega
                subst ej
                go_wp2_with fail
                go_roundw
                case rel => exact ⟨k + 1, X2 ++ pr1 (pa, pb), true, by omega, by go_num, rfl, Lib.hid (by rw [show headL ++ (X2 ++ pr1 (pa, pb)) = Y ++ [32] ++ hexs ([pa, pb].take 2) from by rw [HY.out]; simp [pr1, hexs]]; exact BIj.out), Gj, Lib.hid (by rw [HO2.out]; simp)⟩
                case measure => simp [intOf]; omega
          · obtain ⟨Y, hY⟩ : ∃ Y, Y = headL ++ X := ⟨_, rfl⟩
            have hYl : Y.length ≤ 5000000 := by rw [hY]; simp [headL]; omega
            obtain ⟨X2, hX2⟩ : ∃ X2, X2 = X := ⟨_, rfl⟩
            have HY := Lib.hid (show Y = headL ++ X2 by rw [hY, hX2])
            have HO2 := Lib.hid (show outP (labT d F) false 0 M = X2 ++ (pr1 (pa, pb) ++ outP (labT d F) true ((k : Int) + 1) (M.drop (k + 1))) by rw [HO.out, HD2.out, outP_on hN, hX2])
            clear hX2
            have BIq := Lib.hid (show BldI b b Y wr by rw [hY]; exact BI.out)
            have Gq := G5
            clear hY BI G5
            go_wp2_with fail
            have BIz0 := (wbyte_any b b Y 32 _ BIq.out (by omega) (Nat.le_of_lt BIq.out.lt))
            refine BIz0.mono ?_
            clear BIz0
            rintro e wz ⟨rfl, hz, hbz⟩
            have BIz := Lib.hid (show BldI b b (Y ++ [32] ++ hexs ([pa, pb].take 0)) wz by rw [show Y ++ [32] ++ hexs ([pa, pb].take 0) = Y ++ [32] from by simp [hexs]]; exact .inr hz)
            have Gz := Lib.hid (Gq.out.trans hbz)
            clear hz hbz
            go_wp2_with fail
            go_loopw [78] (fun i wv => ∃ j : Nat, j ≤ 2 ∧ i = .int .i64 j ∧ Hid (BldI b b (Y ++ [32] ++ hexs ([pa, pb].take j)) wv) ∧ Hid (Below b w4 wv)) (fun i _ => 2 - (intOf i).toNat)
            case atStart => exact ⟨0, by omega, rfl, BIz, Gz⟩
            case round =>
              obtain ⟨j, hj, rfl, BIj, Gj⟩ := hrel
              by_cases hj2 : j < 2
              · have HXj := BytesAt.drop (RowAt.below HX4.out Gj.out (by rw [HBS.out]; exact Nat.le_refl _)) (2 * k)
                rw [HE.out] at HXj
                obtain ⟨x, hx⟩ : ∃ x, [pa, pb][j]? = some x := ⟨_, List.getElem?_eq_getElem (by simpa using hj2)⟩
                have cx : wr.cell? ⟨bA, oA + 2 * k + j, none⟩ = some (.int .u8 x.toNat) := by
                  obtain ⟨b3, o3, e3, h3⟩ := HXj j (byteV x) (by
                    rw [List.getElem?_map]
                    have : (pa :: pb :: flat (M.drop (k + 1)))[j]? = some x := by
                      rw [← hx, show pa :: pb :: flat (M.drop (k + 1)) = [pa, pb] ++ flat (M.drop (k + 1)) from rfl, List.getElem?_append_left (by simpa using hj2)]
                    rw [this]; rfl)
                  cases e3
                  exact h3
                have HJ := Lib.hid hx
                have x0 := x.toNat_lt
                have hj0 : (0 : Int) ≤ (j : Int) := by omega
                have hj3 : (j : Int) < 2 := by omega
                clear HXj hx
                go_wp2_with fail
                rw [hx_idx (x.toNat / 16) (by omega)]
                have hjl : (hexs ([pa, pb].take j)).length ≤ 4 := hexs_le _ _ _
                refine (wbyte_any b b (Y ++ [32] ++ hexs ([pa, pb].take j)) (hx (x.toNat / 16)) _ BIj.out (by simp; omega) (Nat.le_of_lt BIj.out.lt)).mono ?_
                rintro e wg ⟨rfl, hg, hbg⟩
                have BIg := Lib.hid (bld_one hg)
                have Gg := Lib.hid (Gj.out.trans hbg)
                clear hg hbg cx
                go_wp2_with fail
                rw [hx_idx (x.toNat % 16) (by omega)]
                refine (wbyte_any b b (Y ++ [32] ++ hexs ([pa, pb].take j) ++ [hx (x.toNat / 16)]) (hx (x.toNat % 16)) _ BIg.out (by simp; omega) (Nat.le_of_lt BIg.out.lt)).mono ?_
                rintro e wh ⟨rfl, hh, hbh⟩
                have BIh := Lib.hid (show BldI b b (Y ++ [32] ++ hexs ([pa, pb].take (j + 1))) wh by
                  have e := take_hexs HJ.out
                  rw [e]
                  have := bld_one hh
                  simpa using this)
                have Gh := Lib.hid (Gg.out.trans hbh)
                clear hh hbh
                go_wp2_with fail
                go_roundw
                case rel => exact ⟨j + 1, by omega, by go_num, BIh, Gh⟩
                case measure => simp [intOf]; omega
              · have ej : j = 2 := by omega
                subst ej
                go_wp2_with fail
                go_roundw
                case rel => exact ⟨k + 1, X2 ++ pr1 (pa, pb), true, by omega, by go_num, rfl, Lib.hid (by rw [show headL ++ (X2 ++ pr1 (pa, pb)) = Y ++ [32] ++ hexs ([pa, pb].take 2) from by rw [HY.out]; simp [pr1, hexs]]; exact BIj.out), Gj, Lib.hid (by rw [HO2.out]; simp)⟩
                case measure => simp [intOf]; omega
        · go_wp2_with fail
          go_roundw
          case rel => exact ⟨k + 1, X, false, by omega, by go_num, rfl, BI, G5, Lib.hid (by rw [HO.out, HD2.out, outP_null hN]; rfl)⟩
          case measure => simp [intOf]; omega
      · have ek : k = L := by omega
        go_wp2_with fail
        refine (wbyte_any b b (headL ++ X) 10 _ BI.out (by simp [headL]; omega) yb).mono ?_
        rintro e w7 ⟨rfl, h7, hb7⟩
        have HB7 := Lib.hid hb7
        have BI7 := Lib.hid h7
        have yb7 := Nat.le_trans yb hb7.size
        clear hb7 h7
        go_wp2_with fail
        have HT := Lib.hid (show headL ++ X ++ [10] = T by
          have h1 := HO.out
          rw [ek, List.drop_of_length_le (by have := HL.out; omega)] at h1
          rw [HTX.out, textP, h1, outP]
          simp)
        refine (Tryd.Builder_String_any b b (headL ++ X ++ [10]) _ (.inr BI7.out) yb7).mono ?_
        rintro e w8 ⟨rfl, hb8⟩
        rw [HT.out]
        have HB8 := Lib.hid hb8
        clear hb8
        go_wp2_with fail
        go_ret2
        exact ⟨rfl, ((FB4.out.trans (G5.out.mono (Nat.le_of_lt hBb))).trans (HB7.out.mono (Nat.le_of_lt hBb))).trans (HB8.out.mono (Nat.le_of_lt hBb))⟩
theorem print_any (f : Int) (A : Option Addr) (n c : Nat) (bs : List UInt8) (d : Bool) (w : World) (h : BytesAt w A bs) (hn : n = bs.length) (hnc : n ≤ c) (hcm : c ≤ maxLen) :
    Calls Tryd.prog 17 #[strm f A n c, .bool d] w fun e w' => e = .returned (prB (printV f bs d)) ∧ Below w.heap.size w w' := by
  have hm : c ≤ 9223372036854775807 := by simpa [maxLen] using hcm
  by_cases hc : chkS f n = 0
  · by_cases hla : late (normV f (prs bs)).1 (mid (prs bs)) d
    · exact print_late f A n c bs d w h hn hnc hcm hc hla
    · exact print_ok f A n c bs d w h hn hnc hcm hc hla
  · exact print_bad f A n c bs d w hn (by omega) hc
end Go.Proofs.YtbliilemjkjimaaDoor
