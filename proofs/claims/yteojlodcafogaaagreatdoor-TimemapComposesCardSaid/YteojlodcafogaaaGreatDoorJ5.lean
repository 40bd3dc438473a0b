/-
  The contract of Compose in the reference. Its conditions are its hypotheses.
-/
import Derived.Test.YteojlodcafogaaaGreatDoorJc
namespace Go.Proofs.YteojlodcafogaaaGreatDoor
open Go.RowKit Go.Joins
set_option linter.unusedVariables false
set_option linter.unusedSimpArgs false
set_option maxRecDepth 100000 in
set_option maxHeartbeats 8000000 in
theorem composer_any (P : Option Addr) (c : Nat) (A : List Pc) (P2 : Option Addr) (c2 : Nat) (B : List Pc) (w : World) (ha : PcAt w P A) (hb : PcAt w P2 B) (hf : Frp A) (hf2 : Frp B) (hla : A.length ≤ 1000000) (hlb : B.length ≤ 1000000) :
    Calls Tryz.prog 36 #[.slice P A.length c, .slice P2 B.length c2] w (RetM (cmpP A B) w) := by
  have HA := Lib.hid ha
  have HB := Lib.hid hb
  have HCA := Lib.hid (fun W (h : PcAt W P A) => chkpr_any P c A W h hf (by omega))
  have HCB := Lib.hid (fun W (h : PcAt W P2 B) => chkpr_any P2 c2 B W h hf2 (by omega))
  have HPA := Lib.hid (fun W (h : PcAt W P A) => plainr_any P c A W h hla)
  have HPB := Lib.hid (fun W (h : PcAt W P2 B) => plainr_any P2 c2 B W h hlb)
  obtain ⟨R, hR⟩ : ∃ R, R = cmpP A B := ⟨_, rfl⟩
  have HR := Lib.hid hR
  unfold RetM
  obtain ⟨D, hD⟩ : ∃ D, D = w.heap.size := ⟨_, rfl⟩
  have HD := Lib.hid hD
  rw [← hR]
  rw [← hD]
  clear ha hb hf hf2 hR hD
  by_cases h0 : chkP A = 0
  · by_cases h1 : chkP B = 0
    · rw [h0] at HCA
      rw [h1] at HCB
      have hla6 := (chkP_ok.1 h0).1
      have hlb6 := (chkP_ok.1 h1).1
      cases hpl : (plnB A && plnB B) with
      | true =>
        have HE9 := Lib.hid (fun h => HR.out.trans (cmp_e9 h0 h1 hpl h))
        have HE0 := Lib.hid (fun h => HR.out.trans (cmp_e0 h0 h1 hpl h))
        have hpl2 := hpl
        rw [Bool.and_eq_true] at hpl2
        have HGA := Lib.hid (god_of h0 hpl2.1).2
        have HGB := Lib.hid (god_of h1 hpl2.2).2
        have HQA := Lib.hid (fun k x (h : A[k]? = some x) => plnB_get hpl2.1 h)
        have HQB := Lib.hid (fun k x (h : B[k]? = some x) => plnB_get hpl2.2 h)
        have HDJ := Lib.hid (ord_dsj (crs_ord (god_of h0 hpl2.1).1 (god_of h1 hpl2.2).1))
        rw [hpl2.1] at HPA
        rw [hpl2.2] at HPB
        have HCG := Lib.hid (crs_god HGA.out HGB.out)
        obtain ⟨i0, hi, hz0, hz1, hz2⟩ := info_parts infoP
        have HI0 := Lib.hid (And.intro hi (And.intro hz0 (And.intro hz1 hz2)))
        clear h0 h1 hpl hpl2 hi hz0 hz1 hz2
        go_enter Tryz.func36, Tryz.ntmps36
        go_wp2_with fail
        refine (HCA.out w HA.out).mono ?_
        rintro e w1 ⟨rfl, hb⟩
        have G1 := Lib.hid (show Below D w w1 from HD.out ▸ hb)
        have hs1 : D ≤ w1.heap.size := by have := G1.out.size; have := HD.out; omega
        have HA1 := Lib.hid (HA.out.ext hb)
        have HB1 := Lib.hid (HB.out.ext hb)
        clear hb
        go_wp2_with fail
        refine (HCB.out w1 HB1.out).mono ?_
        rintro e w2 ⟨rfl, hb⟩
        have G2 := Lib.hid (G1.out.trans (hb.mono hs1))
        have hs2 : D ≤ w2.heap.size := by have := G2.out.size; have := HD.out; omega
        have HA2 := Lib.hid (HA1.out.ext hb)
        have HB2 := Lib.hid (HB1.out.ext hb)
        clear hb
        go_wp2_with fail
        refine (HPA.out w2 HA2.out).mono ?_
        rintro e w3 ⟨rfl, hb⟩
        have G3 := Lib.hid (G2.out.trans (hb.mono hs2))
        have hs3 : D ≤ w3.heap.size := by have := G3.out.size; have := HD.out; omega
        have HB3 := Lib.hid (HB2.out.ext hb)
        clear hb
        go_wp2_with fail
        refine (HPB.out w3 HB3.out).mono ?_
        rintro e w4 ⟨rfl, hb⟩
        have G4 := Lib.hid (G3.out.trans (hb.mono hs3))
        clear hb HCA HCB HPA HPB G1 G2 G3 HA1 HA2 HB1 HB2 HB3 hs1 hs2 hs3
        go_wp2_with fail
        go_loopw [8, 36] (fun ov i wr => ∃ k : Nat, k ≤ A.length ∧ i = .int .i64 k ∧ Hid (wr.ownsRow D 57 5 ov (crsP (A.take k) B).length ((crsP (A.take k) B).flatMap pcV)) ∧ Hid (Below D w wr)) (fun _ i _ => A.length - (intOf i).toNat)
        case atStart => exact ⟨0, by omega, rfl, Lib.hid (World.ownsRow_nil _ _ _ _), G4⟩
        case round =>
          obtain ⟨k, hk, rfl, HO, G⟩ := hrel
          have hDw : D ≤ wr.heap.size := by have := G.out.size; have := HD.out; omega
          by_cases hlt : k < A.length
          · have hlt2 : (k : Int) < (A.length : Int) := by omega
            obtain ⟨x, hx⟩ : ∃ x, A[k]? = some x := ⟨_, List.getElem?_eq_getElem hlt⟩
            have HX := Lib.hid hx
            have HRw := HA.out.below (HD.out ▸ G.out) (Nat.le_refl _)
            obtain ⟨g, o, rfl⟩ := PcAt.some HRw hx
            obtain ⟨q0, q1, q2, q3, q4⟩ := PcAt.get HRw hx
            obtain ⟨b1, b2, b3, b4, b5⟩ := god_in (HGA.out x (List.mem_of_getElem? hx))
            have HGX := Lib.hid (HGA.out x (List.mem_of_getElem? hx))
            clear HRw hx
            go_wp2_with fail
            clear q0 q1 q2 q3 q4
            generalize hw1 : World.alloc wr _ = w1
            have HF1 := Lib.hid (show Held w1 wr.heap.size (pcV x) by subst hw1; exact Held.new rfl)
            have HO1 := Lib.hid (show w1.ownsRow D 57 5 _ _ _ by subst hw1; exact HO.out.alloc _)
            have G1 := Lib.hid (show Below D w w1 by subst hw1; exact G.out.alloc hDw _)
            have hs1 : wr.heap.size < w1.heap.size := HF1.out.lt
            have hn1 := fun e => Nat.lt_irrefl _ (HO.out.lt wr.heap.size e).2
            obtain ⟨z0, z1, z2, z3, z4⟩ := five_of HF1.out
            go_wp2_with fail
            clear z0 z1 z2 z3 z4
            generalize wr.heap.size = X at *
            have HCL := Lib.hid (crsP_len B (A.take k))
            have HTL := Lib.hid (List.length_take_le k A)
            have HST := Lib.hid (crs_step (b := B) HX.out)
            generalize crsP (A.take k) B = C at *
            clear hw1 HO G
            go_loopw [8, 47] (fun ov i wr => ∃ (j : Nat) (uv : Value), uv = ov ∧ j ≤ B.length ∧ i = .int .i64 j ∧ Hid (wr.ownsRow D 57 5 uv (C ++ ((B.take j).flatMap fun q => crsO x q)).length ((C ++ ((B.take j).flatMap fun q => crsO x q)).flatMap pcV)) ∧ Hid (Below D w wr) ∧ Hid (Held wr X (pcV x)) ∧ X < wr.heap.size ∧ uv.ownBlock ≠ some X) (fun _ i _ => B.length - (intOf i).toNat)
            case atStart => exact ⟨0, _, rfl, by omega, rfl, by simpa using HO1, G1, HF1, hs1, hn1⟩
            case round =>
              obtain ⟨j, uv, rfl, hj, rfl, HO, G, HF, hsz, hne⟩ := hrel
              have hDw2 : D ≤ wr.heap.size := by have := G.out.size; have := HD.out; omega
              clear HO1 G1 HF1 hs1 hn1
              by_cases hltj : j < B.length
              · have hltj2 : (j : Int) < (B.length : Int) := by omega
                obtain ⟨y, hy⟩ : ∃ y, B[j]? = some y := ⟨_, List.getElem?_eq_getElem hltj⟩
                have HY := Lib.hid hy
                have HRw := HB.out.below (HD.out ▸ G.out) (Nat.le_refl _)
                obtain ⟨g2, o2, rfl⟩ := PcAt.some HRw hy
                obtain ⟨q0, q1, q2, q3, q4⟩ := PcAt.get HRw hy
                obtain ⟨d1, d2, d3, d4, d5⟩ := god_in (HGB.out y (List.mem_of_getElem? hy))
                have HGY := Lib.hid (HGB.out y (List.mem_of_getElem? hy))
                obtain ⟨z0, z1, z2, z3, z4⟩ := five_of HF.out
                have hfs := row_step (p := x) HY.out
                have HB1 := Lib.hid (show (C ++ ((B.take j).flatMap fun q => crsO x q)).length ≤ 10000 by
                  have h1 := HCL.out
                  have h2 := HTL.out
                  have h3 := row_len x (B.take j)
                  have h4 := List.length_take_le j B
                  have h5 : (A.take k).length * B.length ≤ 64 * 64 := Nat.mul_le_mul (by omega) (by omega)
                  rw [List.length_append]
                  omega)
                have HFS := Lib.hid (show C ++ ((B.take (j + 1)).flatMap fun q => crsO x q) = (C ++ ((B.take j).flatMap fun q => crsO x q)) ++ crsO x y by rw [hfs, List.append_assoc])
                clear hfs HCL HTL HRw hy
                generalize C ++ ((B.take j).flatMap fun q => crsO x q) = M at *
                go_wp2_with fail
                generalize hw5 : World.alloc wr _ = w5
                have FY := Lib.hid (show Held w5 wr.heap.size (pcV y) by subst hw5; exact Held.new rfl)
                have FX := Lib.hid (show Held w5 X (pcV x) by subst hw5; exact HF.out.alloc _)
                have HO5 := Lib.hid (show w5.ownsRow D 57 5 uv M.length (M.flatMap pcV) by subst hw5; exact HO.out.alloc _)
                have G5 := Lib.hid (show Below D w w5 by subst hw5; exact G.out.alloc hDw2 _)
                have hsz5 : X < w5.heap.size := FX.out.lt
                have hs5 : D ≤ w5.heap.size := by have := G5.out.size; have := HD.out; omega
                have hY5 : wr.heap.size < w5.heap.size := FY.out.lt
                generalize wr.heap.size = Y at *
                clear hw5 q0 q1 q2 q3 q4 z0 z1 z2 z3 z4 HO G HF hsz
                obtain ⟨z0, z1, z2, z3, z4⟩ := five_of FX.out
                obtain ⟨y0, y1, y2, y3, y4⟩ := five_of FY.out
                go_quiet (fail)
                have FX6 := Lib.hid (FX.out.drewN nq)
                have FY6 := Lib.hid (FY.out.drewN nq)
                have G6 := Lib.hid (below_drewN G5.out nq)
                have HO6 := Lib.hid (show (w5.drewN nq).ownsRow D 57 5 uv M.length (M.flatMap pcV) from HO5.out)
                have hs6 : D ≤ (w5.drewN nq).heap.size := hs5
                have hX6 : X < (w5.drewN nq).heap.size := hsz5
                generalize w5.drewN nq = w6 at *
                clear FX FY G5 HO5 hs5 hsz5 hY5 z0 z1 z2 z3 z4 y0 y1 y2 y3 y4
                by_cases hin : max x.i (y.i - (x.t - x.i)) < min x.o (y.o - (x.t - x.i))
                · rw [crsO_hit hin] at HFS
                  obtain ⟨rs, hrs⟩ : ∃ r : Pc, r = ⟨max x.i (y.i - (x.t - x.i)), min x.o (y.o - (x.t - x.i)), y.t + max x.i (y.i - (x.t - x.i)) + (x.t - x.i) - y.i, x.n, x.d⟩ := ⟨_, rfl⟩
                  rw [← hrs] at HFS
                  have HRS := Lib.hid hrs
                  have e1 : max x.i (y.i - (x.t - x.i)) = rs.i := by rw [hrs]
                  have e2 : min x.o (y.o - (x.t - x.i)) = rs.o := by rw [hrs]
                  have e3 : y.t + rs.i + (x.t - x.i) - y.i = rs.t := by rw [hrs]
                  have e4 : x.n = rs.n := by rw [hrs]
                  have e5 : x.d = rs.d := by rw [hrs]
                  have r1 : -20000000 ≤ max x.i (y.i - (x.t - x.i)) ∧ max x.i (y.i - (x.t - x.i)) ≤ 20000000 := by omega
                  rw [e1] at r1
                  have r2 := r1.1
                  have r3 := r1.2
                  rw [e1, e2] at hin
                  clear hrs r1
                  obtain ⟨z0, z1, z2, z3, z4⟩ := five_of FX6.out
                  obtain ⟨y0, y1, y2, y3, y4⟩ := five_of FY6.out
                  rw [e4] at z3
                  rw [e5] at z4
                  clear e4 e5
                  try simp only [e1, e2]
                  clear e1 e2
                  go_wp2_with (at_builtin; go_loud (refine wpList_append_lies _ rfl _ _ 22 rfl D 57 i0 (.agg #[.int .i64 0, .int .i64 0, .int .i64 0, .int .i64 0, .int .i64 0]) 5 40 Tryz.underlying22 HI0.out.1 HI0.out.2.1 HI0.out.2.2.1 HI0.out.2.2.2 rfl (by decide) _ M.length (M.flatMap pcV) rfl (HO6.out.alloc _) ⟨w6.heap.size, 0, none⟩ 1 1 (pcV rs) rfl rfl (CellsAt.all (by simp [CellsAt, go_sem, pcV])) (by simp [Value.oneCell', pcV]) (by have := HB1.out; omega) (by have := HB1.out; simp only [maxLen]; omega) (by have := HB1.out; omega) (by simp; omega) _ rfl ?_))
                  intro g' cap' w7 ho hgr hat hlt7
                  have G7 := Lib.hid (show Below D w w7 from (G6.out.alloc hs6 _).grown hgr (by simp; omega) (own_base HO6.out))
                  have HO7 := Lib.hid (show w7.ownsRow D 57 5 (.slice (some ⟨g', 0, none⟩) (M.length + 1) cap') (M ++ [rs]).length ((M ++ [rs]).flatMap pcV) by
                    rw [pflat_snoc, List.length_append]
                    simpa using ho)
                  rw [← HFS.out] at HO7
                  have HF7 := Lib.hid (show Held w7 X (pcV x) by
                    obtain ⟨t, ht⟩ := FX6.out.alloc (.cells #[.int .i64 rs.i, .int .i64 rs.o, .int .i64 rs.t, .int .i64 rs.n, .int .i64 rs.d] 57)
                    refine ⟨t, (hgr.block X (by simp; omega) (Ne.symm hne)).trans ht⟩)
                  have hne7 : (Value.slice (some ⟨g', 0, none⟩) (M.length + 1) cap').ownBlock ≠ some X := by
                    intro e
                    have e : g' = X := by simpa [Value.ownBlock] using e
                    rcases hat with h | h
                    · exact hne (h.trans (congrArg some e))
                    · omega
                  have hsz7 : X < w7.heap.size := HF7.out.lt
                  clear ho hgr hat hlt7 hne
                  go_wp2_with fail
                  go_roundw
                  case rel => exact ⟨j + 1, _, rfl, by omega, by go_num, HO7, G7, HF7, hsz7, hne7⟩
                  case measure => simp [intOf]; omega
                · rw [crsO_miss hin, List.append_nil] at HFS
                  rw [← HFS.out] at HO6
                  go_wp2_with fail
                  go_roundw
                  case rel => exact ⟨j + 1, _, rfl, by omega, by go_num, HO6, G6, FX6, hX6, hne⟩
                  case measure => simp [intOf]; omega
              · obtain rfl : j = B.length := by omega
                rw [List.take_length, ← HST.out] at HO
                clear hltj
                go_wp2_with fail
                go_roundw
                case rel => exact ⟨k + 1, by omega, by go_num, HO, G⟩
                case measure => simp [intOf]; omega
          · obtain rfl : k = A.length := by omega
            rw [List.take_length] at HO
            have hcl : (crsP A B).length ≤ 1000000 := Nat.le_trans (crsP_len B A) (Nat.le_trans (Nat.mul_le_mul hla6 hlb6) (by decide))
            obtain ⟨A5, c5, e5, hr5, _⟩ := own_formP HO.out
            subst e5
            have HBD := Lib.hid (fun p hp => god_bd (HCG.out p hp))
            have HPOS := Lib.hid (fun p hp => god_pos (HCG.out p hp))
            have HJN := Lib.hid (joinedr_any A5 c5 _ wr hr5 hcl HBD.out)
            have hjl := jonP_len (crsP A B)
            generalize crsP A B = M at *
            unfold NewM at HJN
            clear hlt hr5
            go_wp2_with fail
            refine HJN.out.mono ?_
            rintro e w6 ⟨⟨v, rfl, ho⟩, hb⟩
            obtain ⟨A6, c6, e6, hr6, _⟩ := own_formP ho
            subst e6
            have HO6 := Lib.hid (ownsRow_mono ho hDw)
            have G6 := Lib.hid (G.out.trans (hb.mono hDw))
            clear ho hb HJN hr6
            generalize jonP M = J at *
            by_cases hj : 64 < J.length
            · obtain rfl : R = ([], 9) := HE9.out hj
              have hj2 : (64 : Int) < (J.length : Int) := by omega
              go_wp2_with fail
              go_ret2
              exact ⟨⟨_, rfl, World.ownsRow_nil _ _ _ _⟩, G6.out⟩
            · obtain rfl : R = (J, 0) := HE0.out hj
              have hj2 : (J.length : Int) ≤ 64 := by omega
              go_wp2_with fail
              go_ret2
              exact ⟨⟨_, rfl, HO6.out⟩, G6.out⟩
      | false =>
        obtain rfl : R = ([], 3) := HR.out.trans (cmp_e3 h0 h1 hpl)
        clear h0 h1
        go_enter Tryz.func36, Tryz.ntmps36
        go_wp2_with fail
        refine (HCA.out w HA.out).mono ?_
        rintro e w1 ⟨rfl, hb⟩
        have G1 := Lib.hid (show Below D w w1 from HD.out ▸ hb)
        have hs1 : D ≤ w1.heap.size := by have := G1.out.size; have := HD.out; omega
        have HA1 := Lib.hid (HA.out.ext hb)
        have HB1 := Lib.hid (HB.out.ext hb)
        clear hb
        go_wp2_with fail
        refine (HCB.out w1 HB1.out).mono ?_
        rintro e w2 ⟨rfl, hb⟩
        have G2 := Lib.hid (G1.out.trans (hb.mono hs1))
        have hs2 : D ≤ w2.heap.size := by have := G2.out.size; have := HD.out; omega
        have HA2 := Lib.hid (HA1.out.ext hb)
        have HB2 := Lib.hid (HB1.out.ext hb)
        clear hb
        go_wp2_with fail
        cases ha : plnB A with
        | false =>
          rw [ha] at HPA
          clear hpl
          refine (HPA.out w2 HA2.out).mono ?_
          rintro e w3 ⟨rfl, hb⟩
          have G3 := Lib.hid (G2.out.trans (hb.mono hs2))
          clear hb HCA HCB HPA HPB
          go_wp2_with fail
          go_ret2
          exact ⟨⟨_, rfl, World.ownsRow_nil _ _ _ _⟩, G3.out⟩
        | true =>
          rw [ha] at HPA
          rw [ha, Bool.true_and] at hpl
          rw [hpl] at HPB
          clear hpl
          refine (HPA.out w2 HA2.out).mono ?_
          rintro e w3 ⟨rfl, hb⟩
          have G3 := Lib.hid (G2.out.trans (hb.mono hs2))
          have hs3 : D ≤ w3.heap.size := by have := G3.out.size; have := HD.out; omega
          have HB3 := Lib.hid (HB2.out.ext hb)
          clear hb
          go_wp2_with fail
          refine (HPB.out w3 HB3.out).mono ?_
          rintro e w4 ⟨rfl, hb⟩
          have G4 := Lib.hid (G3.out.trans (hb.mono hs3))
          clear hb HCA HCB HPA HPB
          go_wp2_with fail
          go_ret2
          exact ⟨⟨_, rfl, World.ownsRow_nil _ _ _ _⟩, G4.out⟩
    · obtain ⟨E, hE⟩ : ∃ E, E = chkP B := ⟨_, rfl⟩
      obtain rfl : R = ([], E) := by rw [HR.out, hE]; exact cmp_e2 h0 h1
      rw [h0] at HCA
      rw [← hE] at HCB h1
      have h1b : (E == 0) = false := by simpa using h1
      clear hE h0
      go_enter Tryz.func36, Tryz.ntmps36
      go_wp2_with fail
      refine (HCA.out w HA.out).mono ?_
      rintro e w1 ⟨rfl, hb⟩
      have G1 := Lib.hid (show Below D w w1 from HD.out ▸ hb)
      have hs1 : D ≤ w1.heap.size := by have := G1.out.size; have := HD.out; omega
      have HA1 := Lib.hid (HA.out.ext hb)
      have HB1 := Lib.hid (HB.out.ext hb)
      clear hb
      go_wp2_with fail
      refine (HCB.out w1 HB1.out).mono ?_
      rintro e w2 ⟨rfl, hb⟩
      have G2 := Lib.hid (G1.out.trans (hb.mono hs1))
      have hs2 : D ≤ w2.heap.size := by have := G2.out.size; have := HD.out; omega
      have HA2 := Lib.hid (HA1.out.ext hb)
      have HB2 := Lib.hid (HB1.out.ext hb)
      clear hb
      go_wp2_with fail
      go_ret2
      exact ⟨⟨_, rfl, World.ownsRow_nil _ _ _ _⟩, G2.out⟩
  · obtain ⟨E, hE⟩ : ∃ E, E = chkP A := ⟨_, rfl⟩
    obtain rfl : R = ([], E) := by rw [HR.out, hE]; exact cmp_e1 h0
    rw [← hE] at HCA h0
    have h0b : (E == 0) = false := by simpa using h0
    clear hE
    go_enter Tryz.func36, Tryz.ntmps36
    go_wp2_with fail
    refine (HCA.out w HA.out).mono ?_
    rintro e w1 ⟨rfl, hb⟩
    have G1 := Lib.hid (HD.out ▸ hb)
    clear hb HCA HCB HPA HPB
    go_wp2_with fail
    go_ret2
    exact ⟨⟨_, rfl, World.ownsRow_nil _ _ _ _⟩, G1.out⟩
end Go.Proofs.YteojlodcafogaaaGreatDoor
