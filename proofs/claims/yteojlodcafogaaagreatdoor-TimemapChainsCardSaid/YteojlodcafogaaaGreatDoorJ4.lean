/-
  The contract of Compose in the program. Its conditions are its hypotheses.
-/
import Derived.Test.YteojlodcafogaaaGreatDoorJc
namespace Go.Proofs.YteojlodcafogaaaGreatDoor
open Go.RowKit Go.Joins
set_option linter.unusedVariables false
set_option linter.unusedSimpArgs false
set_option maxRecDepth 100000 in
set_option maxHeartbeats 8000000 in
theorem compose_any (P : Option Addr) (c : Nat) (A : List Pc) (P2 : Option Addr) (c2 : Nat) (B : List Pc) (w : World) (ha : PcAt w P A) (hb : PcAt w P2 B) (hf : Frp A) (hf2 : Frp B) (hla : A.length ≤ 1000000) (hlb : B.length ≤ 1000000) :
    Calls Tryz.prog 35 #[.slice P A.length c, .slice P2 B.length c2] w (RetM (cmpP A B) w) := by
  have HA := Lib.hid ha
  have HB := Lib.hid hb
  have HCA := Lib.hid (fun W (h : PcAt W P A) => chkp_any P c A W h hf (by omega))
  have HCB := Lib.hid (fun W (h : PcAt W P2 B) => chkp_any P2 c2 B W h hf2 (by omega))
  have HPA := Lib.hid (fun W (h : PcAt W P A) => plain_any P c A W h hla)
  have HPB := Lib.hid (fun W (h : PcAt W P2 B) => plain_any P2 c2 B W h hlb)
  obtain ⟨R, hR⟩ : ∃ R, R = cmpP A B := ⟨_, rfl⟩
  have HR := Lib.hid hR
  unfold RetM
  obtain ⟨D, hD⟩ : ∃ D, D = w.heap.size := ⟨_, rfl⟩
  have HD := Lib.hid hD
  rw [← hR]
  rw [← hD]
  clear ha hb hf hf2 hR hD
  by_cases h0 : chkP A = 0
  · by_cases h1 : chkP B = 0
    · rw [h0] at HCA
      rw [h1] at HCB
      have hla6 := (chkP_ok.1 h0).1
      have hlb6 := (chkP_ok.1 h1).1
      cases hpl : (plnB A && plnB B) with
      | true =>
        have HE9 := Lib.hid (fun h => HR.out.trans (cmp_e9 h0 h1 hpl h))
        have HE0 := Lib.hid (fun h => HR.out.trans (cmp_e0 h0 h1 hpl h))
        have hpl2 := hpl
        rw [Bool.and_eq_true] at hpl2
        have HGA := Lib.hid (god_of h0 hpl2.1).2
        have HGB := Lib.hid (god_of h1 hpl2.2).2
        have HQA := Lib.hid (fun k x (h : A[k]? = some x) => plnB_get hpl2.1 h)
        have HQB := Lib.hid (fun k x (h : B[k]? = some x) => plnB_get hpl2.2 h)
        have HDJ := Lib.hid (ord_dsj (crs_ord (god_of h0 hpl2.1).1 (god_of h1 hpl2.2).1))
        rw [hpl2.1] at HPA
        rw [hpl2.2] at HPB
        have HCG := Lib.hid (crs_god HGA.out HGB.out)
        obtain ⟨i0, hi, hz0, hz1, hz2⟩ := info_parts infoP
        have HI0 := Lib.hid (And.intro hi (And.intro hz0 (And.intro hz1 hz2)))
        clear h0 h1 hpl hpl2 hi hz0 hz1 hz2
        go_enter Tryz.func35, Tryz.ntmps35
        go_wp2_with fail
        refine (HCA.out w HA.out).mono ?_
        rintro e w1 ⟨rfl, hb⟩
        have G1 := Lib.hid (show Below D w w1 from HD.out ▸ hb)
        have hs1 : D ≤ w1.heap.size := by have := G1.out.size; have := HD.out; omega
        have HA1 := Lib.hid (HA.out.ext hb)
        have HB1 := Lib.hid (HB.out.ext hb)
        clear hb
        go_wp2_with fail
        refine (HCB.out w1 HB1.out).mono ?_
        rintro e w2 ⟨rfl, hb⟩
        have G2 := Lib.hid (G1.out.trans (hb.mono hs1))
        have hs2 : D ≤ w2.heap.size := by have := G2.out.size; have := HD.out; omega
        have HA2 := Lib.hid (HA1.out.ext hb)
        have HB2 := Lib.hid (HB1.out.ext hb)
        clear hb
        go_wp2_with fail
        refine (HPA.out w2 HA2.out).mono ?_
        rintro e w3 ⟨rfl, hb⟩
        have G3 := Lib.hid (G2.out.trans (hb.mono hs2))
        have hs3 : D ≤ w3.heap.size := by have := G3.out.size; have := HD.out; omega
        have HB3 := Lib.hid (HB2.out.ext hb)
        clear hb
        go_wp2_with fail
        refine (HPB.out w3 HB3.out).mono ?_
        rintro e w4 ⟨rfl, hb⟩
        have G4 := Lib.hid (G3.out.trans (hb.mono hs3))
        clear hb HCA HCB HPA HPB G1 G2 G3 HA1 HA2 HB1 HB2 HB3 hs1 hs2 hs3
        go_wp2_with fail
        go_loopw [8, 36] (fun ov i wr => ∃ k : Nat, k ≤ A.length ∧ i = .int .i64 k ∧ Hid (wr.ownsRow D 57 5 ov (crsP (A.take k) B).length ((crsP (A.take k) B).flatMap pcV)) ∧ Hid (Below D w wr)) (fun _ i _ => A.length - (intOf i).toNat)
        case atStart => exact ⟨0, by omega, rfl, Lib.hid (World.ownsRow_nil _ _ _ _), G4⟩
        case round =>
          obtain ⟨k, hk, rfl, HO, G⟩ := hrel
          have hDw : D ≤ wr.heap.size := by have := G.out.size; have := HD.out; omega
          by_cases hlt : k < A.length
          · have hlt2 : (k : Int) < (A.length : Int) := by omega
            obtain ⟨x, hx⟩ : ∃ x, A[k]? = some x := ⟨_, List.getElem?_eq_getElem hlt⟩
            have HX := Lib.hid hx
            have HRw := HA.out.below (HD.out ▸ G.out) (Nat.le_refl _)
            obtain ⟨g, o, rfl⟩ := PcAt.some HRw hx
            obtain ⟨q0, q1, q2, q3, q4⟩ := PcAt.get HRw hx
            obtain ⟨b1, b2, b3, b4, b5⟩ := god_in (HGA.out x (List.mem_of_getElem? hx))
            have HGX := Lib.hid (HGA.out x (List.mem_of_getElem? hx))
            clear HRw hx
            go_wp2_with fail
            clear q0 q1 q2 q3 q4
            generalize hw1 : World.alloc wr _ = w1
            have HF1 := Lib.hid (show Held w1 wr.heap.size (pcV x) by subst hw1; exact Held.new rfl)
            have HO1 := Lib.hid (show w1.ownsRow D 57 5 _ _ _ by subst hw1; exact HO.out.alloc _)
            have G1 := Lib.hid (show Below D w w1 by subst hw1; exact G.out.alloc hDw _)
            have hs1 : wr.heap.size < w1.heap.size := HF1.out.lt
            have hn1 := fun e => Nat.lt_irrefl _ (HO.out.lt wr.heap.size e).2

            generalize wr.heap.size = X at *
            have HCL := Lib.hid (crsP_len B (A.take k))
            have HTL := Lib.hid (List.length_take_le k A)
            have HST := Lib.hid (crs_step (b := B) HX.out)
            generalize crsP (A.take k) B = C at *
            clear hw1 HO G
            go_loopw [8, 42] (fun ov i wr => ∃ (j : Nat) (uv : Value), uv = ov ∧ j ≤ B.length ∧ i = .int .i64 j ∧ Hid (wr.ownsRow D 57 5 uv (C ++ ((B.take j).flatMap fun q => crsO x q)).length ((C ++ ((B.take j).flatMap fun q => crsO x q)).flatMap pcV)) ∧ Hid (Below D w wr) ∧ Hid (Held wr X (pcV x)) ∧ X < wr.heap.size ∧ uv.ownBlock ≠ some X) (fun _ i _ => B.length - (intOf i).toNat)
            case atStart => exact ⟨0, _, rfl, by omega, rfl, by simpa using HO1, G1, HF1, hs1, hn1⟩
            case round =>
              obtain ⟨j, uv, rfl, hj, rfl, HO, G, HF, hsz, hne⟩ := hrel
              have hDw2 : D ≤ wr.heap.size := by have := G.out.size; have := HD.out; omega
              clear HO1 G1 HF1 hs1 hn1
              by_cases hltj : j < B.length
              · have hltj2 : (j : Int) < (B.length : Int) := by omega
                obtain ⟨y, hy⟩ : ∃ y, B[j]? = some y := ⟨_, List.getElem?_eq_getElem hltj⟩
                have HY := Lib.hid hy
                have HRw := HB.out.below (HD.out ▸ G.out) (Nat.le_refl _)
                obtain ⟨g2, o2, rfl⟩ := PcAt.some HRw hy
                obtain ⟨q0, q1, q2, q3, q4⟩ := PcAt.get HRw hy
                obtain ⟨d1, d2, d3, d4, d5⟩ := god_in (HGB.out y (List.mem_of_getElem? hy))
                have HGY := Lib.hid (HGB.out y (List.mem_of_getElem? hy))
                obtain ⟨z0, z1, z2, z3, z4⟩ := five_of HF.out
                have hfs := row_step (p := x) HY.out
                have HB1 := Lib.hid (show (C ++ ((B.take j).flatMap fun q => crsO x q)).length ≤ 10000 by
                  have h1 := HCL.out
                  have h2 := HTL.out
                  have h3 := row_len x (B.take j)
                  have h4 := List.length_take_le j B
                  have h5 : (A.take k).length * B.length ≤ 64 * 64 := Nat.mul_le_mul (by omega) (by omega)
                  rw [List.length_append]
                  omega)
                have HFS := Lib.hid (show C ++ ((B.take (j + 1)).flatMap fun q => crsO x q) = (C ++ ((B.take j).flatMap fun q => crsO x q)) ++ crsO x y by rw [hfs, List.append_assoc])
                clear hfs HCL HTL HRw hy
                generalize C ++ ((B.take j).flatMap fun q => crsO x q) = M at *
                go_wp2_with fail
                generalize hw5 : World.alloc wr _ = w5
                have FY := Lib.hid (show Held w5 wr.heap.size (pcV y) by subst hw5; exact Held.new rfl)
                have FX := Lib.hid (show Held w5 X (pcV x) by subst hw5; exact HF.out.alloc _)
                have HO5 := Lib.hid (show w5.ownsRow D 57 5 uv M.length (M.flatMap pcV) by subst hw5; exact HO.out.alloc _)
                have G5 := Lib.hid (show Below D w w5 by subst hw5; exact G.out.alloc hDw2 _)
                have hsz5 : X < w5.heap.size := FX.out.lt
                have hs5 : D ≤ w5.heap.size := by have := G5.out.size; have := HD.out; omega
                have hY5 : wr.heap.size < w5.heap.size := FY.out.lt
                generalize wr.heap.size = Y at *
                clear hw5 q0 q1 q2 q3 q4 z0 z1 z2 z3 z4 HO G HF hsz
                obtain ⟨z0, z1, z2, z3, z4⟩ := five_of FX.out
                obtain ⟨y0, y1, y2, y3, y4⟩ := five_of FY.out
                obtain ⟨E, hE⟩ : ∃ E, E = w5.heap.size := ⟨_, rfl⟩
                have hDE : D ≤ E := by omega
                have hXE : X < E := by omega
                have hYE : Y < E := by omega
                have hsx : spdB x = true := (sgl_ok.1 HGX.out.1).2.2.2.1
                have hsy : spdB y = true := (sgl_ok.1 HGY.out.1).2.2.2.1
                have hlx := pln_led HGX.out.2 (x.o - 1)
                have HLY := Lib.hid (fun n => pln_led HGY.out.2 n)
                obtain ⟨ra, hra⟩ : ∃ a, a = ledP x (x.o - 1) := ⟨_, rfl⟩
                have hra2 : ra = x.t + (x.o - 1 - x.i) := by rw [hra, hlx]
                have hra3 : 0 ≤ ra := by omega
                have hra4 : ra ≤ 5184000 := by omega
                have HRA := Lib.hid hra2
                have HES := Lib.hid (Nat.le_of_eq hE.symm)
                have HTA := Lib.hid (fun (W : World) (hW : Below E w5 W) => (to_any x (x.o - 1) W hsx (by omega) (by omega) (by omega) (by omega) (by omega) (by omega)).mono (R' := fun e w' => e = .returned (.int .i64 ra) ∧ Below E w5 w' ∧ w'.cell? ⟨X, 0, none⟩ = some (.int .i64 x.i) ∧ w'.cell? ⟨X, 1, none⟩ = some (.int .i64 x.o) ∧ w'.cell? ⟨X, 2, none⟩ = some (.int .i64 x.t) ∧ w'.cell? ⟨X, 3, none⟩ = some (.int .i64 x.n) ∧ w'.cell? ⟨X, 4, none⟩ = some (.int .i64 x.d) ∧ w'.cell? ⟨Y, 0, none⟩ = some (.int .i64 y.i) ∧ w'.cell? ⟨Y, 1, none⟩ = some (.int .i64 y.o) ∧ w'.cell? ⟨Y, 2, none⟩ = some (.int .i64 y.t) ∧ w'.cell? ⟨Y, 3, none⟩ = some (.int .i64 y.n) ∧ w'.cell? ⟨Y, 4, none⟩ = some (.int .i64 y.d)) (fun e w' ⟨h1, h2⟩ =>
                  have hb := hW.trans (h2.mono (show E ≤ W.heap.size by have := hW.size; omega))
                  ⟨h1.trans (by rw [hra]), hb, (hb.cell (p := ⟨X, 0, none⟩) hXE).trans z0, (hb.cell (p := ⟨X, 1, none⟩) hXE).trans z1, (hb.cell (p := ⟨X, 2, none⟩) hXE).trans z2, (hb.cell (p := ⟨X, 3, none⟩) hXE).trans z3, (hb.cell (p := ⟨X, 4, none⟩) hXE).trans z4, (hb.cell (p := ⟨Y, 0, none⟩) hYE).trans y0, (hb.cell (p := ⟨Y, 1, none⟩) hYE).trans y1, (hb.cell (p := ⟨Y, 2, none⟩) hYE).trans y2, (hb.cell (p := ⟨Y, 3, none⟩) hYE).trans y3, (hb.cell (p := ⟨Y, 4, none⟩) hYE).trans y4⟩))
                have hb0 : Below E w5 w5 := Below.refl _ _
                have hb1 : Below E w5 w5.drew := hb0.drew
                have hEle : E ≤ w5.heap.size := Nat.le_of_eq hE
                have hq1 : wrap64 (x.o - 1) = x.o - 1 := by go_arith
                have hq2 : IntKind.i64.wrap (x.o - 1) = x.o - 1 := by rw [IntKind.wrap_i64]; omega
                have hq3 : wrap64 (ra + 1) = ra + 1 := by go_arith
                have hq4 : IntKind.i64.wrap (ra + 1) = ra + 1 := by rw [IntKind.wrap_i64]; omega
                clear hE hlx hra hra2
                go_region_held3 (fun w' => w'.cell? ⟨X, 0, none⟩ = some (.int .i64 x.i) ∧ w'.cell? ⟨X, 1, none⟩ = some (.int .i64 x.o) ∧ w'.cell? ⟨X, 2, none⟩ = some (.int .i64 x.t) ∧ w'.cell? ⟨X, 3, none⟩ = some (.int .i64 x.n) ∧ w'.cell? ⟨X, 4, none⟩ = some (.int .i64 x.d) ∧ w'.cell? ⟨Y, 0, none⟩ = some (.int .i64 y.i) ∧ w'.cell? ⟨Y, 1, none⟩ = some (.int .i64 y.o) ∧ w'.cell? ⟨Y, 2, none⟩ = some (.int .i64 y.t) ∧ w'.cell? ⟨Y, 3, none⟩ = some (.int .i64 y.n) ∧ w'.cell? ⟨Y, 4, none⟩ = some (.int .i64 y.d) ∧ Below E w5 w' ∧ E ≤ w'.heap.size)
                  ((refine ⟨?_, ?_, ?_, ?_, ?_, ?_, ?_, ?_, ?_, ?_, ?_, ?_⟩ <;> first
                    | assumption
                    | exact Below.drew ‹_›
                    | exact Nat.le_trans hEle (Below.size ‹_›)))
                  ((go_at_call 46; obtain ⟨hk0, hk1, hk2, hk3, hk4, hk5, hk6, hk7, hk8, hk9, hkb, hks⟩ := ‹_ ∧ _ ∧ _ ∧ _ ∧ _ ∧ _ ∧ _ ∧ _ ∧ _ ∧ _ ∧ Below E w5 _ ∧ _›; refine (HTA.out _ hkb).mono ?_; rintro e wq ⟨rfl, hbq, zq0, zq1, zq2, zq3, zq4, zq5, zq6, zq7, zq8, zq9⟩))
                all_goals
                  obtain ⟨_, _, _, _, _, _, _, _, _, _, hbq, _⟩ := ‹_ ∧ _ ∧ _ ∧ _ ∧ _ ∧ _ ∧ _ ∧ _ ∧ _ ∧ _ ∧ Below E w5 _ ∧ _›
                  obtain ⟨w6, e6, hb6⟩ := name_world hbq
                  rw [e6]
                  have FX6 := Lib.hid (FX.out.below hb6 hXE)
                  have FY6 := Lib.hid (FY.out.below hb6 hYE)
                  have G6 := Lib.hid (G5.out.trans (hb6.mono hDE))
                  have HO6 := Lib.hid (ownsRow_below (B := E) HO5.out hb6 HES.out)
                  have hs6 : D ≤ w6.heap.size := by have := G6.out.size; have := HD.out; omega
                  have hX6 : X < w6.heap.size := FX6.out.lt
                  have hY6 : Y < w6.heap.size := FY6.out.lt
                  clear e6 hb6 hbq hb0 hb1 hEle hXE hYE hDE HTA HES HO5 G5 FX FY hs5 hsz5 hY5 z0 z1 z2 z3 z4 y0 y1 y2 y3 y4 hq1 hq2 hq3 hq4
                  have hra2 := HRA.out
                  obtain ⟨a, ha⟩ : ∃ a, a = max x.t y.i := ⟨_, rfl⟩
                  obtain ⟨b, hb⟩ : ∃ b, b = min (ra + 1) y.o := ⟨_, rfl⟩
                  simp only [← ha, ← hb]
                  have HAB := Lib.hid (And.intro ha (And.intro hb hra2))
                  have a1 : 0 ≤ a := by omega
                  have a2 : a ≤ 5184000 := by omega
                  have c1 : -1 ≤ b := by omega
                  have c2 : b ≤ 5184001 := by omega
                  by_cases hin : a < b
                  · have hcs := crsO_hit (p := x) (q := y) (by omega)
                    have hly := HLY.out a
                    obtain ⟨rt, hrt⟩ : ∃ r, r = ledP y a := ⟨_, rfl⟩
                    have hcs2 : crsO x y = [(⟨a + (x.i - x.t), b + (x.i - x.t), rt, x.n, x.d⟩ : Pc)] := by
                      rw [hcs, show max x.i (y.i - (x.t - x.i)) = a + (x.i - x.t) by omega, show min x.o (y.o - (x.t - x.i)) = b + (x.i - x.t) by omega, show y.t + (a + (x.i - x.t)) + (x.t - x.i) - y.i = rt by rw [hrt, hly]; omega]
                    rw [hcs2] at HFS
                    obtain ⟨mv, hmv⟩ : ∃ m, m = x.i - x.t := ⟨_, rfl⟩
                    have m1 : -5184000 ≤ mv := by omega
                    have m2 : mv ≤ 5184000 := by omega
                    have m3 : wrap64 (x.i - x.t) = mv := by rw [hmv]; go_arith
                    have m4 : IntKind.i64.wrap (x.i - x.t) = mv := by rw [hmv, IntKind.wrap_i64]; omega
                    have m5 : IntKind.i64.wrap (a + mv) = a + mv := by rw [IntKind.wrap_i64]; omega
                    have m6 : IntKind.i64.wrap (b + mv) = b + mv := by rw [IntKind.wrap_i64]; omega
                    have m7 : x.i - x.t = mv := hmv.symm
                    rw [m7] at HFS
                    have t1 : 0 ≤ a - y.i := by omega
                    have t2 : a - y.i ≤ 5184000 := by omega
                    obtain ⟨z0, z1, z2, z3, z4⟩ := five_of FX6.out
                    obtain ⟨y0, y1, y2, y3, y4⟩ := five_of FY6.out
                    obtain ⟨E2, hE2⟩ : ∃ E, E = w6.heap.size := ⟨_, rfl⟩
                    have hXF : X < E2 := by omega
                    have hYF : Y < E2 := by omega
                    have hDF : D ≤ E2 := by omega
                    have HTB := Lib.hid (fun (W : World) (hW : Below E2 w6 W) => (to_any y a W hsy (by omega) (by omega) (by omega) (by omega) (by omega) (by omega)).mono (R' := fun e w' => e = .returned (.int .i64 rt) ∧ Below E2 w6 w' ∧ w'.cell? ⟨X, 0, none⟩ = some (.int .i64 x.i) ∧ w'.cell? ⟨X, 1, none⟩ = some (.int .i64 x.o) ∧ w'.cell? ⟨X, 2, none⟩ = some (.int .i64 x.t) ∧ w'.cell? ⟨X, 3, none⟩ = some (.int .i64 x.n) ∧ w'.cell? ⟨X, 4, none⟩ = some (.int .i64 x.d) ∧ w'.cell? ⟨Y, 0, none⟩ = some (.int .i64 y.i) ∧ w'.cell? ⟨Y, 1, none⟩ = some (.int .i64 y.o) ∧ w'.cell? ⟨Y, 2, none⟩ = some (.int .i64 y.t) ∧ w'.cell? ⟨Y, 3, none⟩ = some (.int .i64 y.n) ∧ w'.cell? ⟨Y, 4, none⟩ = some (.int .i64 y.d)) (fun e w' ⟨h1, h2⟩ =>
                      have hb := hW.trans (h2.mono (show E2 ≤ W.heap.size by have := hW.size; omega))
                      ⟨h1.trans (by rw [hrt]), hb, (hb.cell (p := ⟨X, 0, none⟩) hXF).trans z0, (hb.cell (p := ⟨X, 1, none⟩) hXF).trans z1, (hb.cell (p := ⟨X, 2, none⟩) hXF).trans z2, (hb.cell (p := ⟨X, 3, none⟩) hXF).trans z3, (hb.cell (p := ⟨X, 4, none⟩) hXF).trans z4, (hb.cell (p := ⟨Y, 0, none⟩) hYF).trans y0, (hb.cell (p := ⟨Y, 1, none⟩) hYF).trans y1, (hb.cell (p := ⟨Y, 2, none⟩) hYF).trans y2, (hb.cell (p := ⟨Y, 3, none⟩) hYF).trans y3, (hb.cell (p := ⟨Y, 4, none⟩) hYF).trans y4⟩))
                    have HOX := Lib.hid (fun W (hW : Below E2 w6 W) => show W.ownsRow D 57 5 uv M.length (M.flatMap pcV) from ownsRow_below (B := E2) HO6.out hW (Nat.le_of_eq hE2.symm))
                    have HSZ := Lib.hid (fun W (hW : Below E2 w6 W) => show D ≤ W.heap.size by have := hW.size; omega)
                    have hb0 : Below E2 w6 w6 := Below.refl _ _
                    have hb1 : Below E2 w6 w6.drew := hb0.drew
                    clear ha hb hra2 hcs hcs2 hly hrt hmv hE2 HAB HRA
                    go_wp2_with fail
                    go_region_law (first
                      | (go_simp; go_at_call 46; refine (HTB.out _ (by assumption)).mono ?_; rintro e wq ⟨rfl, hbq, zq0, zq1, zq2, zq3, zq4, zq5, zq6, zq7, zq8, zq9⟩)
                      | (go_loud (refine step_append_lies _ (by rfl) _ _ _ (by rfl) D 57 i0 (.agg #[.int .i64 0, .int .i64 0, .int .i64 0, .int .i64 0, .int .i64 0]) 5 40 Tryz.underlying22 HI0.out.1 HI0.out.2.1 HI0.out.2.2.1 HI0.out.2.2.2 rfl (by decide) uv M.length (M.flatMap pcV) (by rfl) (by first | exact (HOX.out _ (by assumption)).alloc _ | exact ((HOX.out _ (by assumption)).alloc _).drew) ⟨_, 0, none⟩ 1 1 (pcV ⟨a + mv, b + mv, rt, x.n, x.d⟩) (by rfl) (by rfl) (CellsAt.all (by simp [CellsAt, go_sem, pcV])) (by simp [Value.oneCell', pcV]) (by have := HB1.out; omega) (by have := HB1.out; simp only [maxLen]; omega) (by have := HB1.out; omega) (by have hbz := HSZ.out _ (show Below E2 w6 _ by assumption); simp; omega) _ (by rfl) ?_); intro g' cap' w7 ho hgr hat hlt7))
                    all_goals
                      have hszq := HSZ.out wq hbq
                      have G7 := Lib.hid (show Below D w w7 from ((G6.out.trans (hbq.mono hDF)).alloc hszq _).grown hgr (by simp; omega) (fun k e => ((HOX.out wq hbq).lt k e).1))
                      have HO7 := Lib.hid (show w7.ownsRow D 57 5 (.slice (some ⟨g', 0, none⟩) (M.length + 1) cap') (M ++ [(⟨a + mv, b + mv, rt, x.n, x.d⟩ : Pc)]).length ((M ++ [(⟨a + mv, b + mv, rt, x.n, x.d⟩ : Pc)]).flatMap pcV) by
                        rw [pflat_snoc, List.length_append]
                        simpa using ho)
                      rw [← HFS.out] at HO7
                      have hXq : X < wq.heap.size := by have := hbq.size; omega
                      have HF7 := Lib.hid (show Held w7 X (pcV x) by
                        obtain ⟨t, ht⟩ := (FX6.out.below hbq hXF).alloc (.cells #[.int .i64 (a + mv), .int .i64 (b + mv), .int .i64 rt, .int .i64 x.n, .int .i64 x.d] 57)
                        refine ⟨t, (hgr.block X (by simp; omega) (Ne.symm hne)).trans ht⟩)
                      have hne7 : (Value.slice (some ⟨g', 0, none⟩) (M.length + 1) cap').ownBlock ≠ some X := by
                        intro e
                        have e : g' = X := by simpa [Value.ownBlock] using e
                        rcases hat with h | h
                        · exact hne (h.trans (congrArg some e))
                        · simp at h
                          omega
                      have hsz7 : X < w7.heap.size := HF7.out.lt
                      clear ho hgr hat hlt7 hne
                      go_wp2_with fail
                      go_roundw
                      case rel => exact ⟨j + 1, _, rfl, by omega, by go_num, HO7, G7, HF7, hsz7, hne7⟩
                      case measure => simp [intOf]; omega
                  · have hcs := crsO_miss (p := x) (q := y) (by omega)
                    rw [hcs, List.append_nil] at HFS
                    rw [← HFS.out] at HO6
                    clear hcs ha hb hra2
                    go_wp2_with fail
                    go_roundw
                    case rel => exact ⟨j + 1, _, rfl, by omega, by go_num, HO6, G6, FX6, hX6, hne⟩
                    case measure => simp [intOf]; omega
              · obtain rfl : j = B.length := by omega
                rw [List.take_length, ← HST.out] at HO
                clear hltj
                go_wp2_with fail
                go_roundw
                case rel => exact ⟨k + 1, by omega, by go_num, HO, G⟩
                case measure => simp [intOf]; omega
          · obtain rfl : k = A.length := by omega
            rw [List.take_length] at HO
            have hcl : (crsP A B).length ≤ 1000000 := Nat.le_trans (crsP_len B A) (Nat.le_trans (Nat.mul_le_mul hla6 hlb6) (by decide))
            obtain ⟨A5, c5, e5, hr5, _⟩ := own_formP HO.out
            subst e5
            have HBD := Lib.hid (fun p hp => god_bd (HCG.out p hp))
            have HPOS := Lib.hid (fun p hp => god_pos (HCG.out p hp))
            have HJN := Lib.hid (joined_any A5 c5 _ wr hr5 hcl HBD.out)
            have hjl := jonP_len (crsP A B)
            generalize crsP A B = M at *
            unfold JonP at HJN
            clear hlt hr5
            go_wp2_with fail
            refine HJN.out.mono ?_
            rintro e w6 ⟨⟨v, zs, rfl, hz, hza, ho⟩, hb⟩
            rw [jon_of HPOS.out HDJ.out hz hza] at ho
            obtain ⟨A6, c6, e6, hr6, _⟩ := own_formP ho
            subst e6
            have HO6 := Lib.hid (ownsRow_mono ho hDw)
            have G6 := Lib.hid (G.out.trans (hb.mono hDw))
            clear ho hb HJN hr6
            generalize jonP M = J at *
            by_cases hj : 64 < J.length
            · obtain rfl : R = ([], 9) := HE9.out hj
              have hj2 : (64 : Int) < (J.length : Int) := by omega
              go_wp2_with fail
              go_ret2
              exact ⟨⟨_, rfl, World.ownsRow_nil _ _ _ _⟩, G6.out⟩
            · obtain rfl : R = (J, 0) := HE0.out hj
              have hj2 : (J.length : Int) ≤ 64 := by omega
              go_wp2_with fail
              go_ret2
              exact ⟨⟨_, rfl, HO6.out⟩, G6.out⟩
      | false =>
        obtain rfl : R = ([], 3) := HR.out.trans (cmp_e3 h0 h1 hpl)
        clear h0 h1
        go_enter Tryz.func35, Tryz.ntmps35
        go_wp2_with fail
        refine (HCA.out w HA.out).mono ?_
        rintro e w1 ⟨rfl, hb⟩
        have G1 := Lib.hid (show Below D w w1 from HD.out ▸ hb)
        have hs1 : D ≤ w1.heap.size := by have := G1.out.size; have := HD.out; omega
        have HA1 := Lib.hid (HA.out.ext hb)
        have HB1 := Lib.hid (HB.out.ext hb)
        clear hb
        go_wp2_with fail
        refine (HCB.out w1 HB1.out).mono ?_
        rintro e w2 ⟨rfl, hb⟩
        have G2 := Lib.hid (G1.out.trans (hb.mono hs1))
        have hs2 : D ≤ w2.heap.size := by have := G2.out.size; have := HD.out; omega
        have HA2 := Lib.hid (HA1.out.ext hb)
        have HB2 := Lib.hid (HB1.out.ext hb)
        clear hb
        go_wp2_with fail
        cases ha : plnB A with
        | false =>
          rw [ha] at HPA
          clear hpl
          refine (HPA.out w2 HA2.out).mono ?_
          rintro e w3 ⟨rfl, hb⟩
          have G3 := Lib.hid (G2.out.trans (hb.mono hs2))
          clear hb HCA HCB HPA HPB
          go_wp2_with fail
          go_ret2
          exact ⟨⟨_, rfl, World.ownsRow_nil _ _ _ _⟩, G3.out⟩
        | true =>
          rw [ha] at HPA
          rw [ha, Bool.true_and] at hpl
          rw [hpl] at HPB
          clear hpl
          refine (HPA.out w2 HA2.out).mono ?_
          rintro e w3 ⟨rfl, hb⟩
          have G3 := Lib.hid (G2.out.trans (hb.mono hs2))
          have hs3 : D ≤ w3.heap.size := by have := G3.out.size; have := HD.out; omega
          have HB3 := Lib.hid (HB2.out.ext hb)
          clear hb
          go_wp2_with fail
          refine (HPB.out w3 HB3.out).mono ?_
          rintro e w4 ⟨rfl, hb⟩
          have G4 := Lib.hid (G3.out.trans (hb.mono hs3))
          clear hb HCA HCB HPA HPB
          go_wp2_with fail
          go_ret2
          exact ⟨⟨_, rfl, World.ownsRow_nil _ _ _ _⟩, G4.out⟩
    · obtain ⟨E, hE⟩ : ∃ E, E = chkP B := ⟨_, rfl⟩
      obtain rfl : R = ([], E) := by rw [HR.out, hE]; exact cmp_e2 h0 h1
      rw [h0] at HCA
      rw [← hE] at HCB h1
      have h1b : (E == 0) = false := by simpa using h1
      clear hE h0
      go_enter Tryz.func35, Tryz.ntmps35
      go_wp2_with fail
      refine (HCA.out w HA.out).mono ?_
      rintro e w1 ⟨rfl, hb⟩
      have G1 := Lib.hid (show Below D w w1 from HD.out ▸ hb)
      have hs1 : D ≤ w1.heap.size := by have := G1.out.size; have := HD.out; omega
      have HA1 := Lib.hid (HA.out.ext hb)
      have HB1 := Lib.hid (HB.out.ext hb)
      clear hb
      go_wp2_with fail
      refine (HCB.out w1 HB1.out).mono ?_
      rintro e w2 ⟨rfl, hb⟩
      have G2 := Lib.hid (G1.out.trans (hb.mono hs1))
      have hs2 : D ≤ w2.heap.size := by have := G2.out.size; have := HD.out; omega
      have HA2 := Lib.hid (HA1.out.ext hb)
      have HB2 := Lib.hid (HB1.out.ext hb)
      clear hb
      go_wp2_with fail
      go_ret2
      exact ⟨⟨_, rfl, World.ownsRow_nil _ _ _ _⟩, G2.out⟩
  · obtain ⟨E, hE⟩ : ∃ E, E = chkP A := ⟨_, rfl⟩
    obtain rfl : R = ([], E) := by rw [HR.out, hE]; exact cmp_e1 h0
    rw [← hE] at HCA h0
    have h0b : (E == 0) = false := by simpa using h0
    clear hE
    go_enter Tryz.func35, Tryz.ntmps35
    go_wp2_with fail
    refine (HCA.out w HA.out).mono ?_
    rintro e w1 ⟨rfl, hb⟩
    have G1 := Lib.hid (HD.out ▸ hb)
    clear hb HCA HCB HPA HPB
    go_wp2_with fail
    go_ret2
    exact ⟨⟨_, rfl, World.ownsRow_nil _ _ _ _⟩, G1.out⟩
end Go.Proofs.YteojlodcafogaaaGreatDoor
