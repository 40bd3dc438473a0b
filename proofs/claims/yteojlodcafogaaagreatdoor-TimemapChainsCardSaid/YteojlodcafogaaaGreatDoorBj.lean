/-
  Parse, Same and awake. The conditions of the contracts are their hypotheses.
-/
import Derived.Test.YteojlodcafogaaaGreatDoorBi
import Derived.Test.YteojlodcafogaaaGreatDoorBg
import Derived.Test.YteojlodcafogaaaGreatDoorBc
namespace Go.Proofs.YteojlodcafogaaaGreatDoor
open Go.RowKit Go.Joins
set_option linter.unusedVariables false
set_option linter.unusedSimpArgs false
theorem cutg_any (c : UInt8) (s : List UInt8) (w : World) (hs : s.length ≤ 100000) (hw : Wd w) :
    Calls Tryz.prog 72 #[.string (sB s), .string ⟨#[c]⟩] w fun e w' => e = .returned (.tuple #[.string (sB (cutC c s).1), .string (sB (cutC c s).2), .bool (decide (c ∈ s))]) ∧ Below w.heap.size w w' := by
  obtain ⟨m, hm⟩ := hw.mx
  have := Tryz.strings_Cut (sB s) ⟨#[c]⟩ m w (by rw [sB_size]; omega) hm
  rw [show (⟨#[c]⟩ : ByteArray).data.toList = [c] from rfl, sB_list, lib_cut] at this
  refine this.mono ?_
  rintro e w' ⟨he, n, rfl⟩
  exact ⟨he, below_drewN (Below.refl _ _) n⟩
theorem wdq {w : World} (h : Wd w) : Q.Wd w := ⟨h.tab, h.mx, h.es, h.er⟩
/-- What piece finds. -/
def PieP (u : List UInt8) (B : Nat) (W : World) (e : Ending) (w' : World) : Prop := (∃ y b, e = .returned (.tuple #[pcA y, .bool b]) ∧ ((b = true ∧ pieV u = some y) ∨ (b = false ∧ pieV u = none))) ∧ Below B W w'
theorem par_two (l : List UInt8) : (Q.parseRV l).2 = 0 ∨ (Q.parseRV l).2 = 4 := by
  unfold Q.parseRV
  split
  · exact .inl rfl
  · exact .inr rfl
theorem par_bd (l : List UInt8) : (-2147483648 ≤ (Q.parseRV l).1.1 ∧ (Q.parseRV l).1.1 ≤ 2147483648) ∧ (-2147483648 ≤ (Q.parseRV l).1.2 ∧ (Q.parseRV l).1.2 ≤ 2147483648) := by
  unfold Q.parseRV
  split
  · rename_i h
    have hv := Q.textL_ne (h.2.symm ▸ h.1)
    have := Q.valid_bd hv
    exact ⟨⟨this.1, this.2.1⟩, Int.le_trans (by decide) this.2.2.1, this.2.2.2.1⟩
  · exact ⟨⟨by decide, by decide⟩, by decide, by decide⟩
theorem pieV_frq {u : List UInt8} {y : Pc} (h : pieV u = some y) : Frq y := by
  unfold pieV at h
  split at h
  · split at h
    · have h := Option.some.inj h
      subst h
      have := par_bd (cutC 42 (cutC 62 u).2).2
      exact ⟨⟨by simp only []; omega, by simp only []; omega⟩, by simp only []; omega, by simp only []; omega⟩
    · cases h
  · cases h
/-- The words read so far. -/
def RdP (ua ub uc : List UInt8) (k : Nat) (a b c : Int) : Prop := (0 < k → okJ (Lib.parseIntB 64 ua) = some a) ∧ (1 < k → okJ (Lib.parseIntB 64 ub) = some b) ∧ (2 < k → okJ (Lib.parseIntB 64 uc) = some c)
theorem okJI (l : List UInt8) : okI (Lib.parseIntB 64 l) = okJ (Lib.parseIntB 64 l) := rfl
set_option maxRecDepth 100000 in
set_option maxHeartbeats 4000000 in
theorem piece_any (u : List UInt8) (w : World) (hs : u.length ≤ 100000) (hw : Wd w) :
    Calls Tryz.prog 43 #[.string (sB u)] w (PieP u w.heap.size w) := by
  have HW := Lib.hid hw
  obtain ⟨R, hR⟩ : ∃ R, R = pieV u := ⟨_, rfl⟩
  have HU1 := Lib.hid (fun W h => cutg_any 62 u W hs h)
  obtain ⟨l1, l2⟩ := cutC_len 62 u
  obtain ⟨l3, l4⟩ := cutC_len 45 (cutC 62 u).1
  obtain ⟨l5, l6⟩ := cutC_len 42 (cutC 62 u).2
  unfold pieV at hR
  obtain ⟨dm, hdm⟩ : ∃ a, a = (cutC 62 u).1 := ⟨_, rfl⟩
  obtain ⟨rs, hrs⟩ : ∃ a, a = (cutC 62 u).2 := ⟨_, rfl⟩
  rw [← hdm] at HU1 hR l1 l3 l4
  rw [← hrs] at HU1 hR l2 l5 l6
  have HU2 := Lib.hid (fun W h => cutg_any 45 dm W (by omega) h)
  have HU3 := Lib.hid (fun W h => cutg_any 42 rs W (by omega) h)
  obtain ⟨ua, hua⟩ : ∃ a, a = (cutC 45 dm).1 := ⟨_, rfl⟩
  obtain ⟨ub, hub⟩ : ∃ a, a = (cutC 45 dm).2 := ⟨_, rfl⟩
  obtain ⟨uc, huc⟩ : ∃ a, a = (cutC 42 rs).1 := ⟨_, rfl⟩
  obtain ⟨ur, hur⟩ : ∃ a, a = (cutC 42 rs).2 := ⟨_, rfl⟩
  rw [← hua] at HU2 hR l3
  rw [← hub] at HU2 hR l4
  rw [← huc] at HU3 hR l5
  rw [← hur] at HU3 hR l6
  have HPA := Lib.hid (fun W h => pint_any ua W (by omega) h)
  have HPB := Lib.hid (fun W h => pint_any ub W (by omega) h)
  have HPC := Lib.hid (fun W h => pint_any uc W (by omega) h)
  have HPR := Lib.hid (fun W (h : Wd W) => Q.parse_any (sB ur) W (by rw [sB_size]; omega) (wdq h))
  rw [sB_list] at HPR
  have HPT := Lib.hid (par_two ur)
  obtain ⟨⟨⟨n, d⟩, er⟩, hpr⟩ : ∃ p, p = Q.parseRV ur := ⟨_, rfl⟩
  rw [← hpr] at HPR HPT hR
  have HR := Lib.hid hR
  clear hR
  obtain ⟨D, hD⟩ : ∃ D, D = w.heap.size := ⟨_, rfl⟩
  have HD := Lib.hid hD
  unfold PieP
  rw [show pieV u = R by rw [HR.out, hua, hub, huc, hpr, hur, hdm, hrs]; rfl]
  rw [← hD]
  clear hD hw l1 l2 l3 l4 l5 l6 hdm hrs hua hub huc hur hpr
  go_enter Tryz.func43, Tryz.ntmps43
  go_wp2_with fail
  rw [← HD.out]
  generalize hw1 : World.alloc w _ = w1
  have FD := Lib.hid (show Held w1 D [.int .i64 0, .int .i64 0, .int .i64 0, .int .i64 0, .int .i64 0] by subst hw1; exact Held.new HD.out)
  have G1 := Lib.hid (show Below D w w1 by subst hw1; rw [HD.out]; exact below_one _ _)
  have W1 := Lib.hid (HW.out.on (HD.out ▸ G1.out))
  clear hw1
  refine (HU1.out w1 W1.out).mono ?_
  rintro e w2 ⟨rfl, hb⟩
  have FD := Lib.hid (FD.out.ext hb)
  have hs2 : D < w2.heap.size := FD.out.lt
  have G2 := Lib.hid (G1.out.trans (hb.mono (by have := hb.size; have := G1.out.size; have := HD.out; omega)))
  have W2 := Lib.hid (W1.out.on hb)
  clear hb W1 G1 HU1
  go_wp2_with fail
  refine (HU2.out w2 W2.out).mono ?_
  rintro e w3 ⟨rfl, hb⟩
  have FD := Lib.hid (FD.out.ext hb)
  have G3 := Lib.hid (G2.out.trans (hb.mono (by omega)))
  have hs3 : D < w3.heap.size := FD.out.lt
  have W3 := Lib.hid (W2.out.on hb)
  clear hb W2 G2 HU2 hs2
  go_wp2_with fail
  refine (HU3.out w3 W3.out).mono ?_
  rintro e w4 ⟨rfl, hb⟩
  have FD := Lib.hid (FD.out.ext hb)
  have G4 := Lib.hid (G3.out.trans (hb.mono (by omega)))
  have hs4 : D < w4.heap.size := FD.out.lt
  have W4 := Lib.hid (W3.out.on hb)
  clear hb W3 G3 HU3 hs3
  go_wp2_with fail
  -- the loop
  obtain ⟨P, hP⟩ : ∃ P, P = w4.heap.size := ⟨_, rfl⟩
  have HP := Lib.hid hP
  rw [← hP]
  have hDP : D < P := by omega
  clear hP
  generalize hw5 : World.alloc (World.alloc w4 _) _ = w5
  have FP := Lib.hid (show Held w5 P [.int .i64 0, .int .i64 0, .int .i64 0, .int .i64 0, .int .i64 0] by subst hw5; exact (Held.new HP.out).alloc _)
  have FS := Lib.hid (show Held w5 (P + 1) [.string (sB ua), .string (sB ub), .string (sB uc)] by subst hw5; exact Held.new (by simp [HP.out]))
  have GG := Lib.hid (show Below w4.heap.size w4 w5 by subst hw5; exact ((Below.refl _ _).alloc (Nat.le_refl _) _).alloc (by simp) _)
  have FD := Lib.hid (FD.out.ext GG.out)
  have G5 := Lib.hid (G4.out.trans (GG.out.mono (by omega)))
  have W5 := Lib.hid (W4.out.on GG.out)
  clear hw5 GG G4 W4 hs4
  go_loopw [43] (fun i wr => ∃ (k : Nat) (a b c : Int), k ≤ 3 ∧ i = .int .i64 k ∧ Hid (RdP ua ub uc k a b c) ∧ Hid (Held wr P [.int .i64 a, .int .i64 b, .int .i64 c, .int .i64 0, .int .i64 0]) ∧ Hid (Held wr (P + 1) [.string (sB ua), .string (sB ub), .string (sB uc)]) ∧ Hid (Held wr D [.int .i64 0, .int .i64 0, .int .i64 0, .int .i64 0, .int .i64 0]) ∧ Hid (Below D w wr) ∧ Hid (Wd wr)) (fun i _ => 3 - (intOf i).toNat)
  case atStart => exact ⟨0, 0, 0, 0, by omega, rfl, Lib.hid ⟨fun h => by omega, fun h => by omega, fun h => by omega⟩, FP, FS, FD, G5, W5⟩
  case round =>
    obtain ⟨k, a, b, c, hk, rfl, HRD, HP5, HS5, HD5, G, WR⟩ := hrel
    have hDw : D ≤ wr.heap.size := Nat.le_of_lt HD5.out.lt
    by_cases hlt : k < 3
    · by_cases hk0 : k = 0
      · subst hk0
        have c0 := HS5.out.cell 0
        simp only [List.getElem?_cons_zero, List.getElem?_cons_succ] at c0
        clear hlt HP FP FS FD G5 W5
        go_wp2_with fail
        refine (HPA.out wr WR.out).mono ?_
        rintro e w6 ⟨⟨v, ev, rfl, hm⟩, hb⟩
        have HP6 := Lib.hid (HP5.out.ext hb)
        have HS6 := Lib.hid (HS5.out.ext hb)
        have HD6 := Lib.hid (HD5.out.ext hb)
        have G6 := Lib.hid (G.out.trans (hb.mono hDw))
        have W6 := Lib.hid (WR.out.on hb)
        clear hb HP5 HS5 HD5 G WR c0
        rcases hm with ⟨hok, rfl⟩ | ⟨hbad, tp, pp, rfl⟩
        · have HOK := Lib.hid (show okJ (Lib.parseIntB 64 ua) = some v from hok)
          have y0 := HP6.out.free 0
          have y1 := HP6.out.cell 0
          simp only [List.getElem?_cons_zero, List.getElem?_cons_succ] at y1
          clear hok
          go_wp2_with fail
          have HP7 := Lib.hid (HP6.out.set 0 (.int .i64 v))
          have HS7 := Lib.hid (HS6.out.other (show P + 1 ≠ P by omega) 0 (.int .i64 v))
          have HD7 := Lib.hid (HD6.out.other (show D ≠ P by omega) 0 (.int .i64 v))
          have G7 := Lib.hid (G6.out.setCell (p := ⟨P, 0, none⟩) (Nat.le_of_lt hDP) (.int .i64 v))
          have W7 := Lib.hid (HW.out.on (HD.out ▸ G7.out))
          generalize World.setCell _ _ _ = w7 at *
          simp only [List.set_cons_zero, List.set_cons_succ] at HP7
          go_roundw
          case rel => exact ⟨1, v, b, c, by omega, by go_num, Lib.hid ⟨fun _ => HOK.out, fun h => by omega, fun h => by omega⟩, HP7, HS7, HD7, G7, W7⟩
          case measure => simp [intOf]; try omega
        · obtain rfl : R = none := by rw [HR.out];  rw [show okJ (Lib.parseIntB 64 ua) = none from hbad]
          obtain ⟨d0, d1, d2, d3, d4⟩ := five_of HD6.out
          have e0 := HD6.out.free 0
          have e1 := HD6.out.free 1
          have e2 := HD6.out.free 2
          have e3 := HD6.out.free 3
          have e4 := HD6.out.free 4
          clear hbad
          go_wp2_with fail
          have r := Lib.hid (((((HD6.out.set 0 (.int .i64 0)).set 1 (.int .i64 0)).set 2 (.int .i64 0)).set 3 (.int .i64 0)).set 4 (.int .i64 0))
          have rb := Lib.hid (((((G6.out.setCell (p := ⟨D, 0, none⟩) (Nat.le_refl _) (.int .i64 0)).setCell (p := ⟨D, 1, none⟩) (Nat.le_refl _) (.int .i64 0)).setCell (p := ⟨D, 2, none⟩) (Nat.le_refl _) (.int .i64 0)).setCell (p := ⟨D, 3, none⟩) (Nat.le_refl _) (.int .i64 0)).setCell (p := ⟨D, 4, none⟩) (Nat.le_refl _) (.int .i64 0))
          generalize World.setCell _ _ _ = w9 at *
          obtain ⟨r0, r1, r2, r3, r4⟩ := five_of (show Held w9 D [.int .i64 0, .int .i64 0, .int .i64 0, .int .i64 0, .int .i64 0] from r.out)
          clear d0 d1 d2 d3 d4 e0 e1 e2 e3 e4
          refine bodyPost_ret (by simp [results, Tryz.results43, r0, r1, r2, r3, r4, go_sem]; try rfl) rfl ?_
          refine ⟨?_, rb.out⟩
          first | exact ⟨⟨0, 0, 0, 0, 0⟩, rfl⟩ | exact ⟨⟨0, 0, 0, 0, 0⟩, false, rfl, Or.inr ⟨rfl, rfl⟩⟩
      · by_cases hk1 : k = 1
        · subst hk1
          have c0 := HS5.out.cell 1
          simp only [List.getElem?_cons_zero, List.getElem?_cons_succ] at c0
          clear hlt HP FP FS FD G5 W5
          go_wp2_with fail
          refine (HPB.out wr WR.out).mono ?_
          rintro e w6 ⟨⟨v, ev, rfl, hm⟩, hb⟩
          have HP6 := Lib.hid (HP5.out.ext hb)
          have HS6 := Lib.hid (HS5.out.ext hb)
          have HD6 := Lib.hid (HD5.out.ext hb)
          have G6 := Lib.hid (G.out.trans (hb.mono hDw))
          have W6 := Lib.hid (WR.out.on hb)
          clear hb HP5 HS5 HD5 G WR c0
          rcases hm with ⟨hok, rfl⟩ | ⟨hbad, tp, pp, rfl⟩
          · have HOK := Lib.hid (show okJ (Lib.parseIntB 64 ub) = some v from hok)
            have y0 := HP6.out.free 1
            have y1 := HP6.out.cell 1
            simp only [List.getElem?_cons_zero, List.getElem?_cons_succ] at y1
            clear hok
            go_wp2_with fail
            have HP7 := Lib.hid (HP6.out.set 1 (.int .i64 v))
            have HS7 := Lib.hid (HS6.out.other (show P + 1 ≠ P by omega) 1 (.int .i64 v))
            have HD7 := Lib.hid (HD6.out.other (show D ≠ P by omega) 1 (.int .i64 v))
            have G7 := Lib.hid (G6.out.setCell (p := ⟨P, 1, none⟩) (Nat.le_of_lt hDP) (.int .i64 v))
            have W7 := Lib.hid (HW.out.on (HD.out ▸ G7.out))
            generalize World.setCell _ _ _ = w7 at *
            simp only [List.set_cons_zero, List.set_cons_succ] at HP7
            go_roundw
            case rel => exact ⟨2, a, v, c, by omega, by go_num, Lib.hid ⟨fun _ => HRD.out.1 (by omega), fun _ => HOK.out, fun h => by omega⟩, HP7, HS7, HD7, G7, W7⟩
            case measure => simp [intOf]; try omega
          · obtain rfl : R = none := by rw [HR.out]; rw [HRD.out.1 (by omega)]; rw [show okJ (Lib.parseIntB 64 ub) = none from hbad]
            obtain ⟨d0, d1, d2, d3, d4⟩ := five_of HD6.out
            have e0 := HD6.out.free 0
            have e1 := HD6.out.free 1
            have e2 := HD6.out.free 2
            have e3 := HD6.out.free 3
            have e4 := HD6.out.free 4
            clear hbad
            go_wp2_with fail
            have r := Lib.hid (((((HD6.out.set 0 (.int .i64 0)).set 1 (.int .i64 0)).set 2 (.int .i64 0)).set 3 (.int .i64 0)).set 4 (.int .i64 0))
            have rb := Lib.hid (((((G6.out.setCell (p := ⟨D, 0, none⟩) (Nat.le_refl _) (.int .i64 0)).setCell (p := ⟨D, 1, none⟩) (Nat.le_refl _) (.int .i64 0)).setCell (p := ⟨D, 2, none⟩) (Nat.le_refl _) (.int .i64 0)).setCell (p := ⟨D, 3, none⟩) (Nat.le_refl _) (.int .i64 0)).setCell (p := ⟨D, 4, none⟩) (Nat.le_refl _) (.int .i64 0))
            generalize World.setCell _ _ _ = w9 at *
            obtain ⟨r0, r1, r2, r3, r4⟩ := five_of (show Held w9 D [.int .i64 0, .int .i64 0, .int .i64 0, .int .i64 0, .int .i64 0] from r.out)
            clear d0 d1 d2 d3 d4 e0 e1 e2 e3 e4
            refine bodyPost_ret (by simp [results, Tryz.results43, r0, r1, r2, r3, r4, go_sem]; try rfl) rfl ?_
            refine ⟨?_, rb.out⟩
            first | exact ⟨⟨0, 0, 0, 0, 0⟩, rfl⟩ | exact ⟨⟨0, 0, 0, 0, 0⟩, false, rfl, Or.inr ⟨rfl, rfl⟩⟩
        · obtain hk2 : k = 2 := by omega
          subst hk2
          have c0 := HS5.out.cell 2
          simp only [List.getElem?_cons_zero, List.getElem?_cons_succ] at c0
          clear hlt HP FP FS FD G5 W5
          go_wp2_with fail
          refine (HPC.out wr WR.out).mono ?_
          rintro e w6 ⟨⟨v, ev, rfl, hm⟩, hb⟩
          have HP6 := Lib.hid (HP5.out.ext hb)
          have HS6 := Lib.hid (HS5.out.ext hb)
          have HD6 := Lib.hid (HD5.out.ext hb)
          have G6 := Lib.hid (G.out.trans (hb.mono hDw))
          have W6 := Lib.hid (WR.out.on hb)
          clear hb HP5 HS5 HD5 G WR c0
          rcases hm with ⟨hok, rfl⟩ | ⟨hbad, tp, pp, rfl⟩
          · have HOK := Lib.hid (show okJ (Lib.parseIntB 64 uc) = some v from hok)
            have y0 := HP6.out.free 2
            have y1 := HP6.out.cell 2
            simp only [List.getElem?_cons_zero, List.getElem?_cons_succ] at y1
            clear hok
            go_wp2_with fail
            have HP7 := Lib.hid (HP6.out.set 2 (.int .i64 v))
            have HS7 := Lib.hid (HS6.out.other (show P + 1 ≠ P by omega) 2 (.int .i64 v))
            have HD7 := Lib.hid (HD6.out.other (show D ≠ P by omega) 2 (.int .i64 v))
            have G7 := Lib.hid (G6.out.setCell (p := ⟨P, 2, none⟩) (Nat.le_of_lt hDP) (.int .i64 v))
            have W7 := Lib.hid (HW.out.on (HD.out ▸ G7.out))
            generalize World.setCell _ _ _ = w7 at *
            simp only [List.set_cons_zero, List.set_cons_succ] at HP7
            go_roundw
            case rel => exact ⟨3, a, b, v, by omega, by go_num, Lib.hid ⟨fun _ => HRD.out.1 (by omega), fun _ => HRD.out.2.1 (by omega), fun _ => HOK.out⟩, HP7, HS7, HD7, G7, W7⟩
            case measure => simp [intOf]; try omega
          · obtain rfl : R = none := by rw [HR.out]; rw [HRD.out.1 (by omega)]; rw [HRD.out.2.1 (by omega)]; rw [show okJ (Lib.parseIntB 64 uc) = none from hbad]
            obtain ⟨d0, d1, d2, d3, d4⟩ := five_of HD6.out
            have e0 := HD6.out.free 0
            have e1 := HD6.out.free 1
            have e2 := HD6.out.free 2
            have e3 := HD6.out.free 3
            have e4 := HD6.out.free 4
            clear hbad
            go_wp2_with fail
            have r := Lib.hid (((((HD6.out.set 0 (.int .i64 0)).set 1 (.int .i64 0)).set 2 (.int .i64 0)).set 3 (.int .i64 0)).set 4 (.int .i64 0))
            have rb := Lib.hid (((((G6.out.setCell (p := ⟨D, 0, none⟩) (Nat.le_refl _) (.int .i64 0)).setCell (p := ⟨D, 1, none⟩) (Nat.le_refl _) (.int .i64 0)).setCell (p := ⟨D, 2, none⟩) (Nat.le_refl _) (.int .i64 0)).setCell (p := ⟨D, 3, none⟩) (Nat.le_refl _) (.int .i64 0)).setCell (p := ⟨D, 4, none⟩) (Nat.le_refl _) (.int .i64 0))
            generalize World.setCell _ _ _ = w9 at *
            obtain ⟨r0, r1, r2, r3, r4⟩ := five_of (show Held w9 D [.int .i64 0, .int .i64 0, .int .i64 0, .int .i64 0, .int .i64 0] from r.out)
            clear d0 d1 d2 d3 d4 e0 e1 e2 e3 e4
            refine bodyPost_ret (by simp [results, Tryz.results43, r0, r1, r2, r3, r4, go_sem]; try rfl) rfl ?_
            refine ⟨?_, rb.out⟩
            first | exact ⟨⟨0, 0, 0, 0, 0⟩, rfl⟩ | exact ⟨⟨0, 0, 0, 0, 0⟩, false, rfl, Or.inr ⟨rfl, rfl⟩⟩
    · obtain rfl : k = 3 := by omega
      obtain ⟨ha, hb1, hc1⟩ := HRD.out
      have HRR := Lib.hid (show R = if er = 0 then some ⟨a, b, c, n, d⟩ else none by rw [HR.out, ha (by omega), hb1 (by omega), hc1 (by omega)])
      clear ha hb1 hc1 hlt HP FP FS FD G5 W5
      go_wp2_with fail
      refine (HPR.out wr WR.out).mono ?_
      rintro e w6 ⟨rfl, hb⟩
      have HP6 := Lib.hid (HP5.out.ext hb)
      have HD6 := Lib.hid (HD5.out.ext hb)
      have G6 := Lib.hid (G.out.trans (hb.mono hDw))
      clear hb HP5 HS5 HD5 G WR HPR HPA HPB HPC
      have HP7 := Lib.hid (HP6.out.alloc (.cells #[.int .i64 n, .int .i64 d] 55))
      have HD7 := Lib.hid (HD6.out.alloc (.cells #[.int .i64 n, .int .i64 d] 55))
      have hPD : P ≠ D := by omega
      obtain ⟨p0, p1, p2, p3, p4⟩ := five_of HP7.out
      have q3 := HP7.out.free 3
      have q4 := HP7.out.free 4
      obtain ⟨d0, d1, d2, d3, d4⟩ := five_of HD7.out
      have e0 := HD7.out.free 0
      have e1 := HD7.out.free 1
      have e2 := HD7.out.free 2
      have e3 := HD7.out.free 3
      have e4 := HD7.out.free 4
      go_wp2_with fail
      have r := Lib.hid (((((((HD7.out.other (Ne.symm hPD) 3 (.int .i64 n)).other (Ne.symm hPD) 4 (.int .i64 d)).set 0 (.int .i64 a)).set 1 (.int .i64 b)).set 2 (.int .i64 c)).set 3 (.int .i64 n)).set 4 (.int .i64 d))
      have rb := Lib.hid ((((((G6.out.alloc (Nat.le_of_lt HD6.out.lt) (.cells #[.int .i64 n, .int .i64 d] 55)).setCell (p := ⟨P, 3, none⟩) (Nat.le_of_lt hDP) (.int .i64 n)).setCell (p := ⟨P, 4, none⟩) (Nat.le_of_lt hDP) (.int .i64 d)).setCell (p := ⟨D, 0, none⟩) (Nat.le_refl _) (.int .i64 a)).setCell (p := ⟨D, 1, none⟩) (Nat.le_refl _) (.int .i64 b)).setCell (p := ⟨D, 2, none⟩) (Nat.le_refl _) (.int .i64 c))
      have rb := Lib.hid ((rb.out.setCell (p := ⟨D, 3, none⟩) (Nat.le_refl _) (.int .i64 n)).setCell (p := ⟨D, 4, none⟩) (Nat.le_refl _) (.int .i64 d))
      generalize World.setCell _ _ _ = w9 at *
      obtain ⟨r0, r1, r2, r3, r4⟩ := five_of (show Held w9 D [.int .i64 a, .int .i64 b, .int .i64 c, .int .i64 n, .int .i64 d] from r.out)
      clear d0 d1 d2 d3 d4 e0 e1 e2 e3 e4 p0 p1 p2 p3 p4 q3 q4
      refine bodyPost_ret (by simp [results, Tryz.results43, r0, r1, r2, r3, r4, go_sem]; try rfl) rfl ?_
      refine ⟨⟨⟨a, b, c, n, d⟩, er == 0, rfl, ?_⟩, rb.out⟩
      rcases HPT.out with rfl | rfl
      · exact Or.inl ⟨rfl, HRR.out⟩
      · exact Or.inr ⟨rfl, HRR.out⟩
end Go.Proofs.YteojlodcafogaaaGreatDoor
namespace Go.Proofs.YteojlodcafogaaaGreatDoor
open Go.RowKit Go.Joins
set_option linter.unusedVariables false
set_option linter.unusedSimpArgs false
/-- A call that gives a map and an error. -/
def RetM (r : List Pc × Int) (W : World) (e : Ending) (w' : World) : Prop := (∃ v, e = .returned (.tuple #[v, .int .i64 r.2]) ∧ w'.ownsRow W.heap.size 57 5 v r.1.length (r.1.flatMap pcV)) ∧ Below W.heap.size W w'
def linesG (c : UInt8) (s : ByteArray) : List ByteArray := Lib.splitB ⟨#[c]⟩ 0 (Lib.countB s ⟨#[c]⟩) s
theorem linesG_len (c : UInt8) (s : ByteArray) : (linesG c s).length = Lib.countB s ⟨#[c]⟩ + 1 := Lib.splitB_all ⟨#[c]⟩ (Nat.one_pos) 0 _ s rfl
theorem linesG_le (c : UInt8) (s : ByteArray) : (linesG c s).length ≤ s.size + 1 := by
  rw [linesG_len]
  have := Lib.countB_le ⟨#[c]⟩ (Nat.one_pos) s.size s (Nat.le_refl _)
  omega
theorem wordsG_le (c : UInt8) (s : List UInt8) : (wordsC c s).length ≤ s.length + 1 := by
  have h1 := linesG_le c (sB s)
  have h2 := split_wordsC c (sB s)
  rw [sB_list] at h2
  have h3 := congrArg List.length h2
  rw [List.length_map] at h3
  rw [← h3]
  rw [sB_size] at h1
  exact h1
theorem splitg_any (c : UInt8) (s : List UInt8) (w : World) (hs : s.length ≤ 100000) (hw : Wd w) :
    Calls Tryz.prog 42 #[.string (sB s), .string ⟨#[c]⟩] w fun e w' => e = .returned (.slice (some ⟨w.heap.size, 0, none⟩) (wordsC c s).length (wordsC c s).length) ∧ w' = w.alloc (.cells ((wordsC c s).map fun x => Value.string (sB x)).toArray 9) := by
  obtain ⟨m, hm⟩ := hw.mx
  have h1 := Any.strings_Split { Tryz.laysM146 with } Tryz.laysM146.i9 (sB s) ⟨#[c]⟩ m w (by rw [sB_size]; omega) hm (Nat.one_pos)
  have e1 : (linesG c (sB s)).map (·.data.toList) = wordsC c s := by
    have := split_wordsC c (sB s)
    rw [sB_list] at this
    exact this
  have e2 : (wordsC c s).length = (linesG c (sB s)).length := by rw [← e1, List.length_map]
  have e3 : ((wordsC c s).map fun x => Value.string (sB x)) = (linesG c (sB s)).map Value.string := by
    rw [← e1, List.map_map]
    apply List.map_congr_left
    intro x hx
    show Value.string (sB x.data.toList) = _
    rw [sB_of]
  rw [e2, e3, linesG_len]
  exact h1
theorem prs_frp {C : List Pc} (h : ∀ L, C = L → Frp L) : Frp C := h C rfl
theorem frp_snoc {C : List Pc} {x : Pc} (h : Frp C) (hx : Frq x) : Frp (C ++ [x]) := by
  intro y hy
  rcases List.mem_append.1 hy with hy | hy
  · exact h y hy
  · rw [List.mem_singleton.1 hy]; exact hx
theorem frp_nil : Frp [] := fun x hx => by cases hx
theorem own_formP {w : World} {base : Nat} {v : Value} {L : List Pc} (h : w.ownsRow base 57 5 v L.length (L.flatMap pcV)) :
    ∃ A c, v = .slice A L.length c ∧ PcAt w A L ∧ L.length ≤ c := by
  obtain ⟨A, c, e, hr, hc, _⟩ := row_of_ownK h
  exact ⟨A, c, e, hr, hc⟩
/-- What Parse makes of the pieces that it has read. -/
def endP (S : List UInt8) (o : Option (List Pc)) : List Pc × Int := match o with | some L => if (txtP L).2 = 0 ∧ (txtP L).1 = S then (L, 0) else ([], 4) | none => ([], 4)
set_option maxRecDepth 100000 in
set_option maxHeartbeats 4000000 in
theorem parsep_any (S : List UInt8) (w : World) (hs : S.length ≤ 100000) (hw : Wd w) :
    Calls Tryz.prog 16 #[.string (sB S)] w (RetM (prsP S) w) := by
  have HW := Lib.hid hw
  obtain ⟨D, hD⟩ : ∃ D, D = w.heap.size := ⟨_, rfl⟩
  have HD := Lib.hid hD
  unfold RetM
  rw [← hD]
  obtain ⟨R, hR⟩ : ∃ R, R = prsP S := ⟨_, rfl⟩
  rw [← hR]
  by_cases h45 : S = [45]
  · obtain rfl : R = ([], 0) := by rw [hR, h45]; rfl
    have heq : sB S = ⟨#[45]⟩ := by rw [h45]; rfl
    rw [heq]
    clear hw hD hR h45 heq
    go_enter Tryz.func16, Tryz.ntmps16
    go_wp2_with fail
    go_ret2
    exact ⟨⟨_, rfl, World.ownsRow_nil _ _ _ _⟩, Below.refl _ _⟩
  · have hne : ¬ ((sB S).toList = [45]) := by
      rw [Lib.toList_data, sB_list]
      exact h45
    have hne2 : ((sB S).toList == [45]) = false := by rw [beq_eq_false_iff_ne]; exact hne
    obtain ⟨i0, hi, hz0, hz1, hz2⟩ := info_parts infoP
    have HI0 := Lib.hid (And.intro hi (And.intro hz0 (And.intro hz1 hz2)))
    obtain ⟨Ls, hLs⟩ : ∃ Ls, Ls = wordsC 32 S := ⟨_, rfl⟩
    have HSP := Lib.hid (fun W (h : Wd W) => splitg_any 32 S W hs h)
    rw [← hLs] at HSP
    have HWL := Lib.hid (show ∀ u ∈ Ls, u.length ≤ 100000 from fun u hu => by have := words_le 32 S u (hLs ▸ hu); omega)
    have HLL := Lib.hid (show Ls.length ≤ 100001 by
      have := wordsG_le 32 S
      rw [hLs]
      omega)
    have HR := Lib.hid (show R = endP S (wdsP [] (Ls.drop 0)) by rw [hR, hLs]; unfold prsP endP; rw [if_neg h45]; rfl)
    clear hw hD hR hi hz0 hz1 hz2 h45 hLs
    go_enter Tryz.func16, Tryz.ntmps16
    go_wp2_with fail
    refine (HSP.out w HW.out).mono ?_
    rintro e w1 ⟨rfl, hw1⟩
    rw [← HD.out]
    have HLH := Lib.hid (show Held w1 D (Ls.map fun x => Value.string (sB x)) by rw [hw1]; exact Held.new HD.out)
    have G1 := Lib.hid (show Below D w w1 by rw [hw1, HD.out]; exact below_one _ _)
    obtain ⟨N, hN⟩ : ∃ N, N = w1.heap.size := ⟨_, rfl⟩
    have HN := Lib.hid hN
    have hDN : D < N := by rw [hN]; exact HLH.out.lt
    have W1 := Lib.hid (HW.out.on (HD.out ▸ G1.out))
    clear hw1 hN HSP
    go_wp2_with fail
    go_loopw [4, 16] (fun ov i wr => ∃ (k : Nat) (uv : Value) (C : List Pc), uv = ov ∧ k ≤ Ls.length ∧ C.length = k ∧ i = .int .i64 k ∧ Hid (wr.ownsRow N 57 5 uv C.length (C.flatMap pcV)) ∧ Hid (Frp C) ∧ Hid (R = endP S (wdsP C (Ls.drop k))) ∧ Hid (Below N w1 wr)) (fun _ i _ => Ls.length - (intOf i).toNat)
    case atStart => exact ⟨0, _, [], rfl, by omega, rfl, rfl, Lib.hid (World.ownsRow_nil _ _ _ _), Lib.hid frp_nil, HR, Lib.hid (Below.refl _ _)⟩
    case round =>
      obtain ⟨k, uv, C, rfl, hk, hck, rfl, HO, HFC, HC, G⟩ := hrel
      have hNw : N ≤ wr.heap.size := by have := G.out.size; have := HN.out; omega
      have hll := HLL.out
      by_cases hlt : k < Ls.length
      · have hlt2 : (k : Int) < (Ls.length : Int) := by omega
        obtain ⟨u, hu⟩ : ∃ u, Ls[k]? = some u := ⟨_, List.getElem?_eq_getElem hlt⟩
        have ck : wr.cell? ⟨D, k, none⟩ = some (.string (sB u)) := by
          rw [(HLH.out.ext (HN.out ▸ G.out)).cell k, List.getElem?_map, hu]
          rfl
        have HU := Lib.hid (HWL.out u (List.mem_of_getElem? hu))
        have hst := HC.out.trans (by rw [wdsP_step hu])
        have HST := Lib.hid hst
        have WR := Lib.hid (W1.out.on (HN.out ▸ G.out))
        have HPP := Lib.hid (fun W (h : Wd W) => piece_any u W HU.out h)
        unfold PieP at HPP
        have HFQ := Lib.hid (fun y (h : pieV u = some y) => pieV_frq h)
        clear hu hst
        go_wp2_with fail
        refine (HPP.out wr WR.out).mono ?_
        rintro e w2 ⟨⟨y, b, rfl, hyb⟩, hb⟩
        have G2 := Lib.hid (G.out.trans (hb.mono hNw))
        have HO2 := Lib.hid (ownsRow_below (B := wr.heap.size) HO.out hb (Nat.le_refl _))
        have hN2 : N ≤ w2.heap.size := by have := G2.out.size; have := HN.out; omega
        have HG2 := Lib.hid (show Below D w w2 from G1.out.trans (G2.out.mono (by omega)))
        have hD2 : D ≤ w2.heap.size := by omega
        clear hb HPP
        rcases hyb with ⟨rfl, hy⟩ | ⟨rfl, hy⟩
        · have HC2 := Lib.hid (show R = endP S (wdsP (C ++ [y]) (Ls.drop (k + 1))) by rw [HST.out, hy])
          have HFY := Lib.hid (frp_snoc HFC.out (HFQ.out y hy))
          have HCK := Lib.hid hck
          have hclb : C.length ≤ 100001 := by omega
          clear hy ck hck
          go_wp2_with (at_builtin; go_loud (refine wpList_append_lies _ rfl _ _ 22 rfl N 57 i0 (.agg #[.int .i64 0, .int .i64 0, .int .i64 0, .int .i64 0, .int .i64 0]) 5 40 Tryz.underlying22 HI0.out.1 HI0.out.2.1 HI0.out.2.2.1 HI0.out.2.2.2 rfl (by decide) _ C.length (C.flatMap pcV) rfl ((HO2.out.alloc _).alloc _) ⟨w2.heap.size + 1, 0, none⟩ 1 1 (pcV y) rfl rfl (CellsAt.all (by simp [CellsAt, go_sem, pcV])) (by simp [Value.oneCell', pcV]) (by omega) (by simp only [maxLen]; omega) (by omega) (by simp; omega) _ rfl ?_))
          intro g' cap' w5 ho hgr hat hlt5
          have G5 := Lib.hid (show Below N w1 w5 from ((G2.out.alloc hN2 _).alloc (by simp; omega) _).grown hgr (by simp; omega) (own_base HO2.out))
          have HO5 := Lib.hid (show w5.ownsRow N 57 5 (.slice (some ⟨g', 0, none⟩) (C.length + 1) cap') (C ++ [y]).length ((C ++ [y]).flatMap pcV) by
            rw [pflat_snoc, List.length_append]
            simpa using ho)
          clear ho hgr hat hlt5
          go_wp2_with fail
          go_roundw
          case rel => exact ⟨k + 1, _, _, rfl, by omega, by have := HCK.out; simp; omega, by go_num, HO5, HFY, HC2, G5⟩
          case measure => simp [intOf]; omega
        · obtain rfl : R = ([], 4) := by rw [HST.out, hy]; rfl
          clear hy ck
          go_wp2_with fail
          go_ret2
          exact ⟨⟨_, rfl, World.ownsRow_nil _ _ _ _⟩, HG2.out.alloc hD2 _⟩
      · obtain rfl : k = Ls.length := by omega
        have hst := HC.out
        rw [List.drop_length] at hst
        have HST := Lib.hid (show R = if (txtP C).2 = 0 ∧ (txtP C).1 = S then (C, 0) else ([], 4) from hst)
        obtain ⟨A4, c4, e4, hr4, _⟩ := own_formP HO.out
        subst e4
        have HR4 := Lib.hid hr4
        have HG := Lib.hid (show Below D w wr from G1.out.trans (G.out.mono (by omega)))
        have hDw : D ≤ wr.heap.size := by omega
        have hcl := Lib.hid (show C.length ≤ 1000000 by omega)
        clear hst hr4 hlt hck hll hk
        go_wp2_with fail
        refine (textp_any A4 c4 C wr HR4.out HFC.out hcl.out (W1.out.on (HN.out ▸ G.out)).tab).mono ?_
        rintro e w5 ⟨rfl, hb⟩
        have G5 := Lib.hid (HG.out.trans (hb.mono hDw))
        have HO5 := Lib.hid (show w5.ownsRow D 57 5 (.slice A4 C.length c4) C.length (C.flatMap pcV) from ownsRow_mono (ownsRow_below (B := wr.heap.size) HO.out hb (Nat.le_refl _)) (by omega))
        clear hb
        by_cases z1 : (txtP C).2 = 0
        · have z2 : ((txtP C).2 == 0) = true := by rw [z1]; rfl
          by_cases z3 : (txtP C).1 = S
          · obtain rfl : R = (C, 0) := by rw [HST.out, if_pos ⟨z1, z3⟩]
            rw [z1, z3]
            have z4 : ((sB S).toList == (sB S).toList) = true := by simp
            clear z1 z2 z3
            go_wp2_with fail
            go_ret2
            exact ⟨⟨_, rfl, HO5.out⟩, G5.out⟩
          · obtain rfl : R = ([], 4) := by rw [HST.out, if_neg (fun h => z3 h.2)]
            have z4 : ((sB (txtP C).1).toList == (sB S).toList) = false := by
              rw [beq_eq_false_iff_ne, Lib.toList_data, Lib.toList_data, sB_list, sB_list]
              exact z3
            rw [z1]
            generalize (txtP C).1 = TT at *
            clear z1 z2 z3
            go_wp2_with fail
            go_ret2
            exact ⟨⟨_, rfl, World.ownsRow_nil _ _ _ _⟩, G5.out⟩
        · obtain rfl : R = ([], 4) := by rw [HST.out, if_neg (fun h => z1 h.1)]
          have z2 : ((txtP C).2 == 0) = false := by simpa using z1
          generalize (txtP C).2 = TE at *
          generalize (txtP C).1 = TT at *
          go_wp2_with fail
          go_ret2
          exact ⟨⟨_, rfl, World.ownsRow_nil _ _ _ _⟩, G5.out⟩
end Go.Proofs.YteojlodcafogaaaGreatDoor
namespace Go.Proofs.YteojlodcafogaaaGreatDoor
open Go.RowKit Go.Joins
set_option linter.unusedVariables false
set_option linter.unusedSimpArgs false
theorem samep_any (A : Option Addr) (c : Nat) (A2 : Option Addr) (c2 : Nat) (L : List Pc) (w : World) (h : PcAt w A L) (h2 : PcAt w A2 L) (hl : L.length ≤ 1000000000) :
    Calls Tryz.prog 17 #[.slice A L.length c, .slice A2 L.length c2] w fun e w' => e = .returned (.bool true) ∧ Below w.heap.size w w' := by
  have H := Lib.hid h
  have H2 := Lib.hid h2
  clear h h2
  go_enter Tryz.func17, Tryz.ntmps17
  go_wp2_with fail
  go_loopw [13] (fun i wr => ∃ k : Nat, k ≤ L.length ∧ i = .int .i64 k ∧ Hid (Below w.heap.size w wr)) (fun i _ => L.length - (intOf i).toNat)
  case atStart => exact ⟨0, by omega, rfl, Lib.hid (Below.refl _ _)⟩
  case round =>
    obtain ⟨k, hk, rfl, G⟩ := hrel
    by_cases hlt : k < L.length
    · have hlt2 : (k : Int) < (L.length : Int) := by omega
      obtain ⟨x, hx⟩ : ∃ x, L[k]? = some x := ⟨_, List.getElem?_eq_getElem hlt⟩
      have HR1 := H.out.ext G.out
      have HR2 := H2.out.ext G.out
      obtain ⟨g, o, rfl⟩ := PcAt.some HR1 hx
      obtain ⟨g2, o2, rfl⟩ := PcAt.some HR2 hx
      obtain ⟨q0, q1, q2, q3, q4⟩ := PcAt.get HR1 hx
      obtain ⟨r0, r1, r2, r3, r4⟩ := PcAt.get HR2 hx
      clear HR1 HR2 hx
      go_wp2_with fail
      go_quiet (fail)
      go_wp2_with fail
      go_roundw
      case rel => exact ⟨k + 1, by omega, by go_num, Lib.hid (below_drewN G.out _)⟩
      case measure => simp [intOf]; omega
    · obtain rfl : k = L.length := by omega
      clear hlt
      go_wp2_with fail
      go_ret
      exact ⟨rfl, G.out⟩
theorem few_any (g : Nat) (N : List Nat) (c : Nat) (w : World) (h : ∀ k n, N[k]? = some n → ∃ A c', w.cell? ⟨g, k, none⟩ = some (.slice A n c')) (hl : N.length ≤ 10) :
    Calls Tryz.prog 13 #[.slice (some ⟨g, 0, none⟩) N.length c] w fun e w' => e = .returned (.bool (N.all fun n => decide (n ≤ 128))) ∧ w' = w := by
  have H := Lib.hid h
  obtain ⟨R, hR⟩ : ∃ R, R = (N.all fun n => decide (n ≤ 128)) := ⟨_, rfl⟩
  have HR := Lib.hid hR
  rw [← hR]
  clear h hR
  go_enter Tryz.func13, Tryz.ntmps13
  go_wp2_with fail
  go_loopw [7] (fun i wr => ∃ k : Nat, k ≤ N.length ∧ i = .int .i64 k ∧ Hid (∀ j n, j < k → N[j]? = some n → n ≤ 128) ∧ wr = w) (fun i _ => N.length - (intOf i).toNat)
  case atStart => exact ⟨0, by omega, rfl, Lib.hid (fun j n hj _ => by omega), rfl⟩
  case round =>
    obtain ⟨k, hk, rfl, HK, rfl⟩ := hrel
    by_cases hlt : k < N.length
    · have hlt2 : (k : Int) < (N.length : Int) := by omega
      obtain ⟨n, hn⟩ : ∃ n, N[k]? = some n := ⟨_, List.getElem?_eq_getElem hlt⟩
      obtain ⟨A, c', q⟩ := H.out k n hn
      have HN := Lib.hid hn
      clear hn
      by_cases h8 : 128 < n
      · have h9 : (128 : Int) < (n : Int) := by omega
        obtain rfl : R = false := by
          rw [HR.out, List.all_eq_false]
          exact ⟨n, List.mem_of_getElem? HN.out, by simpa using h8⟩
        go_wp2_with fail
        go_ret
        exact ⟨rfl, rfl⟩
      · have h9 : ¬ ((128 : Int) < (n : Int)) := by omega
        go_wp2_with fail
        go_roundw
        case rel => exact ⟨k + 1, by omega, by go_num, Lib.hid (fun j m hj hm => by
          by_cases hjk : j < k
          · exact HK.out j m hjk hm
          · obtain rfl : j = k := by omega
            rw [HN.out] at hm
            cases hm
            omega), trivial⟩
        case measure => simp [intOf]; omega
    · obtain rfl : k = N.length := by omega
      obtain rfl : R = true := by
        rw [HR.out, List.all_eq_true]
        intro n hn
        obtain ⟨j, hj, e⟩ := List.mem_iff_getElem.1 hn
        have := HK.out j n hj (by rw [List.getElem?_eq_getElem hj, e])
        simpa using this
      clear hlt
      go_wp2_with fail
      go_ret
      exact ⟨rfl, rfl⟩
theorem memB_step {n : Int} {L : List Spn} {k : Nat} {x : Spn} (hk : L[k]? = some x) : memB n (L.drop k) = (hasB n x || memB n (L.drop (k + 1))) := by
  obtain ⟨h, e⟩ := List.getElem?_eq_some_iff.1 hk
  rw [List.drop_eq_getElem_cons h, e]
  rfl
theorem withinr_any (A : Option Addr) (c : Nat) (L : List Spn) (n : Int) (w : World) (h : SpAt w A L) (hl : L.length ≤ 1000000000) :
    Calls Tryz.prog 57 #[.slice A L.length c, .int .i64 n] w fun e w' => e = .returned (.bool (memB n L)) ∧ Below w.heap.size w w' := by
  have H := Lib.hid h
  obtain ⟨R, hR⟩ : ∃ R, R = memB n L := ⟨_, rfl⟩
  have HR := Lib.hid (show R = memB n (L.drop 0) from hR)
  rw [← hR]
  obtain ⟨D, hD⟩ : ∃ D, D = w.heap.size := ⟨_, rfl⟩
  have HD := Lib.hid hD
  rw [← hD]
  clear h hR hD
  go_enter Tryz.func57, Tryz.ntmps57
  go_wp2_with fail
  go_loopw [9] (fun i wr => ∃ k : Nat, k ≤ L.length ∧ i = .int .i64 k ∧ Hid (R = memB n (L.drop k)) ∧ Hid (Below D w wr)) (fun i _ => L.length - (intOf i).toNat)
  case atStart => exact ⟨0, by omega, rfl, HR, Lib.hid (Below.refl _ _)⟩
  case round =>
    obtain ⟨k, hk, rfl, HK, G⟩ := hrel
    have hDw : D ≤ wr.heap.size := by have := G.out.size; have := HD.out; omega
    by_cases hlt : k < L.length
    · have hlt2 : (k : Int) < (L.length : Int) := by omega
      obtain ⟨x, hx⟩ : ∃ x, L[k]? = some x := ⟨_, List.getElem?_eq_getElem hlt⟩
      have HRw := H.out.ext (HD.out ▸ G.out)
      obtain ⟨g, o, rfl⟩ := SpAt.some HRw hx
      obtain ⟨q0, q1⟩ := SpAt.get HRw hx
      have hst := HK.out.trans (memB_step hx)
      clear HRw hx
      by_cases h1 : n < x.i
      · rw [show hasB n x = false by unfold hasB; simp; omega, Bool.false_or] at hst
        have HST := Lib.hid hst
        clear hst
        go_wp2_with fail
        go_roundw
        case rel => exact ⟨k + 1, by omega, by go_num, HST, Lib.hid (G.out.alloc hDw _)⟩
        case measure => simp [intOf]; omega
      · by_cases h2 : x.o ≤ n
        · rw [show hasB n x = false by unfold hasB; simp; omega, Bool.false_or] at hst
          have HST := Lib.hid hst
          clear hst
          go_wp2_with fail
          go_roundw
          case rel => exact ⟨k + 1, by omega, by go_num, HST, Lib.hid (G.out.alloc hDw _)⟩
          case measure => simp [intOf]; omega
        · rw [show hasB n x = true by unfold hasB; simp; omega, Bool.true_or] at hst
          subst hst
          go_wp2_with fail
          go_ret
          exact ⟨rfl, G.out.alloc hDw _⟩
    · obtain rfl : k = L.length := by omega
      obtain rfl : R = false := by rw [HK.out, List.drop_length]; rfl
      clear hlt HK
      go_wp2_with fail
      go_ret
      exact ⟨rfl, G.out⟩
theorem within6_any (A : Option Addr) (c : Nat) (L : List Spn) (n : Int) (w : World) (h : SpAt w A L) (hl : L.length ≤ 1000000000) :
    Calls Tryz.prog 32 #[.slice A L.length c, .int .i64 n] w fun e w' => e = .returned (.bool (memB n L)) ∧ Below w.heap.size w w' := by
  have HC := Lib.hid (withinr_any A c L n w h hl)
  obtain ⟨D, hD⟩ : ∃ D, D = w.heap.size := ⟨_, rfl⟩
  rw [← hD] at HC ⊢
  generalize memB n L = R at *
  clear h hD
  go_enter Tryz.func32, Tryz.ntmps32
  go_wp2_with fail
  refine HC.out.mono ?_
  rintro e w1 ⟨rfl, hb⟩
  have G1 := Lib.hid hb
  clear hb HC
  go_wp2_with fail
  go_ret
  exact ⟨rfl, G1.out⟩
def awS : List UInt8 := [48, 45, 49, 48, 62, 49, 48, 48, 42, 49, 47, 49, 32, 49, 48, 45, 50, 48, 62, 50, 48, 48, 42, 49, 47, 50]
def awP : List Pc := [⟨0, 10, 100, 1, 1⟩, ⟨10, 20, 200, 1, 2⟩]
theorem pw1 : txtP awP = (awS, 0) := by kernel_rfl
theorem pw2 : atP awP 13 = (201, true) := by kernel_rfl
theorem pw3 : atP awP 20 = (0, false) := by kernel_rfl
theorem pw4 : preP awP ⟨200, 202⟩ = ([⟨10, 14⟩], 0) := by kernel_rfl
theorem pw5 : Frp awP := by
  intro x hx
  simp [awP] at hx
  rcases hx with rfl | rfl
  · exact ⟨by decide, by decide⟩
  · exact ⟨by decide, by decide⟩
set_option maxRecDepth 100000 in
set_option maxHeartbeats 1000000 in
theorem awake6_any (w : World) (ht : Wd w) : Calls Tryz.prog 12 #[] w fun e w' => e = .returned (.bool true) ∧ Below w.heap.size w w' := by
  obtain ⟨B, hB⟩ : ∃ B, B = w.heap.size := ⟨_, rfl⟩
  have HB := Lib.hid hB
  have HP := Lib.hid (parsep_any awS w (by decide) ht)
  rw [prsP_hit pw1] at HP
  unfold RetM at HP
  rw [← hB] at HP ⊢
  clear hB ht
  go_enter Tryz.func12, Tryz.ntmps12
  go_wp2_with fail
  refine (show Calls Tryz.prog 16 #[.string ⟨#[48, 45, 49, 48, 62, 49, 48, 48, 42, 49, 47, 49, 32, 49, 48, 45, 50, 48, 62, 50, 48, 48, 42, 49, 47, 50]⟩] w _ from HP.out).mono ?_
  rintro e w1 ⟨⟨v, rfl, ho⟩, hb⟩
  dsimp only at ho ⊢
  obtain ⟨A1, c1, e1, hr1, _⟩ := own_formP ho
  subst e1
  have G1 := Lib.hid hb
  have H1 := Lib.hid hr1
  have hs1 : B ≤ w1.heap.size := by have := hb.size; have := HB.out; omega
  clear ho hb hr1 HP
  go_wp2_with fail
  refine (at_any A1 c1 awP 13 w1 H1.out pw5 (by decide)).mono ?_
  rintro e w2 ⟨rfl, hb⟩
  rw [pw2]
  have G2 := Lib.hid (G1.out.trans (hb.mono hs1))
  have H2 := Lib.hid (H1.out.ext hb)
  have hs2 : B ≤ w2.heap.size := by have := hb.size; omega
  clear hb G1 H1 hs1
  go_wp2_with fail
  refine (at_any A1 c1 awP 20 w2 H2.out pw5 (by decide)).mono ?_
  rintro e w3 ⟨rfl, hb⟩
  rw [pw3]
  have G3 := Lib.hid (G2.out.trans (hb.mono hs2))
  have H3 := Lib.hid (H2.out.ext hb)
  have hs3 : B ≤ w3.heap.size := by have := hb.size; omega
  clear hb G2 H2 hs2
  go_wp2_with fail
  have HQ := Lib.hid (pre_any A1 c1 awP ⟨200, 202⟩ w3 H3.out pw5 (by decide))
  unfold RetP at HQ
  rw [pw4] at HQ
  refine HQ.out.mono ?_
  rintro e w4 ⟨⟨v, rfl, ho⟩, hb⟩
  dsimp only at ho ⊢
  have G4 := Lib.hid (G3.out.trans (hb.mono hs3))
  obtain ⟨g, cap, rfl⟩ := ownsRow_succ (k := 0) ho
  obtain ⟨A5, c5, e5, hr5, _⟩ := own_form (L := [⟨10, 14⟩]) ho
  cases e5
  obtain ⟨y0, y1⟩ := SpAt.get hr5 (k := 0) (x := ⟨10, 14⟩) rfl
  simp only [Nat.zero_mul, Nat.add_zero, Nat.zero_add] at y0 y1
  clear ho hb hr5 HQ G3 H3 hs3
  go_wp2_with fail
  go_ret
  exact ⟨rfl, G4.out⟩
end Go.Proofs.YteojlodcafogaaaGreatDoor
