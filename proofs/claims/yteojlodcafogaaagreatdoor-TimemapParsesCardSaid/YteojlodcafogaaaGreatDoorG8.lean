/-
  The contracts of piece and Parse in the reference. Their conditions are their hypotheses.
-/
import Derived.Test.YteojlodcafogaaaGreatDoorG7
import Derived.Test.YteojlodcafogaaaGreatDoorBk
import Derived.Test.YteojlodcafogaaaGreatDoorBc
namespace Go.Proofs.YteojlodcafogaaaGreatDoor
open Go.RowKit Go.Joins
set_option linter.unusedVariables false
set_option linter.unusedSimpArgs false
/-- What piece gives. -/
def pieR (u : List UInt8) : Pc × Bool :=
  (⟨(pairR (cutC 62 u).1).1.i, (pairR (cutC 62 u).1).1.o, (numRV (cutC 42 (cutC 62 u).2).1).1, (Q.parseRV (cutC 42 (cutC 62 u).2).2).1.1, (Q.parseRV (cutC 42 (cutC 62 u).2).2).1.2⟩,
   decide (62 ∈ u) && decide (42 ∈ (cutC 62 u).2) && (pairR (cutC 62 u).1).2 && (numRV (cutC 42 (cutC 62 u).2).1).2 && ((Q.parseRV (cutC 42 (cutC 62 u).2).2).2 == 0))
theorem pieR_wd {p : Pc} (h : sglP p = 0) : pieR (wdP p) = (p, true) := by
  obtain ⟨a1, a2, a3, a4, a5, a6, a7, _⟩ := sgl_bd h
  have h1 : (62 : UInt8) ∈ wdP p := by unfold wdP; simp
  have h2 : (42 : UInt8) ∈ wdB p := by unfold wdB; simp
  have h3 : pairR (wdA p) = (⟨p.i, p.o⟩, true) := pairR_wdS (x := ⟨p.i, p.o⟩) a1 (by show p.i ≤ _; omega) a3 (by show p.o ≤ _; omega)
  unfold pieR
  rw [wdP_cut h]
  simp only []
  rw [wdB_cut h]
  simp only []
  rw [h3, numRV_itoa (by omega) (by omega), Q.parse_hit rfl (txt_ne a7)]
  simp [h1, h2]
theorem pieR_frq (u : List UInt8) : Frq (pieR u).1 := by
  have := par_bd (cutC 42 (cutC 62 u).2).2
  exact ⟨⟨Int.le_trans (by decide) this.1.1, Int.le_trans this.1.2 (by decide)⟩, Int.le_trans (by decide) this.2.1, Int.le_trans this.2.2 (by decide)⟩
theorem hit_stepP {S : List UInt8} {C : List Pc} {k : Nat} {u : List UInt8} {x : Pc} {b : Bool} (h45 : S ≠ [45]) (hC : ∀ L, txtP L = (S, 0) → C = L.take k) (hu : (wordsC 32 S)[k]? = some u) (hp : pieR u = (x, b)) :
    (b = true → ∀ L, txtP L = (S, 0) → C ++ [x] = L.take (k + 1)) ∧ (b = false → ∀ L, txtP L ≠ (S, 0)) := by
  have key : ∀ L, txtP L = (S, 0) → ∃ y, L[k]? = some y ∧ pieR u = (y, true) := by
    intro L hL
    obtain ⟨h1, h2, h3, hw⟩ := txt_some h45 hL
    rw [hw, List.getElem?_map] at hu
    cases hk : L[k]? with
    | none => rw [hk] at hu; cases hu
    | some y =>
      rw [hk] at hu
      have e : wdP y = u := Option.some.inj hu
      exact ⟨y, rfl, by rw [← e]; exact pieR_wd (h1 y (List.mem_of_getElem? hk))⟩
  refine ⟨?_, ?_⟩
  · rintro rfl L hL
    obtain ⟨y, hy, hq⟩ := key L hL
    obtain rfl : x = y := (Prod.mk.inj (hp.symm.trans hq)).1
    rw [List.take_add_one, hy, hC L hL]
    rfl
  · rintro rfl L hL
    obtain ⟨y, hy, hq⟩ := key L hL
    exact absurd (Prod.mk.inj (hp.symm.trans hq)).2 (by decide)
theorem hit_endP {S : List UInt8} {C : List Pc} {k : Nat} (h45 : S ≠ [45]) (hC : ∀ L, txtP L = (S, 0) → C = L.take k) (hk : k = (wordsC 32 S).length ∨ 64 < k) (hCk : C.length = k) (h : txtP C ≠ (S, 0)) : prsP S = ([], 4) := by
  refine prsP_miss h45 fun L hL => ?_
  have e := hC L hL
  obtain ⟨h1, h2, h3, hw⟩ := txt_some h45 hL
  have hwl := congrArg List.length hw
  rw [List.length_map] at hwl
  have : C = L := by rw [e]; exact List.take_of_length_le (by
    have := congrArg List.length e
    rw [List.length_take] at this
    omega)
  exact h (this ▸ hL)
set_option maxRecDepth 100000 in
set_option maxHeartbeats 4000000 in
theorem piecer_any (u : List UInt8) (w : World) (hs : u.length ≤ 100000) :
    Calls Tryz.prog 45 #[.string (sB u)] w fun e w' => e = .returned (.tuple #[pcA (pieR u).1, .bool (pieR u).2]) ∧ Below w.heap.size w w' := by
  obtain ⟨R, hR⟩ : ∃ R, R = pieR u := ⟨_, rfl⟩
  rw [← hR]
  unfold pieR at hR
  obtain ⟨l1, l2⟩ := cutC_len 62 u
  obtain ⟨l5, l6⟩ := cutC_len 42 (cutC 62 u).2
  have HU1 := Lib.hid (fun W => cutr_any u 62 W hs)
  obtain ⟨dm, hdm⟩ : ∃ a, a = (cutC 62 u).1 := ⟨_, rfl⟩
  obtain ⟨rs, hrs⟩ : ∃ a, a = (cutC 62 u).2 := ⟨_, rfl⟩
  rw [← hdm] at HU1 hR l1
  rw [← hrs] at HU1 hR l2 l5 l6
  have HU2 := Lib.hid (fun W => cutr_any rs 42 W (by omega))
  obtain ⟨uc, huc⟩ : ∃ a, a = (cutC 42 rs).1 := ⟨_, rfl⟩
  obtain ⟨ur, hur⟩ : ∃ a, a = (cutC 42 rs).2 := ⟨_, rfl⟩
  rw [← huc] at HU2 hR l5
  rw [← hur] at HU2 hR l6
  have HPA := Lib.hid (fun W => pair_any dm W (by omega))
  have HNB := Lib.hid (fun W : World => number_any (sB uc) W (by rw [sB_size]; omega))
  rw [sB_list] at HNB
  have HPR := Lib.hid (fun W => Q.parser_any (sB ur) W (by rw [sB_size]; omega))
  rw [sB_list] at HPR
  obtain ⟨⟨⟨a, b⟩, k1⟩, hpa⟩ : ∃ p, p = pairR dm := ⟨_, rfl⟩
  obtain ⟨⟨c, k2⟩, hpb⟩ : ∃ p, p = numRV uc := ⟨_, rfl⟩
  have HPT := par_two ur
  obtain ⟨⟨⟨n, d⟩, er⟩, hpr⟩ : ∃ p, p = Q.parseRV ur := ⟨_, rfl⟩
  obtain ⟨m1, hm1⟩ : ∃ m, m = decide (62 ∈ u) := ⟨_, rfl⟩
  obtain ⟨m2, hm2⟩ : ∃ m, m = decide (42 ∈ rs) := ⟨_, rfl⟩
  rw [← hm1] at HU1 hR
  rw [← hm2] at HU2 hR
  rw [← hpa] at HPA hR
  rw [← hpb] at HNB hR
  rw [← hpr] at HPR HPT hR
  dsimp only at HPT
  have HR := Lib.hid hR
  clear hR
  obtain ⟨D, hD⟩ : ∃ D, D = w.heap.size := ⟨_, rfl⟩
  have HD := Lib.hid hD
  rw [← hD]
  clear hD l1 l2 l5 l6 hdm hrs huc hur hpa hpb hpr hm1 hm2
  go_enter Tryz.func45, Tryz.ntmps45
  go_wp2_with fail
  rw [← HD.out]
  generalize hw1 : World.alloc w _ = w1
  have FD := Lib.hid (show Held w1 D [.int .i64 0, .int .i64 0, .int .i64 0, .int .i64 0, .int .i64 0] by subst hw1; exact Held.new HD.out)
  have G := Lib.hid (show Below D w w1 by subst hw1; rw [HD.out]; exact below_one _ _)
  have hs : D ≤ w1.heap.size := Nat.le_of_lt FD.out.lt
  clear hw1
  refine (HU1.out w1).mono ?_
  rintro e w2 ⟨rfl, hb⟩
  have FD := Lib.hid (FD.out.ext hb)
  have G := Lib.hid (G.out.trans (hb.mono hs))
  have hs : D ≤ w2.heap.size := Nat.le_of_lt FD.out.lt
  clear hb HU1
  go_wp2_with fail
  refine (HU2.out w2).mono ?_
  rintro e w3 ⟨rfl, hb⟩
  have FD := Lib.hid (FD.out.ext hb)
  have G := Lib.hid (G.out.trans (hb.mono hs))
  have hs : D ≤ w3.heap.size := Nat.le_of_lt FD.out.lt
  clear hb HU2
  go_wp2_with fail
  refine (HPA.out w3).mono ?_
  rintro e w4 ⟨rfl, hb⟩
  have FD := Lib.hid (FD.out.ext hb)
  have G := Lib.hid (G.out.trans (hb.mono hs))
  have hs : D ≤ w4.heap.size := Nat.le_of_lt FD.out.lt
  clear hb HPA
  go_wp2_with fail
  obtain ⟨S1, hS1⟩ : ∃ S1, S1 = w4.heap.size := ⟨_, rfl⟩
  rw [← hS1]
  generalize hw5 : World.alloc w4 _ = w5
  have F1 := Lib.hid (show Held w5 S1 [.int .i64 a, .int .i64 b] by subst hw5; exact Held.new hS1)
  have FD := Lib.hid (show Held w5 D _ by subst hw5; exact FD.out.alloc _)
  have G := Lib.hid (show Below D w w5 by subst hw5; exact G.out.alloc hs _)
  have hs : D ≤ w5.heap.size := Nat.le_of_lt FD.out.lt
  clear hw5 hS1
  refine (HNB.out w5).mono ?_
  rintro e w6 ⟨rfl, _, hb⟩
  have FD := Lib.hid (FD.out.ext hb)
  have F1 := Lib.hid (F1.out.ext hb)
  have G := Lib.hid (G.out.trans (hb.mono hs))
  have hs : D ≤ w6.heap.size := Nat.le_of_lt FD.out.lt
  clear hb HNB
  go_wp2_with fail
  refine (HPR.out w6).mono ?_
  rintro e w7 ⟨rfl, hb⟩
  have FD := Lib.hid (FD.out.ext hb)
  have F1 := Lib.hid (F1.out.ext hb)
  have G := Lib.hid (G.out.trans (hb.mono hs))
  have hs : D ≤ w7.heap.size := Nat.le_of_lt FD.out.lt
  clear hb HPR
  have FD := Lib.hid (FD.out.alloc (.cells #[.int .i64 n, .int .i64 d] 55))
  have F1 := Lib.hid (F1.out.alloc (.cells #[.int .i64 n, .int .i64 d] 55))
  have G8 := Lib.hid (G.out.alloc hs (.cells #[.int .i64 n, .int .i64 d] 55))
  obtain ⟨f0, f1⟩ := two_of F1.out
  obtain ⟨d0, d1, d2, d3, d4⟩ := five_of FD.out
  have e0 := FD.out.free 0
  have e1 := FD.out.free 1
  have e2 := FD.out.free 2
  have e3 := FD.out.free 3
  have e4 := FD.out.free 4
  have HPT := Lib.hid HPT
  cases m1 with
  | false =>
    go_wp2_with fail
    have r := Lib.hid (((((FD.out.set 0 (.int .i64 a)).set 1 (.int .i64 b)).set 2 (.int .i64 c)).set 3 (.int .i64 n)).set 4 (.int .i64 d))
    have rb := Lib.hid (((((G8.out.setCell (p := ⟨D, 0, none⟩) (Nat.le_refl _) (.int .i64 a)).setCell (p := ⟨D, 1, none⟩) (Nat.le_refl _) (.int .i64 b)).setCell (p := ⟨D, 2, none⟩) (Nat.le_refl _) (.int .i64 c)).setCell (p := ⟨D, 3, none⟩) (Nat.le_refl _) (.int .i64 n)).setCell (p := ⟨D, 4, none⟩) (Nat.le_refl _) (.int .i64 d))
    generalize World.setCell _ _ _ = w9 at *
    obtain ⟨r0, r1, r2, r3, r4⟩ := five_of (show Held w9 D [.int .i64 a, .int .i64 b, .int .i64 c, .int .i64 n, .int .i64 d] from r.out)
    refine bodyPost_ret (by simp [results, Tryz.results45, r0, r1, r2, r3, r4, go_sem]; try rfl) rfl ?_
    exact ⟨by rw [HR.out]; rfl, rb.out⟩
  | true =>
    cases m2 with
    | false =>
      go_wp2_with fail
      have r := Lib.hid (((((FD.out.set 0 (.int .i64 a)).set 1 (.int .i64 b)).set 2 (.int .i64 c)).set 3 (.int .i64 n)).set 4 (.int .i64 d))
      have rb := Lib.hid (((((G8.out.setCell (p := ⟨D, 0, none⟩) (Nat.le_refl _) (.int .i64 a)).setCell (p := ⟨D, 1, none⟩) (Nat.le_refl _) (.int .i64 b)).setCell (p := ⟨D, 2, none⟩) (Nat.le_refl _) (.int .i64 c)).setCell (p := ⟨D, 3, none⟩) (Nat.le_refl _) (.int .i64 n)).setCell (p := ⟨D, 4, none⟩) (Nat.le_refl _) (.int .i64 d))
      generalize World.setCell _ _ _ = w9 at *
      obtain ⟨r0, r1, r2, r3, r4⟩ := five_of (show Held w9 D [.int .i64 a, .int .i64 b, .int .i64 c, .int .i64 n, .int .i64 d] from r.out)
      refine bodyPost_ret (by simp [results, Tryz.results45, r0, r1, r2, r3, r4, go_sem]; try rfl) rfl ?_
      exact ⟨by rw [HR.out]; rfl, rb.out⟩
    | true =>
      cases k1 with
      | false =>
        go_wp2_with fail
        have r := Lib.hid (((((FD.out.set 0 (.int .i64 a)).set 1 (.int .i64 b)).set 2 (.int .i64 c)).set 3 (.int .i64 n)).set 4 (.int .i64 d))
        have rb := Lib.hid (((((G8.out.setCell (p := ⟨D, 0, none⟩) (Nat.le_refl _) (.int .i64 a)).setCell (p := ⟨D, 1, none⟩) (Nat.le_refl _) (.int .i64 b)).setCell (p := ⟨D, 2, none⟩) (Nat.le_refl _) (.int .i64 c)).setCell (p := ⟨D, 3, none⟩) (Nat.le_refl _) (.int .i64 n)).setCell (p := ⟨D, 4, none⟩) (Nat.le_refl _) (.int .i64 d))
        generalize World.setCell _ _ _ = w9 at *
        obtain ⟨r0, r1, r2, r3, r4⟩ := five_of (show Held w9 D [.int .i64 a, .int .i64 b, .int .i64 c, .int .i64 n, .int .i64 d] from r.out)
        refine bodyPost_ret (by simp [results, Tryz.results45, r0, r1, r2, r3, r4, go_sem]; try rfl) rfl ?_
        exact ⟨by rw [HR.out]; rfl, rb.out⟩
      | true =>
        cases k2 with
        | false =>
          go_wp2_with fail
          have r := Lib.hid (((((FD.out.set 0 (.int .i64 a)).set 1 (.int .i64 b)).set 2 (.int .i64 c)).set 3 (.int .i64 n)).set 4 (.int .i64 d))
          have rb := Lib.hid (((((G8.out.setCell (p := ⟨D, 0, none⟩) (Nat.le_refl _) (.int .i64 a)).setCell (p := ⟨D, 1, none⟩) (Nat.le_refl _) (.int .i64 b)).setCell (p := ⟨D, 2, none⟩) (Nat.le_refl _) (.int .i64 c)).setCell (p := ⟨D, 3, none⟩) (Nat.le_refl _) (.int .i64 n)).setCell (p := ⟨D, 4, none⟩) (Nat.le_refl _) (.int .i64 d))
          generalize World.setCell _ _ _ = w9 at *
          obtain ⟨r0, r1, r2, r3, r4⟩ := five_of (show Held w9 D [.int .i64 a, .int .i64 b, .int .i64 c, .int .i64 n, .int .i64 d] from r.out)
          refine bodyPost_ret (by simp [results, Tryz.results45, r0, r1, r2, r3, r4, go_sem]; try rfl) rfl ?_
          exact ⟨by rw [HR.out]; rfl, rb.out⟩
        | true =>
          rcases HPT.out with rfl | rfl
          · go_wp2_with fail
            have r := Lib.hid (((((FD.out.set 0 (.int .i64 a)).set 1 (.int .i64 b)).set 2 (.int .i64 c)).set 3 (.int .i64 n)).set 4 (.int .i64 d))
            have rb := Lib.hid (((((G8.out.setCell (p := ⟨D, 0, none⟩) (Nat.le_refl _) (.int .i64 a)).setCell (p := ⟨D, 1, none⟩) (Nat.le_refl _) (.int .i64 b)).setCell (p := ⟨D, 2, none⟩) (Nat.le_refl _) (.int .i64 c)).setCell (p := ⟨D, 3, none⟩) (Nat.le_refl _) (.int .i64 n)).setCell (p := ⟨D, 4, none⟩) (Nat.le_refl _) (.int .i64 d))
            generalize World.setCell _ _ _ = w9 at *
            obtain ⟨r0, r1, r2, r3, r4⟩ := five_of (show Held w9 D [.int .i64 a, .int .i64 b, .int .i64 c, .int .i64 n, .int .i64 d] from r.out)
            refine bodyPost_ret (by simp [results, Tryz.results45, r0, r1, r2, r3, r4, go_sem]; try rfl) rfl ?_
            exact ⟨by rw [HR.out]; rfl, rb.out⟩
          · go_wp2_with fail
            have r := Lib.hid (((((FD.out.set 0 (.int .i64 a)).set 1 (.int .i64 b)).set 2 (.int .i64 c)).set 3 (.int .i64 n)).set 4 (.int .i64 d))
            have rb := Lib.hid (((((G8.out.setCell (p := ⟨D, 0, none⟩) (Nat.le_refl _) (.int .i64 a)).setCell (p := ⟨D, 1, none⟩) (Nat.le_refl _) (.int .i64 b)).setCell (p := ⟨D, 2, none⟩) (Nat.le_refl _) (.int .i64 c)).setCell (p := ⟨D, 3, none⟩) (Nat.le_refl _) (.int .i64 n)).setCell (p := ⟨D, 4, none⟩) (Nat.le_refl _) (.int .i64 d))
            generalize World.setCell _ _ _ = w9 at *
            obtain ⟨r0, r1, r2, r3, r4⟩ := five_of (show Held w9 D [.int .i64 a, .int .i64 b, .int .i64 c, .int .i64 n, .int .i64 d] from r.out)
            refine bodyPost_ret (by simp [results, Tryz.results45, r0, r1, r2, r3, r4, go_sem]; try rfl) rfl ?_
            exact ⟨by rw [HR.out]; rfl, rb.out⟩
def lenV : Value → Nat
  | .slice _ n _ => n
  | _ => 0
set_option maxRecDepth 100000 in
set_option maxHeartbeats 4000000 in
theorem parsepr_any (S : List UInt8) (w : World) (hs : S.length ≤ 100000) :
    Calls Tryz.prog 18 #[.string (sB S)] w (RetM (prsP S) w) := by
  obtain ⟨D, hD⟩ : ∃ D, D = w.heap.size := ⟨_, rfl⟩
  have HD := Lib.hid hD
  unfold RetM
  rw [← hD]
  obtain ⟨R, hR⟩ : ∃ R, R = prsP S := ⟨_, rfl⟩
  rw [← hR]
  by_cases h45 : S = [45]
  · obtain rfl : R = ([], 0) := by rw [hR, h45]; rfl
    have heq : sB S = ⟨#[45]⟩ := by rw [h45]; rfl
    rw [heq]
    clear hD hR h45 heq
    go_enter Tryz.func18, Tryz.ntmps18
    go_wp2_with fail
    go_ret2
    exact ⟨⟨_, rfl, World.ownsRow_nil _ _ _ _⟩, Below.refl _ _⟩
  · have hne : ¬ ((sB S).toList = [45]) := by
      rw [Lib.toList_data, sB_list]
      exact h45
    have hne2 : ((sB S).toList == [45]) = false := by rw [beq_eq_false_iff_ne]; exact hne
    obtain ⟨i0, hi, hz0, hz1, hz2⟩ := info_parts infoP
    have HI0 := Lib.hid (And.intro hi (And.intro hz0 (And.intro hz1 hz2)))
    have HR := Lib.hid hR
    have H45 := Lib.hid h45
    have HS := Lib.hid hs
    clear hR hi hz0 hz1 hz2 h45 hs hD
    go_enter Tryz.func18, Tryz.ntmps18
    go_wp2_with fail
    go_loopw [5, 6, 4] (fun rv mv lv wr => ∃ (k : Nat) (r : List UInt8) (m : Bool) (A : Option Addr) (c : Nat) (C : List Pc), rv = .string (sB r) ∧ mv = .bool m ∧ lv = .slice A k c ∧ k ≤ 65 ∧ Hid (C.length = k) ∧ Hid (Frp C) ∧ Hid (r.length ≤ 100000) ∧ Hid (m = true → wordsC 32 r = (wordsC 32 S).drop k) ∧ Hid (m = false → k = (wordsC 32 S).length) ∧ Hid (∀ L, txtP L = (S, 0) → C = L.take k) ∧ Hid (wr.ownsRow D 57 5 (.slice A k c) C.length (C.flatMap pcV)) ∧ Hid (Below D w wr)) (fun _ _ lv _ => 65 - lenV lv)
    case atStart => exact ⟨0, S, true, none, 0, [], rfl, rfl, rfl, by omega, Lib.hid rfl, Lib.hid frp_nil, HS, Lib.hid (fun _ => rfl), Lib.hid (fun h => by cases h), Lib.hid (fun _ _ => rfl), Lib.hid (World.ownsRow_nil _ _ _ _), Lib.hid (Below.refl _ _)⟩
    case round =>
      obtain ⟨k, r, m, A, c, C, rfl, rfl, rfl, hk, HCL, HFC, HRL, HM1, HM0, HH, HO, G⟩ := hrel
      have hs : D ≤ wr.heap.size := by have := G.out.size; have := HD.out; omega
      by_cases hgo : m = true ∧ k ≤ 64
      · obtain ⟨rfl, hk4⟩ := hgo
        have hk4' : (k : Int) ≤ 64 := by omega
        have HW := Lib.hid (HM1.out rfl)
        have HWC := Lib.hid (words_cut 32 r)
        have HCUT := Lib.hid (fun W : World => cutr_any r 32 W HRL.out)
        obtain ⟨l1, l2⟩ := cutC_len 32 r
        obtain ⟨u, hu⟩ : ∃ u, u = (cutC 32 r).1 := ⟨_, rfl⟩
        obtain ⟨v, hv⟩ : ∃ v, v = (cutC 32 r).2 := ⟨_, rfl⟩
        obtain ⟨q, hq⟩ : ∃ q, q = decide (32 ∈ r) := ⟨_, rfl⟩
        rw [← hu, ← hv] at HWC HCUT
        rw [← hu] at l1
        rw [← hv] at l2
        rw [← hq] at HCUT
        have HUL := Lib.hid (show u.length ≤ 100000 by have := HRL.out; omega)
        have HVL := Lib.hid (show v.length ≤ 100000 by have := HRL.out; omega)
        have HUK := Lib.hid (show (wordsC 32 S)[k]? = some u by
          have e := HW.out.symm.trans HWC.out
          have := congrArg (fun l => l[0]?) e
          simpa using this)
        have HQ1 := Lib.hid (show q = true → wordsC 32 v = (wordsC 32 S).drop (k + 1) from fun h => by
          have e := HW.out.symm.trans HWC.out
          rw [hq] at h
          rw [if_pos (of_decide_eq_true h)] at e
          have := congrArg (List.drop 1) e
          rw [List.drop_drop] at this
          rw [show k + 1 = k + 1 from rfl, this]
          rfl)
        have HQ0 := Lib.hid (show q = false → k + 1 = (wordsC 32 S).length from fun h => by
          have e := HW.out.symm.trans HWC.out
          rw [hq] at h
          rw [if_neg (of_decide_eq_false h)] at e
          have := congrArg List.length e
          rw [List.length_drop] at this
          simp only [List.length_cons, List.length_nil] at this
          omega)
        clear hu hv hq l1 l2 HM1 HM0
        go_wp2_with fail
        refine (HCUT.out wr).mono ?_
        rintro e w2 ⟨rfl, hb⟩
        have G2 := Lib.hid (G.out.trans (hb.mono hs))
        have HO2 := Lib.hid (ownsRow_below (B := wr.heap.size) HO.out hb (Nat.le_refl _))
        have hs2 : D ≤ w2.heap.size := by have := G2.out.size; have := HD.out; omega
        clear hb HCUT
        obtain ⟨⟨x, b⟩, hp⟩ : ∃ p, p = pieR u := ⟨_, rfl⟩
        have HP := Lib.hid (fun W : World => piecer_any u W HUL.out)
        rw [← hp] at HP
        have HST := Lib.hid (hit_stepP H45.out HH.out HUK.out hp.symm)
        have HFX := Lib.hid (show Frq x from by have := pieR_frq u; rw [← hp] at this; exact this)
        clear hp
        go_wp2_with fail
        refine (HP.out w2).mono ?_
        rintro e w3 ⟨rfl, hb⟩
        have G3 := Lib.hid (G2.out.trans (hb.mono hs2))
        have HO3 := Lib.hid (ownsRow_below (B := w2.heap.size) HO2.out hb (Nat.le_refl _))
        have hs3 : D ≤ w3.heap.size := by have := G3.out.size; have := HD.out; omega
        clear hb HP
        cases b with
        | false =>
          obtain rfl : R = ([], 4) := by rw [HR.out]; exact prsP_miss H45.out (HST.out.2 rfl)
          go_wp2_with fail
          go_ret2
          exact ⟨⟨_, rfl, World.ownsRow_nil _ _ _ _⟩, G3.out.alloc hs3 _⟩
        | true =>
          have HH2 := Lib.hid (HST.out.1 rfl)
          have HO4 := Lib.hid ((HO3.out.alloc (.cells #[.int .i64 x.i, .int .i64 x.o, .int .i64 x.t, .int .i64 x.n, .int .i64 x.d] 57)).alloc (.cells #[.int .i64 x.i, .int .i64 x.o, .int .i64 x.t, .int .i64 x.n, .int .i64 x.d] 57))
          have hcl := HCL.out
          go_wp2_with (at_builtin; go_loud (refine wpList_append_lies _ rfl _ _ 22 rfl D 57 i0 (.agg #[.int .i64 0, .int .i64 0, .int .i64 0, .int .i64 0, .int .i64 0]) 5 40 Tryz.underlying22 HI0.out.1 HI0.out.2.1 HI0.out.2.2.1 HI0.out.2.2.2 rfl (by decide) _ C.length (C.flatMap pcV) rfl HO4.out ⟨w3.heap.size + 1, 0, none⟩ 1 1 (pcV x) rfl rfl (CellsAt.all (by simp [CellsAt, go_sem, pcV])) (by simp [Value.oneCell', pcV]) (by omega) (by simp only [maxLen]; omega) (by omega) (by simp; omega) _ rfl ?_))
          intro g' cap' w5 ho hgr hat hlt5
          have G5 := Lib.hid (show Below D w w5 from ((G3.out.alloc hs3 _).alloc (by simp; omega) _).grown hgr (by simp; omega) (own_base HO4.out))
          have HO5 := Lib.hid (show w5.ownsRow D 57 5 (.slice (some ⟨g', 0, none⟩) (k + 1) cap') (C ++ [x]).length ((C ++ [x]).flatMap pcV) by
            rw [pflat_snoc, List.length_append, HCL.out]
            simpa using ho)
          clear ho hgr hat hlt5
          go_wp2_with fail
          go_roundw
          case rel => exact ⟨k + 1, v, q, _, _, C ++ [x], rfl, rfl, rfl, by omega, Lib.hid (by have := HCL.out; simp; omega), Lib.hid (frp_snoc HFC.out HFX.out), HVL, HQ1, HQ0, HH2, HO5, G5⟩
          case measure => simp [lenV]; omega
      · have HEND := Lib.hid (show k = (wordsC 32 S).length ∨ 64 < k from by
          cases m with
          | false => exact .inl (HM0.out rfl)
          | true => exact .inr (Nat.lt_of_not_le fun h => hgo ⟨rfl, h⟩))
        have HEQ := Lib.hid (fun h => HR.out.trans (hit_endP H45.out HH.out HEND.out HCL.out h))
        have HEQ2 := Lib.hid (fun h => HR.out.trans (prsP_hit (L := C) h))
        obtain ⟨⟨tt, te⟩, ht⟩ : ∃ t, t = txtP C := ⟨_, rfl⟩
        have hcl := HCL.out
        have HT := Lib.hid (fun W (h : PcAt W A C) => textpr_any A c C W h HFC.out (by omega))
        unfold TextP at HT
        rw [← ht] at HEQ HEQ2
        have HT := Lib.hid (fun W (h : PcAt W A C) => (show Calls Tryz.prog 15 #[.slice A k c] W (fun e w' => e = .returned (.tuple #[.string (sB tt), .int .i64 te]) ∧ Below W.heap.size W w') by
          have := HT.out W h
          rw [← ht, hcl] at this
          exact this))
        have HRW := Lib.hid (show PcAt wr A C by
          obtain ⟨A4, c4, e4, hr4, _⟩ := own_formP HO.out
          injection e4 with e1 e2 e3
          rw [e1]
          exact hr4)
        clear ht hcl
        cases m with
        | false =>
          clear hgo
          go_wp2_with fail
          refine (HT.out wr HRW.out).mono ?_
          rintro e w2 ⟨rfl, hb⟩
          have G2 := Lib.hid (G.out.trans (hb.mono hs))
          have HO2 := Lib.hid (ownsRow_below (B := wr.heap.size) HO.out hb (Nat.le_refl _))
          clear hb HT
          by_cases z1 : te = 0
          · subst z1
            by_cases z3 : tt = S
            · subst z3
              obtain rfl : R = (C, 0) := HEQ2.out rfl
              have z4 : ((sB tt).toList == (sB tt).toList) = true := by simp
              clear hne hne2
              go_wp2_with fail
              go_ret2
              exact ⟨⟨_, rfl, HO2.out⟩, G2.out⟩
            · obtain rfl : R = ([], 4) := HEQ.out (fun h => z3 (Prod.mk.inj h).1)
              have z4 : ((sB tt).toList == (sB S).toList) = false := by
                rw [beq_eq_false_iff_ne, Lib.toList_data, Lib.toList_data, sB_list, sB_list]
                exact z3
              clear z3
              go_wp2_with fail
              go_ret2
              exact ⟨⟨_, rfl, World.ownsRow_nil _ _ _ _⟩, G2.out⟩
          · obtain rfl : R = ([], 4) := HEQ.out (fun h => z1 (Prod.mk.inj h).2)
            have z2 : (te == 0) = false := by simpa using z1
            go_wp2_with fail
            go_ret2
            exact ⟨⟨_, rfl, World.ownsRow_nil _ _ _ _⟩, G2.out⟩
        | true =>
          have hk4 : ¬ ((k : Int) ≤ 64) := fun h => hgo ⟨rfl, by omega⟩
          clear hgo
          go_wp2_with fail
          refine (HT.out wr HRW.out).mono ?_
          rintro e w2 ⟨rfl, hb⟩
          have G2 := Lib.hid (G.out.trans (hb.mono hs))
          have HO2 := Lib.hid (ownsRow_below (B := wr.heap.size) HO.out hb (Nat.le_refl _))
          clear hb HT
          by_cases z1 : te = 0
          · subst z1
            by_cases z3 : tt = S
            · subst z3
              obtain rfl : R = (C, 0) := HEQ2.out rfl
              have z4 : ((sB tt).toList == (sB tt).toList) = true := by simp
              clear hne hne2
              go_wp2_with fail
              go_ret2
              exact ⟨⟨_, rfl, HO2.out⟩, G2.out⟩
            · obtain rfl : R = ([], 4) := HEQ.out (fun h => z3 (Prod.mk.inj h).1)
              have z4 : ((sB tt).toList == (sB S).toList) = false := by
                rw [beq_eq_false_iff_ne, Lib.toList_data, Lib.toList_data, sB_list, sB_list]
                exact z3
              clear z3
              go_wp2_with fail
              go_ret2
              exact ⟨⟨_, rfl, World.ownsRow_nil _ _ _ _⟩, G2.out⟩
          · obtain rfl : R = ([], 4) := HEQ.out (fun h => z1 (Prod.mk.inj h).2)
            have z2 : (te == 0) = false := by simpa using z1
            go_wp2_with fail
            go_ret2
            exact ⟨⟨_, rfl, World.ownsRow_nil _ _ _ _⟩, G2.out⟩
end Go.Proofs.YteojlodcafogaaaGreatDoor
