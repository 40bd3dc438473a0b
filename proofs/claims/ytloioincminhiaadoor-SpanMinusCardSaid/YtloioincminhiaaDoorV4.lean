/-
  The contracts of Gaps, in the program and in the reference. Their conditions are their hypotheses.
-/
import Derived.Test.YtloioincminhiaaDoorV3
namespace Go.Proofs.YtloioincminhiaaDoor
open Go.RowKit Go.Joins
set_option linter.unusedVariables false
set_option linter.unusedSimpArgs false
theorem gap_two (L : List Spn) (s : Spn) : gapS L s = if twoS L [s] = 0 then subS [s] L else ([], twoS L [s]) := by
  unfold gapS
  by_cases h : chkS L = 0
  · rw [if_pos h]
    have e : twoS L [s] = chkS [s] := by unfold twoS; rw [if_pos h]
    by_cases h2 : chkS [s] = 0
    · rw [if_pos (by rw [e]; exact h2)]
    · rw [if_neg (by rw [e]; exact h2)]
      unfold subS
      have e2 : twoS [s] L = chkS [s] := by unfold twoS; rw [if_neg h2]
      rw [if_neg (by rw [e2]; exact h2), e2, e]
  · rw [if_neg h]
    have e : twoS L [s] = chkS L := by unfold twoS; rw [if_neg h]
    rw [if_neg (by rw [e]; exact h), e]
set_option maxHeartbeats 1000000 in
theorem gap_any (P : Option Addr) (c : Nat) (A : List Spn) (s : Spn) (w : World) (ha : SpAt w P A) (hla : A.length ≤ 900) :
    Calls Tryd.prog 21 #[.slice P A.length c, spA s] w (RetP (gapS A s) w) := by
  have HA := Lib.hid ha
  obtain ⟨D, hD⟩ : ∃ D, D = w.heap.size := ⟨_, rfl⟩
  have HD := Lib.hid hD
  unfold RetP
  rw [← hD]
  by_cases h0 : chkS A = 0
  · rw [show gapS A s = subS [s] A by unfold gapS; rw [if_pos h0]]
    have H0 := Lib.hid h0
    obtain ⟨⟨SL, SE⟩, hS⟩ : ∃ R, R = subS [s] A := ⟨_, rfl⟩
    have HS := Lib.hid hS
    rw [← hS]
    clear h0 hS ha hD
    go_enter Tryd.func21, Tryd.ntmps21
    go_wp2_with fail
    rw [← HD.out]
    generalize hw1 : World.alloc w _ = w1
    have F1 := Lib.hid (show Held w1 D [.int .i64 s.i, .int .i64 s.o] by subst hw1; exact Held.new HD.out)
    have G := Lib.hid (show Below D w w1 by subst hw1; rw [HD.out]; exact below_one _ _)
    have HA := Lib.hid (show SpAt w1 P A by subst hw1; exact HA.out.ext (below_one _ _))
    have hs : D ≤ w1.heap.size := by have := G.out.size; have := HD.out; omega
    clear hw1
    refine (chk_any P c A w1 HA.out (by omega)).mono ?_
    rintro e w2 ⟨rfl, hb⟩
    rw [H0.out]
    have F1 := Lib.hid (F1.out.ext hb)
    have G := Lib.hid (G.out.trans (hb.mono hs))
    have HA := Lib.hid (HA.out.ext hb)
    have hs : D ≤ w2.heap.size := by have := G.out.size; have := HD.out; omega
    obtain ⟨z0, z1⟩ := two_of F1.out
    clear hb
    go_wp2_with fail
    generalize hw3 : World.alloc w2 _ = w3
    have HX : SpAt w3 (some ⟨w2.heap.size, 0, none⟩) [s] := by subst hw3; exact row_of_cells (by simp [CellsAt, go_sem, spV])
    have G := Lib.hid (show Below D w w3 by subst hw3; exact G.out.alloc hs _)
    have HA := Lib.hid (show SpAt w3 P A by subst hw3; exact HA.out.ext (below_one _ _))
    have hs : D ≤ w3.heap.size := by have := G.out.size; have := HD.out; omega
    clear hw3 z0 z1
    refine (sub_any (some ⟨w2.heap.size, 0, none⟩) 1 [s] P c A w3 HX HA.out (by simp) hla).mono ?_
    rintro e w4 ⟨⟨v, rfl, ho⟩, hb⟩
    rw [← HS.out] at ho ⊢
    dsimp only at ho ⊢
    have HO := Lib.hid (ownsRow_mono ho hs)
    have G := Lib.hid (G.out.trans (hb.mono hs))
    clear ho hb HX
    go_wp2_with fail
    go_ret2
    exact ⟨⟨_, rfl, HO.out⟩, G.out⟩
  · obtain ⟨E, hE⟩ : ∃ E, E = chkS A := ⟨_, rfl⟩
    rw [show gapS A s = ([], E) by unfold gapS; rw [if_neg h0, hE]]
    have HE := Lib.hid hE
    have hc2 : (E == 0) = false := by rw [hE]; simpa using h0
    clear h0 hE ha hD
    go_enter Tryd.func21, Tryd.ntmps21
    go_wp2_with fail
    generalize hw1 : World.alloc w _ = w1
    have G := Lib.hid (show Below D w w1 by subst hw1; rw [HD.out]; exact below_one _ _)
    have HA := Lib.hid (show SpAt w1 P A by subst hw1; exact HA.out.ext (below_one _ _))
    have hs : D ≤ w1.heap.size := by have := G.out.size; have := HD.out; omega
    clear hw1
    refine (chk_any P c A w1 HA.out (by omega)).mono ?_
    rintro e w2 ⟨rfl, hb⟩
    rw [← HE.out]
    have G := Lib.hid (G.out.trans (hb.mono hs))
    clear hb
    go_wp2_with fail
    go_ret2
    exact ⟨⟨_, rfl, World.ownsRow_nil _ _ _ _⟩, G.out⟩
set_option maxHeartbeats 1000000 in
theorem gapr_any (P : Option Addr) (c : Nat) (A : List Spn) (s : Spn) (w : World) (ha : SpAt w P A) (hla : A.length ≤ 900) :
    Calls Tryd.prog 22 #[.slice P A.length c, spA s] w (RetP (gapS A s) w) := by
  have HA := Lib.hid ha
  obtain ⟨D, hD⟩ : ∃ D, D = w.heap.size := ⟨_, rfl⟩
  have HD := Lib.hid hD
  unfold RetP
  rw [← hD]
  rw [gap_two]
  by_cases h0 : twoS A [s] = 0
  · rw [if_pos h0]
    have H0 := Lib.hid h0
    obtain ⟨⟨SL, SE⟩, hS⟩ : ∃ R, R = subS [s] A := ⟨_, rfl⟩
    have HS := Lib.hid hS
    rw [← hS]
    clear h0 hS ha hD
    go_enter Tryd.func22, Tryd.ntmps22
    go_wp2_with fail
    rw [← HD.out]
    generalize hw1 : World.alloc (World.alloc w _) _ = w1
    have F1 := Lib.hid (show Held w1 D [.int .i64 s.i, .int .i64 s.o] by subst hw1; exact (Held.new HD.out).alloc _)
    have HX : SpAt w1 (some ⟨D + 1, 0, none⟩) [s] := by subst hw1; rw [HD.out]; exact row_of_cells (by simp [CellsAt, go_sem, spV])
    have G := Lib.hid (show Below D w w1 by subst hw1; rw [HD.out]; exact (below_one _ _).alloc (by simp) _)
    have HA := Lib.hid (show SpAt w1 P A by subst hw1; exact (HA.out.ext (below_one _ _)).ext (below_one _ _))
    have hs : D ≤ w1.heap.size := by have := G.out.size; have := HD.out; omega
    clear hw1
    refine (twor_any P c A (some ⟨D + 1, 0, none⟩) 1 [s] w1 HA.out HX (by omega) (by simp)).mono ?_
    rintro e w2 ⟨rfl, hb⟩
    rw [H0.out]
    have F1 := Lib.hid (F1.out.ext hb)
    have G := Lib.hid (G.out.trans (hb.mono hs))
    have HA := Lib.hid (HA.out.ext hb)
    have hs : D ≤ w2.heap.size := by have := G.out.size; have := HD.out; omega
    obtain ⟨z0, z1⟩ := two_of F1.out
    clear hb HX
    go_wp2_with fail
    generalize hw3 : World.alloc w2 _ = w3
    have HX : SpAt w3 (some ⟨w2.heap.size, 0, none⟩) [s] := by subst hw3; exact row_of_cells (by simp [CellsAt, go_sem, spV])
    have G := Lib.hid (show Below D w w3 by subst hw3; exact G.out.alloc hs _)
    have HA := Lib.hid (show SpAt w3 P A by subst hw3; exact HA.out.ext (below_one _ _))
    have hs : D ≤ w3.heap.size := by have := G.out.size; have := HD.out; omega
    clear hw3 z0 z1
    refine (subr_any (some ⟨w2.heap.size, 0, none⟩) 1 [s] P c A w3 HX HA.out (by simp) hla).mono ?_
    rintro e w4 ⟨⟨v, rfl, ho⟩, hb⟩
    rw [← HS.out] at ho ⊢
    dsimp only at ho ⊢
    have HO := Lib.hid (ownsRow_mono ho hs)
    have G := Lib.hid (G.out.trans (hb.mono hs))
    clear ho hb HX
    go_wp2_with fail
    go_ret2
    exact ⟨⟨_, rfl, HO.out⟩, G.out⟩
  · rw [if_neg h0]
    obtain ⟨E, hE⟩ : ∃ E, E = twoS A [s] := ⟨_, rfl⟩
    rw [← hE] at h0 ⊢
    have HE := Lib.hid hE
    have hc2 : (E == 0) = false := by simpa using h0
    clear h0 hE ha hD
    go_enter Tryd.func22, Tryd.ntmps22
    go_wp2_with fail
    rw [← HD.out]
    generalize hw1 : World.alloc (World.alloc w _) _ = w1
    have HX : SpAt w1 (some ⟨D + 1, 0, none⟩) [s] := by subst hw1; rw [HD.out]; exact row_of_cells (by simp [CellsAt, go_sem, spV])
    have G := Lib.hid (show Below D w w1 by subst hw1; rw [HD.out]; exact (below_one _ _).alloc (by simp) _)
    have HA := Lib.hid (show SpAt w1 P A by subst hw1; exact (HA.out.ext (below_one _ _)).ext (below_one _ _))
    have hs : D ≤ w1.heap.size := by have := G.out.size; have := HD.out; omega
    clear hw1
    refine (twor_any P c A (some ⟨D + 1, 0, none⟩) 1 [s] w1 HA.out HX (by omega) (by simp)).mono ?_
    rintro e w2 ⟨rfl, hb⟩
    rw [← HE.out]
    have G := Lib.hid (G.out.trans (hb.mono hs))
    clear hb HX
    go_wp2_with fail
    go_ret2
    exact ⟨⟨_, rfl, World.ownsRow_nil _ _ _ _⟩, G.out⟩
end Go.Proofs.YtloioincminhiaaDoor
