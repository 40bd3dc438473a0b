/-
  The contract of Text in the reference. Its conditions are its hypotheses.
-/
import Derived.Test.YtloioincminhiaaDoorD1
import Derived.Test.YtloioincminhiaaDoorP1
import Derived.Deep.RegionHeld3
namespace Go.Proofs.YtloioincminhiaaDoor
open Go.RowKit Go.Joins
set_option linter.unusedVariables false
set_option linter.unusedSimpArgs false
/-- The text of the first k spans. -/
def accT (L : List Spn) (k : Nat) : List UInt8 := Lib.join ((L.take k).map wdS) [44]
theorem join_snoc : ∀ (ws : List (List UInt8)) (w : List UInt8), ws ≠ [] → Lib.join (ws ++ [w]) [44] = Lib.join ws [44] ++ [44] ++ w
  | [], w, h => absurd rfl h
  | [a], w, _ => by
    show Lib.join [a, w] [44] = _
    rw [join_two, Lib.join_one, Lib.join_one]
  | a :: b :: r, w, _ => by
    have ih := join_snoc (b :: r) w (by simp)
    rw [join_two a b r, show (a :: b :: r) ++ [w] = a :: b :: (r ++ [w]) from rfl, join_two, show b :: (r ++ [w]) = (b :: r) ++ [w] from rfl, ih]
    simp
theorem accT_zero {L : List Spn} {x : Spn} (hk : L[0]? = some x) : accT L 1 = wdS x := by
  unfold accT
  rw [List.take_add_one, hk]
  show Lib.join [wdS x] [44] = wdS x
  exact Lib.join_one _ _
theorem accT_succ {L : List Spn} {k : Nat} {x : Spn} (hk : L[k]? = some x) (h0 : 0 < k) : accT L (k + 1) = accT L k ++ [44] ++ wdS x := by
  have hkl := (List.getElem?_eq_some_iff.1 hk).1
  unfold accT
  rw [List.take_add_one, hk, List.map_append]
  exact join_snoc _ _ (by intro e; have h1 := congrArg List.length e; simp only [List.length_map, List.length_take, List.length_nil] at h1; omega)
theorem accT_len {L : List Spn} (h : chkS L = 0) (k : Nat) : (accT L k).length ≤ 44 * L.length := by
  have hb := chk_bd h
  have h1 : ∀ y ∈ (L.take k).map wdS, y.length ≤ 43 := by
    intro y hy
    obtain ⟨z, hz, rfl⟩ := List.mem_map.1 hy
    obtain ⟨b1, b2, b3, b4⟩ := hb z (List.mem_of_mem_take hz)
    exact wdS_le b1 b2 b3 b4
  have h2 := lens_le h1
  have h3 : ((L.take k).map wdS).length ≤ L.length := by simp; omega
  unfold accT
  generalize (L.take k).map wdS = M at *
  cases M with
  | nil => simp [Lib.join]
  | cons a r =>
    rw [Lib.join_length]
    simp at h2 h3 ⊢
    omega
set_option maxRecDepth 100000 in
set_option maxHeartbeats 4000000 in
theorem textr_some (A : Option Addr) (c : Nat) (L : List Spn) (w : World) (h : SpAt w A L) (h0 : chkS L = 0) (he : 0 < L.length) :
    Calls Tryd.prog 30 #[.slice A L.length c] w (TextP (Lib.join (L.map wdS) [44], 0) w) := by
  have H := Lib.hid h
  have H0 := Lib.hid h0
  have heb : ((L.length : Int) == 0) = false := by rw [beq_eq_false_iff_ne]; omega
  have hlen := (chkS_ok.1 h0).1
  have HBD := Lib.hid (chk_bd h0)
  have HAL := Lib.hid (fun k => accT_len h0 k)
  obtain ⟨T, hT⟩ : ∃ T, T = Lib.join (L.map wdS) [44] := ⟨_, rfl⟩
  rw [← hT]
  have HTX := Lib.hid hT
  obtain ⟨B, hB⟩ : ∃ B, B = w.heap.size := ⟨_, rfl⟩
  have HB := Lib.hid hB
  unfold TextP
  rw [← hB]
  clear h h0 hT hB
  go_enter Tryd.func30, Tryd.ntmps30
  go_wp2_with fail
  refine (chkr_any A c L w H.out (by omega)).mono ?_
  rintro e w1 ⟨rfl, hb⟩
  rw [H0.out]
  have G1 := Lib.hid (show Below B w w1 from HB.out ▸ hb)
  clear hb
  go_wp2_with fail
  go_loopw [5, 18] (fun v i wr => ∃ k : Nat, k ≤ L.length ∧ v = .string (sB (accT L k)) ∧ i = .int .i64 k ∧ Hid (Below B w wr)) (fun _ i _ => L.length - (intOf i).toNat)
  case atStart => exact ⟨0, by omega, rfl, rfl, G1⟩
  case round =>
    obtain ⟨k, hk, rfl, rfl, G⟩ := hrel
    have hsz : B ≤ wr.heap.size := by have := G.out.size; have := HB.out; omega
    by_cases hlt : k < L.length
    · have hlt2 : (k : Int) < (L.length : Int) := by omega
      obtain ⟨x, hx⟩ : ∃ x, L[k]? = some x := ⟨_, List.getElem?_eq_getElem hlt⟩
      have HX := Lib.hid hx
      have HRw := H.out.ext (HB.out ▸ G.out)
      obtain ⟨g, o, rfl⟩ := SpAt.some HRw hx
      obtain ⟨q0, q1⟩ := SpAt.get HRw hx
      have HXB := Lib.hid (HBD.out x (List.mem_of_getElem? hx))
      obtain ⟨x0, x1, x2, x3⟩ := HXB.out
      have l1 := itoa_le x0 x1
      have l2 := itoa_le x2 x3
      have l3 := HAL.out k
      obtain ⟨P, hP⟩ : ∃ P, P = (if k = 0 then [] else accT L k ++ [44]) := ⟨_, rfl⟩
      have HST := Lib.hid (show accT L (k + 1) = P ++ wdS x by
        rw [hP]
        by_cases h00 : k = 0
        · subst h00
          rw [if_pos rfl, accT_zero HX.out]
          rfl
        · rw [if_neg h00, accT_succ HX.out (by omega)])
      have hPl : P.length ≤ 17601 := by rw [hP]; split <;> simp <;> omega
      have hwl : (wdS x).length ≤ 43 := wdS_le x0 x1 x2 x3
      have y0 : ∀ w', (Op.stringOp .add (sB (accT L k)) ⟨#[44]⟩).run Tryd.prog w' = .ok (.string (sB (accT L k ++ [44]))) w' := fun w' => add_sB (a := accT L k) (b := [44]) (by simp; omega) w'
      have y1 : ∀ w', (Op.stringOp .add (sB (Lib.itoa x.i)) ⟨#[45]⟩).run Tryd.prog w' = .ok (.string (sB (Lib.itoa x.i ++ [45]))) w' := fun w' => add_sB (a := Lib.itoa x.i) (b := [45]) (by simp; omega) w'
      have y2 : ∀ w', (Op.stringOp .add (sB (Lib.itoa x.i ++ [45])) (sB (Lib.itoa x.o))).run Tryd.prog w' = .ok (.string (sB (wdS x))) w' := fun w' => add_sB (a := Lib.itoa x.i ++ [45]) (b := Lib.itoa x.o) (by simp; omega) w'
      have y3 : ∀ w', (Op.stringOp .add (sB P) (sB (wdS x))).run Tryd.prog w' = .ok (.string (sB (P ++ wdS x))) w' := fun w' => add_sB (by omega) w'
      have HP := Lib.hid hP
      clear HRw hx l1 l2 l3 hP hPl hwl
      by_cases h00 : k = 0
      all_goals
        first
          | (have hk0 : ¬ ((0 : Int) < (k : Int)) := by omega
             have hpe : P = [] := by rw [HP.out, if_pos h00]
             have hae : sB (accT L k) = sB P := by rw [hpe, h00]; rfl
             rw [← hae] at y3
             clear h00 hpe hae)
          | (have hk0 : (0 : Int) < (k : Int) := by omega
             have hae : accT L k ++ [44] = P := by rw [HP.out, if_neg h00]
             rw [hae] at y0
             clear h00)
        go_wp2_with fail
        generalize hw5 : World.alloc wr _ = w5
        have F5 : Held w5 wr.heap.size [.int .i64 x.i, .int .i64 x.o] := by subst hw5; exact Held.new rfl
        obtain ⟨z0, z1⟩ := two_of F5
        have G5 := Lib.hid (show Below B w w5 by subst hw5; exact G.out.alloc hsz _)
        have hX5 := F5.lt
        generalize wr.heap.size = X at *
        clear hw5 q0 q1 G F5
        obtain ⟨N, hN⟩ : ∃ N, N = w5.heap.size := ⟨_, rfl⟩
        have hNB : B ≤ N := by rw [hN]; have := G5.out.size; have := HB.out; omega
        have HNX : X < N := by omega
        have HFI := Lib.hid (fun (n : Int) (W : World) (hW : Below N w5 W) (h0 : 0 ≤ n) (h1 : n ≤ 10378368000) =>
          (decimal_any n W (by omega) (by omega)).mono (R' := fun e w' => e = .returned (.string (sB (Lib.itoa n))) ∧ Below N w5 w' ∧ w'.cell? ⟨X, 0, none⟩ = some (.int .i64 x.i) ∧ w'.cell? ⟨X, 1, none⟩ = some (.int .i64 x.o)) (fun e w' ⟨h1, h2⟩ =>
            have hb := hW.trans (h2.mono (show N ≤ W.heap.size by have := hW.size; omega))
            ⟨h1, hb, (hb.cell (p := ⟨X, 0, none⟩) HNX).trans z0, (hb.cell (p := ⟨X, 1, none⟩) HNX).trans z1⟩))
        have hb0 : Below N w5 w5 := Below.refl _ _
        have hb1 : Below N w5 w5.drew := hb0.drew
        have hNle : N ≤ w5.heap.size := Nat.le_of_eq hN
        clear hN
        go_region_held3 (fun w' => w'.cell? ⟨X, 0, none⟩ = some (.int .i64 x.i) ∧ w'.cell? ⟨X, 1, none⟩ = some (.int .i64 x.o) ∧ Below N w5 w' ∧ N ≤ w'.heap.size)
          ((refine ⟨?_, ?_, ?_, ?_⟩ <;> first
            | assumption
            | exact Below.drew ‹_›
            | exact Nat.le_trans hNle (Below.size ‹_›)))
          (first
            | (go_at_call_of 46 (Value.int .i64 x.i); obtain ⟨hk0, hk1, hkb, hks⟩ := ‹_ ∧ _ ∧ Below N w5 _ ∧ _›; refine (HFI.out x.i _ hkb x0 x1).mono ?_; rintro e wq ⟨rfl, hbq, zq0, zq1⟩)
            | (go_at_call_of 46 (Value.int .i64 x.o); obtain ⟨hk0, hk1, hkb, hks⟩ := ‹_ ∧ _ ∧ Below N w5 _ ∧ _›; refine (HFI.out x.o _ hkb x2 x3).mono ?_; rintro e wq ⟨rfl, hbq, zq0, zq1⟩))
        all_goals
          obtain ⟨_, _, hbq, _⟩ := ‹_ ∧ _ ∧ Below N w5 _ ∧ _›
          have G6 := Lib.hid (G5.out.trans (hbq.mono hNB))
          go_wp2_with fail
          go_roundw
          case rel => exact ⟨k + 1, by omega, by rw [HST.out], by go_num, G6⟩
          case measure => simp [intOf]; omega
    · obtain rfl : k = L.length := by omega
      have HE := Lib.hid (show accT L L.length = T by unfold accT; rw [List.take_length, HTX.out])
      rw [HE.out]
      clear hlt
      go_wp2_with fail
      go_ret2
      exact ⟨rfl, G.out⟩
theorem textr_any (A : Option Addr) (c : Nat) (L : List Spn) (w : World) (h : SpAt w A L) (hl : L.length ≤ 1000000) :
    Calls Tryd.prog 30 #[.slice A L.length c] w (TextP (txtS L) w) := by
  have H := Lib.hid h
  obtain ⟨R, hR⟩ : ∃ R, R = txtS L := ⟨_, rfl⟩
  rw [← hR]
  by_cases h0 : chkS L = 0
  · by_cases he : L.length = 0
    · obtain rfl : R = ([45], 0) := by rw [hR]; unfold txtS; rw [if_pos h0, if_pos he]
      have H0 := Lib.hid h0
      have heb : ((L.length : Int) == 0) = true := by rw [he]; rfl
      unfold TextP
      obtain ⟨B, hB⟩ : ∃ B, B = w.heap.size := ⟨_, rfl⟩
      have HB := Lib.hid hB
      rw [← hB]
      clear h h0 hR hB he
      go_enter Tryd.func30, Tryd.ntmps30
      go_wp2_with fail
      refine (chkr_any A c L w H.out (by omega)).mono ?_
      rintro e w1 ⟨rfl, hb⟩
      rw [H0.out]
      have HBL := Lib.hid (show Below B w w1 from HB.out ▸ hb)
      clear hb
      go_wp2_with fail
      go_ret2
      exact ⟨rfl, HBL.out⟩
    · obtain rfl : R = (Lib.join (L.map wdS) [44], 0) := by rw [hR]; unfold txtS; rw [if_pos h0, if_neg he]
      exact textr_some A c L w h h0 (by omega)
  · obtain ⟨E, hE⟩ : ∃ E, E = chkS L := ⟨_, rfl⟩
    obtain rfl : R = ([], E) := by rw [hR, hE]; unfold txtS; rw [if_neg h0]
    have HE := Lib.hid hE
    have hc2 : (E == 0) = false := by rw [hE]; simpa using h0
    unfold TextP
    obtain ⟨B, hB⟩ : ∃ B, B = w.heap.size := ⟨_, rfl⟩
    have HB := Lib.hid hB
    rw [← hB]
    clear h h0 hR hB hE
    go_enter Tryd.func30, Tryd.ntmps30
    go_wp2_with fail
    refine (chkr_any A c L w H.out (by omega)).mono ?_
    rintro e w1 ⟨rfl, hb⟩
    rw [← HE.out]
    have HBL := Lib.hid (show Below B w w1 from HB.out ▸ hb)
    clear hb
    go_wp2_with fail
    go_ret2
    exact ⟨rfl, HBL.out⟩
end Go.Proofs.YtloioincminhiaaDoor
