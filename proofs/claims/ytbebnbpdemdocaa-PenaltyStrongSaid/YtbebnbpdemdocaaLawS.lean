/-
  The law Strong returns true for all numbers. Without conditions.
-/
import Derived.Test.YtbebnbpdemdocaaAwk
namespace Go.Proofs.Ytbebnbpdemdocaa
open Go.RowKit
set_option linter.unusedVariables false
theorem heap_at {n : Nat} (w : World) (o : Obj) (h : n = w.heap.size) : (w.alloc o).heap[n]? = some o := by
  subst h; exact heap_alloc_new w o
theorem pchk_down {cs : List Int} (h : pchk cs = 0) (i : Nat) (hi : i < 5) : cs.getD (i + 1) 0 ≤ cs.getD i 0 := by
  unfold pchk at h
  split at h
  · split at h
    · rename_i hd
      exact of_decide_eq_true (List.all_eq_true.1 hd i (List.mem_range.2 hi))
    · omega
  · omega
theorem event_pair (c0 c1 c2 c3 c4 c5 c6 c7 c8 c9 c10 c11 f g s k : Int) (h0 : pchk [c0, c1, c2, c3, c4, c5, c6, c7, c8, c9, c10, c11] = 0) : ∃ x x' y : Int, x' ≤ x ∧
    (∀ w, Calls Try.prog 18 #[.agg #[.int .i64 c0, .int .i64 c1, .int .i64 c2, .int .i64 c3, .int .i64 c4, .int .i64 c5, .int .i64 c6, .int .i64 c7, .int .i64 c8, .int .i64 c9, .int .i64 c10, .int .i64 c11], .agg #[.int .i64 f, .int .i64 g, .int .i64 s, .int .i64 k, .bool false]] w fun e w' => e = .returned (.tuple #[.int .i64 x, .int .i64 y]) ∧ Below w.heap.size w w') ∧
    (∀ w, Calls Try.prog 18 #[.agg #[.int .i64 c0, .int .i64 c1, .int .i64 c2, .int .i64 c3, .int .i64 c4, .int .i64 c5, .int .i64 c6, .int .i64 c7, .int .i64 c8, .int .i64 c9, .int .i64 c10, .int .i64 c11], .agg #[.int .i64 f, .int .i64 g, .int .i64 s, .int .i64 k, .bool true]] w fun e w' => e = .returned (.tuple #[.int .i64 x', .int .i64 y]) ∧ Below w.heap.size w w') := by
  have b0 : ∀ c ∈ ([c0, c1, c2, c3, c4, c5, c6, c7, c8, c9, c10, c11] : List Int), 0 ≤ c ∧ c ≤ 1000000 := pchk_in h0
  cases hf : wi f 0 5184000 with
  | false => exact ⟨0, 0, 2, by omega, fun w => event_nof c0 c1 c2 c3 c4 c5 c6 c7 c8 c9 c10 c11 f g s k _ w h0 hf, fun w => event_nof c0 c1 c2 c3 c4 c5 c6 c7 c8 c9 c10 c11 f g s k _ w h0 hf⟩
  | true =>
    cases hg : wi g 0 5184000 with
    | false => exact ⟨0, 0, 2, by omega, fun w => event_nog c0 c1 c2 c3 c4 c5 c6 c7 c8 c9 c10 c11 f g s k _ w h0 hf hg, fun w => event_nog c0 c1 c2 c3 c4 c5 c6 c7 c8 c9 c10 c11 f g s k _ w h0 hf hg⟩
    | true =>
      cases hs : wi s 0 400 with
      | false => exact ⟨0, 0, 2, by omega, fun w => event_nos c0 c1 c2 c3 c4 c5 c6 c7 c8 c9 c10 c11 f g s k _ w h0 hf hg hs, fun w => event_nos c0 c1 c2 c3 c4 c5 c6 c7 c8 c9 c10 c11 f g s k _ w h0 hf hg hs⟩
      | true =>
        cases hk : wi k 0 5 with
        | false => exact ⟨0, 0, 2, by omega, fun w => event_nok c0 c1 c2 c3 c4 c5 c6 c7 c8 c9 c10 c11 f g s k _ w h0 hf hg hs hk, fun w => event_nok c0 c1 c2 c3 c4 c5 c6 c7 c8 c9 c10 c11 f g s k _ w h0 hf hg hs hk⟩
        | true =>
          have ⟨k1, k2⟩ := wi_of hk
          obtain ⟨m, rfl⟩ := Int.eq_ofNat_of_zero_le k1
          refine ⟨_, _, _, ?_, fun w => event_yes_false c0 c1 c2 c3 c4 c5 c6 c7 c8 c9 c10 c11 f g s m (by omega) w h0 (wi_of hf) (wi_of hg) (wi_of hs) b0, fun w => event_yes_true c0 c1 c2 c3 c4 c5 c6 c7 c8 c9 c10 c11 f g s m (by omega) w h0 (wi_of hf) (wi_of hg) (wi_of hs) b0⟩
          have : 0 ≤ ([c0, c1, c2, c3, c4, c5, c6, c7, c8, c9, c10, c11] : List Int).getD m 0 := (b0 _ (by rw [show ([c0, c1, c2, c3, c4, c5, c6, c7, c8, c9, c10, c11] : List Int).getD m 0 = [c0, c1, c2, c3, c4, c5, c6, c7, c8, c9, c10, c11][m]'(by simp; omega) by simp [show m < 12 by omega]]; exact List.getElem_mem _)).1
          omega

theorem strong_bad (c0 c1 c2 c3 c4 c5 c6 c7 c8 c9 c10 c11 f g s k : Int) (b : Bool) (a l : Int) (W : World) (y : Int) (hy : (y == 0) = false)
    (C : ∀ w, Calls Try.prog 16 #[.agg #[.int .i64 c0, .int .i64 c1, .int .i64 c2, .int .i64 c3, .int .i64 c4, .int .i64 c5, .int .i64 c6, .int .i64 c7, .int .i64 c8, .int .i64 c9, .int .i64 c10, .int .i64 c11], .int .i64 a, .int .i64 l, .int .i64 (-1)] w fun e w' => e = .returned (.tuple #[.int .i64 0, .int .i64 y]) ∧ Below w.heap.size w w') :
    Calls Try.prog 7 #[.agg #[.int .i64 c0, .int .i64 c1, .int .i64 c2, .int .i64 c3, .int .i64 c4, .int .i64 c5, .int .i64 c6, .int .i64 c7, .int .i64 c8, .int .i64 c9, .int .i64 c10, .int .i64 c11], .agg #[.int .i64 f, .int .i64 g, .int .i64 s, .int .i64 k, .bool b], .agg #[.int .i64 a, .int .i64 l]] W fun e w' => e = .returned (.bool true) ∧ Below W.heap.size W w' := by
  have HC := Lib.hid C
  clear C
  have hy' : (y != 0) = true := by simpa using hy
  go_enter Try.func7, Try.ntmps7
  go_wp2_with fail
  generalize hw1 : ((W.alloc (.cells #[.int .i64 c0, .int .i64 c1, .int .i64 c2, .int .i64 c3, .int .i64 c4, .int .i64 c5, .int .i64 c6, .int .i64 c7, .int .i64 c8, .int .i64 c9, .int .i64 c10, .int .i64 c11] 24)).alloc (.cells #[.int .i64 f, .int .i64 g, .int .i64 s, .int .i64 k, .bool b] 39)).alloc _ = w1
  have hct : CellsAt w1 W.heap.size 0 [.int .i64 c0, .int .i64 c1, .int .i64 c2, .int .i64 c3, .int .i64 c4, .int .i64 c5, .int .i64 c6, .int .i64 c7, .int .i64 c8, .int .i64 c9, .int .i64 c10, .int .i64 c11] := by subst hw1; simp [CellsAt, go_sem]
  have hcs : CellsAt w1 (W.heap.size + 2) 0 [.int .i64 a, .int .i64 l] := by subst hw1; simp [CellsAt, go_sem]
  have hld : w1.heap[W.heap.size + 1]? = some (.cells #[.int .i64 f, .int .i64 g, .int .i64 s, .int .i64 k, .bool b] 39) := by
    subst hw1
    exact (Below.heap_alloc _ _ _ (by simp)).trans (heap_at _ _ (by simp))
  have hsz : W.heap.size + 2 < w1.heap.size := by subst hw1; simp
  have hb0 : Below W.heap.size W w1 := by subst hw1; exact (((Below.refl _ _).alloc (Nat.le_refl _) _).alloc (by simp) _).alloc (by simp; omega) _
  clear hw1
  refine (awake_any _).mono ?_
  rintro e w2 ⟨rfl, hb1⟩
  have hct2 := hct.below hb1 (by omega)
  have hcs2 := hcs.below hb1 hsz
  have hld2 := (hb1.block _ (by omega)).trans hld
  have hsz2 : W.heap.size + 2 < w2.heap.size := Nat.lt_of_lt_of_le hsz hb1.size
  have hb2 : Below W.heap.size W w2 := hb0.trans (hb1.mono hb0.size)
  clear hct hcs hld hsz hb0 hb1
  have HT := Lib.hid hct2
  have HS := Lib.hid hcs2
  have HL := Lib.hid hld2
  clear hld2
  simp only [CellsAt, Nat.zero_add, Nat.reduceAdd, and_true] at hct2 hcs2
  obtain ⟨q0, q1, q2, q3, q4, q5, q6, q7, q8, q9, q10, q11⟩ := hct2
  obtain ⟨r0, r1⟩ := hcs2
  go_wp2_with fail
  refine (HC.out _).mono ?_
  rintro e w3 ⟨rfl, hb3⟩
  clear q0 q1 q2 q3 q4 q5 q6 q7 q8 q9 q10 q11 r0 r1
  have hb4 : Below W.heap.size W w3 := hb2.trans (hb3.mono hb2.size)
  go_wp2_with fail
  go_ret
  exact ⟨rfl, hb4⟩
def StrRel (B : Nat) (W : World) (c0 c1 c2 c3 c4 c5 c6 c7 c8 c9 c10 c11 f g s k : Int) (b : Bool) (a l : Int) (wr : World) : Prop :=
  CellsAt wr B 0 [.int .i64 c0, .int .i64 c1, .int .i64 c2, .int .i64 c3, .int .i64 c4, .int .i64 c5, .int .i64 c6, .int .i64 c7, .int .i64 c8, .int .i64 c9, .int .i64 c10, .int .i64 c11] ∧ CellsAt wr (B + 2) 0 [.int .i64 a, .int .i64 l] ∧ wr.heap[B + 1]? = some (.cells #[.int .i64 f, .int .i64 g, .int .i64 s, .int .i64 k, .bool b] 39) ∧ B + 2 < wr.heap.size ∧ Below B W wr
set_option maxHeartbeats 1000000 in
theorem strong_ok (c0 c1 c2 c3 c4 c5 c6 c7 c8 c9 c10 c11 f g s k : Int) (b : Bool) (a l L : Int) (W : World) (h0 : pchk [c0, c1, c2, c3, c4, c5, c6, c7, c8, c9, c10, c11] = 0) (hL : 0 ≤ L)
    (C : ∀ w, Calls Try.prog 16 #[.agg #[.int .i64 c0, .int .i64 c1, .int .i64 c2, .int .i64 c3, .int .i64 c4, .int .i64 c5, .int .i64 c6, .int .i64 c7, .int .i64 c8, .int .i64 c9, .int .i64 c10, .int .i64 c11], .int .i64 a, .int .i64 l, .int .i64 (-1)] w fun e w' => e = .returned (.tuple #[.int .i64 L, .int .i64 0]) ∧ Below w.heap.size w w')
    (CK : ∀ (m : Nat), m ≤ 5 → ∀ w, Calls Try.prog 16 #[.agg #[.int .i64 c0, .int .i64 c1, .int .i64 c2, .int .i64 c3, .int .i64 c4, .int .i64 c5, .int .i64 c6, .int .i64 c7, .int .i64 c8, .int .i64 c9, .int .i64 c10, .int .i64 c11], .int .i64 a, .int .i64 l, .int .i64 (m : Int)] w fun e w' => e = .returned (.tuple #[.int .i64 (L + [c0, c1, c2, c3, c4, c5, c6, c7, c8, c9, c10, c11].getD m 0), .int .i64 0]) ∧ Below w.heap.size w w') :
    Calls Try.prog 7 #[.agg #[.int .i64 c0, .int .i64 c1, .int .i64 c2, .int .i64 c3, .int .i64 c4, .int .i64 c5, .int .i64 c6, .int .i64 c7, .int .i64 c8, .int .i64 c9, .int .i64 c10, .int .i64 c11], .agg #[.int .i64 f, .int .i64 g, .int .i64 s, .int .i64 k, .bool b], .agg #[.int .i64 a, .int .i64 l]] W fun e w' => e = .returned (.bool true) ∧ Below W.heap.size W w' := by
  obtain ⟨x, x', y, hxx, E1, E2⟩ := event_pair c0 c1 c2 c3 c4 c5 c6 c7 c8 c9 c10 c11 f g s k h0
  have HC := Lib.hid C
  have HCK := Lib.hid CK
  have HE1 := Lib.hid E1
  have HE2 := Lib.hid E2
  have HN := Lib.hid (fun (m : Nat) (hm : m < 12) => (pchk_in h0 ([c0, c1, c2, c3, c4, c5, c6, c7, c8, c9, c10, c11][m]'(by simp; omega)) (List.getElem_mem _)).1)
  have HD := Lib.hid (pchk_down h0)
  have hyy : (y == y) = true := by simp
  clear C CK E1 E2 h0
  go_enter Try.func7, Try.ntmps7
  go_wp2_with fail
  generalize hw1 : ((W.alloc (.cells #[.int .i64 c0, .int .i64 c1, .int .i64 c2, .int .i64 c3, .int .i64 c4, .int .i64 c5, .int .i64 c6, .int .i64 c7, .int .i64 c8, .int .i64 c9, .int .i64 c10, .int .i64 c11] 24)).alloc (.cells #[.int .i64 f, .int .i64 g, .int .i64 s, .int .i64 k, .bool b] 39)).alloc _ = w1
  have hct : CellsAt w1 W.heap.size 0 [.int .i64 c0, .int .i64 c1, .int .i64 c2, .int .i64 c3, .int .i64 c4, .int .i64 c5, .int .i64 c6, .int .i64 c7, .int .i64 c8, .int .i64 c9, .int .i64 c10, .int .i64 c11] := by subst hw1; simp [CellsAt, go_sem]
  have hcs : CellsAt w1 (W.heap.size + 2) 0 [.int .i64 a, .int .i64 l] := by subst hw1; simp [CellsAt, go_sem]
  have hld : w1.heap[W.heap.size + 1]? = some (.cells #[.int .i64 f, .int .i64 g, .int .i64 s, .int .i64 k, .bool b] 39) := by
    subst hw1
    exact (Below.heap_alloc _ _ _ (by simp)).trans (heap_at _ _ (by simp))
  have hsz : W.heap.size + 2 < w1.heap.size := by subst hw1; simp
  have hb0 : Below W.heap.size W w1 := by subst hw1; exact (((Below.refl _ _).alloc (Nat.le_refl _) _).alloc (by simp) _).alloc (by simp; omega) _
  clear hw1
  refine (awake_any _).mono ?_
  rintro e w2 ⟨rfl, hb1⟩
  have hct2 := hct.below hb1 (by omega)
  have hcs2 := hcs.below hb1 hsz
  have hld2 := (hb1.block _ (by omega)).trans hld
  have hsz2 : W.heap.size + 2 < w2.heap.size := Nat.lt_of_lt_of_le hsz hb1.size
  have hb2 : Below W.heap.size W w2 := hb0.trans (hb1.mono hb0.size)
  clear hct hcs hld hsz hb0 hb1
  have HT := Lib.hid hct2
  have HS := Lib.hid hcs2
  have HL := Lib.hid hld2
  clear hld2
  simp only [CellsAt, Nat.zero_add, Nat.reduceAdd, and_true] at hct2 hcs2
  obtain ⟨q0, q1, q2, q3, q4, q5, q6, q7, q8, q9, q10, q11⟩ := hct2
  obtain ⟨r0, r1⟩ := hcs2
  go_wp2_with fail
  refine (HC.out _).mono ?_
  rintro e w3 ⟨rfl, hb3⟩
  clear q0 q1 q2 q3 q4 q5 q6 q7 q8 q9 q10 q11 r0 r1
  have hrel : StrRel W.heap.size W c0 c1 c2 c3 c4 c5 c6 c7 c8 c9 c10 c11 f g s k b a l w3 :=
    ⟨HT.out.below hb3 (by omega), HS.out.below hb3 hsz2, (hb3.block _ (by omega)).trans HL.out, Nat.lt_of_lt_of_le hsz2 hb3.size, hb2.trans (hb3.mono hb2.size)⟩
  clear HT HS HL hsz2 hb2 hb3
  go_wp2_with fail
  go_loopw [9, 10] (fun bf kk wr => ∃ (m : Nat) (z : Int), m ≤ 6 ∧ kk = .int .i64 ((m : Int) - 1) ∧ bf = .int .i64 z ∧ (m = 6 → z = 0) ∧ (m ≤ 5 → z = L + [c0, c1, c2, c3, c4, c5, c6, c7, c8, c9, c10, c11].getD m 0) ∧ StrRel W.heap.size W c0 c1 c2 c3 c4 c5 c6 c7 c8 c9 c10 c11 f g s k b a l wr) (fun _ kk _ => (intOf kk + 1).toNat)
  case atStart => exact ⟨6, 0, by omega, rfl, rfl, fun _ => rfl, fun h => by omega, hrel⟩
  case round =>
    obtain ⟨m, z, hm, rfl, rfl, hz6, hz5, hr⟩ := hrel
    have HZ6 := Lib.hid hz6
    have HZ5 := Lib.hid hz5
    clear hz6 hz5
    obtain ⟨hct, hcs, hld, hsz, hb⟩ := hr
    have HT := Lib.hid hct
    have HS := Lib.hid hcs
    have HL := Lib.hid hld
    simp only [CellsAt, Nat.zero_add, Nat.reduceAdd, and_true] at hct hcs
    obtain ⟨q0, q1, q2, q3, q4, q5, q6, q7, q8, q9, q10, q11⟩ := hct
    obtain ⟨r0, r1⟩ := hcs
    by_cases hm0 : 0 < m
    · obtain ⟨j, rfl⟩ : ∃ j, m = j + 1 := ⟨m - 1, by omega⟩
      clear hld
      have hj : ((j + 1 : Nat) : Int) - 1 = (j : Int) := by omega
      have hn : 0 ≤ [c0, c1, c2, c3, c4, c5, c6, c7, c8, c9, c10, c11].getD j 0 := by have := HN.out j (by omega); simpa [show j < 12 by omega] using this
      have hzz : z ≤ L + [c0, c1, c2, c3, c4, c5, c6, c7, c8, c9, c10, c11].getD j 0 := by
        by_cases h6 : j + 1 = 6
        · rw [HZ6.out h6]; omega
        · rw [HZ5.out (by omega)]; have := HD.out j (by omega); omega
      clear HZ6 HZ5
      go_wp2_with fail
      refine (HCK.out j (by omega) _).mono ?_
      rintro e w4 ⟨rfl, hb4⟩
      clear q0 q1 q2 q3 q4 q5 q6 q7 q8 q9 q10 q11 r0 r1
      have hrel : StrRel W.heap.size W c0 c1 c2 c3 c4 c5 c6 c7 c8 c9 c10 c11 f g s k b a l w4 :=
        ⟨HT.out.below hb4 (by omega), HS.out.below hb4 hsz, (hb4.block _ (by omega)).trans HL.out, Nat.lt_of_lt_of_le hsz hb4.size, hb.trans (hb4.mono hb.size)⟩
      clear HT HS HL hsz hb hb4
      generalize hv : L + [c0, c1, c2, c3, c4, c5, c6, c7, c8, c9, c10, c11].getD j 0 = v at *
      have HV := Lib.hid hv
      clear hv
      have hLv : L ≤ v := by have := HV.out; omega
      go_wp2_with fail
      exact ⟨⟨j, v, by omega, rfl, rfl, fun h => by omega, fun _ => HV.out.symm, hrel⟩, by simp [intOf] <;> omega⟩
    · obtain rfl : m = 0 := by omega
      clear HZ6 HZ5
      have hfr : wr.frozen? ⟨W.heap.size + 1, 4, none⟩ = false := by simp [World.frozen?, hld]
      have s0 := cell_of_row wr (W.heap.size + 1) 0 _ _ _ hld
      have s1 := cell_of_row wr (W.heap.size + 1) 1 _ _ _ hld
      have s2 := cell_of_row wr (W.heap.size + 1) 2 _ _ _ hld
      have s3 := cell_of_row wr (W.heap.size + 1) 3 _ _ _ hld
      have s4 := cell_of_row wr (W.heap.size + 1) 4 _ _ _ hld
      simp at s0 s1 s2 s3 s4
      clear hld
      go_wp2_with fail
      generalize hw5 : wr.setCell ⟨W.heap.size + 1, 4, none⟩ (.bool false) = w5
      have t0 : CellsAt w5 W.heap.size 0 [.int .i64 c0, .int .i64 c1, .int .i64 c2, .int .i64 c3, .int .i64 c4, .int .i64 c5, .int .i64 c6, .int .i64 c7, .int .i64 c8, .int .i64 c9, .int .i64 c10, .int .i64 c11] := by subst hw5; simp [CellsAt, go_sem, *]
      have t1 : CellsAt w5 (W.heap.size + 1) 0 [.int .i64 f, .int .i64 g, .int .i64 s, .int .i64 k, .bool false] := by subst hw5; simp [CellsAt, go_sem, *]
      have hsz5 : W.heap.size + 2 < w5.heap.size := by subst hw5; simpa [World.setCell] using hsz
      have hfr5 : w5.frozen? ⟨W.heap.size + 1, 4, none⟩ = false := by subst hw5; simp [go_sem, hfr]
      have hb5 : Below W.heap.size W w5 := by subst hw5; exact hb.setCell (by simp) _
      clear hw5 q0 q1 q2 q3 q4 q5 q6 q7 q8 q9 q10 q11 r0 r1 s0 s1 s2 s3 s4 hfr hb hsz HT HS HL
      refine (HE1.out _).mono ?_
      rintro e w6 ⟨rfl, hb6⟩
      have t0 := t0.below hb6 (by omega)
      have t1 := t1.below hb6 (by omega)
      have hfr6 : w6.frozen? ⟨W.heap.size + 1, 4, none⟩ = false := by rw [hb6.frozen (by simp; omega)]; exact hfr5
      have hsz6 : W.heap.size + 2 < w6.heap.size := Nat.lt_of_lt_of_le hsz5 hb6.size
      have hb7 : Below W.heap.size W w6 := hb5.trans (hb6.mono hb5.size)
      clear hb5 hb6 hfr5 hsz5
      simp only [CellsAt, Nat.zero_add, Nat.reduceAdd, and_true] at t0 t1
      obtain ⟨q0, q1, q2, q3, q4, q5, q6, q7, q8, q9, q10, q11⟩ := t0
      obtain ⟨s0, s1, s2, s3, s4⟩ := t1
      go_wp2_with fail
      refine (HE2.out _).mono ?_
      rintro e w8 ⟨rfl, hb8⟩
      have hb9 : Below W.heap.size W w8 := (hb7.setCell (p := ⟨W.heap.size + 1, 4, none⟩) (by simp) (.bool true)).trans (hb8.mono (by simpa [World.setCell] using hb7.size))
      clear q0 q1 q2 q3 q4 q5 q6 q7 q8 q9 q10 q11 s0 s1 s2 s3 s4 hb8 hb7 hfr6
      go_wp2_with fail
      go_ret
      exact ⟨rfl, hb9⟩
theorem strong_any (c0 c1 c2 c3 c4 c5 c6 c7 c8 c9 c10 c11 f g s k : Int) (b : Bool) (a l : Int) (W : World) :
    Calls Try.prog 7 #[.agg #[.int .i64 c0, .int .i64 c1, .int .i64 c2, .int .i64 c3, .int .i64 c4, .int .i64 c5, .int .i64 c6, .int .i64 c7, .int .i64 c8, .int .i64 c9, .int .i64 c10, .int .i64 c11], .agg #[.int .i64 f, .int .i64 g, .int .i64 s, .int .i64 k, .bool b], .agg #[.int .i64 a, .int .i64 l]] W fun e w' => e = .returned (.bool true) ∧ Below W.heap.size W w' := by
  by_cases h0 : pchk [c0, c1, c2, c3, c4, c5, c6, c7, c8, c9, c10, c11] = 0
  · have b0 : ∀ c ∈ ([c0, c1, c2, c3, c4, c5, c6, c7, c8, c9, c10, c11] : List Int), 0 ≤ c ∧ c ≤ 1000000 := pchk_in h0
    cases ha : wi a 1 32 with
    | false => exact strong_bad c0 c1 c2 c3 c4 c5 c6 c7 c8 c9 c10 c11 f g s k b a l W 2 (by decide) fun w => row_no0 c0 c1 c2 c3 c4 c5 c6 c7 c8 c9 c10 c11 a l (-1) w h0 ha
    | true =>
      cases hl : wi l 1 32 with
      | false => exact strong_bad c0 c1 c2 c3 c4 c5 c6 c7 c8 c9 c10 c11 f g s k b a l W 2 (by decide) fun w => row_no1 c0 c1 c2 c3 c4 c5 c6 c7 c8 c9 c10 c11 a l (-1) w h0 ha hl
      | true =>
        have ⟨a1, a2⟩ := wi_of ha
        have ⟨l1, l2⟩ := wi_of hl
        refine strong_ok c0 c1 c2 c3 c4 c5 c6 c7 c8 c9 c10 c11 f g s k b a l _ W h0 ?_ (fun w => row_yesn c0 c1 c2 c3 c4 c5 c6 c7 c8 c9 c10 c11 a l (-1) (by omega) (by omega) w h0 a1 a2 l1 l2 b0) (fun m hm w => row_yesp c0 c1 c2 c3 c4 c5 c6 c7 c8 c9 c10 c11 a l m hm w h0 a1 a2 l1 l2 b0)
        have b6 := b0 c6 (by simp)
        have b7 := b0 c7 (by simp)
        have : 0 ≤ c6 * (if a < l then l - a else a - l) := Int.mul_nonneg b6.1 (by split <;> omega)
        omega
  · have hx : (pchk [c0, c1, c2, c3, c4, c5, c6, c7, c8, c9, c10, c11] == 0) = false := by simpa using h0
    exact strong_bad c0 c1 c2 c3 c4 c5 c6 c7 c8 c9 c10 c11 f g s k b a l W _ hx fun w => row_bad c0 c1 c2 c3 c4 c5 c6 c7 c8 c9 c10 c11 a l (-1) w _ rfl hx
end Go.Proofs.Ytbebnbpdemdocaa
