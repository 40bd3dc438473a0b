/-
  The contracts of the two functions that check a table: both come to the same plain function of the twelve numbers. Without conditions.
-/
import Derived.Test.YtbebnbpdemdocaaDoorNum
import Derived.WalkSmall
namespace Go.Proofs.YtbebnbpdemdocaaDoor
open Go.RowKit
set_option linter.unusedVariables false
def inR (n : Int) : Bool := decide (0 ≤ n) && decide (n ≤ 1000000)
/-- The error of a table, by its twelve numbers. -/
def pchk (cs : List Int) : Int :=
  if cs.all inR = true then (if (List.range 5).all (fun i => decide (cs.getD (i + 1) 0 ≤ cs.getD i 0)) = true then 0 else 8) else 2
theorem ints_cells {w' : World} {g : Nat} {cs : List Int} (h : CellsAt w' g 0 (cs.map (Value.int .i64))) (k : Nat) (hk : k < cs.length) : w'.cell? ⟨g, k, none⟩ = some (.int .i64 (cs.getD k 0)) := by
  have := h.all k (.int .i64 (cs.getD k 0)) (by simp [hk])
  rwa [Addr.add_lit, Nat.zero_add] at this
theorem all_succ {cs : List Int} {k : Nat} (hk : k < cs.length) (h : (cs.take k).all inR = true) (h1 : 0 ≤ cs.getD k 0) (h2 : cs.getD k 0 ≤ 1000000) : (cs.take (k + 1)).all inR = true := by
  rw [List.take_succ_eq_append_getElem hk, List.all_append, h]
  have : cs.getD k 0 = cs[k] := by simp [hk]
  rw [this] at h1 h2
  simp [inR, h1, h2]
theorem pchk_two {cs : List Int} {k : Nat} (hk : k < cs.length) (h : cs.getD k 0 < 0 ∨ 1000000 < cs.getD k 0) : pchk cs = 2 := by
  unfold pchk
  rw [if_neg]
  intro hall
  have := List.all_eq_true.1 hall cs[k] (List.getElem_mem hk)
  have e : cs.getD k 0 = cs[k] := by simp [hk]
  rw [e] at h
  simp [inR] at this
  omega
theorem pchk_eight {cs : List Int} {i : Nat} (hall : cs.all inR = true) (h1 : 1 ≤ i) (h6 : i < 6) (h : cs.getD (i - 1) 0 < cs.getD i 0) : pchk cs = 8 := by
  unfold pchk
  rw [if_pos hall, if_neg]
  intro hd
  have := List.all_eq_true.1 hd (i - 1) (List.mem_range.2 (by omega))
  rw [show i - 1 + 1 = i by omega] at this
  have := of_decide_eq_true this
  omega
theorem pchk_zero {cs : List Int} (hall : cs.all inR = true) (h : ∀ j, 1 ≤ j → j < 6 → cs.getD j 0 ≤ cs.getD (j - 1) 0) : pchk cs = 0 := by
  unfold pchk
  rw [if_pos hall, if_pos]
  refine List.all_eq_true.2 fun i hi => decide_eq_true ?_
  have := h (i + 1) (by omega) (by have := List.mem_range.1 hi; omega)
  simpa using this
def Desc (cs : List Int) (k : Nat) : Prop := ∀ j, 1 ≤ j → j < k → cs.getD j 0 ≤ cs.getD (j - 1) 0

set_option maxHeartbeats 400000 in
theorem check_any (c0 c1 c2 c3 c4 c5 c6 c7 c8 c9 c10 c11 : Int) (w : World) :
    Calls Tryd.prog 15 #[.agg #[.int .i64 c0, .int .i64 c1, .int .i64 c2, .int .i64 c3, .int .i64 c4, .int .i64 c5, .int .i64 c6, .int .i64 c7, .int .i64 c8, .int .i64 c9, .int .i64 c10, .int .i64 c11]] w
     fun e w' => e = .returned (.int .i64 (pchk [c0, c1, c2, c3, c4, c5, c6, c7, c8, c9, c10, c11])) ∧ Below w.heap.size w w' := by
  obtain ⟨cs, hcs⟩ : ∃ cs : List Int, cs = [c0, c1, c2, c3, c4, c5, c6, c7, c8, c9, c10, c11] := ⟨_, rfl⟩
  rw [← hcs]
  have HCS := Lib.hid hcs
  clear hcs
  go_enter Tryd.func15, Tryd.ntmps15
  go_wp2_with fail
  generalize hw1 : w.alloc (.cells #[.int .i64 c0, .int .i64 c1, .int .i64 c2, .int .i64 c3, .int .i64 c4, .int .i64 c5, .int .i64 c6, .int .i64 c7, .int .i64 c8, .int .i64 c9, .int .i64 c10, .int .i64 c11] 24) = w1
  have hcells : CellsAt w1 w.heap.size 0 [.int .i64 c0, .int .i64 c1, .int .i64 c2, .int .i64 c3, .int .i64 c4, .int .i64 c5, .int .i64 c6, .int .i64 c7, .int .i64 c8, .int .i64 c9, .int .i64 c10, .int .i64 c11] := by
    subst hw1; simp [CellsAt, go_sem]
  have hsz : w.heap.size < w1.heap.size := by subst hw1; simp
  have hb0 : Below w.heap.size w w1 := by subst hw1; exact (Below.refl _ _).alloc (Nat.le_refl _) _
  clear hw1
  refine (numbers_any c0 c1 c2 c3 c4 c5 c6 c7 c8 c9 c10 c11 _).mono ?_
  rintro e w2 ⟨g, cap, rfl, hc, hg, hb⟩
  have hcells2 := hcells.below hb hsz
  have hcs := HCS.out
  have hlen : 12 ≤ cs.length := by rw [hcs]; simp
  have hlen' : cs.length ≤ 12 := by rw [hcs]; simp
  have HC := Lib.hid (fun (k : Nat) (hk : k < 12) => ints_cells (w' := w2) (g := g) (cs := cs) (by subst hcs; exact hc) k (by omega))
  have HO := Lib.hid (fun (k : Nat) (hk : k < 12) => ints_cells (w' := w2) (g := w.heap.size) (cs := cs) (by subst hcs; exact hcells2) k (by omega))
  have hbw : Below w.heap.size w w2 := hb0.trans (hb.mono (by omega))
  clear hcells hcells2 hc hb hb0 hcs
  go_wp2_with fail
  go_loop [9] (fun i => ∃ k : Nat, k ≤ 12 ∧ i = .int .i64 k ∧ (cs.take k).all inR = true) (fun i => 12 - (intOf i).toNat)
  case atStart => exact ⟨0, by omega, rfl, rfl⟩
  case round =>
    obtain ⟨k, hk, rfl, hall⟩ := hrel
    have HA := Lib.hid hall
    clear hall
    by_cases hlt : k < 12
    · have hx := HC.out k hlt
      have HN : ∃ n, n = cs.getD k 0 := ⟨_, rfl⟩
      obtain ⟨n, hn⟩ := HN
      rw [← hn] at hx
      have HN := Lib.hid hn
      clear hn
      go_wp2
      all_goals first
        | (go_round
           case rel => exact ⟨k + 1, by omega, by go_num, all_succ (by omega) HA.out (by rw [← HN.out]; omega) (by rw [← HN.out]; omega)⟩
           case measure => simp [intOf]; omega)
        | (go_ret
           refine ⟨?_, hbw⟩
           rw [pchk_two (k := k) (by omega) (by rw [← HN.out]; omega)]; rfl)
    · have hall : cs.all inR = true := by have := HA.out; rwa [List.take_of_length_le (by omega)] at this
      have HA := Lib.hid hall
      clear hall
      go_wp2
      go_loopw [5] (fun i wr => ∃ (m n : Nat), m ≤ 5 ∧ i = .int .i64 ((m : Int) + 1) ∧ wr = w2.drewN n ∧ Desc cs (m + 1)) (fun i _ => 6 - (intOf i).toNat)
      case atStart => exact ⟨0, 0, by omega, rfl, rfl, fun j h1 h2 => by omega⟩
      case round =>
        obtain ⟨m, n, hm, rfl, rfl, hd⟩ := hrel
        have hbr : Below w.heap.size w (w2.drewN n) := below_drewN hbw n
        by_cases hlt : m < 5
        · have hx : w2.cell? ⟨w.heap.size, m + 1, none⟩ = some (.int .i64 (cs.getD (m + 1) 0)) := HO.out (m + 1) (by omega)
          have hy : w2.cell? ⟨w.heap.size, m, none⟩ = some (.int .i64 (cs.getD m 0)) := HO.out m (by omega)
          have HD := Lib.hid hd
          clear hd
          generalize hcx : cs.getD (m + 1) 0 = x at *
          generalize hcy : cs.getD m 0 = y at *
          have HX := Lib.hid hcx
          have HY := Lib.hid hcy
          clear hcx hcy
          go_wp2
          have e1 : IntKind.i64.wrap ((m : Int) + 1 - 1) = (m : Int) := by rw [IntWalk.i64_in _ (by omega)]; omega
          have e2 : ((m : Int) + 1).toNat = m + 1 := by omega
          have e3 : (m : Int) + 1 < 6 := by omega
          have e4 : (0 : Int) ≤ (m : Int) + 1 := by omega
          have e5 : (m : Int) < 6 := by omega
          go_quiet (fail)
          go_wp2
          · go_ret
            refine ⟨?_, below_drewN hbr _⟩
            rw [pchk_eight (i := m + 1) HA.out (by omega) (by omega) (by rw [HX.out, show m + 1 - 1 = m by omega, HY.out]; assumption)]; rfl
          · refine ⟨⟨m + 1, n + nq, by omega, by rw [Int.natCast_add]; rfl, rfl, fun j h1 h2 => ?_⟩, by simp [intOf]; omega⟩
            rcases Nat.lt_or_ge j (m + 1) with h3 | h3
            · exact HD.out j h1 h3
            · obtain rfl : j = m + 1 := by omega
              rw [HX.out, show m + 1 - 1 = m by omega, HY.out]
              omega
        · go_wp2
          go_ret
          refine ⟨?_, hbr⟩
          rw [pchk_zero HA.out (fun j h1 h2 => hd j h1 (by omega))]; rfl

set_option maxHeartbeats 400000 in
theorem checkr_any (c0 c1 c2 c3 c4 c5 c6 c7 c8 c9 c10 c11 : Int) (w : World) :
    Calls Tryd.prog 18 #[.agg #[.int .i64 c0, .int .i64 c1, .int .i64 c2, .int .i64 c3, .int .i64 c4, .int .i64 c5, .int .i64 c6, .int .i64 c7, .int .i64 c8, .int .i64 c9, .int .i64 c10, .int .i64 c11]] w
     fun e w' => e = .returned (.int .i64 (pchk [c0, c1, c2, c3, c4, c5, c6, c7, c8, c9, c10, c11])) ∧ Below w.heap.size w w' := by
  obtain ⟨cs, hcs⟩ : ∃ cs : List Int, cs = [c0, c1, c2, c3, c4, c5, c6, c7, c8, c9, c10, c11] := ⟨_, rfl⟩
  rw [← hcs]
  have HCS := Lib.hid hcs
  clear hcs
  go_enter Tryd.func18, Tryd.ntmps18
  go_wp2_with fail
  generalize hw1 : w.alloc (.cells #[.int .i64 c0, .int .i64 c1, .int .i64 c2, .int .i64 c3, .int .i64 c4, .int .i64 c5, .int .i64 c6, .int .i64 c7, .int .i64 c8, .int .i64 c9, .int .i64 c10, .int .i64 c11] 24) = w1
  have hcells : CellsAt w1 w.heap.size 0 [.int .i64 c0, .int .i64 c1, .int .i64 c2, .int .i64 c3, .int .i64 c4, .int .i64 c5, .int .i64 c6, .int .i64 c7, .int .i64 c8, .int .i64 c9, .int .i64 c10, .int .i64 c11] := by
    subst hw1; simp [CellsAt, go_sem]
  have hsz : w.heap.size < w1.heap.size := by subst hw1; simp
  have hb0 : Below w.heap.size w w1 := by subst hw1; exact (Below.refl _ _).alloc (Nat.le_refl _) _
  clear hw1
  refine (numbersr_any c0 c1 c2 c3 c4 c5 c6 c7 c8 c9 c10 c11 _).mono ?_
  rintro e w2 ⟨g, cap, rfl, hc, hg, hb⟩
  have hcells2 := hcells.below hb hsz
  have hcs := HCS.out
  have hlen : 12 ≤ cs.length := by rw [hcs]; simp
  have hlen' : cs.length ≤ 12 := by rw [hcs]; simp
  have HC := Lib.hid (fun (k : Nat) (hk : k < 12) => ints_cells (w' := w2) (g := g) (cs := cs) (by subst hcs; exact hc) k (by omega))
  have HO := Lib.hid (fun (k : Nat) (hk : k < 12) => ints_cells (w' := w2) (g := w.heap.size) (cs := cs) (by subst hcs; exact hcells2) k (by omega))
  have hbw : Below w.heap.size w w2 := hb0.trans (hb.mono (by omega))
  clear hcells hcells2 hc hb hb0 hcs
  go_wp2_with fail
  go_loop [9] (fun i => ∃ k : Nat, k ≤ 12 ∧ i = .int .i64 k ∧ (cs.take k).all inR = true) (fun i => 12 - (intOf i).toNat)
  case atStart => exact ⟨0, by omega, rfl, rfl⟩
  case round =>
    obtain ⟨k, hk, rfl, hall⟩ := hrel
    have HA := Lib.hid hall
    clear hall
    by_cases hlt : k < 12
    · have hx := HC.out k hlt
      have HN : ∃ n, n = cs.getD k 0 := ⟨_, rfl⟩
      obtain ⟨n, hn⟩ := HN
      rw [← hn] at hx
      have HN := Lib.hid hn
      clear hn
      go_wp2
      all_goals first
        | (go_round
           case rel => exact ⟨k + 1, by omega, by go_num, all_succ (by omega) HA.out (by rw [← HN.out]; omega) (by rw [← HN.out]; omega)⟩
           case measure => simp [intOf]; omega)
        | (go_ret
           refine ⟨?_, hbw⟩
           rw [pchk_two (k := k) (by omega) (by rw [← HN.out]; omega)]; rfl)
    · have hall : cs.all inR = true := by have := HA.out; rwa [List.take_of_length_le (by omega)] at this
      have HA := Lib.hid hall
      clear hall
      go_wp2
      go_loopw [5] (fun i wr => ∃ (m n : Nat), m ≤ 5 ∧ i = .int .i64 ((m : Int) + 1) ∧ wr = w2.drewN n ∧ Desc cs (m + 1)) (fun i _ => 6 - (intOf i).toNat)
      case atStart => exact ⟨0, 0, by omega, rfl, rfl, fun j h1 h2 => by omega⟩
      case round =>
        obtain ⟨m, n, hm, rfl, rfl, hd⟩ := hrel
        have hbr : Below w.heap.size w (w2.drewN n) := below_drewN hbw n
        by_cases hlt : m < 5
        · have hx : w2.cell? ⟨w.heap.size, m + 1, none⟩ = some (.int .i64 (cs.getD (m + 1) 0)) := HO.out (m + 1) (by omega)
          have hy : w2.cell? ⟨w.heap.size, m, none⟩ = some (.int .i64 (cs.getD m 0)) := HO.out m (by omega)
          have HD := Lib.hid hd
          clear hd
          generalize hcx : cs.getD (m + 1) 0 = x at *
          generalize hcy : cs.getD m 0 = y at *
          have HX := Lib.hid hcx
          have HY := Lib.hid hcy
          clear hcx hcy
          go_wp2
          have e1 : IntKind.i64.wrap ((m : Int) + 1 - 1) = (m : Int) := by rw [IntWalk.i64_in _ (by omega)]; omega
          have e2 : ((m : Int) + 1).toNat = m + 1 := by omega
          have e3 : (m : Int) + 1 < 6 := by omega
          have e4 : (0 : Int) ≤ (m : Int) + 1 := by omega
          have e5 : (m : Int) < 6 := by omega
          go_quiet (fail)
          go_wp2
          · go_ret
            refine ⟨?_, below_drewN hbr _⟩
            rw [pchk_eight (i := m + 1) HA.out (by omega) (by omega) (by rw [HX.out, show m + 1 - 1 = m by omega, HY.out]; assumption)]; rfl
          · refine ⟨⟨m + 1, n + nq, by omega, by rw [Int.natCast_add]; rfl, rfl, fun j h1 h2 => ?_⟩, by simp [intOf]; omega⟩
            rcases Nat.lt_or_ge j (m + 1) with h3 | h3
            · exact HD.out j h1 h3
            · obtain rfl : j = m + 1 := by omega
              rw [HX.out, show m + 1 - 1 = m by omega, HY.out]
              omega
        · go_wp2
          go_ret
          refine ⟨?_, hbr⟩
          rw [pchk_zero HA.out (fun j h1 h2 => hd j h1 (by omega))]; rfl
end Go.Proofs.YtbebnbpdemdocaaDoor
