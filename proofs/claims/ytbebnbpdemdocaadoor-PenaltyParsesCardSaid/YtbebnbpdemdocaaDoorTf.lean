/-
  The contract of Parse of the program: the ways behind its head. Its conditions are its hypotheses.
-/
import Derived.Test.YtbebnbpdemdocaaDoorTe
namespace Go.Proofs.YtbebnbpdemdocaaDoor
open Go.RowKit Go.Joins
set_option linter.unusedVariables false
set_option linter.unusedSimpArgs false
theorem numsP_snoc : ∀ {ws : List (List UInt8)} {cs : List Int} {u : List UInt8} {n : Int}, numsP ws = some cs → numP u = some n → numsP (ws ++ [u]) = some (cs ++ [n])
  | [], cs, u, n, h, hu => by
    cases h
    rw [List.nil_append, numsP, hu]
    rfl
  | w :: ws, cs, u, n, h, hu => by
    rw [numsP] at h
    split at h
    · rename_i m ms e1 e2
      cases h
      rw [List.cons_append, numsP, e1, numsP_snoc e2 hu]
      rfl
    · cases h
theorem numsP_step {ws : List (List UInt8)} {xs : List Int} {k : Nat} {u : List UInt8} {n : Int} (h : numsP (ws.take k) = some (xs.take k)) (hk : ws[k]? = some u) (hl : k < xs.length) (hu : numP u = some n) :
    numsP (ws.take (k + 1)) = some ((xs.set k n).take (k + 1)) := by
  rw [List.take_add_one, hk, List.take_add_one]
  have e : (xs.set k n).take k = xs.take k := by rw [List.take_set_of_le (Nat.le_refl _)]
  rw [e, List.getElem?_set_self hl]
  exact numsP_snoc h hu
theorem deci_some {u : List UInt8} {n : Int} (h : numP u = some n) (w : World) :
    Calls Tryd.prog 22 #[.string (sB u)] w fun e w' => e = .returned (.tuple #[.int .i64 n, .bool true]) ∧ Below w.heap.size w w' := by
  refine (deci_any (sB u) w).mono ?_
  rintro e w' ⟨h1, h2⟩
  rw [sB_list, numQ_some h] at h1
  exact ⟨h1, h2⟩
theorem deci_none {u : List UInt8} (h : numP u = none) (w : World) :
    Calls Tryd.prog 22 #[.string (sB u)] w fun e w' => e = .returned (.tuple #[.int .i64 0, .bool false]) ∧ Below w.heap.size w w' := by
  refine (deci_any (sB u) w).mono ?_
  rintro e w' ⟨h1, h2⟩
  rw [sB_list, numQ_none h] at h1
  exact ⟨h1, h2⟩
theorem Held.one {w : World} {g : Nat} {xs : List Int} (h : Held w g (xs.map (Value.int .i64))) {k : Nat} (hk : k < xs.length) : w.cell? ⟨g, k, none⟩ = some (.int .i64 (xs.getD k 0)) := by
  rw [h.cell k]
  simp [hk]
theorem Held.seti {w : World} {g : Nat} {xs : List Int} (h : Held w g (xs.map (Value.int .i64))) (k : Nat) (n : Int) : Held (w.setCell ⟨g, k, none⟩ (.int .i64 n)) g ((xs.set k n).map (Value.int .i64)) := by
  rw [List.map_set]
  exact h.set k _
theorem twelve_of {xs : List Int} (h : xs.length = 12) : ∃ c0 c1 c2 c3 c4 c5 c6 c7 c8 c9 c10 c11 : Int, xs = [c0, c1, c2, c3, c4, c5, c6, c7, c8, c9, c10, c11] := by
  match xs, h with
  | [c0, c1, c2, c3, c4, c5, c6, c7, c8, c9, c10, c11], _ => exact ⟨c0, c1, c2, c3, c4, c5, c6, c7, c8, c9, c10, c11, rfl⟩
set_option maxHeartbeats 2000000 in
set_option maxRecDepth 100000 in
theorem parse_rest (s : ByteArray) (w : World) (hs : s.size ≤ 1000) (hm : Mx w) (t0 : List (List UInt8)) (hw0 : wordsC 32 s.data.toList = headP :: t0) (hl : t0.length = 12) :
    Calls Tryd.prog 8 #[.string s] w (TabP s.data.toList w.heap.size w) := by
  have HSP := Lib.hid (fun (w' : World) (hm' : Mx w') => split_any s w' (by omega) hm')
  have HM := Lib.hid hm
  have HE := Lib.hid (show parseP s.data.toList = (match numsP t0 with
    | some cs => if pchk cs = 0 then .ok cs else .error (pchk cs)
    | none => .error 4) by
    unfold parseP
    rw [hw0]
    simp only []
    rw [if_pos ⟨hl, trivial⟩]
    cases numsP t0 <;> rfl)
  rw [hw0] at HSP
  have tn : (!(sB headP).toList == [80, 69, 78, 65, 76, 84, 73, 69, 83]) = false := by
    rw [Lib.toList_data]
    rfl
  have HL := Lib.hid hl
  clear hm hw0
  obtain ⟨B, hB⟩ : ∃ B, B = w.heap.size := ⟨_, rfl⟩
  rw [← hB]
  go_enter Tryd.func8, Tryd.ntmps8
  go_wp2_with fail
  rw [← hB]
  generalize hw1 : World.alloc _ _ = w1
  have H2 := Lib.hid (show Held w1 B (zero12.map (Value.int .i64)) by subst hw1; exact Held.new hB)
  have FB := Lib.hid (show Below B w w1 by subst hw1; subst hB; exact below_one _ _)
  have HM1 := Lib.hid (show Mx w1 from HM.out.on (hB ▸ FB.out))
  clear hw1 hB
  refine (HSP.out _ HM1.out).mono ?_
  rintro e w2 ⟨⟨g4, c4, rfl, h4, h5, hr4⟩, hb⟩
  rw [List.length_cons, hl] at h4 ⊢
  obtain ⟨b0, o0, e0, c0⟩ := hr4 0 (strV headP) (by simp)
  cases e0
  unfold strV at c0
  rw [Nat.add_zero] at c0
  have HR := Lib.hid (show RowAt w2 (some ⟨g4, 1, none⟩) (t0.map strV) by
    intro k u hk
    obtain ⟨b, o, e, hc⟩ := hr4 (k + 1) u (by simpa using hk)
    cases e
    exact ⟨g4, 1, rfl, by rw [Nat.add_comm 1 k, ← Nat.zero_add (k + 1)]; exact hc⟩)
  have H3 := Lib.hid (H2.out.ext hb)
  have FB2 := Lib.hid (FB.out.trans (hb.mono (Nat.le_of_lt H2.out.lt)))
  clear hb H2 HM1 HSP hr4 hl
  have hBw : B < w2.heap.size := H3.out.lt
  have h4' : ¬ (c4 = 1) := by omega
  have h4'' : 1 ≤ c4 := by omega
  unfold maxLen at h5
  go_wp2_with fail
  generalize hw3 : World.alloc _ _ = w3
  obtain ⟨D, hD⟩ : ∃ D, D = w2.heap.size := ⟨_, rfl⟩
  rw [← hD]
  have HA := Lib.hid (show Held w3 D (zero12.map (Value.int .i64)) by subst hw3; exact Held.new hD)
  have G0 := Lib.hid (show Below w2.heap.size w2 w3 by subst hw3; exact below_one _ _)
  have hBD : B < D := by omega
  have hDle : w2.heap.size ≤ D := by omega
  have HD := Lib.hid hD
  clear hw3 hD c0
  go_loopw [26] (fun i wr => ∃ (k : Nat) (xs : List Int), k ≤ 12 ∧ i = .int .i64 k ∧ Hid (xs.length = 12) ∧ Hid (numsP (t0.take k) = some (xs.take k)) ∧ Hid (Held wr D (xs.map (Value.int .i64))) ∧ Hid (Below w2.heap.size w2 wr)) (fun i _ => 12 - (intOf i).toNat)
  case atStart => exact ⟨0, zero12, by omega, rfl, Lib.hid rfl, Lib.hid rfl, HA, G0⟩
  case round =>
    obtain ⟨k, xs, hk, rfl, HX, HN, HH, G⟩ := hrel
    by_cases hlt : k < 12
    · have hlt2 : (k : Int) < 12 := by omega
      obtain ⟨u, hu⟩ : ∃ u, t0[k]? = some u := ⟨_, List.getElem?_eq_getElem (by rw [HL.out]; exact hlt)⟩
      have HU := Lib.hid hu
      obtain ⟨b1, o1, e1, c1⟩ := (HR.out.ext G.out) k (strV u) (by rw [List.getElem?_map, hu]; rfl)
      cases e1
      unfold strV at c1
      clear hu
      cases hn : numP u with
      | none =>
        have HF := Lib.hid (show parseP s.data.toList = .error 4 by
          rw [HE.out, numsP_bad HU.out hn])
        have HC := Lib.hid (fun w' => deci_none hn w')
        clear hn
        rcases (show k = 0 ∨ k = 1 ∨ k = 2 ∨ k = 3 ∨ k = 4 ∨ k = 5 ∨ k = 6 ∨ k = 7 ∨ k = 8 ∨ k = 9 ∨ k = 10 ∨ k = 11 by omega) with rfl | rfl | rfl | rfl | rfl | rfl | rfl | rfl | rfl | rfl | rfl | rfl
        all_goals
          go_wp2_with fail
          refine (HC.out _).mono ?_
          rintro e w5 ⟨rfl, hb5⟩
          have H5 := Lib.hid ((H3.out.ext G.out).ext hb5)
          have FB5 := Lib.hid ((FB2.out.trans (G.out.mono (Nat.le_of_lt H3.out.lt))).trans (hb5.mono (Nat.le_of_lt (H3.out.ext G.out).lt)))
          clear hb5
          have q := H5.out.cell
          have y := H5.out.free
          unfold zero12 at q
          simp only [List.map_cons, List.map_nil] at q
          have hBw5 : B < w5.heap.size := H5.out.lt
          go_wp2_with (with_reducible refine stop_at ?_)
          unfold StopAt
          have r := Lib.hid ((((((((((((H5.out.set 0 (.int .i64 0)).set 1 (.int .i64 0)).set 2 (.int .i64 0)).set 3 (.int .i64 0)).set 4 (.int .i64 0)).set 5 (.int .i64 0)).set 6 (.int .i64 0)).set 7 (.int .i64 0)).set 8 (.int .i64 0)).set 9 (.int .i64 0)).set 10 (.int .i64 0)).set 11 (.int .i64 0))
          have rb := Lib.hid ((((((((((((FB5.out.setCell (p := ⟨B, 0, none⟩) (by simp) (.int .i64 0)).setCell (p := ⟨B, 1, none⟩) (by simp) (.int .i64 0)).setCell (p := ⟨B, 2, none⟩) (by simp) (.int .i64 0)).setCell (p := ⟨B, 3, none⟩) (by simp) (.int .i64 0)).setCell (p := ⟨B, 4, none⟩) (by simp) (.int .i64 0)).setCell (p := ⟨B, 5, none⟩) (by simp) (.int .i64 0)).setCell (p := ⟨B, 6, none⟩) (by simp) (.int .i64 0)).setCell (p := ⟨B, 7, none⟩) (by simp) (.int .i64 0)).setCell (p := ⟨B, 8, none⟩) (by simp) (.int .i64 0)).setCell (p := ⟨B, 9, none⟩) (by simp) (.int .i64 0)).setCell (p := ⟨B, 10, none⟩) (by simp) (.int .i64 0)).setCell (p := ⟨B, 11, none⟩) (by simp) (.int .i64 0))
          generalize World.setCell _ _ _ = w9 at *
          have rc := r.out.cell
          unfold zero12 at rc
          simp only [List.map_cons, List.map_nil, List.set_cons_zero, List.set_cons_succ] at rc
          clear q y
          refine bodyPost_ret (v := .tuple #[tblV zero12, .int .i64 4]) (by simp [results, Tryd.results8, rc, go_sem, tblV, zero12]; try rfl) rfl ?_
          exact TabP.bad HF.out rb.out
      | some n =>
        have HS := Lib.hid (numsP_step HN.out HU.out (by rw [HX.out]; exact hlt) hn)
        have HC := Lib.hid (fun w' => deci_some hn w')
        have HXn := Lib.hid (show (xs.set k n).length = 12 by rw [List.length_set, HX.out])
        clear hn
        rcases (show k = 0 ∨ k = 1 ∨ k = 2 ∨ k = 3 ∨ k = 4 ∨ k = 5 ∨ k = 6 ∨ k = 7 ∨ k = 8 ∨ k = 9 ∨ k = 10 ∨ k = 11 by omega) with rfl | rfl | rfl | rfl | rfl | rfl | rfl | rfl | rfl | rfl | rfl | rfl
        all_goals
          go_wp2_with fail
          refine (HC.out _).mono ?_
          rintro e w5 ⟨rfl, hb5⟩
          have H5 := Lib.hid (HH.out.ext hb5)
          have G5 := Lib.hid (G.out.trans (hb5.mono (G.out.size)))
          clear hb5
          have q := H5.out.one (by rw [HX.out]; exact hlt)
          have y := H5.out.free
          have hDw5 : D < w5.heap.size := H5.out.lt
          go_wp2_with fail
          clear q y
          go_roundw
          case rel => exact ⟨_, _, by omega, by go_num, HXn, HS, Lib.hid (H5.out.seti _ n), Lib.hid (G5.out.setCell hDle _)⟩
          case measure => simp [intOf]
    · obtain rfl : k = 12 := by omega
      have HN2 := Lib.hid (show numsP t0 = some xs by
        have h1 := HN.out
        rw [List.take_of_length_le (by rw [HL.out]; exact Nat.le_refl _), List.take_of_length_le (by rw [HX.out]; exact Nat.le_refl _)] at h1
        exact h1)
      obtain ⟨c0, c1, c2, c3, c4, c5, c6, c7, c8, c9, c10, c11, rfl⟩ := twelve_of HX.out
      clear HN HX
      have HB1 := Lib.hid (H3.out.ext G.out)
      have q := HH.out.cell
      simp only [List.map_cons, List.map_nil] at q
      have hDw : D < wr.heap.size := HH.out.lt
      go_wp2_with fail
      refine (check_any _ _ _ _ _ _ _ _ _ _ _ _ _).mono ?_
      rintro e w5 ⟨rfl, hb5⟩
      have H5 := Lib.hid (HB1.out.ext hb5)
      have G5 := Lib.hid (G.out.trans (hb5.mono (G.out.size)))
      have FB5 := Lib.hid ((FB2.out.trans (G.out.mono (Nat.le_of_lt H3.out.lt))).trans (hb5.mono (Nat.le_of_lt HB1.out.lt)))
      have HD5 := Lib.hid (HH.out.ext hb5)
      clear hb5 q
      obtain ⟨p, hp⟩ : ∃ p, p = pchk [c0, c1, c2, c3, c4, c5, c6, c7, c8, c9, c10, c11] := ⟨_, rfl⟩
      rw [← hp]
      have HP := Lib.hid hp
      clear hp
      have q := H5.out.cell
      have y := H5.out.free
      unfold zero12 at q
      simp only [List.map_cons, List.map_nil] at q
      have q2 := HD5.out.cell
      simp only [List.map_cons, List.map_nil] at q2
      have hBw5 : B < w5.heap.size := H5.out.lt
      have hDw5 : D < w5.heap.size := HD5.out.lt
      by_cases h0 : p = 0
      · have t1 : (p != 0) = false := by simp [h0]
        have HF := Lib.hid (show parseP s.data.toList = .ok [c0, c1, c2, c3, c4, c5, c6, c7, c8, c9, c10, c11] by
          rw [HE.out, HN2.out]
          simp only []
          rw [if_pos (by rw [← HP.out, h0])])
        clear h0
        go_wp2_with (with_reducible refine stop_at ?_)
        unfold StopAt
        have r := Lib.hid ((((((((((((H5.out.set 0 (.int .i64 c0)).set 1 (.int .i64 c1)).set 2 (.int .i64 c2)).set 3 (.int .i64 c3)).set 4 (.int .i64 c4)).set 5 (.int .i64 c5)).set 6 (.int .i64 c6)).set 7 (.int .i64 c7)).set 8 (.int .i64 c8)).set 9 (.int .i64 c9)).set 10 (.int .i64 c10)).set 11 (.int .i64 c11))
        have rb := Lib.hid ((((((((((((FB5.out.setCell (p := ⟨B, 0, none⟩) (by simp) (.int .i64 c0)).setCell (p := ⟨B, 1, none⟩) (by simp) (.int .i64 c1)).setCell (p := ⟨B, 2, none⟩) (by simp) (.int .i64 c2)).setCell (p := ⟨B, 3, none⟩) (by simp) (.int .i64 c3)).setCell (p := ⟨B, 4, none⟩) (by simp) (.int .i64 c4)).setCell (p := ⟨B, 5, none⟩) (by simp) (.int .i64 c5)).setCell (p := ⟨B, 6, none⟩) (by simp) (.int .i64 c6)).setCell (p := ⟨B, 7, none⟩) (by simp) (.int .i64 c7)).setCell (p := ⟨B, 8, none⟩) (by simp) (.int .i64 c8)).setCell (p := ⟨B, 9, none⟩) (by simp) (.int .i64 c9)).setCell (p := ⟨B, 10, none⟩) (by simp) (.int .i64 c10)).setCell (p := ⟨B, 11, none⟩) (by simp) (.int .i64 c11))
        generalize World.setCell _ _ _ = w9 at *
        have rc := r.out.cell
        unfold zero12 at rc
        simp only [List.map_cons, List.map_nil, List.set_cons_zero, List.set_cons_succ] at rc
        clear q q2 y
        refine bodyPost_ret (v := .tuple #[tblV [c0, c1, c2, c3, c4, c5, c6, c7, c8, c9, c10, c11], .int .i64 0]) (by simp [results, Tryd.results8, rc, go_sem, tblV, zero12]; try rfl) rfl ?_
        exact TabP.good HF.out rb.out
      · have t1 : (p != 0) = true := by simp [h0]
        have HF := Lib.hid (show parseP s.data.toList = .error p by
          rw [HE.out, HN2.out]
          simp only []
          rw [if_neg (by rw [← HP.out]; exact h0), HP.out])
        clear h0
        go_wp2_with (with_reducible refine stop_at ?_)
        unfold StopAt
        have r := Lib.hid ((((((((((((H5.out.set 0 (.int .i64 0)).set 1 (.int .i64 0)).set 2 (.int .i64 0)).set 3 (.int .i64 0)).set 4 (.int .i64 0)).set 5 (.int .i64 0)).set 6 (.int .i64 0)).set 7 (.int .i64 0)).set 8 (.int .i64 0)).set 9 (.int .i64 0)).set 10 (.int .i64 0)).set 11 (.int .i64 0))
        have rb := Lib.hid ((((((((((((FB5.out.setCell (p := ⟨B, 0, none⟩) (by simp) (.int .i64 0)).setCell (p := ⟨B, 1, none⟩) (by simp) (.int .i64 0)).setCell (p := ⟨B, 2, none⟩) (by simp) (.int .i64 0)).setCell (p := ⟨B, 3, none⟩) (by simp) (.int .i64 0)).setCell (p := ⟨B, 4, none⟩) (by simp) (.int .i64 0)).setCell (p := ⟨B, 5, none⟩) (by simp) (.int .i64 0)).setCell (p := ⟨B, 6, none⟩) (by simp) (.int .i64 0)).setCell (p := ⟨B, 7, none⟩) (by simp) (.int .i64 0)).setCell (p := ⟨B, 8, none⟩) (by simp) (.int .i64 0)).setCell (p := ⟨B, 9, none⟩) (by simp) (.int .i64 0)).setCell (p := ⟨B, 10, none⟩) (by simp) (.int .i64 0)).setCell (p := ⟨B, 11, none⟩) (by simp) (.int .i64 0))
        generalize World.setCell _ _ _ = w9 at *
        have rc := r.out.cell
        unfold zero12 at rc
        simp only [List.map_cons, List.map_nil, List.set_cons_zero, List.set_cons_succ] at rc
        clear q q2 y
        refine bodyPost_ret (v := .tuple #[tblV zero12, .int .i64 p]) (by simp [results, Tryd.results8, rc, go_sem, tblV, zero12]; try rfl) rfl ?_
        exact TabP.bad HF.out rb.out
theorem parse35_any (s : ByteArray) (w : World) (hs : s.size ≤ 1000) (hm : Mx w) :
    Calls Tryd.prog 8 #[.string s] w (TabP s.data.toList w.heap.size w) := by
  by_cases hl : (wordsC 32 s.data.toList).length = 13
  · cases hw : wordsC 32 s.data.toList with
    | nil => exact absurd hw (words_ne _ _)
    | cons h0 t0 =>
      rw [hw, List.length_cons] at hl
      by_cases hh : h0 = headP
      · subst hh
        exact parse_rest s w hs hm t0 hw (by omega)
      · exact parse_head s w hs hm h0 t0 hw (by omega) hh
  · exact parse_len s w hs hm hl
end Go.Proofs.YtbebnbpdemdocaaDoor
