/-
  The contract of Parse of the reference of layer 35. Its conditions are its hypotheses.
-/
import Derived.Test.YtbebnbpdemdocaaDoorTf
import Derived.RegionTactic
import Derived.BigRegion
namespace Go.Proofs.YtbebnbpdemdocaaDoor
open Go.RowKit Go.Joins
set_option linter.unusedVariables false
set_option linter.unusedSimpArgs false
theorem kept_of {l : List Oper} {n s : Nat} (h : (List.range n).all (fun j => dstOf l j != some s) = true) : ∀ j, j < n → dstOf l j ≠ some s := fun j hj e => by
  have := List.all_eq_true.1 h j (List.mem_range.2 hj)
  simp [e] at this
def mixL (c0 c1 c2 c3 c4 c5 c6 c7 c8 c9 c10 c11 : Int) (k : Nat) : List Int := [c0, c1, c2, c3, c4, c5].take k ++ [0, 0, 0, 0, 0, 0].take (6 - k) ++ [c6, c7, c8, c9, c10, c11]
theorem numr_some {u : List UInt8} {n : Int} (h : numP u = some n) (w : World) :
    Calls Tryd.prog 24 #[.string (sB u)] w fun e w' => e = .returned (.tuple #[.int .i64 n, .bool true]) ∧ w = w' := by
  refine (numr_any (sB u) w).mono ?_
  rintro e w' ⟨h1, h2⟩
  rw [sB_list, numQ_some h] at h1
  exact ⟨h1, h2⟩
theorem numr_none {u : List UInt8} (h : numP u = none) (w : World) :
    Calls Tryd.prog 24 #[.string (sB u)] w fun e w' => e = .returned (.tuple #[.int .i64 0, .bool false]) ∧ w = w' := by
  refine (numr_any (sB u) w).mono ?_
  rintro e w' ⟨h1, h2⟩
  rw [sB_list, numQ_none h] at h1
  exact ⟨h1, h2⟩
theorem parser_len (s : ByteArray) (w : World) (hs : s.size ≤ 1000) (hl : (wordsC 32 s.data.toList).length ≠ 13) :
    Calls Tryd.prog 10 #[.string s] w (TabP s.data.toList w.heap.size w) := by
  have HSP := Lib.hid (fun (w' : World) => wordsr_any s w' hs)
  have HE := Lib.hid (show parseP s.data.toList = .error 4 by
    unfold parseP
    split
    · rename_i h t hw
      rw [if_neg]
      rintro ⟨h1, _⟩
      rw [hw, List.length_cons] at hl
      omega
    · rfl)
  obtain ⟨B, hB⟩ : ∃ B, B = w.heap.size := ⟨_, rfl⟩
  rw [← hB]
  go_enter Tryd.func10, Tryd.ntmps10
  go_wp2_with fail
  rw [← hB]
  generalize hw1 : World.alloc _ _ = w1
  have H2 := Lib.hid (show Held w1 B (zero12.map (Value.int .i64)) by subst hw1; exact Held.new hB)
  have FB := Lib.hid (show Below B w w1 by subst hw1; subst hB; exact below_one _ _)
  clear hw1 hB
  refine (HSP.out _).mono ?_
  rintro e w2 ⟨⟨g4, c4, rfl, h4, h5, hr4⟩, hb⟩
  generalize wordsC 32 s.data.toList = W at *
  have hn : ((W.length : Int) != 13) = true := by simp; omega
  have hn2 : (W.length != 13) = true := by simpa using hl
  have H3 := Lib.hid (H2.out.ext hb)
  have FB2 := Lib.hid (FB.out.trans (hb.mono (Nat.le_of_lt H2.out.lt)))
  clear hb H2 HSP
  have q := H3.out.cell
  have y := H3.out.free
  unfold zero12 at q
  simp only [List.map_cons, List.map_nil] at q
  have hBw : B < w2.heap.size := H3.out.lt
  go_wp2_with (with_reducible refine stop_at ?_)
  unfold StopAt
  have r := Lib.hid ((((((((((((H3.out.set 0 (.int .i64 0)).set 1 (.int .i64 0)).set 2 (.int .i64 0)).set 3 (.int .i64 0)).set 4 (.int .i64 0)).set 5 (.int .i64 0)).set 6 (.int .i64 0)).set 7 (.int .i64 0)).set 8 (.int .i64 0)).set 9 (.int .i64 0)).set 10 (.int .i64 0)).set 11 (.int .i64 0))
  have rb := Lib.hid ((((((((((((FB2.out.setCell (p := ⟨B, 0, none⟩) (by simp) (.int .i64 0)).setCell (p := ⟨B, 1, none⟩) (by simp) (.int .i64 0)).setCell (p := ⟨B, 2, none⟩) (by simp) (.int .i64 0)).setCell (p := ⟨B, 3, none⟩) (by simp) (.int .i64 0)).setCell (p := ⟨B, 4, none⟩) (by simp) (.int .i64 0)).setCell (p := ⟨B, 5, none⟩) (by simp) (.int .i64 0)).setCell (p := ⟨B, 6, none⟩) (by simp) (.int .i64 0)).setCell (p := ⟨B, 7, none⟩) (by simp) (.int .i64 0)).setCell (p := ⟨B, 8, none⟩) (by simp) (.int .i64 0)).setCell (p := ⟨B, 9, none⟩) (by simp) (.int .i64 0)).setCell (p := ⟨B, 10, none⟩) (by simp) (.int .i64 0)).setCell (p := ⟨B, 11, none⟩) (by simp) (.int .i64 0))
  generalize World.setCell _ _ _ = w9 at *
  have rc := r.out.cell
  unfold zero12 at rc
  simp only [List.map_cons, List.map_nil, List.set_cons_zero, List.set_cons_succ] at rc
  clear q y
  refine bodyPost_ret (v := .tuple #[tblV zero12, .int .i64 4]) (by simp [results, Tryd.results10, rc, go_sem, tblV, zero12]; try rfl) rfl ?_
  exact TabP.bad HE.out rb.out
theorem parser_head (s : ByteArray) (w : World) (hs : s.size ≤ 1000) (h0 : List UInt8) (t0 : List (List UInt8)) (hw0 : wordsC 32 s.data.toList = h0 :: t0) (hl : t0.length = 12) (hh : h0 ≠ headP) :
    Calls Tryd.prog 10 #[.string s] w (TabP s.data.toList w.heap.size w) := by
  have HSP := Lib.hid (fun (w' : World) => wordsr_any s w' hs)
  have HE := Lib.hid (show parseP s.data.toList = .error 4 by
    unfold parseP
    rw [hw0]
    simp only []
    rw [if_neg (fun h => hh h.2)])
  rw [hw0] at HSP
  have tn : (!(sB h0).toList == [80, 69, 78, 65, 76, 84, 73, 69, 83]) = true := by
    rw [Lib.toList_data]
    simp only [Bool.not_eq_true', beq_eq_false_iff_ne, ne_eq]
    exact hh
  obtain ⟨B, hB⟩ : ∃ B, B = w.heap.size := ⟨_, rfl⟩
  rw [← hB]
  go_enter Tryd.func10, Tryd.ntmps10
  go_wp2_with fail
  rw [← hB]
  generalize hw1 : World.alloc _ _ = w1
  have H2 := Lib.hid (show Held w1 B (zero12.map (Value.int .i64)) by subst hw1; exact Held.new hB)
  have FB := Lib.hid (show Below B w w1 by subst hw1; subst hB; exact below_one _ _)
  clear hw1 hB
  refine (HSP.out _).mono ?_
  rintro e w2 ⟨⟨g4, c4, rfl, h4, h5, hr4⟩, hb⟩
  rw [List.length_cons, hl] at h4 ⊢
  obtain ⟨b0, o0, e0, c0⟩ := hr4 0 (strV h0) (by simp)
  cases e0
  unfold strV at c0
  rw [Nat.add_zero] at c0
  have H3 := Lib.hid (H2.out.ext hb)
  have FB2 := Lib.hid (FB.out.trans (hb.mono (Nat.le_of_lt H2.out.lt)))
  clear hb H2 HSP
  have q := H3.out.cell
  have y := H3.out.free
  unfold zero12 at q
  simp only [List.map_cons, List.map_nil] at q
  have hBw : B < w2.heap.size := H3.out.lt
  go_wp2_with (with_reducible refine stop_at ?_)
  unfold StopAt
  have r := Lib.hid ((((((((((((H3.out.set 0 (.int .i64 0)).set 1 (.int .i64 0)).set 2 (.int .i64 0)).set 3 (.int .i64 0)).set 4 (.int .i64 0)).set 5 (.int .i64 0)).set 6 (.int .i64 0)).set 7 (.int .i64 0)).set 8 (.int .i64 0)).set 9 (.int .i64 0)).set 10 (.int .i64 0)).set 11 (.int .i64 0))
  have rb := Lib.hid ((((((((((((FB2.out.setCell (p := ⟨B, 0, none⟩) (by simp) (.int .i64 0)).setCell (p := ⟨B, 1, none⟩) (by simp) (.int .i64 0)).setCell (p := ⟨B, 2, none⟩) (by simp) (.int .i64 0)).setCell (p := ⟨B, 3, none⟩) (by simp) (.int .i64 0)).setCell (p := ⟨B, 4, none⟩) (by simp) (.int .i64 0)).setCell (p := ⟨B, 5, none⟩) (by simp) (.int .i64 0)).setCell (p := ⟨B, 6, none⟩) (by simp) (.int .i64 0)).setCell (p := ⟨B, 7, none⟩) (by simp) (.int .i64 0)).setCell (p := ⟨B, 8, none⟩) (by simp) (.int .i64 0)).setCell (p := ⟨B, 9, none⟩) (by simp) (.int .i64 0)).setCell (p := ⟨B, 10, none⟩) (by simp) (.int .i64 0)).setCell (p := ⟨B, 11, none⟩) (by simp) (.int .i64 0))
  generalize World.setCell _ _ _ = w9 at *
  have rc := r.out.cell
  unfold zero12 at rc
  simp only [List.map_cons, List.map_nil, List.set_cons_zero, List.set_cons_succ] at rc
  clear q y
  refine bodyPost_ret (v := .tuple #[tblV zero12, .int .i64 4]) (by simp [results, Tryd.results10, rc, go_sem, tblV, zero12]; try rfl) rfl ?_
  exact TabP.bad HE.out rb.out
def PhiT (g c B : Nat) (c0 c1 c2 c3 c4 c5 c6 c7 c8 c9 c10 c11 : Int) : Nat → Value → World → Prop
  | 46, v, _ | 49, v, _ | 52, v, _ | 55, v, _ | 58, v, _ | 61, v, _ => v = .slice (some ⟨g, 0, none⟩) 12 c
  | 47, v, _ => v = .pointer (some ⟨g, 6, none⟩)
  | 48, v, _ => v = .int .i64 c6
  | 50, v, _ => v = .pointer (some ⟨g, 7, none⟩)
  | 51, v, _ => v = .int .i64 c7
  | 53, v, _ => v = .pointer (some ⟨g, 8, none⟩)
  | 54, v, _ => v = .int .i64 c8
  | 56, v, _ => v = .pointer (some ⟨g, 9, none⟩)
  | 57, v, _ => v = .int .i64 c9
  | 59, v, _ => v = .pointer (some ⟨g, 10, none⟩)
  | 60, v, _ => v = .int .i64 c10
  | 62, v, _ => v = .pointer (some ⟨g, 11, none⟩)
  | 63, v, _ => v = .int .i64 c11
  | 64, v, _ => v = .agg #[.int .i64 0, .int .i64 0, .int .i64 0, .int .i64 0, .int .i64 0, .int .i64 0, .int .i64 c6, .int .i64 c7, .int .i64 c8, .int .i64 c9, .int .i64 c10, .int .i64 c11]
  | 10, v, w => ∃ D, v = .pointer (some ⟨D, 0, none⟩) ∧ B ≤ D ∧ Held w D (zero12.map (Value.int .i64))
  | _, _, _ => True
theorem PhiT.ext {g c B : Nat} {c0 c1 c2 c3 c4 c5 c6 c7 c8 c9 c10 c11 : Int} {w w' : World} (hb : Below w.heap.size w w') : ∀ s u, PhiT g c B c0 c1 c2 c3 c4 c5 c6 c7 c8 c9 c10 c11 s u w → PhiT g c B c0 c1 c2 c3 c4 c5 c6 c7 c8 c9 c10 c11 s u w' := by
  intro s u h
  unfold PhiT at h ⊢
  split at h <;> first | exact h | (obtain ⟨D, h1, h2, h3⟩ := h; exact ⟨D, h1, h2, h3.ext hb⟩)
set_option maxHeartbeats 2000000 in
set_option maxRecDepth 100000 in
theorem parser_rest (s : ByteArray) (w : World) (hs : s.size ≤ 1000) (t0 : List (List UInt8)) (hw0 : wordsC 32 s.data.toList = headP :: t0) (hl : t0.length = 12) :
    Calls Tryd.prog 10 #[.string s] w (TabP s.data.toList w.heap.size w) := by
  have HSP := Lib.hid (fun (w' : World) => wordsr_any s w' hs)
  have HE := Lib.hid (show parseP s.data.toList = (match numsP t0 with
    | some cs => if pchk cs = 0 then .ok cs else .error (pchk cs)
    | none => .error 4) by
    unfold parseP
    rw [hw0]
    simp only []
    rw [if_pos ⟨hl, trivial⟩]
    cases numsP t0 <;> rfl)
  rw [hw0] at HSP
  have tn : (!(sB headP).toList == [80, 69, 78, 65, 76, 84, 73, 69, 83]) = false := by
    rw [Lib.toList_data]
    rfl
  have HL := Lib.hid hl
  obtain ⟨i0, hi, hz0, hz1, hz2⟩ := info_parts info2
  have HI0 := Lib.hid (And.intro hi (And.intro hz0 (And.intro hz1 hz2)))
  clear hi hz0 hz1 hz2 hw0
  obtain ⟨B, hB⟩ : ∃ B, B = w.heap.size := ⟨_, rfl⟩
  rw [← hB]
  go_enter Tryd.func10, Tryd.ntmps10
  go_wp2_with fail
  rw [← hB]
  generalize hw1 : World.alloc _ _ = w1
  have H2 := Lib.hid (show Held w1 B (zero12.map (Value.int .i64)) by subst hw1; exact Held.new hB)
  have FB := Lib.hid (show Below B w w1 by subst hw1; subst hB; exact below_one _ _)
  clear hw1 hB
  refine (HSP.out _).mono ?_
  rintro e w2 ⟨⟨g4, c4, rfl, h4, h5, hr4⟩, hb⟩
  rw [List.length_cons, hl] at h4 ⊢
  obtain ⟨b0, o0, e0, c0⟩ := hr4 0 (strV headP) (by simp)
  cases e0
  unfold strV at c0
  rw [Nat.add_zero] at c0
  have HR := Lib.hid (show RowAt w2 (some ⟨g4, 1, none⟩) (t0.map strV) by
    intro k u hk
    obtain ⟨b, o, e, hc⟩ := hr4 (k + 1) u (by simpa using hk)
    cases e
    exact ⟨g4, 1, rfl, by rw [Nat.add_comm 1 k, ← Nat.zero_add (k + 1)]; exact hc⟩)
  have H3 := Lib.hid (H2.out.ext hb)
  have FB2 := Lib.hid (FB.out.trans (hb.mono (Nat.le_of_lt H2.out.lt)))
  clear hb H2 HSP hr4 hl
  have hBw : B < w2.heap.size := H3.out.lt
  have h4' : ¬ (c4 = 1) := by omega
  have h4'' : 1 ≤ c4 := by omega
  unfold maxLen at h5
  go_wp2_with fail
  generalize hw3 : World.alloc _ _ = w3
  obtain ⟨D, hD⟩ : ∃ D, D = w2.heap.size := ⟨_, rfl⟩
  rw [← hD]
  have HO := Lib.hid (show w3.ownsRow D 2 1 (.slice (some ⟨D, 0, none⟩) 0 0) 0 ([] : List Value) by
    subst hw3; rw [hD]
    exact World.ownsRow_made w2 #[] 0 (Nat.le_refl _) (by simp) rfl)
  have G0 := Lib.hid (show Below D w2 w3 by subst hw3; rw [hD]; exact below_one _ _)
  have hDw : D ≤ w3.heap.size := by have := G0.out.size; omega
  have HD := Lib.hid hD
  have hBD : B ≤ D := by omega
  clear hw3 hD c0
  go_loopw [5, 29] (fun o i wr => ∃ (k : Nat) (ds : List Int) (ov : Value), ov = o ∧ k ≤ 12 ∧ i = .int .i64 k ∧ ds.length ≤ k ∧ Hid (ds.length = k) ∧ Hid (numsP (t0.take k) = some ds) ∧ Hid (wr.ownsRow D 2 1 ov ds.length (ds.map (Value.int .i64))) ∧ Hid (Below D w2 wr)) (fun _ i _ => 12 - (intOf i).toNat)
  case atStart => exact ⟨0, [], _, rfl, by omega, rfl, by simp, Lib.hid rfl, Lib.hid rfl, HO, G0⟩
  case round =>
    obtain ⟨k, ds, ov, rfl, hk, rfl, hd, HX, HN, HO, G⟩ := hrel
    have hDwr : D ≤ wr.heap.size := by have := G.out.size; have := HD.out; omega
    by_cases hlt : k < 12
    · have hlt2 : (k : Int) < 12 := by omega
      obtain ⟨u, hu⟩ : ∃ u, t0[k]? = some u := ⟨_, List.getElem?_eq_getElem (by rw [HL.out]; exact hlt)⟩
      have HU := Lib.hid hu
      obtain ⟨b1, o1, e1, c1⟩ := (HR.out.below (HD.out ▸ G.out) (Nat.le_refl _)) k (strV u) (by rw [List.getElem?_map, hu]; rfl)
      cases e1
      unfold strV at c1
      clear hu
      cases hn : numP u with
      | none =>
        have HF := Lib.hid (show parseP s.data.toList = .error 4 by
          rw [HE.out, numsP_bad HU.out hn])
        have HC := Lib.hid (fun w' => numr_none hn w')
        have H5 := Lib.hid (H3.out.below (HD.out ▸ G.out) (HD.out ▸ H3.out.lt))
        have FB5 := Lib.hid (FB2.out.trans (G.out.mono (by omega)))
        clear hn
        go_wp2_with fail
        refine (HC.out _).mono ?_
        rintro e w5 ⟨rfl, rfl⟩
        have q := H5.out.cell
        have y := H5.out.free
        unfold zero12 at q
        simp only [List.map_cons, List.map_nil] at q
        have hBw5 : B < wr.heap.size := H5.out.lt
        go_wp2_with (with_reducible refine stop_at ?_)
        unfold StopAt
        have r := Lib.hid ((((((((((((H5.out.set 0 (.int .i64 0)).set 1 (.int .i64 0)).set 2 (.int .i64 0)).set 3 (.int .i64 0)).set 4 (.int .i64 0)).set 5 (.int .i64 0)).set 6 (.int .i64 0)).set 7 (.int .i64 0)).set 8 (.int .i64 0)).set 9 (.int .i64 0)).set 10 (.int .i64 0)).set 11 (.int .i64 0))
        have rb := Lib.hid ((((((((((((FB5.out.setCell (p := ⟨B, 0, none⟩) (by simp) (.int .i64 0)).setCell (p := ⟨B, 1, none⟩) (by simp) (.int .i64 0)).setCell (p := ⟨B, 2, none⟩) (by simp) (.int .i64 0)).setCell (p := ⟨B, 3, none⟩) (by simp) (.int .i64 0)).setCell (p := ⟨B, 4, none⟩) (by simp) (.int .i64 0)).setCell (p := ⟨B, 5, none⟩) (by simp) (.int .i64 0)).setCell (p := ⟨B, 6, none⟩) (by simp) (.int .i64 0)).setCell (p := ⟨B, 7, none⟩) (by simp) (.int .i64 0)).setCell (p := ⟨B, 8, none⟩) (by simp) (.int .i64 0)).setCell (p := ⟨B, 9, none⟩) (by simp) (.int .i64 0)).setCell (p := ⟨B, 10, none⟩) (by simp) (.int .i64 0)).setCell (p := ⟨B, 11, none⟩) (by simp) (.int .i64 0))
        generalize World.setCell _ _ _ = w9 at *
        have rc := r.out.cell
        unfold zero12 at rc
        simp only [List.map_cons, List.map_nil, List.set_cons_zero, List.set_cons_succ] at rc
        clear q y
        refine bodyPost_ret (v := .tuple #[tblV zero12, .int .i64 4]) (by simp [results, Tryd.results10, rc, go_sem, tblV, zero12]; try rfl) rfl ?_
        exact TabP.bad HF.out rb.out
      | some n =>
        have HS := Lib.hid (show numsP (t0.take (k + 1)) = some (ds ++ [n]) by
          rw [List.take_add_one, HU.out]
          exact numsP_snoc HN.out hn)
        have HC := Lib.hid (fun w' => numr_some hn w')
        clear hn
        go_wp2_with fail
        refine (HC.out _).mono ?_
        rintro e w5 ⟨rfl, rfl⟩
        go_wp2_with (at_builtin; go_loud (refine wpList_append_own _ rfl _ _ 43 rfl D 2 i0 (.int .i64 0) 1 8 Tryd.underlying43 HI0.out.1 HI0.out.2.1 HI0.out.2.2.1 HI0.out.2.2.2 rfl (by decide) ov ds.length (ds.map (Value.int .i64)) rfl (HO.out.alloc _) ⟨wr.heap.size, 0, none⟩ 1 1 [.int .i64 n] rfl rfl (CellsAt.all (by simp [CellsAt, go_sem])) (by simp [Value.oneCell']) (by simp only [maxLen]; omega) (by omega) (by simp; omega) ?_))
        intro o' w5 ho hgr _
        have G5 := Lib.hid (show Below D w2 w5 from ((G.out.alloc hDwr _).grown hgr (by simp; omega) (own_base HO.out)))
        have HO5 := Lib.hid (show w5.ownsRow D 2 1 o' (ds ++ [n]).length ((ds ++ [n]).map (Value.int .i64)) by
          rw [List.map_append, List.length_append]
          exact ho)
        clear ho hgr
        go_wp2_with fail
        go_roundw
        case rel => exact ⟨k + 1, ds ++ [n], _, rfl, by omega, by go_num, by simp; omega, Lib.hid (by simp [HX.out]), HS, HO5, G5⟩
        case measure => simp [intOf]; omega
    · obtain rfl : k = 12 := by omega
      have HN2 := Lib.hid (show numsP t0 = some ds by
        have h1 := HN.out
        rw [List.take_of_length_le (by rw [HL.out]; exact Nat.le_refl _)] at h1
        exact h1)
      obtain ⟨c0, c1, c2, c3, c4, c5, c6, c7, c8, c9, c10, c11, rfl⟩ := twelve_of HX.out
      clear HN HX hd
      obtain ⟨g, c, rfl, hg, hg8⟩ := HO.out.form (by simp)
      have hgw : g < wr.heap.size := by
        rcases HO.out.2 with ⟨h, _⟩ | ⟨g', cap', cur', h, _, hh, _⟩
        · cases h
        · cases h; exact (Array.getElem?_eq_some_iff.1 hh).1
      have HCS := Lib.hid (show RowAt wr (some ⟨g, 0, none⟩) ([c0, c1, c2, c3, c4, c5, c6, c7, c8, c9, c10, c11].map (Value.int .i64)) by
        intro k u hk
        have := HO.out.cells (g := g) rfl k u hk
        exact ⟨g, 0, rfl, by rwa [Addr.add_lit] at this⟩)
      have HQ := Lib.hid (show ∀ j, j < 12 → wr.cell? ⟨g, j, none⟩ = some (.int .i64 ([c0, c1, c2, c3, c4, c5, c6, c7, c8, c9, c10, c11].getD j 0)) by
        intro j hj
        obtain ⟨b, o, e, hc⟩ := IntsAt.get (xs := [c0, c1, c2, c3, c4, c5, c6, c7, c8, c9, c10, c11]) HCS.out (k := j) (by simpa using hj)
        cases e
        rwa [Nat.zero_add] at hc)
      have H4 := Lib.hid (H3.out.below (HD.out ▸ G.out) (HD.out ▸ H3.out.lt))
      have FB4 := Lib.hid (FB2.out.trans (G.out.mono (by omega)))
      have HBw4 : B < wr.heap.size := H4.out.lt
      obtain ⟨M, hM⟩ : ∃ M, M = wr.heap.size := ⟨_, rfl⟩
      have HM := Lib.hid hM
      have hgM : g < M := by omega
      have hBM : B < M := by omega
      have q0 := HQ.out 0 (by omega)
      have q1 := HQ.out 1 (by omega)
      have q2 := HQ.out 2 (by omega)
      have q3 := HQ.out 3 (by omega)
      have q4 := HQ.out 4 (by omega)
      have q5 := HQ.out 5 (by omega)
      have q6 := HQ.out 6 (by omega)
      have q7 := HQ.out 7 (by omega)
      have q8 := HQ.out 8 (by omega)
      have q9 := HQ.out 9 (by omega)
      have q10 := HQ.out 10 (by omega)
      have q11 := HQ.out 11 (by omega)
      simp at q0
      simp at q1
      simp at q2
      simp at q3
      simp at q4
      simp at q5
      simp at q6
      simp at q7
      simp at q8
      simp at q9
      simp at q10
      simp at q11
      clear hlt hM
      go_wp2_with fail
      refine wp_region_spec_tail 20 (by kernel_rfl) (fun w' => Below M wr w') (PhiT g c M c0 c1 c2 c3 c4 c5 c6 c7 c8 c9 c10 c11) 83 rfl (by kernel_rfl) (by kernel_rfl) (by kernel_rfl) (by kernel_rfl) (by kernel_rfl) (Below.refl _ _).drew ?hops ?hend
      case hops =>
        refine ⟨?o0, ?o1, ?o2, ?o3, ?o4, ?o5, ?o6, ?o7, ?o8, ?o9, ?o10, ?o11, ?o12, ?o13, ?o14, ?o15, ?o16, ?o17, ?o18, ?o19, trivial⟩
        case o0 =>
          intro ev w8 hI hdep hfree
          have h1 : ev 5 = .slice (some ⟨g, 0, none⟩) 12 c := hfree 5 (by kernel_rfl)
          clear hdep hfree
          try dsimp only
          simp [OpRuns, execOp, evalOf, h1, go_sem]
          first | exact ⟨hI, rfl⟩ | exact hI
        case o1 =>
          intro ev w8 hI hdep hfree
          have hx : ev 46 = .slice (some ⟨g, 0, none⟩) 12 c := hdep 0 46 (by kernel_rfl) (by kernel_rfl)
          clear hdep hfree
          try dsimp only
          simp [OpRuns, execOp, evalOf, hx, go_sem]
          first | exact ⟨hI, rfl⟩ | exact hI
        case o2 =>
          intro ev w8 hI hdep hfree
          have hx : ev 47 = .pointer (some ⟨g, 6, none⟩) := hdep 1 47 (by kernel_rfl) (by kernel_rfl)
          clear hdep hfree
          have hy : w8.cell? ⟨g, 6, none⟩ = some (.int .i64 c6) := (hI.cell (p := ⟨g, 6, none⟩) hgM).trans q6
          try dsimp only
          simp [OpRuns, execOp, evalOf, hx, hy, go_sem]
          first | exact ⟨hI, rfl⟩ | exact hI
        case o3 =>
          intro ev w8 hI hdep hfree
          have h1 : ev 5 = .slice (some ⟨g, 0, none⟩) 12 c := hfree 5 (by kernel_rfl)
          clear hdep hfree
          try dsimp only
          simp [OpRuns, execOp, evalOf, h1, go_sem]
          first | exact ⟨hI, rfl⟩ | exact hI
        case o4 =>
          intro ev w8 hI hdep hfree
          have hx : ev 49 = .slice (some ⟨g, 0, none⟩) 12 c := hdep 3 49 (by kernel_rfl) (by kernel_rfl)
          clear hdep hfree
          try dsimp only
          simp [OpRuns, execOp, evalOf, hx, go_sem]
          first | exact ⟨hI, rfl⟩ | exact hI
        case o5 =>
          intro ev w8 hI hdep hfree
          have hx : ev 50 = .pointer (some ⟨g, 7, none⟩) := hdep 4 50 (by kernel_rfl) (by kernel_rfl)
          clear hdep hfree
          have hy : w8.cell? ⟨g, 7, none⟩ = some (.int .i64 c7) := (hI.cell (p := ⟨g, 7, none⟩) hgM).trans q7
          try dsimp only
          simp [OpRuns, execOp, evalOf, hx, hy, go_sem]
          first | exact ⟨hI, rfl⟩ | exact hI
        case o6 =>
          intro ev w8 hI hdep hfree
          have h1 : ev 5 = .slice (some ⟨g, 0, none⟩) 12 c := hfree 5 (by kernel_rfl)
          clear hdep hfree
          try dsimp only
          simp [OpRuns, execOp, evalOf, h1, go_sem]
          first | exact ⟨hI, rfl⟩ | exact hI
        case o7 =>
          intro ev w8 hI hdep hfree
          have hx : ev 52 = .slice (some ⟨g, 0, none⟩) 12 c := hdep 6 52 (by kernel_rfl) (by kernel_rfl)
          clear hdep hfree
          try dsimp only
          simp [OpRuns, execOp, evalOf, hx, go_sem]
          first | exact ⟨hI, rfl⟩ | exact hI
        case o8 =>
          intro ev w8 hI hdep hfree
          have hx : ev 53 = .pointer (some ⟨g, 8, none⟩) := hdep 7 53 (by kernel_rfl) (by kernel_rfl)
          clear hdep hfree
          have hy : w8.cell? ⟨g, 8, none⟩ = some (.int .i64 c8) := (hI.cell (p := ⟨g, 8, none⟩) hgM).trans q8
          try dsimp only
          simp [OpRuns, execOp, evalOf, hx, hy, go_sem]
          first | exact ⟨hI, rfl⟩ | exact hI
        case o9 =>
          intro ev w8 hI hdep hfree
          have h1 : ev 5 = .slice (some ⟨g, 0, none⟩) 12 c := hfree 5 (by kernel_rfl)
          clear hdep hfree
          try dsimp only
          simp [OpRuns, execOp, evalOf, h1, go_sem]
          first | exact ⟨hI, rfl⟩ | exact hI
        case o10 =>
          intro ev w8 hI hdep hfree
          have hx : ev 55 = .slice (some ⟨g, 0, none⟩) 12 c := hdep 9 55 (by kernel_rfl) (by kernel_rfl)
          clear hdep hfree
          try dsimp only
          simp [OpRuns, execOp, evalOf, hx, go_sem]
          first | exact ⟨hI, rfl⟩ | exact hI
        case o11 =>
          intro ev w8 hI hdep hfree
          have hx : ev 56 = .pointer (some ⟨g, 9, none⟩) := hdep 10 56 (by kernel_rfl) (by kernel_rfl)
          clear hdep hfree
          have hy : w8.cell? ⟨g, 9, none⟩ = some (.int .i64 c9) := (hI.cell (p := ⟨g, 9, none⟩) hgM).trans q9
          try dsimp only
          simp [OpRuns, execOp, evalOf, hx, hy, go_sem]
          first | exact ⟨hI, rfl⟩ | exact hI
        case o12 =>
          intro ev w8 hI hdep hfree
          have h1 : ev 5 = .slice (some ⟨g, 0, none⟩) 12 c := hfree 5 (by kernel_rfl)
          clear hdep hfree
          try dsimp only
          simp [OpRuns, execOp, evalOf, h1, go_sem]
          first | exact ⟨hI, rfl⟩ | exact hI
        case o13 =>
          intro ev w8 hI hdep hfree
          have hx : ev 58 = .slice (some ⟨g, 0, none⟩) 12 c := hdep 12 58 (by kernel_rfl) (by kernel_rfl)
          clear hdep hfree
          try dsimp only
          simp [OpRuns, execOp, evalOf, hx, go_sem]
          first | exact ⟨hI, rfl⟩ | exact hI
        case o14 =>
          intro ev w8 hI hdep hfree
          have hx : ev 59 = .pointer (some ⟨g, 10, none⟩) := hdep 13 59 (by kernel_rfl) (by kernel_rfl)
          clear hdep hfree
          have hy : w8.cell? ⟨g, 10, none⟩ = some (.int .i64 c10) := (hI.cell (p := ⟨g, 10, none⟩) hgM).trans q10
          try dsimp only
          simp [OpRuns, execOp, evalOf, hx, hy, go_sem]
          first | exact ⟨hI, rfl⟩ | exact hI
        case o15 =>
          intro ev w8 hI hdep hfree
          have h1 : ev 5 = .slice (some ⟨g, 0, none⟩) 12 c := hfree 5 (by kernel_rfl)
          clear hdep hfree
          try dsimp only
          simp [OpRuns, execOp, evalOf, h1, go_sem]
          first | exact ⟨hI, rfl⟩ | exact hI
        case o16 =>
          intro ev w8 hI hdep hfree
          have hx : ev 61 = .slice (some ⟨g, 0, none⟩) 12 c := hdep 15 61 (by kernel_rfl) (by kernel_rfl)
          clear hdep hfree
          try dsimp only
          simp [OpRuns, execOp, evalOf, hx, go_sem]
          first | exact ⟨hI, rfl⟩ | exact hI
        case o17 =>
          intro ev w8 hI hdep hfree
          have hx : ev 62 = .pointer (some ⟨g, 11, none⟩) := hdep 16 62 (by kernel_rfl) (by kernel_rfl)
          clear hdep hfree
          have hy : w8.cell? ⟨g, 11, none⟩ = some (.int .i64 c11) := (hI.cell (p := ⟨g, 11, none⟩) hgM).trans q11
          try dsimp only
          simp [OpRuns, execOp, evalOf, hx, hy, go_sem]
          first | exact ⟨hI, rfl⟩ | exact hI
        case o18 =>
          intro ev w8 hI hdep hfree
          have h0 : ev 48 = .int .i64 c6 := hdep 2 48 (by kernel_rfl) (by kernel_rfl)
          have h1 : ev 51 = .int .i64 c7 := hdep 5 51 (by kernel_rfl) (by kernel_rfl)
          have h2 : ev 54 = .int .i64 c8 := hdep 8 54 (by kernel_rfl) (by kernel_rfl)
          have h3 : ev 57 = .int .i64 c9 := hdep 11 57 (by kernel_rfl) (by kernel_rfl)
          have h4 : ev 60 = .int .i64 c10 := hdep 14 60 (by kernel_rfl) (by kernel_rfl)
          have h5 : ev 63 = .int .i64 c11 := hdep 17 63 (by kernel_rfl) (by kernel_rfl)
          clear hdep hfree
          try dsimp only
          simp [OpRuns, execOp, evalOf, h0, h1, h2, h3, h4, h5, go_sem]
          first | exact ⟨hI, rfl⟩ | exact hI
        case o19 =>
          intro ev w8 hI hdep hfree
          clear hdep hfree
          try dsimp only
          simp [OpRuns, execOp, evalOf, go_sem]
          exact ⟨hI.alloc (by rw [HM.out]; exact hI.size) _, PhiT.ext (below_one _ _), ⟨_, rfl, by rw [HM.out]; exact hI.size, Held.new rfl⟩⟩
      case hend =>
        intro a w6 hdf hsz hI hPhi hkept
        replace hdf : a.defers = [] := hdf
        replace hsz : a.tmps.size = 83 := hsz
        have x64 : a.tmps.getD 64 undef = .agg #[.int .i64 0, .int .i64 0, .int .i64 0, .int .i64 0, .int .i64 0, .int .i64 0, .int .i64 c6, .int .i64 c7, .int .i64 c8, .int .i64 c9, .int .i64 c10, .int .i64 c11] := hPhi 18 64 (by omega) (by kernel_rfl)
        obtain ⟨D6, x10, hD6, hH6⟩ := hPhi 19 10 (by omega) (by kernel_rfl)
        have x2 : a.tmps.getD 2 undef = .pointer (some ⟨B, 0, none⟩) := hkept 2 (kept_of (by kernel_rfl))
        have x5 : a.tmps.getD 5 undef = .slice (some ⟨g, 0, none⟩) 12 c := hkept 5 (kept_of (by kernel_rfl))
        have ea := act_lit hsz hdf
        simp only [getDs] at ea
        rw [x64, x10, x2, x5] at ea
        rw [ea]
        clear ea x64 x10 x2 x5 hPhi hkept hdf hsz
        generalize a.tmps.getD 0 undef = u0
        generalize a.tmps.getD 1 undef = u1
        generalize a.tmps.getD 3 undef = u3
        generalize a.tmps.getD 4 undef = u4
        generalize a.tmps.getD 6 undef = u6
        generalize a.tmps.getD 7 undef = u7
        generalize a.tmps.getD 8 undef = u8
        generalize a.tmps.getD 9 undef = u9
        generalize a.tmps.getD 11 undef = u11
        generalize a.tmps.getD 12 undef = u12
        generalize a.tmps.getD 13 undef = u13
        generalize a.tmps.getD 14 undef = u14
        generalize a.tmps.getD 15 undef = u15
        generalize a.tmps.getD 16 undef = u16
        generalize a.tmps.getD 17 undef = u17
        generalize a.tmps.getD 18 undef = u18
        generalize a.tmps.getD 19 undef = u19
        generalize a.tmps.getD 20 undef = u20
        generalize a.tmps.getD 21 undef = u21
        generalize a.tmps.getD 22 undef = u22
        generalize a.tmps.getD 23 undef = u23
        generalize a.tmps.getD 24 undef = u24
        generalize a.tmps.getD 25 undef = u25
        generalize a.tmps.getD 26 undef = u26
        generalize a.tmps.getD 27 undef = u27
        generalize a.tmps.getD 28 undef = u28
        generalize a.tmps.getD 29 undef = u29
        generalize a.tmps.getD 30 undef = u30
        generalize a.tmps.getD 31 undef = u31
        generalize a.tmps.getD 32 undef = u32
        generalize a.tmps.getD 33 undef = u33
        generalize a.tmps.getD 34 undef = u34
        generalize a.tmps.getD 35 undef = u35
        generalize a.tmps.getD 36 undef = u36
        generalize a.tmps.getD 37 undef = u37
        generalize a.tmps.getD 38 undef = u38
        generalize a.tmps.getD 39 undef = u39
        generalize a.tmps.getD 40 undef = u40
        generalize a.tmps.getD 41 undef = u41
        generalize a.tmps.getD 42 undef = u42
        generalize a.tmps.getD 43 undef = u43
        generalize a.tmps.getD 44 undef = u44
        generalize a.tmps.getD 45 undef = u45
        generalize a.tmps.getD 46 undef = u46
        generalize a.tmps.getD 47 undef = u47
        generalize a.tmps.getD 48 undef = u48
        generalize a.tmps.getD 49 undef = u49
        generalize a.tmps.getD 50 undef = u50
        generalize a.tmps.getD 51 undef = u51
        generalize a.tmps.getD 52 undef = u52
        generalize a.tmps.getD 53 undef = u53
        generalize a.tmps.getD 54 undef = u54
        generalize a.tmps.getD 55 undef = u55
        generalize a.tmps.getD 56 undef = u56
        generalize a.tmps.getD 57 undef = u57
        generalize a.tmps.getD 58 undef = u58
        generalize a.tmps.getD 59 undef = u59
        generalize a.tmps.getD 60 undef = u60
        generalize a.tmps.getD 61 undef = u61
        generalize a.tmps.getD 62 undef = u62
        generalize a.tmps.getD 63 undef = u63
        generalize a.tmps.getD 65 undef = u65
        generalize a.tmps.getD 66 undef = u66
        generalize a.tmps.getD 67 undef = u67
        generalize a.tmps.getD 68 undef = u68
        generalize a.tmps.getD 69 undef = u69
        generalize a.tmps.getD 70 undef = u70
        generalize a.tmps.getD 71 undef = u71
        generalize a.tmps.getD 72 undef = u72
        generalize a.tmps.getD 73 undef = u73
        generalize a.tmps.getD 74 undef = u74
        generalize a.tmps.getD 75 undef = u75
        generalize a.tmps.getD 76 undef = u76
        generalize a.tmps.getD 77 undef = u77
        generalize a.tmps.getD 78 undef = u78
        generalize a.tmps.getD 79 undef = u79
        generalize a.tmps.getD 80 undef = u80
        generalize a.tmps.getD 81 undef = u81
        generalize a.tmps.getD 82 undef = u82
        clear a
        have HH6 := Lib.hid hH6
        have H6 := Lib.hid (H4.out.below hI (by omega))
        have FB6 := Lib.hid (FB4.out.trans (hI.mono (by omega)))
        have HQ6 := Lib.hid (show ∀ j, j < 12 → w6.cell? ⟨g, j, none⟩ = some (.int .i64 ([c0, c1, c2, c3, c4, c5, c6, c7, c8, c9, c10, c11].getD j 0)) from fun j hj => (hI.cell (p := ⟨g, j, none⟩) hgM).trans (HQ.out j hj))
        have HM6 := Lib.hid hI
        clear HQ H4 FB4 hI hH6 G q0 q1 q2 q3 q4 q5 q6 q7 q8 q9 q10 q11
        have q := HH6.out.cell
        have y := HH6.out.free
        unfold zero12 at q
        simp only [List.map_cons, List.map_nil] at q
        have hD6w : D6 < w6.heap.size := HH6.out.lt
        go_wp2_with fail
        have HD6 := Lib.hid ((((((((((((HH6.out.set 0 (.int .i64 0)).set 1 (.int .i64 0)).set 2 (.int .i64 0)).set 3 (.int .i64 0)).set 4 (.int .i64 0)).set 5 (.int .i64 0)).set 6 (.int .i64 c6)).set 7 (.int .i64 c7)).set 8 (.int .i64 c8)).set 9 (.int .i64 c9)).set 10 (.int .i64 c10)).set 11 (.int .i64 c11))
        have GB6 := Lib.hid (((((((((((((Below.refl M w6).setCell (p := ⟨D6, 0, none⟩) hD6 (.int .i64 0)).setCell (p := ⟨D6, 1, none⟩) hD6 (.int .i64 0)).setCell (p := ⟨D6, 2, none⟩) hD6 (.int .i64 0)).setCell (p := ⟨D6, 3, none⟩) hD6 (.int .i64 0)).setCell (p := ⟨D6, 4, none⟩) hD6 (.int .i64 0)).setCell (p := ⟨D6, 5, none⟩) hD6 (.int .i64 0)).setCell (p := ⟨D6, 6, none⟩) hD6 (.int .i64 c6)).setCell (p := ⟨D6, 7, none⟩) hD6 (.int .i64 c7)).setCell (p := ⟨D6, 8, none⟩) hD6 (.int .i64 c8)).setCell (p := ⟨D6, 9, none⟩) hD6 (.int .i64 c9)).setCell (p := ⟨D6, 10, none⟩) hD6 (.int .i64 c10)).setCell (p := ⟨D6, 11, none⟩) hD6 (.int .i64 c11))
        generalize World.setCell _ _ _ = w7 at *
        clear q y hD6w
        have HT6 := Lib.hid (show Held w7 D6 ((mixL c0 c1 c2 c3 c4 c5 c6 c7 c8 c9 c10 c11 0).map (Value.int .i64)) from HD6.out)
        clear HD6 HH6
        go_loopw [65] (fun i wq => ∃ k : Nat, k ≤ 6 ∧ i = .int .i64 k ∧ Hid (Held wq D6 ((mixL c0 c1 c2 c3 c4 c5 c6 c7 c8 c9 c10 c11 k).map (Value.int .i64))) ∧ Hid (Below M w6 wq)) (fun i _ => 6 - (intOf i).toNat)
        case atStart => exact ⟨0, by omega, rfl, HT6, GB6⟩
        case round =>
          obtain ⟨k, hk, rfl, HH, G⟩ := hrel
          by_cases hlt : k < 6
          · have qg := (G.out.cell (p := ⟨g, k, none⟩) hgM).trans (HQ6.out k (by omega))
            have q := HH.out.one (k := k) (by simp [mixL]; omega)
            have y := HH.out.free
            have hDw : D6 < wr.heap.size := HH.out.lt
            rcases (show k = 0 ∨ k = 1 ∨ k = 2 ∨ k = 3 ∨ k = 4 ∨ k = 5 by omega) with rfl | rfl | rfl | rfl | rfl | rfl
            · simp at qg
              go_wp2_with fail
              clear q qg y
              go_roundw
              case rel => exact ⟨1, by omega, by go_num, Lib.hid (show Held _ D6 ((mixL c0 c1 c2 c3 c4 c5 c6 c7 c8 c9 c10 c11 1).map (Value.int .i64)) from HH.out.seti 0 c0), Lib.hid (G.out.setCell hD6 _)⟩
              case measure => simp [intOf]
            · simp at qg
              go_wp2_with fail
              clear q qg y
              go_roundw
              case rel => exact ⟨2, by omega, by go_num, Lib.hid (show Held _ D6 ((mixL c0 c1 c2 c3 c4 c5 c6 c7 c8 c9 c10 c11 2).map (Value.int .i64)) from HH.out.seti 1 c1), Lib.hid (G.out.setCell hD6 _)⟩
              case measure => simp [intOf]
            · simp at qg
              go_wp2_with fail
              clear q qg y
              go_roundw
              case rel => exact ⟨3, by omega, by go_num, Lib.hid (show Held _ D6 ((mixL c0 c1 c2 c3 c4 c5 c6 c7 c8 c9 c10 c11 3).map (Value.int .i64)) from HH.out.seti 2 c2), Lib.hid (G.out.setCell hD6 _)⟩
              case measure => simp [intOf]
            · simp at qg
              go_wp2_with fail
              clear q qg y
              go_roundw
              case rel => exact ⟨4, by omega, by go_num, Lib.hid (show Held _ D6 ((mixL c0 c1 c2 c3 c4 c5 c6 c7 c8 c9 c10 c11 4).map (Value.int .i64)) from HH.out.seti 3 c3), Lib.hid (G.out.setCell hD6 _)⟩
              case measure => simp [intOf]
            · simp at qg
              go_wp2_with fail
              clear q qg y
              go_roundw
              case rel => exact ⟨5, by omega, by go_num, Lib.hid (show Held _ D6 ((mixL c0 c1 c2 c3 c4 c5 c6 c7 c8 c9 c10 c11 5).map (Value.int .i64)) from HH.out.seti 4 c4), Lib.hid (G.out.setCell hD6 _)⟩
              case measure => simp [intOf]
            · simp at qg
              go_wp2_with fail
              clear q qg y
              go_roundw
              case rel => exact ⟨6, by omega, by go_num, Lib.hid (show Held _ D6 ((mixL c0 c1 c2 c3 c4 c5 c6 c7 c8 c9 c10 c11 6).map (Value.int .i64)) from HH.out.seti 5 c5), Lib.hid (G.out.setCell hD6 _)⟩
              case measure => simp [intOf]
          · obtain rfl : k = 6 := by omega
            have HB1 := Lib.hid (H6.out.below G.out hBM)
            have q : ∀ i, wr.cell? ⟨D6, i, none⟩ = ([.int .i64 c0, .int .i64 c1, .int .i64 c2, .int .i64 c3, .int .i64 c4, .int .i64 c5, .int .i64 c6, .int .i64 c7, .int .i64 c8, .int .i64 c9, .int .i64 c10, .int .i64 c11] : List Value)[i]? := HH.out.cell
            have hDw : D6 < wr.heap.size := HH.out.lt
            clear hlt
            go_wp2_with fail
            refine (checkr_any _ _ _ _ _ _ _ _ _ _ _ _ _).mono ?_
            rintro e w5 ⟨rfl, hb5⟩
            have H5 := Lib.hid (HB1.out.ext hb5)
            have FB5 := Lib.hid ((FB6.out.trans (G.out.mono (by omega))).trans (hb5.mono (Nat.le_of_lt HB1.out.lt)))
            have HD5 := Lib.hid (HH.out.ext hb5)
            clear hb5 q
            obtain ⟨p, hp⟩ : ∃ p, p = pchk [c0, c1, c2, c3, c4, c5, c6, c7, c8, c9, c10, c11] := ⟨_, rfl⟩
            rw [← hp]
            have HP := Lib.hid hp
            clear hp
            have q := H5.out.cell
            have y := H5.out.free
            unfold zero12 at q
            simp only [List.map_cons, List.map_nil] at q
            have q2 : ∀ i, w5.cell? ⟨D6, i, none⟩ = ([.int .i64 c0, .int .i64 c1, .int .i64 c2, .int .i64 c3, .int .i64 c4, .int .i64 c5, .int .i64 c6, .int .i64 c7, .int .i64 c8, .int .i64 c9, .int .i64 c10, .int .i64 c11] : List Value)[i]? := HD5.out.cell
            have hBw5 : B < w5.heap.size := H5.out.lt
            have hDw5 : D6 < w5.heap.size := HD5.out.lt
            by_cases h0 : p = 0
            · have t1 : (p != 0) = false := by simp [h0]
              have HF := Lib.hid (show parseP s.data.toList = .ok [c0, c1, c2, c3, c4, c5, c6, c7, c8, c9, c10, c11] by
                rw [HE.out, HN2.out]
                simp only []
                rw [if_pos (by rw [← HP.out, h0])])
              clear h0
              go_wp2_with (with_reducible refine stop_at ?_)
              unfold StopAt
              have r := Lib.hid ((((((((((((H5.out.set 0 (.int .i64 c0)).set 1 (.int .i64 c1)).set 2 (.int .i64 c2)).set 3 (.int .i64 c3)).set 4 (.int .i64 c4)).set 5 (.int .i64 c5)).set 6 (.int .i64 c6)).set 7 (.int .i64 c7)).set 8 (.int .i64 c8)).set 9 (.int .i64 c9)).set 10 (.int .i64 c10)).set 11 (.int .i64 c11))
              have rb := Lib.hid ((((((((((((FB5.out.setCell (p := ⟨B, 0, none⟩) (by simp) (.int .i64 c0)).setCell (p := ⟨B, 1, none⟩) (by simp) (.int .i64 c1)).setCell (p := ⟨B, 2, none⟩) (by simp) (.int .i64 c2)).setCell (p := ⟨B, 3, none⟩) (by simp) (.int .i64 c3)).setCell (p := ⟨B, 4, none⟩) (by simp) (.int .i64 c4)).setCell (p := ⟨B, 5, none⟩) (by simp) (.int .i64 c5)).setCell (p := ⟨B, 6, none⟩) (by simp) (.int .i64 c6)).setCell (p := ⟨B, 7, none⟩) (by simp) (.int .i64 c7)).setCell (p := ⟨B, 8, none⟩) (by simp) (.int .i64 c8)).setCell (p := ⟨B, 9, none⟩) (by simp) (.int .i64 c9)).setCell (p := ⟨B, 10, none⟩) (by simp) (.int .i64 c10)).setCell (p := ⟨B, 11, none⟩) (by simp) (.int .i64 c11))
              generalize World.setCell _ _ _ = w9 at *
              have rc := r.out.cell
              unfold zero12 at rc
              simp only [List.map_cons, List.map_nil, List.set_cons_zero, List.set_cons_succ] at rc
              clear q q2 y
              refine bodyPost_ret (v := .tuple #[tblV [c0, c1, c2, c3, c4, c5, c6, c7, c8, c9, c10, c11], .int .i64 0]) (by simp [results, Tryd.results10, rc, go_sem, tblV, zero12]; try rfl) rfl ?_
              exact TabP.good HF.out rb.out
            · have t1 : (p != 0) = true := by simp [h0]
              have HF := Lib.hid (show parseP s.data.toList = .error p by
                rw [HE.out, HN2.out]
                simp only []
                rw [if_neg (by rw [← HP.out]; exact h0), HP.out])
              clear h0
              go_wp2_with (with_reducible refine stop_at ?_)
              unfold StopAt
              have r := Lib.hid ((((((((((((H5.out.set 0 (.int .i64 0)).set 1 (.int .i64 0)).set 2 (.int .i64 0)).set 3 (.int .i64 0)).set 4 (.int .i64 0)).set 5 (.int .i64 0)).set 6 (.int .i64 0)).set 7 (.int .i64 0)).set 8 (.int .i64 0)).set 9 (.int .i64 0)).set 10 (.int .i64 0)).set 11 (.int .i64 0))
              have rb := Lib.hid ((((((((((((FB5.out.setCell (p := ⟨B, 0, none⟩) (by simp) (.int .i64 0)).setCell (p := ⟨B, 1, none⟩) (by simp) (.int .i64 0)).setCell (p := ⟨B, 2, none⟩) (by simp) (.int .i64 0)).setCell (p := ⟨B, 3, none⟩) (by simp) (.int .i64 0)).setCell (p := ⟨B, 4, none⟩) (by simp) (.int .i64 0)).setCell (p := ⟨B, 5, none⟩) (by simp) (.int .i64 0)).setCell (p := ⟨B, 6, none⟩) (by simp) (.int .i64 0)).setCell (p := ⟨B, 7, none⟩) (by simp) (.int .i64 0)).setCell (p := ⟨B, 8, none⟩) (by simp) (.int .i64 0)).setCell (p := ⟨B, 9, none⟩) (by simp) (.int .i64 0)).setCell (p := ⟨B, 10, none⟩) (by simp) (.int .i64 0)).setCell (p := ⟨B, 11, none⟩) (by simp) (.int .i64 0))
              generalize World.setCell _ _ _ = w9 at *
              have rc := r.out.cell
              unfold zero12 at rc
              simp only [List.map_cons, List.map_nil, List.set_cons_zero, List.set_cons_succ] at rc
              clear q q2 y
              refine bodyPost_ret (v := .tuple #[tblV zero12, .int .i64 p]) (by simp [results, Tryd.results10, rc, go_sem, tblV, zero12]; try rfl) rfl ?_
              exact TabP.bad HF.out rb.out
theorem parser35_any (s : ByteArray) (w : World) (hs : s.size ≤ 1000) :
    Calls Tryd.prog 10 #[.string s] w (TabP s.data.toList w.heap.size w) := by
  by_cases hl : (wordsC 32 s.data.toList).length = 13
  · cases hw : wordsC 32 s.data.toList with
    | nil => exact absurd hw (words_ne _ _)
    | cons h0 t0 =>
      rw [hw, List.length_cons] at hl
      by_cases hh : h0 = headP
      · subst hh
        exact parser_rest s w hs t0 hw (by omega)
      · exact parser_head s w hs h0 t0 hw (by omega) hh
  · exact parser_len s w hs hl
end Go.Proofs.YtbebnbpdemdocaaDoor
