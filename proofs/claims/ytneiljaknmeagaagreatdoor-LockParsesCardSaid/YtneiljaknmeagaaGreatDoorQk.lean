/-
  The contract of take in the program. Its conditions are its hypotheses.
-/
import Derived.Test.YtneiljaknmeagaaGreatDoorQj
import Derived.Test.YtneiljaknmeagaaGreatDoorQd
import Derived.BigRegion
namespace Go.Proofs.YtneiljaknmeagaaGreatDoor
open Go.RowKit Go.Joins
set_option linter.unusedVariables false
set_option linter.unusedSimpArgs false
theorem row_cell {w : World} {g : Nat} {W : List (List UInt8)} (h : RowAt w (some ⟨g, 0, none⟩) (W.map strV)) {k : Nat} {u : List UInt8} (hk : W[k]? = some u) : w.cell? ⟨g, 0 + k, none⟩ = some (.string (sB u)) := by
  obtain ⟨b, o, e, hc⟩ := h k (strV u) (by rw [List.getElem?_map, hk]; rfl)
  cases e
  exact hc
theorem row_drop {w : World} {g : Nat} {xs : List Value} (h : RowAt w (some ⟨g, 0, none⟩) xs) (n : Nat) : RowAt w (some ⟨g, n, none⟩) (xs.drop n) := by
  intro k u hk
  rw [List.getElem?_drop] at hk
  obtain ⟨b, o, e, hc⟩ := h (n + k) u hk
  cases e
  exact ⟨g, n, rfl, by rw [Nat.zero_add] at hc; exact hc⟩
theorem word_eq (a b : List UInt8) : ((sB a).toList == b) = decide (a = b) := by
  rw [Lib.toList_data, sB_list]
  by_cases h : a = b
  · rw [decide_eq_true h]; simpa using h
  · rw [decide_eq_false h, beq_eq_false_iff_ne]; exact h
theorem ints3 {w : World} {A : Option Addr} {ns : List Int} (h : IntsAt w A ns) {k : Nat} {n : Int} (hk : ns[k]? = some n) : ∃ b o, A = some ⟨b, o, none⟩ ∧ w.cell? ⟨b, o + k, none⟩ = some (.int .i64 n) := h k (.int .i64 n) (by rw [List.getElem?_map, hk]; rfl)
set_option maxRecDepth 100000 in
set_option maxHeartbeats 8000000 in
theorem take_locks (B p : Nat) (sv lv : Value) (T : Tb) (g : Nat) (u1 u2 u3 : List UInt8) (w : World) (h : Rep B p sv lv T w) (hr : RowAt w (some ⟨g, 0, none⟩) ([locksW, u1, u2, u3].map strV)) (hu : ∀ u ∈ [u1, u2, u3], u.length ≤ 100000) (hw : Wd w) :
    Calls Tryz.prog 25 #[.pointer (some ⟨p, 0, none⟩), .int .i64 0, .slice (some ⟨g, 0, none⟩) 4 4] w (TakP B p sv lv w (stepT 0 [locksW, u1, u2, u3] T)) := by
  obtain ⟨R, hR⟩ : ∃ R, R = stepT 0 [locksW, u1, u2, u3] T := ⟨_, rfl⟩
  have HR := Lib.hid (show R = (match numsP mId [u1, u2, u3] with | some [a, b, c] => if a ≤ mTk then some ⟨a, b, c, T.ses, T.lea⟩ else none | _ => none) by
    rw [hR]
    unfold stepT
    rw [if_pos ⟨rfl, rfl, rfl⟩]
    rfl)
  rw [← hR]
  clear hR
  have HBw := Lib.hid (Nat.le_trans h.ge (Nat.le_of_lt h.lt))
  have hBp := h.ge
  have H := Lib.hid h
  have HNS := Lib.hid (nums_any (some ⟨g, 1, none⟩) 3 [u1, u2, u3] w (row_drop hr 1) (by simp) hu hw)
  have e0 : w.cell? ⟨g, 0, none⟩ = some (.string (sB locksW)) := row_cell hr (k := 0) rfl
  have t1 : ((sB locksW).toList == [76, 79, 67, 75, 83]) = true := by rw [word_eq]; exact decide_eq_true rfl
  generalize sB locksW = s0 at *
  clear h hr hu hw
  go_enter Tryz.func25, Tryz.ntmps25
  go_wp2_with fail
  refine HNS.out.mono ?_
  clear HNS e0
  rintro e w1 ⟨⟨v, b, rfl, hor⟩, hb⟩
  have G1 := Lib.hid hb
  clear hb
  rcases hor with ⟨rfl, ns, hn, ho⟩ | ⟨rfl, hn⟩
  · have hlen := numsP_len hn
    obtain ⟨a, b, c, rfl⟩ : ∃ a b c, ns = [a, b, c] := by
      match ns, hlen with
      | [a, b, c], _ => exact ⟨a, b, c, rfl⟩
    obtain ⟨_, hbd⟩ := numsP_some hn
    have hb0 : b ≤ 1099511627776 := (hbd b (by simp)).2
    have hc0 : c ≤ 1099511627776 := (hbd c (by simp)).2
    have HN := Lib.hid hn
    clear hlen hbd hn
    obtain ⟨A, cp, rfl, hi, _, _⟩ := ints_of_own ho
    obtain ⟨gb, go, rfl, c0⟩ := ints3 hi (k := 0) rfl
    rw [Nat.add_zero] at c0
    have c1 : w1.cell? ⟨gb, go + 1, none⟩ = some (.int .i64 b) := by obtain ⟨_, _, e, h⟩ := ints3 hi (k := 1) rfl; cases e; exact h
    have c2 : w1.cell? ⟨gb, go + 2, none⟩ = some (.int .i64 c) := by obtain ⟨_, _, e, h⟩ := ints3 hi (k := 2) rfl; cases e; exact h
    have HNE := Lib.hid (show w.heap.size ≤ gb from (ho.lt gb rfl).1)
    clear ho hi
    by_cases ha : a ≤ 10378368000
    · have HY := Lib.hid (show R = some ⟨a, b, c, T.ses, T.lea⟩ by
        rw [HR.out, HN.out]
        exact if_pos ha)
      have H1 := Lib.hid (H.out.ext G1.out)
      have q := H1.out.block.cell
      have y := H1.out.block.free
      have hpw := H1.out.lt
      have hne : p ≠ gb := by have := H.out.lt; have := HNE.out; omega
      go_wp2_with fail
      go_region
      have R3 := Lib.hid ((((H1.out.setNow a).setLs b).setLf c).ext (Below.refl _ _).drew)
      have F3 := Lib.hid ((((((FrT.refl B p sv lv w).ext G1.out HBw.out).put hBp 0 (.int .i64 a)).put hBp 1 (.int .i64 b)).put hBp 2 (.int .i64 c)).ext (Below.refl _ _).drew (by
        have := HBw.out
        have := G1.out.size
        simp
        omega))
      generalize World.drew _ = w5 at *
      clear q y c0 c1 c2
      go_wp2_with fail
      go_ret
      exact ⟨true, rfl, .inl ⟨rfl, _, _, _, HY.out, R3.out, F3.out⟩⟩
    · have HN2 := Lib.hid (show R = none by
        rw [HR.out, HN.out]
        exact if_neg ha)
      go_wp2_with fail
      go_ret
      exact ⟨_, rfl, .inr ⟨rfl, HN2.out, G1.out.mono HBw.out⟩⟩
  · have HN2 := Lib.hid (show R = none by rw [HR.out, hn])
    clear hn
    go_wp2_with fail
    go_ret
    exact ⟨_, rfl, .inr ⟨rfl, HN2.out, G1.out.mono HBw.out⟩⟩
set_option maxRecDepth 100000 in
set_option maxHeartbeats 8000000 in
theorem take_ses (B p : Nat) (sv lv : Value) (T : Tb) (i : Nat) (g : Nat) (u1 : List UInt8) (w : World) (hi0 : 0 < i) (hlea : T.lea = []) (hsl : T.ses.length ≤ 1000) (h : Rep B p sv lv T w) (hr : RowAt w (some ⟨g, 0, none⟩) ([sessionW, u1].map strV)) (hu : ∀ u ∈ [u1], u.length ≤ 100000) (hw : Wd w) :
    Calls Tryz.prog 25 #[.pointer (some ⟨p, 0, none⟩), .int .i64 i, .slice (some ⟨g, 0, none⟩) 2 2] w (TakP B p sv lv w (stepT i [sessionW, u1] T)) := by
  obtain ⟨R, hR⟩ : ∃ R, R = stepT i [sessionW, u1] T := ⟨_, rfl⟩
  have HR := Lib.hid (show R = (match numsP mId [u1] with | some [n] => if sesB T n = true then some ⟨T.now, T.ls, T.lf, T.ses ++ [n], T.lea⟩ else none | _ => none) by
    rw [hR]
    unfold stepT
    rw [if_neg (by omega), if_pos ⟨hi0, rfl, rfl, hlea⟩]
    rfl)
  rw [← hR]
  clear hR
  have HBw := Lib.hid (Nat.le_trans h.ge (Nat.le_of_lt h.lt))
  have hBp := h.ge
  have H := Lib.hid h
  have HNS := Lib.hid (nums_any (some ⟨g, 1, none⟩) 1 [u1] w (row_drop hr 1) (by simp) hu hw)
  have e0 : w.cell? ⟨g, 0, none⟩ = some (.string (sB sessionW)) := row_cell hr (k := 0) rfl
  have t1 : ((sB sessionW).toList == [83, 69, 83, 83, 73, 79, 78]) = true := by rw [word_eq]; exact decide_eq_true rfl
  have hll : T.lea.length = 0 := by rw [hlea]; rfl
  have q := h.block.cell
  have hpw := h.lt
  obtain ⟨SA, sc, rfl, hsr, hsc, hsm⟩ := ints_of_own h.2.2.1
  obtain ⟨LA, lc, rfl, hlr, hlc, hlm, hfl⟩ := row_of_ownK h.2.2.2
  have HSR := Lib.hid hsr
  have t2 : ((T.lea.length : Int) == 0) = true := by rw [hll]; rfl
  generalize sB sessionW = s0 at *
  have hi1 : (0 : Int) < (i : Int) := by omega
  have t3 : ((i : Int) == 0) = false := by rw [beq_eq_false_iff_ne]; omega
  clear h hr hu hw hlr hfl hlm hll hsr hsm hlea
  go_enter Tryz.func25, Tryz.ntmps25
  go_wp2_with fail
  refine HNS.out.mono ?_
  clear HNS e0 q
  rintro e w1 ⟨⟨v, b, rfl, hor⟩, hb⟩
  have G1 := Lib.hid hb
  clear hb
  rcases hor with ⟨rfl, ns, hn, ho⟩ | ⟨rfl, hn⟩
  · have hlen := numsP_len hn
    obtain ⟨n, rfl⟩ : ∃ n, ns = [n] := by
      match ns, hlen with
      | [n], _ => exact ⟨n, rfl⟩
    have HN := Lib.hid hn
    clear hlen hn
    obtain ⟨A, cp, rfl, hi, _, _⟩ := ints_of_own ho
    obtain ⟨gb, go, rfl, c0⟩ := ints3 hi (k := 0) rfl
    rw [Nat.add_zero] at c0
    have HNE := Lib.hid (show w.heap.size ≤ gb from (ho.lt gb rfl).1)
    clear ho hi
    have H1 := Lib.hid (H.out.ext G1.out)
    have hpw1 := H1.out.lt
    have hgb : gb < w1.heap.size := World.block_lt_of_cell? w1 _ c0
    have hne : p ≠ gb := by have := H.out.lt; have := HNE.out; omega
    have q1 : w1.cell? ⟨p, 1, none⟩ = some (.int .i64 T.ls) := H1.out.block.cell 1
    have q3 : w1.cell? ⟨p, 3, none⟩ = some (.slice SA T.ses.length sc) := H1.out.block.cell 3
    have hls8 : sesB T n = (decide (1 ≤ n) && decide (n ≤ T.ls) && decide (T.ses.length < 8) && (match T.ses.getLast? with | some k => decide (k < n) | none => true)) := rfl
    have HSB := Lib.hid hls8
    have HRS := Lib.hid (show R = if sesB T n = true then some ⟨T.now, T.ls, T.lf, T.ses ++ [n], T.lea⟩ else none by rw [HR.out, HN.out])
    clear hls8
    rcases (show n < 1 ∨ (1 ≤ n ∧ T.ls < n) ∨ (1 ≤ n ∧ n ≤ T.ls ∧ 8 ≤ T.ses.length) ∨ (1 ≤ n ∧ n ≤ T.ls ∧ T.ses.length < 8) by omega) with k1 | ⟨k1, k2⟩ | ⟨k1, k2, k3⟩ | ⟨k1, k2, k3⟩
    · have d1 : decide (n < 1) = true := by rw [decide_eq_true_eq]; omega
      have HN2 := Lib.hid (show R = none by
        rw [HRS.out, if_neg]
        rw [HSB.out, show decide (1 ≤ n) = false by rw [decide_eq_false_iff_not]; omega]
        simp)
      go_wp2_with fail
      go_quiet (fail)
      all_goals
        go_wp2_with fail
        go_ret
        exact ⟨_, rfl, .inr ⟨rfl, HN2.out, below_drewN (G1.out.mono HBw.out) _⟩⟩
    · have d1 : decide (n < 1) = false := by rw [decide_eq_false_iff_not]; omega
      have d2 : decide (T.ls < n) = true := by rw [decide_eq_true_eq]; omega
      have HN2 := Lib.hid (show R = none by
        rw [HRS.out, if_neg]
        rw [HSB.out, show decide (n ≤ T.ls) = false by rw [decide_eq_false_iff_not]; omega]
        simp)
      go_wp2_with fail
      go_quiet (fail)
      all_goals
        go_wp2_with fail
        go_ret
        exact ⟨_, rfl, .inr ⟨rfl, HN2.out, below_drewN (G1.out.mono HBw.out) _⟩⟩
    · have d1 : decide (n < 1) = false := by rw [decide_eq_false_iff_not]; omega
      have d2 : decide (T.ls < n) = false := by rw [decide_eq_false_iff_not]; omega
      have d3 : decide (8 ≤ T.ses.length) = true := by rw [decide_eq_true_eq]; omega
      have d3' : (8 : Int) ≤ (T.ses.length : Int) := by omega
      have HN2 := Lib.hid (show R = none by
        rw [HRS.out, if_neg]
        rw [HSB.out, show decide (T.ses.length < 8) = false by rw [decide_eq_false_iff_not]; omega]
        simp)
      go_wp2_with fail
      go_quiet (fail)
      all_goals
        go_wp2_with fail
        go_ret
        exact ⟨_, rfl, .inr ⟨rfl, HN2.out, below_drewN (G1.out.mono HBw.out) _⟩⟩
    · have d1 : decide (n < 1) = false := by rw [decide_eq_false_iff_not]; omega
      have d2 : decide (T.ls < n) = false := by rw [decide_eq_false_iff_not]; omega
      have d3 : decide (8 ≤ T.ses.length) = false := by rw [decide_eq_false_iff_not]; omega
      have d3' : decide ((8 : Int) ≤ (T.ses.length : Int)) = false := by rw [decide_eq_false_iff_not]; omega
      go_wp2_with fail
      go_quiet (fail)
      generalize hw2 : w1.drewN _ = w2
      have G2 := Lib.hid (show Below w.heap.size w w2 by rw [← hw2]; exact below_drewN G1.out _)
      have c0' : w2.cell? ⟨gb, go, none⟩ = some (.int .i64 n) := by rw [← hw2]; exact c0
      clear hw2 c0 q1 q3 H1 hpw1 hgb G1
      have hgb : gb < w2.heap.size := World.block_lt_of_cell? w2 _ c0'
      have H2 := Lib.hid (H.out.ext G2.out)
      have hpw2 := H2.out.lt
      have q3 : w2.cell? ⟨p, 3, none⟩ = some (.slice SA T.ses.length sc) := H2.out.block.cell 3
      have KK := Lib.hid (And.intro k1 (And.intro k2 k3))
      obtain ⟨m, hm⟩ | hm : (∃ m, T.ses.length = m + 1) ∨ T.ses.length = 0 := by
        cases h : T.ses.length with
        | zero => exact .inr rfl
        | succ m => exact .inl ⟨m, rfl⟩
      · obtain ⟨z, hz⟩ : ∃ z, T.ses[m]? = some z := ⟨_, List.getElem?_eq_getElem (by omega)⟩
        have HZL := Lib.hid (show T.ses.getLast? = some z by rw [List.getLast?_eq_getElem?, hm]; exact hz)
        obtain ⟨g2, o2, rfl, cz⟩ := ints3 (HSR.out.below G2.out (Nat.le_refl _)) hz
        have hg2 : g2 < w2.heap.size := World.block_lt_of_cell? w2 _ cz
        have m5 : decide (0 < T.ses.length) = true := by rw [hm]; simp
        have m2 : 0 < T.ses.length := by omega
        have m3 : IntKind.i64.wrap ((T.ses.length : Int) - 1) = (m : Int) := by rw [IntKind.wrap_i64]; omega
        have m4 : (m : Int) < (T.ses.length : Int) := by omega
        clear hm hz
        by_cases hord : z < n
        · have d9 : decide (n ≤ z) = false := by rw [decide_eq_false_iff_not]; omega
          have HY := Lib.hid (show R = some ⟨T.now, T.ls, T.lf, T.ses ++ [n], T.lea⟩ by
            rw [HRS.out, if_pos]
            rw [HSB.out, HZL.out, decide_eq_true KK.out.1, decide_eq_true KK.out.2.1, decide_eq_true KK.out.2.2]
            exact decide_eq_true hord)
          clear k1 k2 k3 d1 d2 d3 d3'
          go_wp2_with fail
          go_quiet (fail)
          generalize hw3 : w2.drewN _ = w3
          have G3 := Lib.hid (show Below w.heap.size w w3 by rw [← hw3]; exact below_drewN G2.out _)
          have c0 : w3.cell? ⟨gb, go, none⟩ = some (.int .i64 n) := by rw [← hw3]; exact c0'
          clear hw3 c0' q3 cz hg2 m2 m3 m4 d9 hord H2 hpw2 hgb G2 m5
          have hgb : gb < w3.heap.size := World.block_lt_of_cell? w3 _ c0
          have H3 := Lib.hid (H.out.ext G3.out)
          have hpw3 := H3.out.lt
          go_wp2_with fail
          have q3 : w3.cell? ⟨p, 3, none⟩ = some (.slice (some ⟨g2, o2, none⟩) T.ses.length sc) := H3.out.block.cell 3
          have y3 : w3.frozen? ⟨p, 3, none⟩ = false := H3.out.block.free 3
          have hBw : B ≤ w3.heap.size := by omega
          have HOW := Lib.hid H3.out.2.2.1
          have hnep : (Value.slice (some ⟨g2, o2, none⟩) T.ses.length sc).ownBlock ≠ some p := H3.out.nes
          obtain ⟨i0, hi, hz0, hz1, hz2⟩ := info_parts infoI
          have FF := Lib.hid ((FrT.refl B p (.slice (some ⟨g2, o2, none⟩) T.ses.length sc) (.slice LA T.lea.length lc) w).ext G3.out HBw.out)
          go_region_law
            ((refine step_append_lies _ (by rfl) _ _ _ (by rfl) B 2 i0 _ 1 8 Tryz.underlying27 hi hz0 hz1 hz2 rfl (by omega) (.slice (some ⟨g2, o2, none⟩) T.ses.length sc) T.ses.length (T.ses.map (Value.int .i64)) (by rfl) ((HOW.out.alloc _).drew)
                  ⟨w3.heap.size, 0, none⟩ 1 1 [.int .i64 n] (by rfl) (by rfl) (World.news_of_block (cs := #[.int .i64 n]) (t := 2) (fr := (0, 0)) (heap_alloc_new w3 _)) (by simp [Value.oneCell'])
                  (by omega) (by simp only [maxLen]; omega) (by omega) (by simp; omega) (w3.heap.size + 1) (by simp) ?_; intro gg cap w5 hown3 hgrow hat hlt; have y5 : w5.frozen? ⟨p, 3, none⟩ = false := (hgrow.frozen_far _ (by simp; omega) (Ne.symm hnep)).trans ((World.frozen?_alloc_past (w := w3) _ p 3 hpw3).trans y3); have q5 : w5.cell? ⟨p, 3, none⟩ = some (.slice (some ⟨g2, o2, none⟩) T.ses.length sc) := (hgrow.cell_far _ (by simp; omega) (Ne.symm hnep)).trans ((World.cell?_alloc_past (w := w3) _ p 3 hpw3).trans q3)))
          all_goals
            have hb : Below w3.heap.size w3 (w3.alloc (.cells #[.int .i64 n] 2)).drew := (below_one _ _).drew
            have F5 := Lib.hid (((FF.out.ext hb hBw).grown hgrow (by simp; omega) (own_base HOW.out) (.inl rfl)).newS (s2 := .slice (some ⟨gg, 0, none⟩) (T.ses.length + 1) cap) (by
              intro g' hg'
              cases hg'
              rcases hat with h | h
              · exact .inl h
              · have := G3.out.size
                exact .inr (show w.heap.size ≤ gg by omega)))
            have H5 := Lib.hid (Rep.setS (T := T) (S := T.ses ++ [n]) hBp ((hgrow.block p (by simp; omega) (Ne.symm hnep)).trans ((hb.block p hpw3).trans H3.out.2.1)) (by
              rw [List.map_append, List.length_append]
              exact hown3) (own_same H3.out.2.2.2 (fun g' hg' => by
              have hg2' := (H3.out.2.2.2.lt g' hg').2
              exact (hgrow.block g' (by simp; omega) (fun e => H3.out.apart e.symm hg')).trans (hb.block g' hg2'))))
            have F6 := Lib.hid (F5.out.put hBp 3 (.slice (some ⟨gg, 0, none⟩) (T.ses.length + 1) cap))
            generalize World.setCell w5 _ _ = w6 at *
            clear hgrow hown3 hb F5 y5 q5
            go_wp2
            go_ret
            exact ⟨true, rfl, .inl ⟨rfl, _, _, _, HY.out, H5.out, F6.out⟩⟩
        · have hord2 : n ≤ z := by omega
          have HN2 := Lib.hid (show R = none by
            rw [HRS.out, if_neg]
            rw [HSB.out, HZL.out]
            simp [hord])
          clear k1 k2 k3 d1 d2 d3 d3' hord
          go_wp2_with fail
          go_quiet (fail)
          all_goals
            go_wp2_with fail
            go_ret
            exact ⟨_, rfl, .inr ⟨rfl, HN2.out, below_drewN (G2.out.mono HBw.out) _⟩⟩
      · have m5 : decide (0 < T.ses.length) = false := by rw [hm]; rfl
        have HY := Lib.hid (show R = some ⟨T.now, T.ls, T.lf, T.ses ++ [n], T.lea⟩ by
          rw [HRS.out, if_pos]
          rw [HSB.out, List.eq_nil_of_length_eq_zero hm, decide_eq_true KK.out.1, decide_eq_true KK.out.2.1]
          rfl)
        clear k1 k2 k3 d1 d2 d3 d3' hm
        go_wp2_with fail
        go_quiet (fail)
        generalize hw3 : w2.drewN _ = w3
        have G3 := Lib.hid (show Below w.heap.size w w3 by rw [← hw3]; exact below_drewN G2.out _)
        have c0 : w3.cell? ⟨gb, go, none⟩ = some (.int .i64 n) := by rw [← hw3]; exact c0'
        clear hw3 c0' q3 H2 hpw2 hgb G2 m5
        have hgb : gb < w3.heap.size := World.block_lt_of_cell? w3 _ c0
        have H3 := Lib.hid (H.out.ext G3.out)
        have hpw3 := H3.out.lt
        go_wp2_with fail
        have q3 : w3.cell? ⟨p, 3, none⟩ = some (.slice SA T.ses.length sc) := H3.out.block.cell 3
        have y3 : w3.frozen? ⟨p, 3, none⟩ = false := H3.out.block.free 3
        have hBw : B ≤ w3.heap.size := by omega
        have HOW := Lib.hid H3.out.2.2.1
        have hnep : (Value.slice SA T.ses.length sc).ownBlock ≠ some p := H3.out.nes
        obtain ⟨i0, hi, hz0, hz1, hz2⟩ := info_parts infoI
        have FF := Lib.hid ((FrT.refl B p (.slice SA T.ses.length sc) (.slice LA T.lea.length lc) w).ext G3.out HBw.out)
        go_region_law
          ((refine step_append_lies _ (by rfl) _ _ _ (by rfl) B 2 i0 _ 1 8 Tryz.underlying27 hi hz0 hz1 hz2 rfl (by omega) (.slice SA T.ses.length sc) T.ses.length (T.ses.map (Value.int .i64)) (by rfl) ((HOW.out.alloc _).drew)
                ⟨w3.heap.size, 0, none⟩ 1 1 [.int .i64 n] (by rfl) (by rfl) (World.news_of_block (cs := #[.int .i64 n]) (t := 2) (fr := (0, 0)) (heap_alloc_new w3 _)) (by simp [Value.oneCell'])
                (by omega) (by simp only [maxLen]; omega) (by omega) (by simp; omega) (w3.heap.size + 1) (by simp) ?_; intro gg cap w5 hown3 hgrow hat hlt; have y5 : w5.frozen? ⟨p, 3, none⟩ = false := (hgrow.frozen_far _ (by simp; omega) (Ne.symm hnep)).trans ((World.frozen?_alloc_past (w := w3) _ p 3 hpw3).trans y3); have q5 : w5.cell? ⟨p, 3, none⟩ = some (.slice SA T.ses.length sc) := (hgrow.cell_far _ (by simp; omega) (Ne.symm hnep)).trans ((World.cell?_alloc_past (w := w3) _ p 3 hpw3).trans q3)))
        all_goals
          have hb : Below w3.heap.size w3 (w3.alloc (.cells #[.int .i64 n] 2)).drew := (below_one _ _).drew
          have F5 := Lib.hid (((FF.out.ext hb hBw).grown hgrow (by simp; omega) (own_base HOW.out) (.inl rfl)).newS (s2 := .slice (some ⟨gg, 0, none⟩) (T.ses.length + 1) cap) (by
            intro g' hg'
            cases hg'
            rcases hat with h | h
            · exact .inl h
            · have := G3.out.size
              exact .inr (show w.heap.size ≤ gg by omega)))
          have H5 := Lib.hid (Rep.setS (T := T) (S := T.ses ++ [n]) hBp ((hgrow.block p (by simp; omega) (Ne.symm hnep)).trans ((hb.block p hpw3).trans H3.out.2.1)) (by
            rw [List.map_append, List.length_append]
            exact hown3) (own_same H3.out.2.2.2 (fun g' hg' => by
            have hg2' := (H3.out.2.2.2.lt g' hg').2
            exact (hgrow.block g' (by simp; omega) (fun e => H3.out.apart e.symm hg')).trans (hb.block g' hg2'))))
          have F6 := Lib.hid (F5.out.put hBp 3 (.slice (some ⟨gg, 0, none⟩) (T.ses.length + 1) cap))
          generalize World.setCell w5 _ _ = w6 at *
          clear hgrow hown3 hb F5 y5 q5
          go_wp2
          go_ret
          exact ⟨true, rfl, .inl ⟨rfl, _, _, _, HY.out, H5.out, F6.out⟩⟩
  · have HN2 := Lib.hid (show R = none by rw [HR.out, hn])
    clear hn
    go_wp2_with fail
    go_quiet (fail)
    all_goals
      go_wp2_with fail
      go_ret
      exact ⟨_, rfl, .inr ⟨rfl, HN2.out, below_drewN (G1.out.mono HBw.out) _⟩⟩
end Go.Proofs.YtneiljaknmeagaaGreatDoor
