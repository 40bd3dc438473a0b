/-
  The lines of a table's text: take. The conditions of the contracts are their hypotheses.
-/
import Derived.Test.YtneiljaknmeagaaGreatDoorQj
import Derived.Test.YtneiljaknmeagaaGreatDoorQd
import Derived.BigRegion
import Derived.StillTailTactics
namespace Go.Proofs.YtneiljaknmeagaaGreatDoor
open Go.RowKit Go.Joins
set_option linter.unusedVariables false
set_option linter.unusedSimpArgs false
theorem row_cell {w : World} {g : Nat} {W : List (List UInt8)} (h : RowAt w (some ⟨g, 0, none⟩) (W.map strV)) {k : Nat} {u : List UInt8} (hk : W[k]? = some u) : w.cell? ⟨g, 0 + k, none⟩ = some (.string (sB u)) := by
  obtain ⟨b, o, e, hc⟩ := h k (strV u) (by rw [List.getElem?_map, hk]; rfl)
  cases e
  exact hc
theorem row_drop {w : World} {g : Nat} {xs : List Value} (h : RowAt w (some ⟨g, 0, none⟩) xs) (n : Nat) : RowAt w (some ⟨g, n, none⟩) (xs.drop n) := by
  intro k u hk
  rw [List.getElem?_drop] at hk
  obtain ⟨b, o, e, hc⟩ := h (n + k) u hk
  cases e
  exact ⟨g, n, rfl, by rw [Nat.zero_add] at hc; exact hc⟩
theorem word_eq (a b : List UInt8) : ((sB a).toList == b) = decide (a = b) := by
  rw [Lib.toList_data, sB_list]
  by_cases h : a = b
  · rw [decide_eq_true h]; simpa using h
  · rw [decide_eq_false h, beq_eq_false_iff_ne]; exact h
theorem ints3 {w : World} {A : Option Addr} {ns : List Int} (h : IntsAt w A ns) {k : Nat} {n : Int} (hk : ns[k]? = some n) : ∃ b o, A = some ⟨b, o, none⟩ ∧ w.cell? ⟨b, o + k, none⟩ = some (.int .i64 n) := h k (.int .i64 n) (by rw [List.getElem?_map, hk]; rfl)
set_option maxRecDepth 100000 in
set_option maxHeartbeats 8000000 in
theorem take_locks (B p : Nat) (sv lv : Value) (T : Tb) (g : Nat) (u1 u2 u3 : List UInt8) (w : World) (h : Rep B p sv lv T w) (hr : RowAt w (some ⟨g, 0, none⟩) ([locksW, u1, u2, u3].map strV)) (hu : ∀ u ∈ [u1, u2, u3], u.length ≤ 100000) (hw : Wd w) :
    Calls Tryz.prog 25 #[.pointer (some ⟨p, 0, none⟩), .int .i64 0, .slice (some ⟨g, 0, none⟩) 4 4] w (TakP B p sv lv w (stepT 0 [locksW, u1, u2, u3] T)) := by
  obtain ⟨R, hR⟩ : ∃ R, R = stepT 0 [locksW, u1, u2, u3] T := ⟨_, rfl⟩
  have HR := Lib.hid (show R = (match numsP mId [u1, u2, u3] with | some [a, b, c] => if a ≤ mTk then some ⟨a, b, c, T.ses, T.lea⟩ else none | _ => none) by
    rw [hR]
    unfold stepT
    rw [if_pos ⟨rfl, rfl, rfl⟩]
    rfl)
  rw [← hR]
  clear hR
  have HBw := Lib.hid (Nat.le_trans h.ge (Nat.le_of_lt h.lt))
  have hBp := h.ge
  have H := Lib.hid h
  have HNS := Lib.hid (nums_any (some ⟨g, 1, none⟩) 3 [u1, u2, u3] w (row_drop hr 1) (by simp) hu hw)
  have e0 : w.cell? ⟨g, 0, none⟩ = some (.string (sB locksW)) := row_cell hr (k := 0) rfl
  have t1 : ((sB locksW).toList == [76, 79, 67, 75, 83]) = true := by rw [word_eq]; exact decide_eq_true rfl
  generalize sB locksW = s0 at *
  clear h hr hu hw
  go_enter Tryz.func25, Tryz.ntmps25
  go_wp2_with fail
  refine HNS.out.mono ?_
  clear HNS e0
  rintro e w1 ⟨⟨v, b, rfl, hor⟩, hb⟩
  have G1 := Lib.hid hb
  clear hb
  rcases hor with ⟨rfl, ns, hn, ho⟩ | ⟨rfl, hn⟩
  · have hlen := numsP_len hn
    obtain ⟨a, b, c, rfl⟩ : ∃ a b c, ns = [a, b, c] := by
      match ns, hlen with
      | [a, b, c], _ => exact ⟨a, b, c, rfl⟩
    obtain ⟨_, hbd⟩ := numsP_some hn
    have hb0 : b ≤ 1099511627776 := (hbd b (by simp)).2
    have hc0 : c ≤ 1099511627776 := (hbd c (by simp)).2
    have HN := Lib.hid hn
    clear hlen hbd hn
    obtain ⟨A, cp, rfl, hi, _, _⟩ := ints_of_own ho
    obtain ⟨gb, go, rfl, c0⟩ := ints3 hi (k := 0) rfl
    rw [Nat.add_zero] at c0
    have c1 : w1.cell? ⟨gb, go + 1, none⟩ = some (.int .i64 b) := by obtain ⟨_, _, e, h⟩ := ints3 hi (k := 1) rfl; cases e; exact h
    have c2 : w1.cell? ⟨gb, go + 2, none⟩ = some (.int .i64 c) := by obtain ⟨_, _, e, h⟩ := ints3 hi (k := 2) rfl; cases e; exact h
    have HNE := Lib.hid (show w.heap.size ≤ gb from (ho.lt gb rfl).1)
    clear ho hi
    by_cases ha : a ≤ 10378368000
    · have HY := Lib.hid (show R = some ⟨a, b, c, T.ses, T.lea⟩ by
        rw [HR.out, HN.out]
        exact if_pos ha)
      have H1 := Lib.hid (H.out.ext G1.out)
      have q := H1.out.block.cell
      have y := H1.out.block.free
      have hpw := H1.out.lt
      have hne : p ≠ gb := by have := H.out.lt; have := HNE.out; omega
      go_wp2_with fail
      go_region
      have R3 := Lib.hid ((((H1.out.setNow a).setLs b).setLf c).ext (Below.refl _ _).drew)
      have F3 := Lib.hid ((((((FrT.refl B p sv lv w).ext G1.out HBw.out).put hBp 0 (.int .i64 a)).put hBp 1 (.int .i64 b)).put hBp 2 (.int .i64 c)).ext (Below.refl _ _).drew (by
        have := HBw.out
        have := G1.out.size
        simp
        omega))
      generalize World.drew _ = w5 at *
      clear q y c0 c1 c2
      go_wp2_with fail
      go_ret
      exact ⟨true, rfl, .inl ⟨rfl, _, _, _, HY.out, R3.out, F3.out⟩⟩
    · have HN2 := Lib.hid (show R = none by
        rw [HR.out, HN.out]
        exact if_neg ha)
      go_wp2_with fail
      go_ret
      exact ⟨_, rfl, .inr ⟨rfl, HN2.out, G1.out.mono HBw.out⟩⟩
  · have HN2 := Lib.hid (show R = none by rw [HR.out, hn])
    clear hn
    go_wp2_with fail
    go_ret
    exact ⟨_, rfl, .inr ⟨rfl, HN2.out, G1.out.mono HBw.out⟩⟩
set_option maxRecDepth 100000 in
set_option maxHeartbeats 8000000 in
theorem take_ses (B p : Nat) (sv lv : Value) (T : Tb) (i : Nat) (g : Nat) (u1 : List UInt8) (w : World) (hi0 : 0 < i) (hlea : T.lea = []) (hsl : T.ses.length ≤ 1000) (h : Rep B p sv lv T w) (hr : RowAt w (some ⟨g, 0, none⟩) ([sessionW, u1].map strV)) (hu : ∀ u ∈ [u1], u.length ≤ 100000) (hw : Wd w) :
    Calls Tryz.prog 25 #[.pointer (some ⟨p, 0, none⟩), .int .i64 i, .slice (some ⟨g, 0, none⟩) 2 2] w (TakP B p sv lv w (stepT i [sessionW, u1] T)) := by
  obtain ⟨R, hR⟩ : ∃ R, R = stepT i [sessionW, u1] T := ⟨_, rfl⟩
  have HR := Lib.hid (show R = (match numsP mId [u1] with | some [n] => if sesB T n = true then some ⟨T.now, T.ls, T.lf, T.ses ++ [n], T.lea⟩ else none | _ => none) by
    rw [hR]
    unfold stepT
    rw [if_neg (by omega), if_pos ⟨hi0, rfl, rfl, hlea⟩]
    rfl)
  rw [← hR]
  clear hR
  have HBw := Lib.hid (Nat.le_trans h.ge (Nat.le_of_lt h.lt))
  have hBp := h.ge
  have H := Lib.hid h
  have HNS := Lib.hid (nums_any (some ⟨g, 1, none⟩) 1 [u1] w (row_drop hr 1) (by simp) hu hw)
  have e0 : w.cell? ⟨g, 0, none⟩ = some (.string (sB sessionW)) := row_cell hr (k := 0) rfl
  have t1 : ((sB sessionW).toList == [83, 69, 83, 83, 73, 79, 78]) = true := by rw [word_eq]; exact decide_eq_true rfl
  have hll : T.lea.length = 0 := by rw [hlea]; rfl
  have q := h.block.cell
  have hpw := h.lt
  obtain ⟨SA, sc, rfl, hsr, hsc, hsm⟩ := ints_of_own h.2.2.1
  obtain ⟨LA, lc, rfl, hlr, hlc, hlm, hfl⟩ := row_of_ownK h.2.2.2
  have HSR := Lib.hid hsr
  have t2 : ((T.lea.length : Int) == 0) = true := by rw [hll]; rfl
  generalize sB sessionW = s0 at *
  have hi1 : (0 : Int) < (i : Int) := by omega
  have t3 : ((i : Int) == 0) = false := by rw [beq_eq_false_iff_ne]; omega
  clear h hr hu hw hlr hfl hlm hll hsr hsm hlea
  go_enter Tryz.func25, Tryz.ntmps25
  go_wp2_with fail
  refine HNS.out.mono ?_
  clear HNS e0 q
  rintro e w1 ⟨⟨v, b, rfl, hor⟩, hb⟩
  have G1 := Lib.hid hb
  clear hb
  rcases hor with ⟨rfl, ns, hn, ho⟩ | ⟨rfl, hn⟩
  · have hlen := numsP_len hn
    obtain ⟨n, rfl⟩ : ∃ n, ns = [n] := by
      match ns, hlen with
      | [n], _ => exact ⟨n, rfl⟩
    have HN := Lib.hid hn
    clear hlen hn
    obtain ⟨A, cp, rfl, hi, _, _⟩ := ints_of_own ho
    obtain ⟨gb, go, rfl, c0⟩ := ints3 hi (k := 0) rfl
    rw [Nat.add_zero] at c0
    have HNE := Lib.hid (show w.heap.size ≤ gb from (ho.lt gb rfl).1)
    clear ho hi
    have H1 := Lib.hid (H.out.ext G1.out)
    have hpw1 := H1.out.lt
    have hgb : gb < w1.heap.size := World.block_lt_of_cell? w1 _ c0
    have hne : p ≠ gb := by have := H.out.lt; have := HNE.out; omega
    have q1 : w1.cell? ⟨p, 1, none⟩ = some (.int .i64 T.ls) := H1.out.block.cell 1
    have q3 : w1.cell? ⟨p, 3, none⟩ = some (.slice SA T.ses.length sc) := H1.out.block.cell 3
    have hls8 : sesB T n = (decide (1 ≤ n) && decide (n ≤ T.ls) && decide (T.ses.length < 8) && (match T.ses.getLast? with | some k => decide (k < n) | none => true)) := rfl
    have HSB := Lib.hid hls8
    have HRS := Lib.hid (show R = if sesB T n = true then some ⟨T.now, T.ls, T.lf, T.ses ++ [n], T.lea⟩ else none by rw [HR.out, HN.out])
    clear hls8
    rcases (show n < 1 ∨ (1 ≤ n ∧ T.ls < n) ∨ (1 ≤ n ∧ n ≤ T.ls ∧ 8 ≤ T.ses.length) ∨ (1 ≤ n ∧ n ≤ T.ls ∧ T.ses.length < 8) by omega) with k1 | ⟨k1, k2⟩ | ⟨k1, k2, k3⟩ | ⟨k1, k2, k3⟩
    · have d1 : decide (n < 1) = true := by rw [decide_eq_true_eq]; omega
      have HN2 := Lib.hid (show R = none by
        rw [HRS.out, if_neg]
        rw [HSB.out, show decide (1 ≤ n) = false by rw [decide_eq_false_iff_not]; omega]
        simp)
      go_wp2_with fail
      go_quiet (fail)
      all_goals
        go_wp2_with fail
        go_ret
        exact ⟨_, rfl, .inr ⟨rfl, HN2.out, below_drewN (G1.out.mono HBw.out) _⟩⟩
    · have d1 : decide (n < 1) = false := by rw [decide_eq_false_iff_not]; omega
      have d2 : decide (T.ls < n) = true := by rw [decide_eq_true_eq]; omega
      have HN2 := Lib.hid (show R = none by
        rw [HRS.out, if_neg]
        rw [HSB.out, show decide (n ≤ T.ls) = false by rw [decide_eq_false_iff_not]; omega]
        simp)
      go_wp2_with fail
      go_quiet (fail)
      all_goals
        go_wp2_with fail
        go_ret
        exact ⟨_, rfl, .inr ⟨rfl, HN2.out, below_drewN (G1.out.mono HBw.out) _⟩⟩
    · have d1 : decide (n < 1) = false := by rw [decide_eq_false_iff_not]; omega
      have d2 : decide (T.ls < n) = false := by rw [decide_eq_false_iff_not]; omega
      have d3 : decide (8 ≤ T.ses.length) = true := by rw [decide_eq_true_eq]; omega
      have d3' : (8 : Int) ≤ (T.ses.length : Int) := by omega
      have HN2 := Lib.hid (show R = none by
        rw [HRS.out, if_neg]
        rw [HSB.out, show decide (T.ses.length < 8) = false by rw [decide_eq_false_iff_not]; omega]
        simp)
      go_wp2_with fail
      go_quiet (fail)
      all_goals
        go_wp2_with fail
        go_ret
        exact ⟨_, rfl, .inr ⟨rfl, HN2.out, below_drewN (G1.out.mono HBw.out) _⟩⟩
    · have d1 : decide (n < 1) = false := by rw [decide_eq_false_iff_not]; omega
      have d2 : decide (T.ls < n) = false := by rw [decide_eq_false_iff_not]; omega
      have d3 : decide (8 ≤ T.ses.length) = false := by rw [decide_eq_false_iff_not]; omega
      have d3' : decide ((8 : Int) ≤ (T.ses.length : Int)) = false := by rw [decide_eq_false_iff_not]; omega
      go_wp2_with fail
      go_quiet (fail)
      generalize hw2 : w1.drewN _ = w2
      have G2 := Lib.hid (show Below w.heap.size w w2 by rw [← hw2]; exact below_drewN G1.out _)
      have c0' : w2.cell? ⟨gb, go, none⟩ = some (.int .i64 n) := by rw [← hw2]; exact c0
      clear hw2 c0 q1 q3 H1 hpw1 hgb G1
      have hgb : gb < w2.heap.size := World.block_lt_of_cell? w2 _ c0'
      have H2 := Lib.hid (H.out.ext G2.out)
      have hpw2 := H2.out.lt
      have q3 : w2.cell? ⟨p, 3, none⟩ = some (.slice SA T.ses.length sc) := H2.out.block.cell 3
      have KK := Lib.hid (And.intro k1 (And.intro k2 k3))
      obtain ⟨m, hm⟩ | hm : (∃ m, T.ses.length = m + 1) ∨ T.ses.length = 0 := by
        cases h : T.ses.length with
        | zero => exact .inr rfl
        | succ m => exact .inl ⟨m, rfl⟩
      · obtain ⟨z, hz⟩ : ∃ z, T.ses[m]? = some z := ⟨_, List.getElem?_eq_getElem (by omega)⟩
        have HZL := Lib.hid (show T.ses.getLast? = some z by rw [List.getLast?_eq_getElem?, hm]; exact hz)
        obtain ⟨g2, o2, rfl, cz⟩ := ints3 (HSR.out.below G2.out (Nat.le_refl _)) hz
        have hg2 : g2 < w2.heap.size := World.block_lt_of_cell? w2 _ cz
        have m5 : decide (0 < T.ses.length) = true := by rw [hm]; simp
        have m2 : 0 < T.ses.length := by omega
        have m3 : IntKind.i64.wrap ((T.ses.length : Int) - 1) = (m : Int) := by rw [IntKind.wrap_i64]; omega
        have m4 : (m : Int) < (T.ses.length : Int) := by omega
        clear hm hz
        by_cases hord : z < n
        · have d9 : decide (n ≤ z) = false := by rw [decide_eq_false_iff_not]; omega
          have HY := Lib.hid (show R = some ⟨T.now, T.ls, T.lf, T.ses ++ [n], T.lea⟩ by
            rw [HRS.out, if_pos]
            rw [HSB.out, HZL.out, decide_eq_true KK.out.1, decide_eq_true KK.out.2.1, decide_eq_true KK.out.2.2]
            exact decide_eq_true hord)
          clear k1 k2 k3 d1 d2 d3 d3'
          go_wp2_with fail
          go_quiet (fail)
          generalize hw3 : w2.drewN _ = w3
          have G3 := Lib.hid (show Below w.heap.size w w3 by rw [← hw3]; exact below_drewN G2.out _)
          have c0 : w3.cell? ⟨gb, go, none⟩ = some (.int .i64 n) := by rw [← hw3]; exact c0'
          clear hw3 c0' q3 cz hg2 m2 m3 m4 d9 hord H2 hpw2 hgb G2 m5
          have hgb : gb < w3.heap.size := World.block_lt_of_cell? w3 _ c0
          have H3 := Lib.hid (H.out.ext G3.out)
          have hpw3 := H3.out.lt
          go_wp2_with fail
          have q3 : w3.cell? ⟨p, 3, none⟩ = some (.slice (some ⟨g2, o2, none⟩) T.ses.length sc) := H3.out.block.cell 3
          have y3 : w3.frozen? ⟨p, 3, none⟩ = false := H3.out.block.free 3
          have hBw : B ≤ w3.heap.size := by omega
          have HOW := Lib.hid H3.out.2.2.1
          have hnep : (Value.slice (some ⟨g2, o2, none⟩) T.ses.length sc).ownBlock ≠ some p := H3.out.nes
          obtain ⟨i0, hi, hz0, hz1, hz2⟩ := info_parts infoI
          have FF := Lib.hid ((FrT.refl B p (.slice (some ⟨g2, o2, none⟩) T.ses.length sc) (.slice LA T.lea.length lc) w).ext G3.out HBw.out)
          go_region_law
            ((refine step_append_lies _ (by rfl) _ _ _ (by rfl) B 2 i0 _ 1 8 Tryz.underlying27 hi hz0 hz1 hz2 rfl (by omega) (.slice (some ⟨g2, o2, none⟩) T.ses.length sc) T.ses.length (T.ses.map (Value.int .i64)) (by rfl) ((HOW.out.alloc _).drew)
                  ⟨w3.heap.size, 0, none⟩ 1 1 [.int .i64 n] (by rfl) (by rfl) (World.news_of_block (cs := #[.int .i64 n]) (t := 2) (fr := (0, 0)) (heap_alloc_new w3 _)) (by simp [Value.oneCell'])
                  (by omega) (by simp only [maxLen]; omega) (by omega) (by simp; omega) (w3.heap.size + 1) (by simp) ?_; intro gg cap w5 hown3 hgrow hat hlt; have y5 : w5.frozen? ⟨p, 3, none⟩ = false := (hgrow.frozen_far _ (by simp; omega) (Ne.symm hnep)).trans ((World.frozen?_alloc_past (w := w3) _ p 3 hpw3).trans y3); have q5 : w5.cell? ⟨p, 3, none⟩ = some (.slice (some ⟨g2, o2, none⟩) T.ses.length sc) := (hgrow.cell_far _ (by simp; omega) (Ne.symm hnep)).trans ((World.cell?_alloc_past (w := w3) _ p 3 hpw3).trans q3)))
          all_goals
            have hb : Below w3.heap.size w3 (w3.alloc (.cells #[.int .i64 n] 2)).drew := (below_one _ _).drew
            have F5 := Lib.hid (((FF.out.ext hb hBw).grown hgrow (by simp; omega) (own_base HOW.out) (.inl rfl)).newS (s2 := .slice (some ⟨gg, 0, none⟩) (T.ses.length + 1) cap) (by
              intro g' hg'
              cases hg'
              rcases hat with h | h
              · exact .inl h
              · have := G3.out.size
                exact .inr (show w.heap.size ≤ gg by omega)))
            have H5 := Lib.hid (Rep.setS (T := T) (S := T.ses ++ [n]) hBp ((hgrow.block p (by simp; omega) (Ne.symm hnep)).trans ((hb.block p hpw3).trans H3.out.2.1)) (by
              rw [List.map_append, List.length_append]
              exact hown3) (own_same H3.out.2.2.2 (fun g' hg' => by
              have hg2' := (H3.out.2.2.2.lt g' hg').2
              exact (hgrow.block g' (by simp; omega) (fun e => H3.out.apart e.symm hg')).trans (hb.block g' hg2'))))
            have F6 := Lib.hid (F5.out.put hBp 3 (.slice (some ⟨gg, 0, none⟩) (T.ses.length + 1) cap))
            generalize World.setCell w5 _ _ = w6 at *
            clear hgrow hown3 hb F5 y5 q5
            go_wp2
            go_ret
            exact ⟨true, rfl, .inl ⟨rfl, _, _, _, HY.out, H5.out, F6.out⟩⟩
        · have hord2 : n ≤ z := by omega
          have HN2 := Lib.hid (show R = none by
            rw [HRS.out, if_neg]
            rw [HSB.out, HZL.out]
            simp [hord])
          clear k1 k2 k3 d1 d2 d3 d3' hord
          go_wp2_with fail
          go_quiet (fail)
          all_goals
            go_wp2_with fail
            go_ret
            exact ⟨_, rfl, .inr ⟨rfl, HN2.out, below_drewN (G2.out.mono HBw.out) _⟩⟩
      · have m5 : decide (0 < T.ses.length) = false := by rw [hm]; rfl
        have HY := Lib.hid (show R = some ⟨T.now, T.ls, T.lf, T.ses ++ [n], T.lea⟩ by
          rw [HRS.out, if_pos]
          rw [HSB.out, List.eq_nil_of_length_eq_zero hm, decide_eq_true KK.out.1, decide_eq_true KK.out.2.1]
          rfl)
        clear k1 k2 k3 d1 d2 d3 d3' hm
        go_wp2_with fail
        go_quiet (fail)
        generalize hw3 : w2.drewN _ = w3
        have G3 := Lib.hid (show Below w.heap.size w w3 by rw [← hw3]; exact below_drewN G2.out _)
        have c0 : w3.cell? ⟨gb, go, none⟩ = some (.int .i64 n) := by rw [← hw3]; exact c0'
        clear hw3 c0' q3 H2 hpw2 hgb G2 m5
        have hgb : gb < w3.heap.size := World.block_lt_of_cell? w3 _ c0
        have H3 := Lib.hid (H.out.ext G3.out)
        have hpw3 := H3.out.lt
        go_wp2_with fail
        have q3 : w3.cell? ⟨p, 3, none⟩ = some (.slice SA T.ses.length sc) := H3.out.block.cell 3
        have y3 : w3.frozen? ⟨p, 3, none⟩ = false := H3.out.block.free 3
        have hBw : B ≤ w3.heap.size := by omega
        have HOW := Lib.hid H3.out.2.2.1
        have hnep : (Value.slice SA T.ses.length sc).ownBlock ≠ some p := H3.out.nes
        obtain ⟨i0, hi, hz0, hz1, hz2⟩ := info_parts infoI
        have FF := Lib.hid ((FrT.refl B p (.slice SA T.ses.length sc) (.slice LA T.lea.length lc) w).ext G3.out HBw.out)
        go_region_law
          ((refine step_append_lies _ (by rfl) _ _ _ (by rfl) B 2 i0 _ 1 8 Tryz.underlying27 hi hz0 hz1 hz2 rfl (by omega) (.slice SA T.ses.length sc) T.ses.length (T.ses.map (Value.int .i64)) (by rfl) ((HOW.out.alloc _).drew)
                ⟨w3.heap.size, 0, none⟩ 1 1 [.int .i64 n] (by rfl) (by rfl) (World.news_of_block (cs := #[.int .i64 n]) (t := 2) (fr := (0, 0)) (heap_alloc_new w3 _)) (by simp [Value.oneCell'])
                (by omega) (by simp only [maxLen]; omega) (by omega) (by simp; omega) (w3.heap.size + 1) (by simp) ?_; intro gg cap w5 hown3 hgrow hat hlt; have y5 : w5.frozen? ⟨p, 3, none⟩ = false := (hgrow.frozen_far _ (by simp; omega) (Ne.symm hnep)).trans ((World.frozen?_alloc_past (w := w3) _ p 3 hpw3).trans y3); have q5 : w5.cell? ⟨p, 3, none⟩ = some (.slice SA T.ses.length sc) := (hgrow.cell_far _ (by simp; omega) (Ne.symm hnep)).trans ((World.cell?_alloc_past (w := w3) _ p 3 hpw3).trans q3)))
        all_goals
          have hb : Below w3.heap.size w3 (w3.alloc (.cells #[.int .i64 n] 2)).drew := (below_one _ _).drew
          have F5 := Lib.hid (((FF.out.ext hb hBw).grown hgrow (by simp; omega) (own_base HOW.out) (.inl rfl)).newS (s2 := .slice (some ⟨gg, 0, none⟩) (T.ses.length + 1) cap) (by
            intro g' hg'
            cases hg'
            rcases hat with h | h
            · exact .inl h
            · have := G3.out.size
              exact .inr (show w.heap.size ≤ gg by omega)))
          have H5 := Lib.hid (Rep.setS (T := T) (S := T.ses ++ [n]) hBp ((hgrow.block p (by simp; omega) (Ne.symm hnep)).trans ((hb.block p hpw3).trans H3.out.2.1)) (by
            rw [List.map_append, List.length_append]
            exact hown3) (own_same H3.out.2.2.2 (fun g' hg' => by
            have hg2' := (H3.out.2.2.2.lt g' hg').2
            exact (hgrow.block g' (by simp; omega) (fun e => H3.out.apart e.symm hg')).trans (hb.block g' hg2'))))
          have F6 := Lib.hid (F5.out.put hBp 3 (.slice (some ⟨gg, 0, none⟩) (T.ses.length + 1) cap))
          generalize World.setCell w5 _ _ = w6 at *
          clear hgrow hown3 hb F5 y5 q5
          go_wp2
          go_ret
          exact ⟨true, rfl, .inl ⟨rfl, _, _, _, HY.out, H5.out, F6.out⟩⟩
  · have HN2 := Lib.hid (show R = none by rw [HR.out, hn])
    clear hn
    go_wp2_with fail
    go_quiet (fail)
    all_goals
      go_wp2_with fail
      go_ret
      exact ⟨_, rfl, .inr ⟨rfl, HN2.out, below_drewN (G1.out.mono HBw.out) _⟩⟩
end Go.Proofs.YtneiljaknmeagaaGreatDoor
namespace Go.Proofs.YtneiljaknmeagaaGreatDoor
open Go.RowKit Go.Joins
set_option linter.unusedVariables false
set_option linter.unusedSimpArgs false
set_option maxRecDepth 100000 in
set_option maxHeartbeats 8000000 in
theorem take_lea (B p : Nat) (sv lv : Value) (T : Tb) (i : Nat) (g : Nat) (r u1 u2 u3 : List UInt8) (w : World) (hi0 : 0 < i) (hsl : T.ses.length ≤ 1000) (hll : T.lea.length ≤ 1000) (hn0 : 0 ≤ T.now) (hn1 : T.now ≤ 10378368000) (h : Rep B p sv lv T w) (hr : RowAt w (some ⟨g, 0, none⟩) ([leaW, r, u1, u2, u3].map strV)) (hg : Out p sv lv w g) (hu : ∀ u ∈ [u1, u2, u3], u.length ≤ 100000) (hw : Wd w) :
    Calls Tryz.prog 25 #[.pointer (some ⟨p, 0, none⟩), .int .i64 i, .slice (some ⟨g, 0, none⟩) 5 5] w (TakP B p sv lv w (stepT i [leaW, r, u1, u2, u3] T)) := by
  obtain ⟨R, hR⟩ : ∃ R, R = stepT i [leaW, r, u1, u2, u3] T := ⟨_, rfl⟩
  have HR := Lib.hid (show R = (match numsP mId [u1, u2, u3] with | some [a, b, c] => if nmB r = true ∧ T.lea.length < 16 ∧ leaB T ⟨r, a, b, c⟩ = true then some ⟨T.now, T.ls, T.lf, T.ses, T.lea ++ [⟨r, a, b, c⟩]⟩ else none | _ => none) by
    rw [hR]
    unfold stepT
    rw [if_neg (by omega), if_neg (by rintro ⟨_, h2, _⟩; revert h2; simp [leaW, sessionW]), if_pos ⟨hi0, rfl, rfl⟩]
    rfl)
  rw [← hR]
  clear hR
  have HBw := Lib.hid (Nat.le_trans h.ge (Nat.le_of_lt h.lt))
  have hBp := h.ge
  have H := Lib.hid h
  have HNS := Lib.hid (nums_any (some ⟨g, 2, none⟩) 3 [u1, u2, u3] w (row_drop hr 2) (by simp) hu hw)
  have e0 : w.cell? ⟨g, 0, none⟩ = some (.string (sB leaW)) := row_cell hr (k := 0) rfl
  have E1 := Lib.hid (show w.cell? ⟨g, 1, none⟩ = some (.string (sB r)) from row_cell hr (k := 1) rfl)
  have t1 : ((sB leaW).toList == [76, 69, 65, 83, 69]) = true := by rw [word_eq]; exact decide_eq_true rfl
  have t2 : ((sB leaW).toList == [83, 69, 83, 83, 73, 79, 78]) = false := by rw [word_eq]; exact decide_eq_false (by decide)
  have HNM := Lib.hid (show ∀ W, Calls Tryz.prog 49 #[.string (sB r)] W fun e w' => e = .returned (.bool (nmB r)) ∧ W = w' from fun W => name_any (sB r) W)
  have hgw : g < w.heap.size := World.block_lt_of_cell? w _ e0
  have HLS := Lib.hid (And.intro hll (And.intro hsl (And.intro hn0 hn1)))
  generalize sB leaW = s0 at *
  have hi1 : (0 : Int) < (i : Int) := by omega
  have t3 : ((i : Int) == 0) = false := by rw [beq_eq_false_iff_ne]; omega
  clear h hr hu hw hg hsl hn0 hn1
  go_enter Tryz.func25, Tryz.ntmps25
  go_wp2_with fail
  refine HNS.out.mono ?_
  clear HNS e0
  rintro e w1 ⟨⟨v, b, rfl, hor⟩, hb⟩
  have G1 := Lib.hid hb
  have e1 : w1.cell? ⟨g, 1, none⟩ = some (.string (sB r)) := (hb.cell (p := ⟨g, 1, none⟩) hgw).trans E1.out
  clear hb
  rcases hor with ⟨rfl, ns, hn, ho⟩ | ⟨rfl, hn⟩
  · have hlen := numsP_len hn
    obtain ⟨a, b, c, rfl⟩ : ∃ a b c, ns = [a, b, c] := by
      match ns, hlen with
      | [a, b, c], _ => exact ⟨a, b, c, rfl⟩
    have HN := Lib.hid (show R = if nmB r = true ∧ T.lea.length < 16 ∧ leaB T ⟨r, a, b, c⟩ = true then some ⟨T.now, T.ls, T.lf, T.ses, T.lea ++ [⟨r, a, b, c⟩]⟩ else none by rw [HR.out, hn])
    clear hlen hn
    obtain ⟨A, cp, rfl, hi, _, _⟩ := ints_of_own ho
    obtain ⟨gb, go, rfl, c0⟩ := ints3 hi (k := 0) rfl
    rw [Nat.add_zero] at c0
    have c1 : w1.cell? ⟨gb, go + 1, none⟩ = some (.int .i64 b) := by obtain ⟨_, _, e, h⟩ := ints3 hi (k := 1) rfl; cases e; exact h
    have c2 : w1.cell? ⟨gb, go + 2, none⟩ = some (.int .i64 c) := by obtain ⟨_, _, e, h⟩ := ints3 hi (k := 2) rfl; cases e; exact h
    clear ho hi
    have H1 := Lib.hid (H.out.ext G1.out)
    have F1 := Lib.hid ((FrT.refl B p sv lv w).ext G1.out HBw.out)
    have HLE := Lib.hid (show ∀ W, Below w1.heap.size w1 W → Calls Tryz.prog 55 #[.pointer (some ⟨p, 0, none⟩), .agg #[.string (sB r), .int .i64 a, .int .i64 b, .int .i64 c]] W (TakP B p sv lv W (leaR T ⟨r, a, b, c⟩)) from fun W hW => lease_any B p sv lv T ⟨r, a, b, c⟩ W (H1.out.ext hW) HLS.out.1 HLS.out.2.1 HLS.out.2.2.1 HLS.out.2.2.2)
    have q := H1.out.block.cell
    have hpw1 := H1.out.lt
    obtain ⟨LA, lc, rfl, hlr, hlc, hlm, hfl⟩ := row_of_ownK H1.out.2.2.2
    clear hlr hfl hlm
    go_wp2_with fail
    refine (HNM.out _).mono ?_
    rintro e w9 ⟨rfl, rfl⟩
    cases hnm : nmB r with
    | false =>
      have HN2 := Lib.hid (show R = none by rw [HN.out, if_neg (by rw [hnm]; simp)])
      clear hnm
      go_wp2_with fail
      go_ret
      exact ⟨_, rfl, .inr ⟨rfl, HN2.out, G1.out.mono HBw.out⟩⟩
    | true =>
      have HT := Lib.hid hnm
      clear hnm
      by_cases h16 : T.lea.length < 16
      · have h16' : (T.lea.length : Int) < 16 := by omega
        have HY := Lib.hid (show R = leaR T ⟨r, a, b, c⟩ by
          rw [HN.out]
          unfold leaR
          by_cases hb : leaB T ⟨r, a, b, c⟩ = true
          · rw [if_pos ⟨HT.out, h16, hb⟩, if_pos hb]
          · rw [if_neg (fun h => hb h.2.2), if_neg hb])
        have hBw1 : B ≤ w1.heap.size := by have := HBw.out; have := G1.out.size; omega
        go_wp2_with fail
        go_still_tail 14, (by kernel_rfl)
        change wpList _ _ _ _ _ w1.drew
        generalize hw2 : w1.drew = w2
        have G2 := Lib.hid (show Below w1.heap.size w1 w2 by rw [← hw2]; exact (Below.refl _ _).drew)
        clear hw2
        go_wp2_with fail
        refine (HLE.out _ G2.out).mono ?_
        rintro e w5 ⟨bb, rfl, hor⟩
        have HOR := Lib.hid hor
        clear hor q c0 c1 c2 e1
        go_wp2_with fail
        go_ret
        refine ⟨bb, rfl, ?_⟩
        rcases HOR.out with ⟨hb, T', sv', lv', hR, hrep, hfr⟩ | ⟨hb, hR, hbel⟩
        · exact .inl ⟨hb, T', sv', lv', HY.out.trans hR, hrep, (F1.out.ext G2.out hBw1).trans hfr⟩
        · exact .inr ⟨hb, HY.out.trans hR, ((G1.out.mono HBw.out).trans (G2.out.mono hBw1)).trans hbel⟩
      · have h16' : (16 : Int) ≤ (T.lea.length : Int) := by omega
        have HN2 := Lib.hid (show R = none by rw [HN.out, if_neg (fun h => h16 h.2.1)])
        go_wp2_with fail
        go_ret
        exact ⟨_, rfl, .inr ⟨rfl, HN2.out, G1.out.mono HBw.out⟩⟩
  · have HN2 := Lib.hid (show R = none by rw [HR.out, hn])
    clear hn
    go_wp2_with fail
    go_ret
    exact ⟨_, rfl, .inr ⟨rfl, HN2.out, G1.out.mono HBw.out⟩⟩
end Go.Proofs.YtneiljaknmeagaaGreatDoor
namespace Go.Proofs.YtneiljaknmeagaaGreatDoor
open Go.RowKit Go.Joins
set_option linter.unusedVariables false
set_option linter.unusedSimpArgs false
set_option maxRecDepth 100000 in
set_option maxHeartbeats 8000000 in
theorem take_no (B p : Nat) (sv lv : Value) (T : Tb) (i : Nat) (g n : Nat) (w0 : List UInt8) (w : World) (h : Rep B p sv lv T w) (e0 : w.cell? ⟨g, 0, none⟩ = some (.string (sB w0))) (hn0 : 0 < n)
    (hA : ¬ (i = 0 ∧ w0 = locksW ∧ n = 4)) (hB : ¬ (0 < i ∧ w0 = sessionW ∧ n = 2 ∧ T.lea.length = 0)) (hC : ¬ (0 < i ∧ w0 = leaW ∧ n = 5)) :
    Calls Tryz.prog 25 #[.pointer (some ⟨p, 0, none⟩), .int .i64 i, .slice (some ⟨g, 0, none⟩) n n] w fun e w' => e = .returned (.bool false) ∧ w' = w := by
  have hgw : g < w.heap.size := World.block_lt_of_cell? w _ e0
  have q := h.block.cell
  have hpw := h.lt
  obtain ⟨LA, lc, rfl, hlr, hlc, hlm, hfl⟩ := row_of_ownK h.2.2.2
  have f1 := word_eq w0 [76, 79, 67, 75, 83]
  have f2 := word_eq w0 [83, 69, 83, 83, 73, 79, 78]
  have f3 := word_eq w0 [76, 69, 65, 83, 69]
  have hn1 : (0 : Int) < (n : Int) := by omega
  clear hlr hfl hlm h
  by_cases hi : i = 0
  · subst hi
    by_cases c1 : w0 = locksW
    · have t1 : ((sB w0).toList == [76, 79, 67, 75, 83]) = true := f1.trans (decide_eq_true c1)
      have t4 : ((n : Int) == 4) = false := by rw [beq_eq_false_iff_ne]; intro e; exact hA ⟨rfl, c1, by omega⟩
      clear hA hB hC c1 f1 f2 f3
      go_enter Tryz.func25, Tryz.ntmps25
      go_wp2_with fail
      go_ret
      exact ⟨rfl, rfl⟩
    · have t1 : ((sB w0).toList == [76, 79, 67, 75, 83]) = false := f1.trans (decide_eq_false c1)
      clear hA hB hC c1 f1 f2 f3
      go_enter Tryz.func25, Tryz.ntmps25
      go_wp2_with fail
      go_ret
      exact ⟨rfl, rfl⟩
  · have t0 : ((i : Int) == 0) = false := by rw [beq_eq_false_iff_ne]; omega
    have t9 : (0 : Int) < (i : Int) := by omega
    by_cases c2 : w0 = sessionW
    · have t2 : ((sB w0).toList == [83, 69, 83, 83, 73, 79, 78]) = true := f2.trans (decide_eq_true c2)
      have t3 : ((sB w0).toList == [76, 69, 65, 83, 69]) = false := f3.trans (decide_eq_false (by rw [c2]; decide))
      by_cases c4 : n = 2
      · have t4 : ((n : Int) == 2) = true := by rw [c4]; rfl
        have t5 : ((T.lea.length : Int) == 0) = false := by rw [beq_eq_false_iff_ne]; intro e; exact hB ⟨by omega, c2, c4, by omega⟩
        clear hA hB hC c2 c4 f1 f2 f3
        go_enter Tryz.func25, Tryz.ntmps25
        go_wp2_with fail
        go_ret
        exact ⟨rfl, rfl⟩
      · have t4 : ((n : Int) == 2) = false := by rw [beq_eq_false_iff_ne]; omega
        clear hA hB hC c2 c4 f1 f2 f3
        go_enter Tryz.func25, Tryz.ntmps25
        go_wp2_with fail
        go_ret
        exact ⟨rfl, rfl⟩
    · have t2 : ((sB w0).toList == [83, 69, 83, 83, 73, 79, 78]) = false := f2.trans (decide_eq_false c2)
      by_cases c3 : w0 = leaW
      · have t3 : ((sB w0).toList == [76, 69, 65, 83, 69]) = true := f3.trans (decide_eq_true c3)
        have t4 : ((n : Int) == 5) = false := by rw [beq_eq_false_iff_ne]; intro e; exact hC ⟨by omega, c3, by omega⟩
        clear hA hB hC c2 c3 f1 f2 f3
        go_enter Tryz.func25, Tryz.ntmps25
        go_wp2_with fail
        go_ret
        exact ⟨rfl, rfl⟩
      · have t3 : ((sB w0).toList == [76, 69, 65, 83, 69]) = false := f3.trans (decide_eq_false c3)
        clear hA hB hC c2 c3 f1 f2 f3
        go_enter Tryz.func25, Tryz.ntmps25
        go_wp2_with fail
        go_ret
        exact ⟨rfl, rfl⟩
end Go.Proofs.YtneiljaknmeagaaGreatDoor
namespace Go.Proofs.YtneiljaknmeagaaGreatDoor
open Go.RowKit Go.Joins
set_option linter.unusedVariables false
set_option linter.unusedSimpArgs false
theorem step_bd {i : Nat} {W : List (List UInt8)} {T T' : Tb} (h : stepT i W T = some T') (hn : 0 ≤ T.now ∧ T.now ≤ 10378368000) : (0 ≤ T'.now ∧ T'.now ≤ 10378368000) ∧ T'.ses.length ≤ T.ses.length + 1 ∧ T'.lea.length ≤ T.lea.length + 1 := by
  unfold stepT at h
  split at h
  · split at h
    · rename_i a b c hns
      split at h
      · rename_i ha
        have e := Option.some.inj h
        subst e
        exact ⟨⟨((numsP_some hns).2 a (by simp)).1, ha⟩, by simp, by simp⟩
      · cases h
    · cases h
  · split at h
    · split at h
      · split at h
        · have e := Option.some.inj h
          subst e
          exact ⟨hn, by simp, by simp⟩
        · cases h
      · cases h
    · split at h
      · split at h
        · split at h
          · have e := Option.some.inj h
            subst e
            exact ⟨hn, by simp, by simp⟩
          · cases h
        · cases h
      · cases h
theorem takl_any (B p : Nat) (sv lv : Value) (T : Tb) (i : Nat) (g : Nat) (W : List (List UInt8)) (w : World) (hW : W ≠ []) (hsl : T.ses.length ≤ 1000) (hll : T.lea.length ≤ 1000) (hn : 0 ≤ T.now ∧ T.now ≤ 10378368000) (h : Rep B p sv lv T w) (hr : RowAt w (some ⟨g, 0, none⟩) (W.map strV)) (hg : Out p sv lv w g) (hu : ∀ u ∈ W, u.length ≤ 100000) (hw : Wd w) :
    Calls Tryz.prog 25 #[.pointer (some ⟨p, 0, none⟩), .int .i64 i, .slice (some ⟨g, 0, none⟩) W.length W.length] w (TakP B p sv lv w (stepT i W T)) := by
  obtain ⟨w0, r0, rfl⟩ : ∃ w0 r0, W = w0 :: r0 := by
    cases W with
    | nil => exact absurd rfl hW
    | cons a b => exact ⟨a, b, rfl⟩
  by_cases hA : i = 0 ∧ w0 = locksW ∧ (w0 :: r0).length = 4
  · obtain ⟨rfl, rfl, h4⟩ := hA
    obtain ⟨u1, u2, u3, rfl⟩ : ∃ u1 u2 u3, r0 = [u1, u2, u3] := by
      match r0, h4 with
      | [a, b, c], _ => exact ⟨a, b, c, rfl⟩
    exact take_locks B p sv lv T g u1 u2 u3 w h hr (fun u hu' => hu u (List.mem_cons_of_mem _ hu')) hw
  · by_cases hB : 0 < i ∧ w0 = sessionW ∧ (w0 :: r0).length = 2 ∧ T.lea.length = 0
    · obtain ⟨hi, rfl, h2, hl⟩ := hB
      obtain ⟨u1, rfl⟩ : ∃ u1, r0 = [u1] := by
        match r0, h2 with
        | [a], _ => exact ⟨a, rfl⟩
      exact take_ses B p sv lv T i g u1 w hi (List.eq_nil_of_length_eq_zero hl) hsl h hr (fun u hu' => hu u (List.mem_cons_of_mem _ hu')) hw
    · by_cases hC : 0 < i ∧ w0 = leaW ∧ (w0 :: r0).length = 5
      · obtain ⟨hi, rfl, h5⟩ := hC
        obtain ⟨r, u1, u2, u3, rfl⟩ : ∃ r u1 u2 u3, r0 = [r, u1, u2, u3] := by
          match r0, h5 with
          | [r, a, b, c], _ => exact ⟨r, a, b, c, rfl⟩
        exact take_lea B p sv lv T i g r u1 u2 u3 w hi hsl hll hn.1 hn.2 h hr hg (fun u hu' => hu u (List.mem_cons_of_mem _ (List.mem_cons_of_mem _ hu'))) hw
      · have hS : stepT i (w0 :: r0) T = none := by
          unfold stepT
          rw [if_neg (fun hh => hA ⟨hh.1, Option.some.inj hh.2.1, hh.2.2⟩), if_neg (fun hh => hB ⟨hh.1, Option.some.inj hh.2.1, hh.2.2.1, by rw [hh.2.2.2]; rfl⟩), if_neg (fun hh => hC ⟨hh.1, Option.some.inj hh.2.1, hh.2.2⟩)]
        rw [hS]
        refine (take_no B p sv lv T i g (w0 :: r0).length w0 w h (row_cell hr (k := 0) rfl) (by simp) hA hB hC).mono ?_
        rintro e w' ⟨rfl, rfl⟩
        exact ⟨false, rfl, .inr ⟨rfl, rfl, Below.refl _ _⟩⟩
/-- What Parse gives. -/
def ParP (s : List UInt8) (w : World) (e : Ending) (w' : World) : Prop :=
  ((∃ p sv lv T, parT s = some T ∧ e = .returned (.tuple #[.pointer (some ⟨p, 0, none⟩), .int .i64 0]) ∧ Rep w.heap.size p sv lv T w') ∨ (parT s = none ∧ e = .returned (.tuple #[.pointer none, .int .i64 4]))) ∧ Below w.heap.size w w'
theorem row_heap {w w' : World} {g : Nat} {xs : List Value} (h : RowAt w (some ⟨g, 0, none⟩) xs) (e : w'.heap[g]? = w.heap[g]?) : RowAt w' (some ⟨g, 0, none⟩) xs := by
  intro k u hk
  obtain ⟨b, o, e1, hc⟩ := h k u hk
  cases e1
  refine ⟨g, 0, rfl, ?_⟩
  rw [← hc]
  unfold World.cell?
  simp only [e]
theorem words_in {c : UInt8} : ∀ {s u : List UInt8}, u ∈ wordsC c s → u.length ≤ s.length := by
  intro s u hu
  have h := join_words c s
  have h2 : ∀ (ws : List (List UInt8)), u ∈ ws → u.length ≤ (Lib.join ws [c]).length := by
    intro ws
    induction ws with
    | nil => intro h; cases h
    | cons a r ih =>
      intro hm
      cases r with
      | nil =>
        rw [List.mem_singleton.1 hm, Lib.join_one]
        exact Nat.le_refl _
      | cons b t =>
        rw [join_two]
        simp only [List.length_append]
        rcases List.mem_cons.1 hm with rfl | hm
        · omega
        · have := ih hm
          omega
  have := h2 _ hu
  rwa [h] at this
set_option maxRecDepth 100000 in
set_option maxHeartbeats 8000000 in
theorem parse_any (s : List UInt8) (w : World) (hs : s.length ≤ 900) (hw : Wd w) :
    Calls Tryz.prog 6 #[.string (sB s)] w (ParP s w) := by
  have HCS := Lib.hid (fun W => cuts_any s W (by omega))
  have HW := Lib.hid hw
  obtain ⟨R, hR⟩ : ∃ R, R = parT s := ⟨_, rfl⟩
  unfold ParP
  rw [← hR]
  obtain ⟨B, hB⟩ : ∃ B, B = w.heap.size := ⟨_, rfl⟩
  have HB := Lib.hid hB
  rw [← hB]
  clear hw
  cases hn : nlB s with
  | false =>
    have HN := Lib.hid (show R = none from hR.trans (ref_none3 (of_decide_eq_false hn)))
    rw [hn] at HCS
    clear hn hR
    generalize bodL s = bd at *
    go_enter Tryz.func6, Tryz.ntmps6
    go_wp2_with fail
    refine (HCS.out w).mono ?_
    rintro e w1 ⟨rfl, rfl⟩
    go_wp2_with fail
    go_ret2
    exact ⟨.inr ⟨HN.out, rfl⟩, HB.out ▸ Below.refl _ _⟩
  | true =>
    have hbl : (bodL s).length ≤ 900 := by
      unfold bodL
      rw [if_pos hn, List.length_dropLast]
      omega
    have HR := Lib.hid (show R = lnsT 0 (wordsC 10 (bodL s)) tb0 by
      rw [hR]
      unfold parT bodL
      rw [if_pos (of_decide_eq_true hn), if_pos hn])
    rw [hn] at HCS
    clear hn hR
    generalize bodL s = bd at *
    have HLN := Lib.hid (Nat.le_trans (wordsG_le 10 bd) (Nat.succ_le_succ hbl))
    have HUL := Lib.hid (show ∀ u ∈ wordsC 10 bd, u.length ≤ 900 from fun u hu => Nat.le_trans (words_in hu) hbl)
    have HSP := Lib.hid (fun W hW => splitg_any 10 bd W (by omega) hW)
    obtain ⟨L, hL⟩ : ∃ L, L = wordsC 10 bd := ⟨_, rfl⟩
    rw [← hL] at HR HLN HUL HSP
    clear hL hbl hB
    go_enter Tryz.func6, Tryz.ntmps6
    go_wp2_with fail
    refine (HCS.out w).mono ?_
    rintro e w0 ⟨rfl, rfl⟩
    go_wp2_with fail
    refine (new_any w0).mono ?_
    rintro e w1 ⟨rfl, h1, b1, z1⟩
    rw [← HB.out] at h1 b1 z1 ⊢
    have H1 := Lib.hid h1
    have G1 := Lib.hid b1
    have hB1 : B ≤ w1.heap.size := by omega
    have HW1 := Lib.hid (HW.out.on (by rw [← HB.out]; exact b1))
    clear h1 b1 z1
    go_wp2_with fail
    refine (HSP.out w1 HW1.out).mono ?_
    rintro e w2 ⟨rfl, hw2⟩
    have G2 := Lib.hid (show Below w1.heap.size w1 w2 by rw [hw2]; exact below_one _ _)
    obtain ⟨gL, hgL⟩ : ∃ g, g = w1.heap.size := ⟨_, rfl⟩
    rw [← hgL]
    have HLR := Lib.hid (show RowAt w2 (some ⟨gL, 0, none⟩) (L.map strV) by
      rw [hw2]
      exact row_of_cells (CellsAt.of_all (fun j u hj => by
        rw [hgL]
        simp [go_sem]
        simpa [strV] using hj)))
    have H2 := Lib.hid (H1.out.ext G2.out)
    have HO2 := Lib.hid (show Out B (.slice none 0 0) (.slice none 0 0) w2 gL from H1.out.out_new (by omega) (by rw [hw2, hgL]; simp))
    have G2' := Lib.hid (show Below B w0 w2 from G1.out.trans (G2.out.mono hB1))
    clear hw2 hgL hB1
    go_wp2_with fail
    go_loopw [20] (fun i wr => ∃ (k : Nat) (T : Tb) (sv lv : Value), k ≤ L.length ∧ i = .int .i64 k ∧ Hid (R = lnsT k (L.drop k) T) ∧ Hid (Rep B B sv lv T wr) ∧ Hid (RowAt wr (some ⟨gL, 0, none⟩) (L.map strV)) ∧ Hid (Out B sv lv wr gL) ∧ Hid ((0 ≤ T.now ∧ T.now ≤ 10378368000) ∧ T.ses.length ≤ k ∧ T.lea.length ≤ k) ∧ Hid (Below B w0 wr)) (fun i _ => L.length - (intOf i).toNat)
    case atStart => exact ⟨0, tb0, _, _, by omega, rfl, HR, H2, HLR, HO2, Lib.hid ⟨by decide, by decide, by decide⟩, G2'⟩
    case round =>
      obtain ⟨k, T, sv, lv, hk, rfl, HK, HT, HL, HO, HBD, G⟩ := hrel
      have hBw : B ≤ wr.heap.size := by have := G.out.size; have := HB.out; omega
      by_cases hlt : k < L.length
      · have hlt2 : (k : Int) < (L.length : Int) := by omega
        have hLb : L.length ≤ 901 := HLN.out
        have hkb : (k : Int) ≤ 901 := by omega
        obtain ⟨u, hu⟩ : ∃ u, L[k]? = some u := ⟨_, List.getElem?_eq_getElem hlt⟩
        have HU := Lib.hid hu
        have ec : wr.cell? ⟨gL, 0 + k, none⟩ = some (.string (sB u)) := row_cell HL.out hu
        rw [Nat.zero_add] at ec
        have hul := HUL.out u (List.mem_of_getElem? hu)
        have HSW := Lib.hid (splitg_any 32 u wr (by omega) (HW.out.on (HB.out ▸ G.out)))
        have HKS := Lib.hid (show R = (match stepT k (wordsC 32 u) T with | some T' => lnsT (k + 1) (L.drop (k + 1)) T' | none => none) by
          rw [HK.out, List.drop_eq_getElem_cons hlt, lnsT]
          rw [(List.getElem?_eq_some_iff.1 hu).2]
          cases stepT k (wordsC 32 u) T <;> rfl)
        have HWN := Lib.hid (wordsC_ne 32 u)
        have HWL := Lib.hid (show ∀ x ∈ wordsC 32 u, x.length ≤ 100000 from fun x hx => Nat.le_trans (words_in hx) (by omega))
        clear hu hul
        go_wp2_with fail
        refine HSW.out.mono ?_
        rintro e w3 ⟨rfl, hw3⟩
        have G3 := Lib.hid (show Below wr.heap.size wr w3 by rw [hw3]; exact below_one _ _)
        obtain ⟨g, hg⟩ : ∃ g, g = wr.heap.size := ⟨_, rfl⟩
        rw [← hg]
        have HWR := Lib.hid (show RowAt w3 (some ⟨g, 0, none⟩) ((wordsC 32 u).map strV) by
          rw [hw3]
          exact row_of_cells (CellsAt.of_all (fun j z hj => by
            rw [hg]
            simp [go_sem]
            simpa [strV] using hj)))
        have HOW := Lib.hid (show Out B sv lv w3 g from HT.out.out_new (by omega) (by rw [hw3, hg]; simp))
        have HT3 := Lib.hid (HT.out.ext G3.out)
        have G4 := Lib.hid (show Below B w0 w3 from G.out.trans (G3.out.mono hBw))
        have HL3 := Lib.hid (HL.out.ext G3.out)
        have HO3 := Lib.hid (show Out B sv lv w3 gL from ⟨Nat.lt_of_lt_of_le HO.out.1 G3.out.size, HO.out.2⟩)
        have HTK := Lib.hid (takl_any B B sv lv T k g (wordsC 32 u) w3 HWN.out (by have := HBD.out.2.1; have := HLN.out; omega) (by have := HBD.out.2.2; have := HLN.out; omega) HBD.out.1 HT3.out HWR.out HOW.out HWL.out (HW.out.on (HB.out ▸ G4.out)))
        clear hw3 hg ec
        go_wp2_with fail
        refine HTK.out.mono ?_
        rintro e w5 ⟨b, rfl, hor⟩
        rcases hor with ⟨rfl, T', sv', lv', hst, hrep, hfr⟩ | ⟨rfl, hst, hbel⟩
        · have HK5 := Lib.hid (show R = lnsT (k + 1) (L.drop (k + 1)) T' by rw [HKS.out, hst])
          have HR5 := Lib.hid hrep
          have HL5 := Lib.hid (row_heap HL3.out (hfr.heap HO3.out))
          have HO5 := Lib.hid (hfr.out HO3.out)
          have HB5 := Lib.hid (show (0 ≤ T'.now ∧ T'.now ≤ 10378368000) ∧ T'.ses.length ≤ k + 1 ∧ T'.lea.length ≤ k + 1 by
            obtain ⟨s1, s2, s3⟩ := step_bd hst HBD.out.1
            exact ⟨s1, by have := HBD.out.2.1; omega, by have := HBD.out.2.2; omega⟩)
          have G5 := Lib.hid (G4.out.trans hfr.below)
          clear hst hrep hfr
          go_wp2_with fail
          go_roundw
          case rel => exact ⟨k + 1, T', sv', lv', by omega, by go_num, HK5, HR5, HL5, HO5, HB5, G5⟩
          case measure => simp [intOf]; omega
        · have HN := Lib.hid (show R = none by rw [HKS.out, hst])
          have G5 := Lib.hid (G4.out.trans hbel)
          clear hst hbel
          go_wp2_with fail
          go_ret2
          exact ⟨.inr ⟨HN.out, rfl⟩, G5.out⟩
      · obtain rfl : k = L.length := by omega
        have HY := Lib.hid (show R = some T by rw [HK.out, List.drop_length]; rfl)
        clear hlt
        go_wp2_with fail
        go_ret2
        exact ⟨.inl ⟨B, sv, lv, T, HY.out, rfl, HT.out⟩, G.out⟩
end Go.Proofs.YtneiljaknmeagaaGreatDoor
