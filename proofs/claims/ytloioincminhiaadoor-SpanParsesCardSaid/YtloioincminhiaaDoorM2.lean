/-
  The contract of put in the reference. Its conditions are its hypotheses.
-/
import Derived.Test.YtloioincminhiaaDoorM1
import Derived.Laws.AppendOwnNone
namespace Go.Proofs.YtloioincminhiaaDoor
open Go.RowKit Go.Joins
set_option linter.unusedVariables false
set_option linter.unusedSimpArgs false
theorem own_empty (w : World) (base : Nat) (hb : base ≤ w.heap.size) : (w.alloc (.cells #[] 32)).ownsRow base 32 2 (.slice (some ⟨w.heap.size, 0, none⟩) 0 0) 0 [] :=
  ⟨rfl, .inr ⟨w.heap.size, 0, #[], rfl, hb, heap_at w _ rfl, Nat.le_refl _, Nat.zero_le _, rfl, rfl⟩⟩
theorem news_take {w : World} {g o : Nat} {L : List Spn} (h : SpAt w (some ⟨g, o, none⟩) L) (k : Nat) : ∀ j u, ((L.take k).flatMap spV)[j]? = some u → w.cell? ((⟨g, o, none⟩ : Addr).add j) = some u := by
  intro j u hj
  rw [← flat_take spV_len] at hj
  obtain ⟨b, o', e, hc⟩ := RowAt.take h (k * 2) j u hj
  cases e
  rw [Addr.add_lit]
  exact hc
theorem news_drop {w : World} {g o : Nat} {L : List Spn} (h : SpAt w (some ⟨g, o, none⟩) L) (k : Nat) : ∀ j u, ((L.drop k).flatMap spV)[j]? = some u → w.cell? ((⟨g, o + k * 2, none⟩ : Addr).add j) = some u := by
  intro j u hj
  rw [← flat_drop spV_len, List.getElem?_drop] at hj
  obtain ⟨b, o', e, hc⟩ := h (k * 2 + j) u hj
  cases e
  rw [← Nat.add_assoc] at hc
  rw [Addr.add_lit]
  exact hc
theorem put_at {L : List Spn} {s : Spn} {k : Nat} (hk : k ≤ L.length) (h1 : ∀ j x, j < k → L[j]? = some x → x.i ≤ s.i) (h2 : ∀ x, L[k]? = some x → s.i < x.i) : putS L s = L.take k ++ [s] ++ L.drop k := by
  unfold putS
  have e1 : L.takeWhile (fun t => decide (t.i ≤ s.i)) = L.take k ∧ L.dropWhile (fun t => decide (t.i ≤ s.i)) = L.drop k := by
    clear hk
    induction k generalizing L with
    | zero =>
      cases L with
      | nil => exact ⟨rfl, rfl⟩
      | cons x r =>
        have := h2 x rfl
        have e : decide (x.i ≤ s.i) = false := by simp; omega
        simp [List.takeWhile_cons, List.dropWhile_cons, e]
    | succ k ih =>
      cases L with
      | nil => exact ⟨rfl, rfl⟩
      | cons x r =>
        have := h1 0 x (by omega) rfl
        have e : decide (x.i ≤ s.i) = true := by simp; omega
        obtain ⟨i1, i2⟩ := ih (L := r) (fun j y hj hy => h1 (j + 1) y (by omega) hy) (fun y hy => h2 y hy)
        simp [List.takeWhile_cons, List.dropWhile_cons, e, i1, i2]
  rw [e1.1, e1.2]
  simp
set_option maxRecDepth 100000 in
set_option maxHeartbeats 4000000 in
theorem put_any (A : Option Addr) (c : Nat) (L : List Spn) (s : Spn) (w : World) (hx : SpAt w A L) (hl : L.length ≤ 1000000) (hc : L.length ≤ c) (hA : (A = none ∧ c = 0) ∨ ∃ g o, A = some ⟨g, o, none⟩) :
    Calls Tryd.prog 56 #[.slice A L.length c, spA s] w (NewP (putS L s) w) := by
  obtain ⟨i0, hi, hz0, hz1, hz2⟩ := info_parts infoS
  have HI0 := Lib.hid (And.intro hi (And.intro hz0 (And.intro hz1 hz2)))
  clear hi hz0 hz1 hz2
  obtain ⟨D, hD⟩ : ∃ D, D = w.heap.size := ⟨_, rfl⟩
  unfold NewP
  rw [← hD]
  obtain ⟨P, hP⟩ : ∃ P, P = putS L s := ⟨_, rfl⟩
  have HP := Lib.hid hP
  rw [← hP]
  clear hP
  go_enter Tryd.func56, Tryd.ntmps56
  go_wp2_with fail
  generalize hw1 : World.alloc w _ = w1
  have F1 := Lib.hid (show Held w1 D [.int .i64 s.i, .int .i64 s.o] by subst hw1; exact Held.new hD)
  have HX := Lib.hid (show SpAt w1 A L by subst hw1; exact hx.ext (below_one _ _))
  have G1 := Lib.hid (show Below D w w1 by subst hw1; rw [hD]; exact below_one _ _)
  have hs1 : D < w1.heap.size := F1.out.lt
  obtain ⟨N, hN⟩ : ∃ N, w1.heap.size = N := ⟨_, rfl⟩
  rw [← hD]
  clear hw1 hx hD
  go_loopw [5] (fun i wr => ∃ k : Nat, k ≤ L.length ∧ i = .int .i64 k ∧ Hid (∀ j x, j < k → L[j]? = some x → x.i ≤ s.i) ∧ Hid (Below w1.heap.size w1 wr)) (fun i _ => L.length - (intOf i).toNat)
  case atStart => exact ⟨0, by omega, rfl, Lib.hid (fun j x hj _ => by omega), Lib.hid (Below.refl _ _)⟩
  case round =>
    obtain ⟨k, hk, rfl, HK, G⟩ := hrel
    have hsw := G.out.size
    obtain ⟨z0, z1⟩ := two_of (F1.out.ext G.out)
    have HRw := Lib.hid (HX.out.ext G.out)
    by_cases hlt : k < L.length
    · have hlt2 : (k : Int) < (L.length : Int) := by omega
      obtain ⟨x, hx⟩ : ∃ x, L[k]? = some x := ⟨_, List.getElem?_eq_getElem hlt⟩
      obtain ⟨g, o, rfl⟩ := SpAt.some HRw.out hx
      obtain ⟨q0, q1⟩ := SpAt.get HRw.out hx
      have HXK := Lib.hid hx
      clear hx
      by_cases hle : x.i ≤ s.i
      · go_wp2_with fail
        go_quiet (fail)
        go_wp2_with fail
        go_roundw
        case rel => exact ⟨k + 1, by omega, by go_num, Lib.hid (fun j y hj hy => by
          by_cases hjk : j < k
          · exact HK.out j y hjk hy
          · obtain rfl : j = k := by omega
            rw [HXK.out] at hy
            cases hy
            exact hle), Lib.hid (below_drewN G.out _)⟩
        case measure => simp [intOf]; omega
      · have HPT := Lib.hid (HP.out.trans (put_at hk HK.out (fun y hy => by rw [HXK.out] at hy; cases hy; omega)))
        have hc1 : k ≤ c := by omega
        have hc2 : (k : Int) ≤ (c : Int) := by omega
        have hlk : (k : Int) ≤ (L.length : Int) := by omega
        go_wp2_with fail
        go_quiet (fail)
        have G2 := Lib.hid (show Below N w1 (wr.drewN nq) from hN ▸ below_drewN G.out nq)
        have zz0 : (wr.drewN nq).cell? ⟨D, 0, none⟩ = some (.int .i64 s.i) := z0
        have zz1 : (wr.drewN nq).cell? ⟨D, 1, none⟩ = some (.int .i64 s.o) := z1
        have hs2 : N ≤ (wr.drewN nq).heap.size := hN ▸ hsw
        have HX2 := Lib.hid (show SpAt (wr.drewN nq) (some ⟨g, o, none⟩) L from HRw.out.ext (below_drewN (Below.refl _ wr) nq))
        generalize wr.drewN nq = w2 at *
        clear z0 z1 HRw G HK
        try clear hg0
        go_wp2_with (at_builtin; go_loud (refine wpList_append_own _ rfl _ _ 22 rfl N 32 i0 (.agg #[.int .i64 0, .int .i64 0]) 2 16 Tryd.underlying22 HI0.out.1 HI0.out.2.1 HI0.out.2.2.1 HI0.out.2.2.2 rfl (by decide) _ 0 [] rfl (own_empty w2 N hs2) ⟨g, o, none⟩ k _ ((L.take k).flatMap spV) rfl (by rw [flat_len spV_len, List.length_take]; congr 1; omega) (news_take (HX2.out.ext (below_one w2 _)) k) (spV_flat_one _) (by simp only [maxLen]; omega) (by omega) (by simp; omega) ?_))
        intro v3 w3 ho3 hgr3 _
        have G3 := Lib.hid (show Below N w1 w3 from (G2.out.alloc hs2 _).grown hgr3 (by simp; omega) (fun k e => by cases e; exact hs2))
        have HO3 := Lib.hid (show w3.ownsRow N 32 2 v3 k ((L.take k).flatMap spV) by simpa using ho3)
        have hs3 : N ≤ w3.heap.size := by have := G3.out.size; omega
        obtain ⟨y0, y1⟩ := two_of (F1.out.ext (hN ▸ G3.out))
        have HX3 := Lib.hid (HX.out.ext (hN ▸ G3.out))
        clear ho3 hgr3 HX2 G2 zz0 zz1 hs2
        go_wp2_with (at_builtin; go_loud (refine wpList_append_own _ rfl _ _ 22 rfl N 32 i0 (.agg #[.int .i64 0, .int .i64 0]) 2 16 Tryd.underlying22 HI0.out.1 HI0.out.2.1 HI0.out.2.2.1 HI0.out.2.2.2 rfl (by decide) v3 k ((L.take k).flatMap spV) rfl (HO3.out.alloc _) ⟨w3.heap.size, 0, none⟩ 1 1 (spV s) rfl rfl (CellsAt.all (by simp [CellsAt, go_sem, spV])) (by simp [Value.oneCell', spV]) (by simp only [maxLen]; omega) (by omega) (by simp; omega) ?_))
        intro v4 w4 ho4 hgr4 _
        have G4 := Lib.hid (show Below N w1 w4 from (G3.out.alloc hs3 _).grown hgr4 (by simp; omega) (own_base HO3.out))
        have HO4 := Lib.hid (show w4.ownsRow N 32 2 v4 (k + 1) ((L.take k ++ [s]).flatMap spV) by rw [flat_snoc]; exact ho4)
        have hs4 : N ≤ w4.heap.size := by have := G4.out.size; omega
        have HX4 := Lib.hid (HX.out.ext (hN ▸ G4.out))
        clear ho4 hgr4 HX3 G3 HO3 y0 y1 hs3
        go_wp2_with (at_builtin; go_loud (refine wpList_append_own _ rfl _ _ 22 rfl N 32 i0 (.agg #[.int .i64 0, .int .i64 0]) 2 16 Tryd.underlying22 HI0.out.1 HI0.out.2.1 HI0.out.2.2.1 HI0.out.2.2.2 rfl (by decide) v4 (k + 1) ((L.take k ++ [s]).flatMap spV) rfl HO4.out ⟨g, o + k * 2, none⟩ (L.length - k) _ ((L.drop k).flatMap spV) (by first | rfl | (simp [Act.eval, Act.put]; done)) (by rw [flat_len spV_len, List.length_drop]) (news_drop HX4.out k) (spV_flat_one _) (by simp only [maxLen]; omega) (by omega) hs4 ?_))
        intro v5 w5 ho5 hgr5 _
        have G5 := Lib.hid (show Below N w1 w5 from G4.out.grown hgr5 hs4 (own_base HO4.out))
        have HO5 := Lib.hid (show w5.ownsRow D 32 2 v5 P.length (P.flatMap spV) by
          rw [HPT.out, List.flatMap_append, show (L.take k ++ [s] ++ L.drop k).length = k + 1 + (L.length - k) by simp; omega]
          exact ownsRow_mono (by simpa using ho5) (show D ≤ N by omega))
        clear ho5 hgr5 HX4 G4 HO4 hs4
        go_wp2_with fail
        go_ret
        exact ⟨⟨_, rfl, HO5.out⟩, G1.out.trans (G5.out.mono (by omega))⟩
    · have hkl : k = L.length := by omega
      have HPT := Lib.hid (HP.out.trans (put_at hk HK.out (fun y hy => by rw [hkl, List.getElem?_eq_none (Nat.le_refl _)] at hy; cases hy)))
      have hg0 : decide (k < L.length) = false := by simpa using hlt
      rcases hA with ⟨rfl, rfl⟩ | ⟨g, o, rfl⟩
      · have hl0 : L = [] := List.eq_nil_of_length_eq_zero (by omega)
        subst hl0
        obtain rfl : k = 0 := by omega
        clear hlt hg0 hkl
        go_wp2_with fail
        go_quiet (fail)
        have G2 := Lib.hid (show Below N w1 (wr.drewN nq) from hN ▸ below_drewN G.out nq)
        have zz0 : ((wr.drewN nq).alloc (.cells #[] 32)).cell? ⟨D, 0, none⟩ = some (.int .i64 s.i) := (two_of ((F1.out.ext (hN ▸ G2.out)).alloc _)).1
        have zz1 : ((wr.drewN nq).alloc (.cells #[] 32)).cell? ⟨D, 1, none⟩ = some (.int .i64 s.o) := (two_of ((F1.out.ext (hN ▸ G2.out)).alloc _)).2
        have hs2 : N ≤ (wr.drewN nq).heap.size := hN ▸ hsw
        generalize wr.drewN nq = w2 at *
        clear z0 z1 HRw G HK
        go_wp2_with (first
          | (at_builtin; refine wpList_append_own_none rfl _ _ 22 rfl N 32 i0 2 Tryd.underlying22 HI0.out.1 _ 0 [] rfl (own_empty w2 N hs2) rfl ?_)
          | (at_builtin; refine wpList_append_own _ rfl _ _ 22 rfl N 32 i0 (.agg #[.int .i64 0, .int .i64 0]) 2 16 Tryd.underlying22 HI0.out.1 HI0.out.2.1 HI0.out.2.2.1 HI0.out.2.2.2 rfl (by decide) _ 0 [] rfl ((own_empty w2 N hs2).alloc _) ⟨w2.heap.size + 1, 0, none⟩ 1 1 (spV s) rfl rfl (CellsAt.all (by simp [CellsAt, go_sem, spV])) (by simp [Value.oneCell', spV]) (by simp only [maxLen]; omega) (by omega) (by simp; omega) ?_))
        intro v4 w4 ho4 hgr4 _
        have G4 := Lib.hid (show Below N w1 w4 from ((G2.out.alloc hs2 _).alloc (by simp; omega) _).grown hgr4 (by simp; omega) (fun k e => by cases e; exact hs2))
        have HO5 := Lib.hid (show w4.ownsRow D 32 2 v4 P.length (P.flatMap spV) by
          rw [HPT.out]
          exact ownsRow_mono (by simpa using ho4) (show D ≤ N by omega))
        have ho6 : w4.ownsRow N 32 2 v4 (0 + 1) (spV s) := by simpa using ho4
        obtain ⟨g4, c4, e4⟩ := ownsRow_succ ho6
        subst e4
        have HO6 := Lib.hid ho6
        clear ho4 hgr4 ho6 zz0 zz1 hs2
        go_wp2_with (at_builtin; refine wpList_append_own_none rfl _ _ 22 rfl N 32 i0 2 Tryd.underlying22 HI0.out.1 _ _ _ rfl HO6.out rfl ?_)
        go_ret
        exact ⟨⟨_, rfl, HO5.out⟩, G1.out.trans (G4.out.mono (by omega))⟩
      · have HKL := Lib.hid hkl
        clear hlt hkl
        by_cases hck : c = k
        · obtain rfl : k = c := hck.symm
          have hlk : (k : Int) ≤ (L.length : Int) := by omega
          go_wp2_with fail
          go_quiet (fail)
          have G2 := Lib.hid (show Below N w1 (wr.drewN nq) from hN ▸ below_drewN G.out nq)
          have zz0 : (wr.drewN nq).cell? ⟨D, 0, none⟩ = some (.int .i64 s.i) := z0
          have zz1 : (wr.drewN nq).cell? ⟨D, 1, none⟩ = some (.int .i64 s.o) := z1
          have hs2 : N ≤ (wr.drewN nq).heap.size := hN ▸ hsw
          have HX2 := Lib.hid (show SpAt (wr.drewN nq) (some ⟨g, o, none⟩) L from HRw.out.ext (below_drewN (Below.refl _ wr) nq))
          generalize wr.drewN nq = w2 at *
          clear z0 z1 HRw G HK
          try clear hg0
          go_wp2_with (at_builtin; go_loud (refine wpList_append_own _ rfl _ _ 22 rfl N 32 i0 (.agg #[.int .i64 0, .int .i64 0]) 2 16 Tryd.underlying22 HI0.out.1 HI0.out.2.1 HI0.out.2.2.1 HI0.out.2.2.2 rfl (by decide) _ 0 [] rfl (own_empty w2 N hs2) ⟨g, o, none⟩ k _ ((L.take k).flatMap spV) rfl (by rw [flat_len spV_len, List.length_take]; congr 1; omega) (news_take (HX2.out.ext (below_one w2 _)) k) (spV_flat_one _) (by simp only [maxLen]; omega) (by omega) (by simp; omega) ?_))
          intro v3 w3 ho3 hgr3 _
          have G3 := Lib.hid (show Below N w1 w3 from (G2.out.alloc hs2 _).grown hgr3 (by simp; omega) (fun k e => by cases e; exact hs2))
          have HO3 := Lib.hid (show w3.ownsRow N 32 2 v3 k ((L.take k).flatMap spV) by simpa using ho3)
          have hs3 : N ≤ w3.heap.size := by have := G3.out.size; omega
          obtain ⟨y0, y1⟩ := two_of (F1.out.ext (hN ▸ G3.out))
          have HX3 := Lib.hid (HX.out.ext (hN ▸ G3.out))
          clear ho3 hgr3 HX2 G2 zz0 zz1 hs2
          go_wp2_with (at_builtin; go_loud (refine wpList_append_own _ rfl _ _ 22 rfl N 32 i0 (.agg #[.int .i64 0, .int .i64 0]) 2 16 Tryd.underlying22 HI0.out.1 HI0.out.2.1 HI0.out.2.2.1 HI0.out.2.2.2 rfl (by decide) v3 k ((L.take k).flatMap spV) rfl (HO3.out.alloc _) ⟨w3.heap.size, 0, none⟩ 1 1 (spV s) rfl rfl (CellsAt.all (by simp [CellsAt, go_sem, spV])) (by simp [Value.oneCell', spV]) (by simp only [maxLen]; omega) (by omega) (by simp; omega) ?_))
          intro v4 w4 ho4 hgr4 _
          have G4 := Lib.hid (show Below N w1 w4 from (G3.out.alloc hs3 _).grown hgr4 (by simp; omega) (own_base HO3.out))
          have HO4 := Lib.hid (show w4.ownsRow N 32 2 v4 (k + 1) ((L.take k ++ [s]).flatMap spV) by rw [flat_snoc]; exact ho4)
          have hs4 : N ≤ w4.heap.size := by have := G4.out.size; omega
          have HX4 := Lib.hid (HX.out.ext (hN ▸ G4.out))
          clear ho4 hgr4 HX3 G3 HO3 y0 y1 hs3
          go_wp2_with (at_builtin; go_loud (refine wpList_append_own _ rfl _ _ 22 rfl N 32 i0 (.agg #[.int .i64 0, .int .i64 0]) 2 16 Tryd.underlying22 HI0.out.1 HI0.out.2.1 HI0.out.2.2.1 HI0.out.2.2.2 rfl (by decide) v4 (k + 1) ((L.take k ++ [s]).flatMap spV) rfl HO4.out ⟨g, o, none⟩ 0 _ [] (by first | rfl | (simp [Act.eval, Act.put]; done)) rfl (by simp) (by simp) (by simp only [maxLen]; omega) (by omega) hs4 ?_))
          intro v5 w5 ho5 hgr5 _
          have G5 := Lib.hid (show Below N w1 w5 from G4.out.grown hgr5 hs4 (own_base HO4.out))
          have HO5 := Lib.hid (show w5.ownsRow D 32 2 v5 P.length (P.flatMap spV) by
            rw [HPT.out, List.drop_eq_nil_of_le (by have := HKL.out; omega), List.append_nil, show (L.take k ++ [s]).length = k + 1 by simp; omega]
            exact ownsRow_mono (by simpa using ho5) (show D ≤ N by omega))
          clear ho5 hgr5 HX4 G4 HO4 hs4
          go_wp2_with fail
          go_ret
          exact ⟨⟨_, rfl, HO5.out⟩, G1.out.trans (G5.out.mono (by omega))⟩
        · skip
          have hc1 : k ≤ c := by omega
          have hc2 : (k : Int) ≤ (c : Int) := by omega
          have hlk : (k : Int) ≤ (L.length : Int) := by omega
          go_wp2_with fail
          go_quiet (fail)
          have G2 := Lib.hid (show Below N w1 (wr.drewN nq) from hN ▸ below_drewN G.out nq)
          have zz0 : (wr.drewN nq).cell? ⟨D, 0, none⟩ = some (.int .i64 s.i) := z0
          have zz1 : (wr.drewN nq).cell? ⟨D, 1, none⟩ = some (.int .i64 s.o) := z1
          have hs2 : N ≤ (wr.drewN nq).heap.size := hN ▸ hsw
          have HX2 := Lib.hid (show SpAt (wr.drewN nq) (some ⟨g, o, none⟩) L from HRw.out.ext (below_drewN (Below.refl _ wr) nq))
          generalize wr.drewN nq = w2 at *
          clear z0 z1 HRw G HK
          try clear hg0
          go_wp2_with (at_builtin; go_loud (refine wpList_append_own _ rfl _ _ 22 rfl N 32 i0 (.agg #[.int .i64 0, .int .i64 0]) 2 16 Tryd.underlying22 HI0.out.1 HI0.out.2.1 HI0.out.2.2.1 HI0.out.2.2.2 rfl (by decide) _ 0 [] rfl (own_empty w2 N hs2) ⟨g, o, none⟩ k _ ((L.take k).flatMap spV) rfl (by rw [flat_len spV_len, List.length_take]; congr 1; omega) (news_take (HX2.out.ext (below_one w2 _)) k) (spV_flat_one _) (by simp only [maxLen]; omega) (by omega) (by simp; omega) ?_))
          intro v3 w3 ho3 hgr3 _
          have G3 := Lib.hid (show Below N w1 w3 from (G2.out.alloc hs2 _).grown hgr3 (by simp; omega) (fun k e => by cases e; exact hs2))
          have HO3 := Lib.hid (show w3.ownsRow N 32 2 v3 k ((L.take k).flatMap spV) by simpa using ho3)
          have hs3 : N ≤ w3.heap.size := by have := G3.out.size; omega
          obtain ⟨y0, y1⟩ := two_of (F1.out.ext (hN ▸ G3.out))
          have HX3 := Lib.hid (HX.out.ext (hN ▸ G3.out))
          clear ho3 hgr3 HX2 G2 zz0 zz1 hs2
          go_wp2_with (at_builtin; go_loud (refine wpList_append_own _ rfl _ _ 22 rfl N 32 i0 (.agg #[.int .i64 0, .int .i64 0]) 2 16 Tryd.underlying22 HI0.out.1 HI0.out.2.1 HI0.out.2.2.1 HI0.out.2.2.2 rfl (by decide) v3 k ((L.take k).flatMap spV) rfl (HO3.out.alloc _) ⟨w3.heap.size, 0, none⟩ 1 1 (spV s) rfl rfl (CellsAt.all (by simp [CellsAt, go_sem, spV])) (by simp [Value.oneCell', spV]) (by simp only [maxLen]; omega) (by omega) (by simp; omega) ?_))
          intro v4 w4 ho4 hgr4 _
          have G4 := Lib.hid (show Below N w1 w4 from (G3.out.alloc hs3 _).grown hgr4 (by simp; omega) (own_base HO3.out))
          have HO4 := Lib.hid (show w4.ownsRow N 32 2 v4 (k + 1) ((L.take k ++ [s]).flatMap spV) by rw [flat_snoc]; exact ho4)
          have hs4 : N ≤ w4.heap.size := by have := G4.out.size; omega
          have HX4 := Lib.hid (HX.out.ext (hN ▸ G4.out))
          clear ho4 hgr4 HX3 G3 HO3 y0 y1 hs3
          go_wp2_with (at_builtin; go_loud (refine wpList_append_own _ rfl _ _ 22 rfl N 32 i0 (.agg #[.int .i64 0, .int .i64 0]) 2 16 Tryd.underlying22 HI0.out.1 HI0.out.2.1 HI0.out.2.2.1 HI0.out.2.2.2 rfl (by decide) v4 (k + 1) ((L.take k ++ [s]).flatMap spV) rfl HO4.out ⟨g, o + k * 2, none⟩ (L.length - k) _ ((L.drop k).flatMap spV) (by first | rfl | (simp [Act.eval, Act.put]; done)) (by rw [flat_len spV_len, List.length_drop]) (news_drop HX4.out k) (spV_flat_one _) (by simp only [maxLen]; omega) (by omega) hs4 ?_))
          intro v5 w5 ho5 hgr5 _
          have G5 := Lib.hid (show Below N w1 w5 from G4.out.grown hgr5 hs4 (own_base HO4.out))
          have HO5 := Lib.hid (show w5.ownsRow D 32 2 v5 P.length (P.flatMap spV) by
            rw [HPT.out, List.flatMap_append, show (L.take k ++ [s] ++ L.drop k).length = k + 1 + (L.length - k) by simp; omega]
            exact ownsRow_mono (by simpa using ho5) (show D ≤ N by omega))
          clear ho5 hgr5 HX4 G4 HO4 hs4
          go_wp2_with fail
          go_ret
          exact ⟨⟨_, rfl, HO5.out⟩, G1.out.trans (G5.out.mono (by omega))⟩
end Go.Proofs.YtloioincminhiaaDoor
