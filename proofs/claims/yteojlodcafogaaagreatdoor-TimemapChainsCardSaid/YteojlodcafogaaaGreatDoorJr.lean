/-
  The contract of joined in the reference. Its conditions are its hypotheses.
-/
import Derived.Test.YteojlodcafogaaaGreatDoorJ1
import Derived.Test.YteojlodcafogaaaGreatDoorJ2
import Derived.Laws.AppendOwnNone
namespace Go.Proofs.YteojlodcafogaaaGreatDoor
open Go.RowKit Go.Joins
set_option linter.unusedVariables false
set_option linter.unusedSimpArgs false
theorem newsp_take {w : World} {g o : Nat} {L : List Pc} (h : PcAt w (some ⟨g, o, none⟩) L) (k : Nat) : ∀ j u, ((L.take k).flatMap pcV)[j]? = some u → w.cell? ((⟨g, o, none⟩ : Addr).add j) = some u := by
  intro j u hj
  rw [← flat_take pcV_len] at hj
  obtain ⟨b, o', e, hc⟩ := RowAt.take h (k * 5) j u hj
  cases e
  rw [Addr.add_lit]
  exact hc
theorem newsp_drop {w : World} {g o : Nat} {L : List Pc} (h : PcAt w (some ⟨g, o, none⟩) L) (k : Nat) : ∀ j u, ((L.drop k).flatMap pcV)[j]? = some u → w.cell? ((⟨g, o + k * 5, none⟩ : Addr).add j) = some u := by
  intro j u hj
  rw [← flat_drop pcV_len, List.getElem?_drop] at hj
  obtain ⟨b, o', e, hc⟩ := h (k * 5 + j) u hj
  cases e
  rw [← Nat.add_assoc] at hc
  rw [Addr.add_lit]
  exact hc
set_option maxRecDepth 100000 in
set_option maxHeartbeats 8000000 in
theorem joinedr_any (A : Option Addr) (c : Nat) (xs : List Pc) (w : World) (hx : PcAt w A xs) (hl : xs.length ≤ 1000000) (hbd : ∀ q ∈ xs, Bdp q) :
    Calls Tryz.prog 64 #[.slice A xs.length c] w (NewM (jonP xs) w) := by
  obtain ⟨i0, hi, hz0, hz1, hz2⟩ := info_parts infoP
  have HI0 := Lib.hid (And.intro hi (And.intro hz0 (And.intro hz1 hz2)))
  clear hi hz0 hz1 hz2
  have HXX := Lib.hid hx
  clear hx
  obtain ⟨D, hD⟩ : ∃ D, D = w.heap.size := ⟨_, rfl⟩
  have HD := Lib.hid hD
  unfold NewM
  rw [← hD]
  clear hD
  obtain ⟨J, hJ⟩ : ∃ J, J = jonP xs := ⟨_, rfl⟩
  have HJN := Lib.hid hJ
  rw [← hJ]
  clear hJ
  have HBX := Lib.hid hbd
  clear hbd
  go_enter Tryz.func64, Tryz.ntmps64
  go_wp2_with fail
  go_loopw [3, 14] (fun ov i wr => ∃ (kk : Nat) (uv : Value), uv = ov ∧ kk ≤ xs.length ∧ i = .int .i64 kk ∧ Hid (wr.ownsRow D 57 5 uv (srtP (xs.take kk)).length ((srtP (xs.take kk)).flatMap pcV)) ∧ Hid (Below D w wr)) (fun _ i _ => xs.length - (intOf i).toNat)
  case atStart => exact ⟨0, _, rfl, by omega, rfl, Lib.hid (World.ownsRow_nil _ _ _ _), Lib.hid (HD.out ▸ Below.refl _ _)⟩
  case round =>
    obtain ⟨kk, uv, rfl, hkk, rfl, HO, G⟩ := hrel
    have hDw : D ≤ wr.heap.size := by have := G.out.size; have := HD.out; omega
    by_cases hltt : kk < xs.length
    · have hltt2 : (kk : Int) < (xs.length : Int) := by omega
      obtain ⟨s, hsx⟩ : ∃ x, xs[kk]? = some x := ⟨_, List.getElem?_eq_getElem hltt⟩
      have HRw := HXX.out.ext (HD.out ▸ G.out)
      obtain ⟨g0, o0, rfl⟩ := PcAt.some HRw hsx
      obtain ⟨q0, q1, q2, q3, q4⟩ := PcAt.get HRw hsx
      have HST := Lib.hid (srtP_step hsx)
      have hl : (srtP (xs.take kk)).length ≤ 1000000 := by rw [srtP_len, List.length_take]; omega
      generalize srtP (xs.take kk) = L at *
      obtain ⟨A, c, e3, hr3, hc, hA⟩ := own_formQ HO.out
      subst e3
      clear HRw hsx
      obtain ⟨P, hP⟩ : ∃ P, P = insP L s := ⟨_, rfl⟩
      have HP := Lib.hid hP
      rw [← hP] at HST
      clear hP
      go_wp2_with fail
      generalize hw1 : World.alloc wr _ = w1
      have F1 := Lib.hid (show Held w1 wr.heap.size (pcV s) by subst hw1; exact Held.new rfl)
      have HX := Lib.hid (show PcAt w1 A L by subst hw1; exact hr3.ext (below_one _ _))
      have G1 := Lib.hid (show Below D w w1 by subst hw1; exact G.out.alloc hDw _)
      have hs1 : wr.heap.size < w1.heap.size := F1.out.lt
      generalize wr.heap.size = X at *
      obtain ⟨N, hN⟩ : ∃ N, w1.heap.size = N := ⟨_, rfl⟩
      have hDN : D ≤ N := by omega
      clear hw1 q0 q1 q2 q3 q4 HO G hr3
      go_loopw [7] (fun i wr => ∃ k : Nat, k ≤ L.length ∧ i = .int .i64 k ∧ Hid (∀ j x, j < k → L[j]? = some x → x.i < s.i) ∧ Hid (Below w1.heap.size w1 wr)) (fun i _ => L.length - (intOf i).toNat)
      case atStart => exact ⟨0, by omega, rfl, Lib.hid (fun j x hj _ => by omega), Lib.hid (Below.refl _ _)⟩
      case round =>
        obtain ⟨k, hk, rfl, HK, G⟩ := hrel
        have hsw := G.out.size
        obtain ⟨z0, z1, z2, z3, z4⟩ := five_of (F1.out.ext G.out)
        have HRw := Lib.hid (HX.out.ext G.out)
        by_cases hlt : k < L.length
        · have hlt2 : (k : Int) < (L.length : Int) := by omega
          obtain ⟨x, hx⟩ : ∃ x, L[k]? = some x := ⟨_, List.getElem?_eq_getElem hlt⟩
          obtain ⟨g, o, rfl⟩ := PcAt.some HRw.out hx
          obtain ⟨q0, q1, q2, q3, q4⟩ := PcAt.get HRw.out hx
          have HXK := Lib.hid hx
          clear hx
          by_cases hle : x.i < s.i
          · go_wp2_with fail
            go_quiet (fail)
            go_wp2_with fail
            go_roundw
            case rel => exact ⟨k + 1, by omega, by go_num, Lib.hid (fun j y hj hy => by
              by_cases hjk : j < k
              · exact HK.out j y hjk hy
              · obtain rfl : j = k := by omega
                rw [HXK.out] at hy
                cases hy
                exact hle), Lib.hid (below_drewN G.out _)⟩
            case measure => simp [intOf]; omega
          · have HPT := Lib.hid (HP.out.trans (insP_at hk HK.out (fun y hy => by rw [HXK.out] at hy; cases hy; omega)))
            have hc1 : k ≤ c := by omega
            have hc2 : (k : Int) ≤ (c : Int) := by omega
            have hlk : (k : Int) ≤ (L.length : Int) := by omega
            go_wp2_with fail
            go_quiet (fail)
            have G2 := Lib.hid (show Below N w1 (wr.drewN nq) from hN ▸ below_drewN G.out nq)
            have zz0 : (wr.drewN nq).cell? ⟨X, 0, none⟩ = some (.int .i64 s.i) := z0
            have zz1 : (wr.drewN nq).cell? ⟨X, 1, none⟩ = some (.int .i64 s.o) := z1
            have zz2 : (wr.drewN nq).cell? ⟨X, 2, none⟩ = some (.int .i64 s.t) := z2
            have zz3 : (wr.drewN nq).cell? ⟨X, 3, none⟩ = some (.int .i64 s.n) := z3
            have zz4 : (wr.drewN nq).cell? ⟨X, 4, none⟩ = some (.int .i64 s.d) := z4
            have hs2 : N ≤ (wr.drewN nq).heap.size := hN ▸ hsw
            have HX2 := Lib.hid (show PcAt (wr.drewN nq) (some ⟨g, o, none⟩) L from HRw.out.ext (below_drewN (Below.refl _ wr) nq))
            generalize wr.drewN nq = w2 at *
            clear z0 z1 z2 z3 z4 HRw G HK
            try clear hg0
            go_wp2_with (at_builtin; go_loud (refine wpList_append_own _ rfl _ _ 22 rfl N 57 i0 (.agg #[.int .i64 0, .int .i64 0, .int .i64 0, .int .i64 0, .int .i64 0]) 5 40 Tryz.underlying22 HI0.out.1 HI0.out.2.1 HI0.out.2.2.1 HI0.out.2.2.2 rfl (by decide) _ 0 [] rfl (own_emptyP w2 N hs2) ⟨g, o, none⟩ k _ ((L.take k).flatMap pcV) rfl (by rw [flat_len pcV_len, List.length_take]; congr 1; omega) (newsp_take (HX2.out.ext (below_one w2 _)) k) (pcV_flat_one _) (by simp only [maxLen]; omega) (by omega) (by simp; omega) ?_))
            intro v3 w3 ho3 hgr3 _
            have G3 := Lib.hid (show Below N w1 w3 from (G2.out.alloc hs2 _).grown hgr3 (by simp; omega) (fun k e => by cases e; exact hs2))
            have HO3 := Lib.hid (show w3.ownsRow N 57 5 v3 k ((L.take k).flatMap pcV) by simpa using ho3)
            have hs3 : N ≤ w3.heap.size := by have := G3.out.size; omega
            obtain ⟨y0, y1, y2, y3, y4⟩ := five_of (F1.out.ext (hN ▸ G3.out))
            have HX3 := Lib.hid (HX.out.ext (hN ▸ G3.out))
            clear ho3 hgr3 HX2 G2 zz0 zz1 zz2 zz3 zz4 hs2
            go_wp2_with (at_builtin; go_loud (refine wpList_append_own _ rfl _ _ 22 rfl N 57 i0 (.agg #[.int .i64 0, .int .i64 0, .int .i64 0, .int .i64 0, .int .i64 0]) 5 40 Tryz.underlying22 HI0.out.1 HI0.out.2.1 HI0.out.2.2.1 HI0.out.2.2.2 rfl (by decide) v3 k ((L.take k).flatMap pcV) rfl (HO3.out.alloc _) ⟨w3.heap.size, 0, none⟩ 1 1 (pcV s) rfl rfl (CellsAt.all (by simp [CellsAt, go_sem, pcV])) (by simp [Value.oneCell', pcV]) (by simp only [maxLen]; omega) (by omega) (by simp; omega) ?_))
            intro v4 w4 ho4 hgr4 _
            have G4 := Lib.hid (show Below N w1 w4 from (G3.out.alloc hs3 _).grown hgr4 (by simp; omega) (own_base HO3.out))
            have HO4 := Lib.hid (show w4.ownsRow N 57 5 v4 (k + 1) ((L.take k ++ [s]).flatMap pcV) by rw [pflat_snoc]; exact ho4)
            have hs4 : N ≤ w4.heap.size := by have := G4.out.size; omega
            have HX4 := Lib.hid (HX.out.ext (hN ▸ G4.out))
            clear ho4 hgr4 HX3 G3 HO3 y0 y1 y2 y3 y4 hs3
            go_wp2_with (at_builtin; go_loud (refine wpList_append_own _ rfl _ _ 22 rfl N 57 i0 (.agg #[.int .i64 0, .int .i64 0, .int .i64 0, .int .i64 0, .int .i64 0]) 5 40 Tryz.underlying22 HI0.out.1 HI0.out.2.1 HI0.out.2.2.1 HI0.out.2.2.2 rfl (by decide) v4 (k + 1) ((L.take k ++ [s]).flatMap pcV) rfl HO4.out ⟨g, o + k * 5, none⟩ (L.length - k) _ ((L.drop k).flatMap pcV) (by first | rfl | (simp [Act.eval, Act.put]; done)) (by rw [flat_len pcV_len, List.length_drop]) (newsp_drop HX4.out k) (pcV_flat_one _) (by simp only [maxLen]; omega) (by omega) hs4 ?_))
            intro v5 w5 ho5 hgr5 _
            have G5 := Lib.hid (show Below N w1 w5 from G4.out.grown hgr5 hs4 (own_base HO4.out))
            have HO5 := Lib.hid (show w5.ownsRow D 57 5 v5 P.length (P.flatMap pcV) by
              rw [HPT.out, List.flatMap_append, show (L.take k ++ [s] ++ L.drop k).length = k + 1 + (L.length - k) by simp; omega]
              exact ownsRow_mono (by simpa using ho5) (show D ≤ N by omega))
            clear ho5 hgr5 HX4 G4 HO4 hs4
            go_wp2_with fail
            go_roundw
            case rel => exact ⟨kk + 1, _, rfl, by omega, by go_num, (by rw [HST.out]; exact HO5), Lib.hid (G1.out.trans (G5.out.mono (by omega)))⟩
            case measure => simp [intOf]; omega
        · have hkl : k = L.length := by omega
          have HPT := Lib.hid (HP.out.trans (insP_at hk HK.out (fun y hy => by rw [hkl, List.getElem?_eq_none (Nat.le_refl _)] at hy; cases hy)))
          have hg0 : decide (k < L.length) = false := by simpa using hlt
          rcases hA with ⟨rfl, rfl⟩ | ⟨g, o, rfl⟩
          · have hl0 : L = [] := List.eq_nil_of_length_eq_zero (by omega)
            subst hl0
            obtain rfl : k = 0 := by omega
            clear hlt hg0 hkl
            go_wp2_with fail
            go_quiet (fail)
            have G2 := Lib.hid (show Below N w1 (wr.drewN nq) from hN ▸ below_drewN G.out nq)
            have zz0 : ((wr.drewN nq).alloc (.cells #[] 57)).cell? ⟨X, 0, none⟩ = some (.int .i64 s.i) := (five_of ((F1.out.ext (hN ▸ G2.out)).alloc _)).1
            have zz1 : ((wr.drewN nq).alloc (.cells #[] 57)).cell? ⟨X, 1, none⟩ = some (.int .i64 s.o) := (five_of ((F1.out.ext (hN ▸ G2.out)).alloc _)).2.1
            have zz2 : ((wr.drewN nq).alloc (.cells #[] 57)).cell? ⟨X, 2, none⟩ = some (.int .i64 s.t) := (five_of ((F1.out.ext (hN ▸ G2.out)).alloc _)).2.2.1
            have zz3 : ((wr.drewN nq).alloc (.cells #[] 57)).cell? ⟨X, 3, none⟩ = some (.int .i64 s.n) := (five_of ((F1.out.ext (hN ▸ G2.out)).alloc _)).2.2.2.1
            have zz4 : ((wr.drewN nq).alloc (.cells #[] 57)).cell? ⟨X, 4, none⟩ = some (.int .i64 s.d) := (five_of ((F1.out.ext (hN ▸ G2.out)).alloc _)).2.2.2.2
            have hs2 : N ≤ (wr.drewN nq).heap.size := hN ▸ hsw
            generalize wr.drewN nq = w2 at *
            clear z0 z1 z2 z3 z4 HRw G HK
            go_wp2_with (first
              | (at_builtin; refine wpList_append_own_none rfl _ _ 22 rfl N 57 i0 5 Tryz.underlying22 HI0.out.1 _ 0 [] rfl (own_emptyP w2 N hs2) rfl ?_)
              | (at_builtin; refine wpList_append_own _ rfl _ _ 22 rfl N 57 i0 (.agg #[.int .i64 0, .int .i64 0, .int .i64 0, .int .i64 0, .int .i64 0]) 5 40 Tryz.underlying22 HI0.out.1 HI0.out.2.1 HI0.out.2.2.1 HI0.out.2.2.2 rfl (by decide) _ 0 [] rfl ((own_emptyP w2 N hs2).alloc _) ⟨w2.heap.size + 1, 0, none⟩ 1 1 (pcV s) rfl rfl (CellsAt.all (by simp [CellsAt, go_sem, pcV])) (by simp [Value.oneCell', pcV]) (by simp only [maxLen]; omega) (by omega) (by simp; omega) ?_))
            intro v4 w4 ho4 hgr4 _
            have G4 := Lib.hid (show Below N w1 w4 from ((G2.out.alloc hs2 _).alloc (by simp; omega) _).grown hgr4 (by simp; omega) (fun k e => by cases e; exact hs2))
            have HO5 := Lib.hid (show w4.ownsRow D 57 5 v4 P.length (P.flatMap pcV) by
              rw [HPT.out]
              exact ownsRow_mono (by simpa using ho4) (show D ≤ N by omega))
            have ho6 : w4.ownsRow N 57 5 v4 (0 + 1) (pcV s) := by simpa using ho4
            obtain ⟨g4, c4, e4⟩ := ownsRow_succ ho6
            subst e4
            have HO6 := Lib.hid ho6
            clear ho4 hgr4 ho6 zz0 zz1 zz2 zz3 zz4 hs2
            go_wp2_with (at_builtin; refine wpList_append_own_none rfl _ _ 22 rfl N 57 i0 5 Tryz.underlying22 HI0.out.1 _ _ _ rfl HO6.out rfl ?_)
            go_roundw
            case rel => exact ⟨kk + 1, _, rfl, by omega, by go_num, (by rw [HST.out]; exact HO5), Lib.hid (G1.out.trans (G4.out.mono (by omega)))⟩
            case measure => simp [intOf]; omega
          · have HKL := Lib.hid hkl
            clear hlt hkl
            by_cases hck : c = k
            · obtain rfl : k = c := hck.symm
              have hlk : (k : Int) ≤ (L.length : Int) := by omega
              go_wp2_with fail
              go_quiet (fail)
              have G2 := Lib.hid (show Below N w1 (wr.drewN nq) from hN ▸ below_drewN G.out nq)
              have zz0 : (wr.drewN nq).cell? ⟨X, 0, none⟩ = some (.int .i64 s.i) := z0
              have zz1 : (wr.drewN nq).cell? ⟨X, 1, none⟩ = some (.int .i64 s.o) := z1
              have zz2 : (wr.drewN nq).cell? ⟨X, 2, none⟩ = some (.int .i64 s.t) := z2
              have zz3 : (wr.drewN nq).cell? ⟨X, 3, none⟩ = some (.int .i64 s.n) := z3
              have zz4 : (wr.drewN nq).cell? ⟨X, 4, none⟩ = some (.int .i64 s.d) := z4
              have hs2 : N ≤ (wr.drewN nq).heap.size := hN ▸ hsw
              have HX2 := Lib.hid (show PcAt (wr.drewN nq) (some ⟨g, o, none⟩) L from HRw.out.ext (below_drewN (Below.refl _ wr) nq))
              generalize wr.drewN nq = w2 at *
              clear z0 z1 z2 z3 z4 HRw G HK
              try clear hg0
              go_wp2_with (at_builtin; go_loud (refine wpList_append_own _ rfl _ _ 22 rfl N 57 i0 (.agg #[.int .i64 0, .int .i64 0, .int .i64 0, .int .i64 0, .int .i64 0]) 5 40 Tryz.underlying22 HI0.out.1 HI0.out.2.1 HI0.out.2.2.1 HI0.out.2.2.2 rfl (by decide) _ 0 [] rfl (own_emptyP w2 N hs2) ⟨g, o, none⟩ k _ ((L.take k).flatMap pcV) rfl (by rw [flat_len pcV_len, List.length_take]; congr 1; omega) (newsp_take (HX2.out.ext (below_one w2 _)) k) (pcV_flat_one _) (by simp only [maxLen]; omega) (by omega) (by simp; omega) ?_))
              intro v3 w3 ho3 hgr3 _
              have G3 := Lib.hid (show Below N w1 w3 from (G2.out.alloc hs2 _).grown hgr3 (by simp; omega) (fun k e => by cases e; exact hs2))
              have HO3 := Lib.hid (show w3.ownsRow N 57 5 v3 k ((L.take k).flatMap pcV) by simpa using ho3)
              have hs3 : N ≤ w3.heap.size := by have := G3.out.size; omega
              obtain ⟨y0, y1, y2, y3, y4⟩ := five_of (F1.out.ext (hN ▸ G3.out))
              have HX3 := Lib.hid (HX.out.ext (hN ▸ G3.out))
              clear ho3 hgr3 HX2 G2 zz0 zz1 zz2 zz3 zz4 hs2
              go_wp2_with (at_builtin; go_loud (refine wpList_append_own _ rfl _ _ 22 rfl N 57 i0 (.agg #[.int .i64 0, .int .i64 0, .int .i64 0, .int .i64 0, .int .i64 0]) 5 40 Tryz.underlying22 HI0.out.1 HI0.out.2.1 HI0.out.2.2.1 HI0.out.2.2.2 rfl (by decide) v3 k ((L.take k).flatMap pcV) rfl (HO3.out.alloc _) ⟨w3.heap.size, 0, none⟩ 1 1 (pcV s) rfl rfl (CellsAt.all (by simp [CellsAt, go_sem, pcV])) (by simp [Value.oneCell', pcV]) (by simp only [maxLen]; omega) (by omega) (by simp; omega) ?_))
              intro v4 w4 ho4 hgr4 _
              have G4 := Lib.hid (show Below N w1 w4 from (G3.out.alloc hs3 _).grown hgr4 (by simp; omega) (own_base HO3.out))
              have HO4 := Lib.hid (show w4.ownsRow N 57 5 v4 (k + 1) ((L.take k ++ [s]).flatMap pcV) by rw [pflat_snoc]; exact ho4)
              have hs4 : N ≤ w4.heap.size := by have := G4.out.size; omega
              have HX4 := Lib.hid (HX.out.ext (hN ▸ G4.out))
              clear ho4 hgr4 HX3 G3 HO3 y0 y1 y2 y3 y4 hs3
              go_wp2_with (at_builtin; go_loud (refine wpList_append_own _ rfl _ _ 22 rfl N 57 i0 (.agg #[.int .i64 0, .int .i64 0, .int .i64 0, .int .i64 0, .int .i64 0]) 5 40 Tryz.underlying22 HI0.out.1 HI0.out.2.1 HI0.out.2.2.1 HI0.out.2.2.2 rfl (by decide) v4 (k + 1) ((L.take k ++ [s]).flatMap pcV) rfl HO4.out ⟨g, o, none⟩ 0 _ [] (by first | rfl | (simp [Act.eval, Act.put]; done)) rfl (by simp) (by simp) (by simp only [maxLen]; omega) (by omega) hs4 ?_))
              intro v5 w5 ho5 hgr5 _
              have G5 := Lib.hid (show Below N w1 w5 from G4.out.grown hgr5 hs4 (own_base HO4.out))
              have HO5 := Lib.hid (show w5.ownsRow D 57 5 v5 P.length (P.flatMap pcV) by
                rw [HPT.out, List.drop_eq_nil_of_le (by have := HKL.out; omega), List.append_nil, show (L.take k ++ [s]).length = k + 1 by simp; omega]
                exact ownsRow_mono (by simpa using ho5) (show D ≤ N by omega))
              clear ho5 hgr5 HX4 G4 HO4 hs4
              go_wp2_with fail
              go_roundw
              case rel => exact ⟨kk + 1, _, rfl, by omega, by go_num, (by rw [HST.out]; exact HO5), Lib.hid (G1.out.trans (G5.out.mono (by omega)))⟩
              case measure => simp [intOf]; omega
            · skip
              have hc1 : k ≤ c := by omega
              have hc2 : (k : Int) ≤ (c : Int) := by omega
              have hlk : (k : Int) ≤ (L.length : Int) := by omega
              go_wp2_with fail
              go_quiet (fail)
              have G2 := Lib.hid (show Below N w1 (wr.drewN nq) from hN ▸ below_drewN G.out nq)
              have zz0 : (wr.drewN nq).cell? ⟨X, 0, none⟩ = some (.int .i64 s.i) := z0
              have zz1 : (wr.drewN nq).cell? ⟨X, 1, none⟩ = some (.int .i64 s.o) := z1
              have zz2 : (wr.drewN nq).cell? ⟨X, 2, none⟩ = some (.int .i64 s.t) := z2
              have zz3 : (wr.drewN nq).cell? ⟨X, 3, none⟩ = some (.int .i64 s.n) := z3
              have zz4 : (wr.drewN nq).cell? ⟨X, 4, none⟩ = some (.int .i64 s.d) := z4
              have hs2 : N ≤ (wr.drewN nq).heap.size := hN ▸ hsw
              have HX2 := Lib.hid (show PcAt (wr.drewN nq) (some ⟨g, o, none⟩) L from HRw.out.ext (below_drewN (Below.refl _ wr) nq))
              generalize wr.drewN nq = w2 at *
              clear z0 z1 z2 z3 z4 HRw G HK
              try clear hg0
              go_wp2_with (at_builtin; go_loud (refine wpList_append_own _ rfl _ _ 22 rfl N 57 i0 (.agg #[.int .i64 0, .int .i64 0, .int .i64 0, .int .i64 0, .int .i64 0]) 5 40 Tryz.underlying22 HI0.out.1 HI0.out.2.1 HI0.out.2.2.1 HI0.out.2.2.2 rfl (by decide) _ 0 [] rfl (own_emptyP w2 N hs2) ⟨g, o, none⟩ k _ ((L.take k).flatMap pcV) rfl (by rw [flat_len pcV_len, List.length_take]; congr 1; omega) (newsp_take (HX2.out.ext (below_one w2 _)) k) (pcV_flat_one _) (by simp only [maxLen]; omega) (by omega) (by simp; omega) ?_))
              intro v3 w3 ho3 hgr3 _
              have G3 := Lib.hid (show Below N w1 w3 from (G2.out.alloc hs2 _).grown hgr3 (by simp; omega) (fun k e => by cases e; exact hs2))
              have HO3 := Lib.hid (show w3.ownsRow N 57 5 v3 k ((L.take k).flatMap pcV) by simpa using ho3)
              have hs3 : N ≤ w3.heap.size := by have := G3.out.size; omega
              obtain ⟨y0, y1, y2, y3, y4⟩ := five_of (F1.out.ext (hN ▸ G3.out))
              have HX3 := Lib.hid (HX.out.ext (hN ▸ G3.out))
              clear ho3 hgr3 HX2 G2 zz0 zz1 zz2 zz3 zz4 hs2
              go_wp2_with (at_builtin; go_loud (refine wpList_append_own _ rfl _ _ 22 rfl N 57 i0 (.agg #[.int .i64 0, .int .i64 0, .int .i64 0, .int .i64 0, .int .i64 0]) 5 40 Tryz.underlying22 HI0.out.1 HI0.out.2.1 HI0.out.2.2.1 HI0.out.2.2.2 rfl (by decide) v3 k ((L.take k).flatMap pcV) rfl (HO3.out.alloc _) ⟨w3.heap.size, 0, none⟩ 1 1 (pcV s) rfl rfl (CellsAt.all (by simp [CellsAt, go_sem, pcV])) (by simp [Value.oneCell', pcV]) (by simp only [maxLen]; omega) (by omega) (by simp; omega) ?_))
              intro v4 w4 ho4 hgr4 _
              have G4 := Lib.hid (show Below N w1 w4 from (G3.out.alloc hs3 _).grown hgr4 (by simp; omega) (own_base HO3.out))
              have HO4 := Lib.hid (show w4.ownsRow N 57 5 v4 (k + 1) ((L.take k ++ [s]).flatMap pcV) by rw [pflat_snoc]; exact ho4)
              have hs4 : N ≤ w4.heap.size := by have := G4.out.size; omega
              have HX4 := Lib.hid (HX.out.ext (hN ▸ G4.out))
              clear ho4 hgr4 HX3 G3 HO3 y0 y1 y2 y3 y4 hs3
              go_wp2_with (at_builtin; go_loud (refine wpList_append_own _ rfl _ _ 22 rfl N 57 i0 (.agg #[.int .i64 0, .int .i64 0, .int .i64 0, .int .i64 0, .int .i64 0]) 5 40 Tryz.underlying22 HI0.out.1 HI0.out.2.1 HI0.out.2.2.1 HI0.out.2.2.2 rfl (by decide) v4 (k + 1) ((L.take k ++ [s]).flatMap pcV) rfl HO4.out ⟨g, o + k * 5, none⟩ (L.length - k) _ ((L.drop k).flatMap pcV) (by first | rfl | (simp [Act.eval, Act.put]; done)) (by rw [flat_len pcV_len, List.length_drop]) (newsp_drop HX4.out k) (pcV_flat_one _) (by simp only [maxLen]; omega) (by omega) hs4 ?_))
              intro v5 w5 ho5 hgr5 _
              have G5 := Lib.hid (show Below N w1 w5 from G4.out.grown hgr5 hs4 (own_base HO4.out))
              have HO5 := Lib.hid (show w5.ownsRow D 57 5 v5 P.length (P.flatMap pcV) by
                rw [HPT.out, List.flatMap_append, show (L.take k ++ [s] ++ L.drop k).length = k + 1 + (L.length - k) by simp; omega]
                exact ownsRow_mono (by simpa using ho5) (show D ≤ N by omega))
              clear ho5 hgr5 HX4 G4 HO4 hs4
              go_wp2_with fail
              go_roundw
              case rel => exact ⟨kk + 1, _, rfl, by omega, by go_num, (by rw [HST.out]; exact HO5), Lib.hid (G1.out.trans (G5.out.mono (by omega)))⟩
              case measure => simp [intOf]; omega
    · obtain rfl : kk = xs.length := by omega
      rw [List.take_length] at HO
      clear hltt
      obtain ⟨ys, hys⟩ : ∃ ys, ys = srtP xs := ⟨_, rfl⟩
      rw [← hys] at HO
      have HYS := Lib.hid (show jndP ys = J by rw [HJN.out, hys]; rfl)
      have HBD := Lib.hid (show ∀ q ∈ ys, Bdp q from hys ▸ perm_bd (srtP_perm xs) HBX.out)
      have hly : ys.length ≤ 1000000 := by rw [hys, srtP_len]; omega
      obtain ⟨A2, c2, e2, hr2, _⟩ := own_formQ HO.out
      subst e2
      have HR := Lib.hid hr2
      have G2 := G
      obtain ⟨E, hE⟩ : ∃ E, E = wr.heap.size := ⟨_, rfl⟩
      have HE := Lib.hid hE
      have hDE : D ≤ E := by omega
      clear hr2 hE hys HO
      generalize wr = w2 at *
      clear G hDw hkk
      go_wp2_with fail
      go_loopw [4, 51] (fun ov i wr => ∃ k : Nat, k ≤ ys.length ∧ i = .int .i64 k ∧ Hid (wr.ownsRow E 57 5 ov (fwdP ys k).length ((fwdP ys k).flatMap pcV)) ∧ Hid (Below E w2 wr)) (fun _ i _ => ys.length - (intOf i).toNat)
      case atStart => exact ⟨0, by omega, rfl, Lib.hid (World.ownsRow_nil _ _ _ _), Lib.hid (Below.refl _ _)⟩
      case round =>
        obtain ⟨k, hk, rfl, HO, G⟩ := hrel
        have hEw : E ≤ wr.heap.size := by have := G.out.size; have := HE.out; omega
        by_cases hlt : k < ys.length
        · have hlt2 : (k : Int) < (ys.length : Int) := by omega
          obtain ⟨x, hx⟩ : ∃ x, ys[k]? = some x := ⟨_, List.getElem?_eq_getElem hlt⟩
          have HXK := Lib.hid hx
          have HRw := HR.out.ext (HE.out ▸ G.out)
          obtain ⟨g0, o0, rfl⟩ := PcAt.some HRw hx
          obtain ⟨q0, q1, q2, q3, q4⟩ := PcAt.get HRw hx
          have hfl := Lib.hid (fwdP_len ys k)
          have hbx := HBD.out x (List.mem_of_getElem? hx)
          have b1 := hbx.1.1
          have b2 := hbx.1.2
          have b3 := hbx.2.2.1
          have b4 := hbx.2.2.2
          clear HRw hx hbx
          rcases fwdP_cases ys k with h0 | ⟨M, l, h0⟩
          · have hfs := Lib.hid (fwdP_nil HXK.out h0)
            rw [h0] at HO
            obtain ⟨A3, c3, e3, _⟩ := row_of_ownK HO.out
            rw [show ([] : List Pc).length = 0 from rfl] at e3
            subst e3
            clear h0
            go_wp2_with fail
            generalize hw4 : World.alloc wr _ = w4
            have F4 : Held w4 wr.heap.size (pcV x) := by subst hw4; exact Held.new rfl
            obtain ⟨z0, z1, z2, z3, z4⟩ := five_of F4
            have HO4 := Lib.hid (show w4.ownsRow E 57 5 (.slice A3 0 c3) 0 [] by subst hw4; exact HO.out.alloc _)
            have G4 := Lib.hid (show Below E w2 w4 by subst hw4; exact G.out.alloc hEw _)
            have hs4 : E ≤ w4.heap.size := by have := G4.out.size; have := HE.out; omega
            clear hw4 q0 q1 q2 q3 q4 F4 HO G
            go_quiet (fail)
            have HO5 := Lib.hid (show (w4.drewN nq).ownsRow E 57 5 (.slice A3 0 c3) 0 [] from HO4.out)
            have G5 := Lib.hid (below_drewN G4.out nq)
            have zz0 : (w4.drewN nq).cell? ⟨wr.heap.size, 0, none⟩ = some (.int .i64 x.i) := z0
            have zz1 : (w4.drewN nq).cell? ⟨wr.heap.size, 1, none⟩ = some (.int .i64 x.o) := z1
            have zz2 : (w4.drewN nq).cell? ⟨wr.heap.size, 2, none⟩ = some (.int .i64 x.t) := z2
            have zz3 : (w4.drewN nq).cell? ⟨wr.heap.size, 3, none⟩ = some (.int .i64 x.n) := z3
            have zz4 : (w4.drewN nq).cell? ⟨wr.heap.size, 4, none⟩ = some (.int .i64 x.d) := z4
            have hs5 : E ≤ (w4.drewN nq).heap.size := hs4
            generalize w4.drewN nq = w5 at *
            clear z0 z1 z2 z3 z4 HO4 G4 hs4
            go_wp2_with (at_builtin; go_loud (refine wpList_append_lies _ rfl _ _ 22 rfl E 57 i0 (.agg #[.int .i64 0, .int .i64 0, .int .i64 0, .int .i64 0, .int .i64 0]) 5 40 Tryz.underlying22 HI0.out.1 HI0.out.2.1 HI0.out.2.2.1 HI0.out.2.2.2 rfl (by decide) _ 0 [] rfl (HO5.out.alloc _) ⟨w5.heap.size, 0, none⟩ 1 1 (pcV x) rfl rfl (CellsAt.all (by simp [CellsAt, go_sem, pcV])) (by simp [Value.oneCell', pcV]) (by omega) (by simp only [maxLen]; omega) (by omega) (by simp; omega) _ rfl ?_))
            intro g' cap' w6 ho hgr hat hlt6
            have G6 := Lib.hid (show Below E w2 w6 from (G5.out.alloc hs5 _).grown hgr (by simp; omega) (own_base HO5.out))
            have HO6 := Lib.hid (show w6.ownsRow E 57 5 (.slice (some ⟨g', 0, none⟩) (0 + 1) cap') (fwdP ys (k + 1)).length ((fwdP ys (k + 1)).flatMap pcV) by rw [hfs.out]; simpa using ho)
            clear ho hgr hat hlt6 HO5 G5
            go_wp2_with fail
            go_roundw
            case rel => exact ⟨k + 1, by omega, by go_num, HO6, G6⟩
            case measure => simp [intOf]; omega
          · have hml : M.length ≤ 1000000 := by have := hfl.out; rw [h0] at this; simp at this; omega
            have HJ := Lib.hid (fun h => fwdP_join HXK.out h0 h)
            have HN := Lib.hid (fun h => fwdP_new HXK.out h0 h)
            have hbl : Bdp l := fwdP_bd HBD.out k l (by rw [h0]; simp)
            have b5 := hbl.1.1
            have b6 := hbl.1.2
            have b7 := hbl.2.2.1
            have b8 := hbl.2.2.2
            rw [h0, List.length_append, show M.length + [l].length = M.length + 1 from rfl] at HO
            obtain ⟨g, cap, e3⟩ := ownsRow_succ HO.out
            subst e3
            have HO1 := Lib.hid HO.out
            clear HO hbl
            generalize hn : M.length + 1 = n at *
            obtain ⟨m, hm⟩ : ∃ m, m = M.length := ⟨_, rfl⟩
            have hn2 : IntKind.i64.wrap ((n : Int) - 1) = (m : Int) := by rw [IntKind.wrap_i64]; omega
            have hn6 : 0 < n := by omega
            have hn5 : decide (0 < n) = true := by simpa using hn6
            have hn3 : (m : Int) < (n : Int) := by omega
            have hn4 : (0 : Int) ≤ (m : Int) := by omega
            have HM := Lib.hid hm
            have HNE := Lib.hid hn
            have hnb : n ≤ 1000001 := by omega
            clear h0 hm hn
            by_cases hj : l.o = x.i
            · by_cases hj2 : l.t - l.i = x.t - x.i
              · have HJ2 := Lib.hid (HJ.out (onB_yes hj hj2))
                have e1 : (l.o == x.i) = true := beq_iff_eq.2 hj
                have e2 : (l.t - l.i == x.t - x.i) = true := beq_iff_eq.2 hj2
                clear HJ HN hj hj2
                go_wp2_with fail
                generalize hw4 : World.alloc wr _ = w4
                have F4 : Held w4 wr.heap.size (pcV x) := by subst hw4; exact Held.new rfl
                obtain ⟨z0, z1, z2, z3, z4⟩ := five_of F4
                have HO4 := Lib.hid (show w4.ownsRow E 57 5 (.slice (some ⟨g, 0, none⟩) n cap) n ((M ++ [l]).flatMap pcV) by subst hw4; exact HO1.out.alloc _)
                have G4 := Lib.hid (show Below E w2 w4 by subst hw4; exact G.out.alloc hEw _)
                have hs4 : E ≤ w4.heap.size := by have := G4.out.size; have := HE.out; omega
                obtain ⟨r0, r1, r2, r3⟩ := ownp_last HO4.out
                rw [← HM.out] at r0 r1 r2 r3
                clear hw4 q0 q1 q2 q3 q4 F4 HO1 G
                go_quiet (fail)
                have HO5 := Lib.hid (show (w4.drewN nq).ownsRow E 57 5 (.slice (some ⟨g, 0, none⟩) n cap) n ((M ++ [l]).flatMap pcV) from HO4.out)
                have G5 := Lib.hid (below_drewN G4.out nq)
                have zz0 : (w4.drewN nq).cell? ⟨wr.heap.size, 0, none⟩ = some (.int .i64 x.i) := z0
                have zz1 : (w4.drewN nq).cell? ⟨wr.heap.size, 1, none⟩ = some (.int .i64 x.o) := z1
                have zz2 : (w4.drewN nq).cell? ⟨wr.heap.size, 2, none⟩ = some (.int .i64 x.t) := z2
                have zz3 : (w4.drewN nq).cell? ⟨wr.heap.size, 3, none⟩ = some (.int .i64 x.n) := z3
                have zz4 : (w4.drewN nq).cell? ⟨wr.heap.size, 4, none⟩ = some (.int .i64 x.d) := z4
                have hs5 : E ≤ (w4.drewN nq).heap.size := hs4
                have rr1 : (w4.drewN nq).cell? ⟨g, m * 5 + 1, none⟩ = some (.int .i64 l.o) := r1
                have rr3 : (w4.drewN nq).frozen? ⟨g, m * 5 + 1, none⟩ = false := r3
                generalize w4.drewN nq = w5 at *
                clear z0 z1 z2 z3 z4 HO4 G4 hs4 r0 r1 r2 r3
                go_wp2_with fail
                have HO6 := Lib.hid (show (w5.setCell ⟨g, m * 5 + 1, none⟩ (.int .i64 x.o)).ownsRow E 57 5 (.slice (some ⟨g, 0, none⟩) n cap) (fwdP ys (k + 1)).length ((fwdP ys (k + 1)).flatMap pcV) by
                  rw [HJ2.out, show (M ++ [(⟨l.i, x.o, l.t, l.n, l.d⟩ : Pc)]).length = n by rw [← HNE.out]; simp, HM.out]
                  exact ownp_joined HO5.out _)
                have G6 := Lib.hid (show Below E w2 (w5.setCell ⟨g, m * 5 + 1, none⟩ (.int .i64 x.o)) from G5.out.setCell (p := ⟨g, m * 5 + 1, none⟩) (own_base HO5.out g rfl) _)
                go_roundw
                case rel => exact ⟨k + 1, by omega, by go_num, HO6, G6⟩
                case measure => simp [intOf]; omega
              · have HJ2 := Lib.hid (HN.out (onB_no2 hj2))
                have e1 : (l.o == x.i) = true := beq_iff_eq.2 hj
                have e2 : (l.t - l.i == x.t - x.i) = false := beq_eq_false_iff_ne.2 hj2
                clear HJ HN hj hj2
                go_wp2_with fail
                generalize hw4 : World.alloc wr _ = w4
                have F4 : Held w4 wr.heap.size (pcV x) := by subst hw4; exact Held.new rfl
                obtain ⟨z0, z1, z2, z3, z4⟩ := five_of F4
                have HO4 := Lib.hid (show w4.ownsRow E 57 5 (.slice (some ⟨g, 0, none⟩) n cap) n ((M ++ [l]).flatMap pcV) by subst hw4; exact HO1.out.alloc _)
                have G4 := Lib.hid (show Below E w2 w4 by subst hw4; exact G.out.alloc hEw _)
                have hs4 : E ≤ w4.heap.size := by have := G4.out.size; have := HE.out; omega
                obtain ⟨r0, r1, r2, r3⟩ := ownp_last HO4.out
                rw [← HM.out] at r0 r1 r2 r3
                clear hw4 q0 q1 q2 q3 q4 F4 HO1 G
                go_quiet (fail)
                have HO5 := Lib.hid (show (w4.drewN nq).ownsRow E 57 5 (.slice (some ⟨g, 0, none⟩) n cap) n ((M ++ [l]).flatMap pcV) from HO4.out)
                have G5 := Lib.hid (below_drewN G4.out nq)
                have zz0 : (w4.drewN nq).cell? ⟨wr.heap.size, 0, none⟩ = some (.int .i64 x.i) := z0
                have zz1 : (w4.drewN nq).cell? ⟨wr.heap.size, 1, none⟩ = some (.int .i64 x.o) := z1
                have zz2 : (w4.drewN nq).cell? ⟨wr.heap.size, 2, none⟩ = some (.int .i64 x.t) := z2
                have zz3 : (w4.drewN nq).cell? ⟨wr.heap.size, 3, none⟩ = some (.int .i64 x.n) := z3
                have zz4 : (w4.drewN nq).cell? ⟨wr.heap.size, 4, none⟩ = some (.int .i64 x.d) := z4
                have hs5 : E ≤ (w4.drewN nq).heap.size := hs4
                have rr1 : (w4.drewN nq).cell? ⟨g, m * 5 + 1, none⟩ = some (.int .i64 l.o) := r1
                have rr3 : (w4.drewN nq).frozen? ⟨g, m * 5 + 1, none⟩ = false := r3
                generalize w4.drewN nq = w5 at *
                clear z0 z1 z2 z3 z4 HO4 G4 hs4 r0 r1 r2 r3
                go_wp2_with (at_builtin; go_loud (refine wpList_append_lies _ rfl _ _ 22 rfl E 57 i0 (.agg #[.int .i64 0, .int .i64 0, .int .i64 0, .int .i64 0, .int .i64 0]) 5 40 Tryz.underlying22 HI0.out.1 HI0.out.2.1 HI0.out.2.2.1 HI0.out.2.2.2 rfl (by decide) _ n ((M ++ [l]).flatMap pcV) rfl (HO5.out.alloc _) ⟨w5.heap.size, 0, none⟩ 1 1 (pcV x) rfl rfl (CellsAt.all (by simp [CellsAt, go_sem, pcV])) (by simp [Value.oneCell', pcV]) (by omega) (by simp only [maxLen]; omega) (by omega) (by simp; omega) _ rfl ?_))
                intro g' cap' w6 ho hgr hat hlt6
                have G6 := Lib.hid (show Below E w2 w6 from (G5.out.alloc hs5 _).grown hgr (by simp; omega) (own_base HO5.out))
                have HO6 := Lib.hid (show w6.ownsRow E 57 5 (.slice (some ⟨g', 0, none⟩) (n + 1) cap') (fwdP ys (k + 1)).length ((fwdP ys (k + 1)).flatMap pcV) by
                  rw [HJ2.out, pflat_snoc, show ((M ++ [l]) ++ [x]).length = n + 1 by rw [← HNE.out]; simp]
                  simpa using ho)
                clear ho hgr hat hlt6 HO5 G5
                go_wp2_with fail
                go_roundw
                case rel => exact ⟨k + 1, by omega, by go_num, HO6, G6⟩
                case measure => simp [intOf]; omega
            · have HJ2 := Lib.hid (HN.out (onB_no1 hj))
              have e1 : (l.o == x.i) = false := beq_eq_false_iff_ne.2 hj
              clear HJ HN hj
              go_wp2_with fail
              generalize hw4 : World.alloc wr _ = w4
              have F4 : Held w4 wr.heap.size (pcV x) := by subst hw4; exact Held.new rfl
              obtain ⟨z0, z1, z2, z3, z4⟩ := five_of F4
              have HO4 := Lib.hid (show w4.ownsRow E 57 5 (.slice (some ⟨g, 0, none⟩) n cap) n ((M ++ [l]).flatMap pcV) by subst hw4; exact HO1.out.alloc _)
              have G4 := Lib.hid (show Below E w2 w4 by subst hw4; exact G.out.alloc hEw _)
              have hs4 : E ≤ w4.heap.size := by have := G4.out.size; have := HE.out; omega
              obtain ⟨r0, r1, r2, r3⟩ := ownp_last HO4.out
              rw [← HM.out] at r0 r1 r2 r3
              clear hw4 q0 q1 q2 q3 q4 F4 HO1 G
              go_quiet (fail)
              have HO5 := Lib.hid (show (w4.drewN nq).ownsRow E 57 5 (.slice (some ⟨g, 0, none⟩) n cap) n ((M ++ [l]).flatMap pcV) from HO4.out)
              have G5 := Lib.hid (below_drewN G4.out nq)
              have zz0 : (w4.drewN nq).cell? ⟨wr.heap.size, 0, none⟩ = some (.int .i64 x.i) := z0
              have zz1 : (w4.drewN nq).cell? ⟨wr.heap.size, 1, none⟩ = some (.int .i64 x.o) := z1
              have zz2 : (w4.drewN nq).cell? ⟨wr.heap.size, 2, none⟩ = some (.int .i64 x.t) := z2
              have zz3 : (w4.drewN nq).cell? ⟨wr.heap.size, 3, none⟩ = some (.int .i64 x.n) := z3
              have zz4 : (w4.drewN nq).cell? ⟨wr.heap.size, 4, none⟩ = some (.int .i64 x.d) := z4
              have hs5 : E ≤ (w4.drewN nq).heap.size := hs4
              have rr1 : (w4.drewN nq).cell? ⟨g, m * 5 + 1, none⟩ = some (.int .i64 l.o) := r1
              have rr3 : (w4.drewN nq).frozen? ⟨g, m * 5 + 1, none⟩ = false := r3
              generalize w4.drewN nq = w5 at *
              clear z0 z1 z2 z3 z4 HO4 G4 hs4 r0 r1 r2 r3
              go_wp2_with (at_builtin; go_loud (refine wpList_append_lies _ rfl _ _ 22 rfl E 57 i0 (.agg #[.int .i64 0, .int .i64 0, .int .i64 0, .int .i64 0, .int .i64 0]) 5 40 Tryz.underlying22 HI0.out.1 HI0.out.2.1 HI0.out.2.2.1 HI0.out.2.2.2 rfl (by decide) _ n ((M ++ [l]).flatMap pcV) rfl (HO5.out.alloc _) ⟨w5.heap.size, 0, none⟩ 1 1 (pcV x) rfl rfl (CellsAt.all (by simp [CellsAt, go_sem, pcV])) (by simp [Value.oneCell', pcV]) (by omega) (by simp only [maxLen]; omega) (by omega) (by simp; omega) _ rfl ?_))
              intro g' cap' w6 ho hgr hat hlt6
              have G6 := Lib.hid (show Below E w2 w6 from (G5.out.alloc hs5 _).grown hgr (by simp; omega) (own_base HO5.out))
              have HO6 := Lib.hid (show w6.ownsRow E 57 5 (.slice (some ⟨g', 0, none⟩) (n + 1) cap') (fwdP ys (k + 1)).length ((fwdP ys (k + 1)).flatMap pcV) by
                rw [HJ2.out, pflat_snoc, show ((M ++ [l]) ++ [x]).length = n + 1 by rw [← HNE.out]; simp]
                simpa using ho)
              clear ho hgr hat hlt6 HO5 G5
              go_wp2_with fail
              go_roundw
              case rel => exact ⟨k + 1, by omega, by go_num, HO6, G6⟩
              case measure => simp [intOf]; omega
        · obtain rfl : k = ys.length := by omega
          rw [fwdP_all] at HO
          clear hlt
          go_wp2_with fail
          go_ret
          exact ⟨⟨_, rfl, ownsRow_mono (by rw [← HYS.out]; exact HO.out) hDE⟩, G2.out.trans (G.out.mono hDE)⟩
end Go.Proofs.YteojlodcafogaaaGreatDoor
