/-
  The contract of Join in the reference. Its conditions are its hypotheses.
-/
import Derived.Test.YtloioincminhiaaDoorM2
namespace Go.Proofs.YtloioincminhiaaDoor
open Go.RowKit Go.Joins
set_option linter.unusedVariables false
set_option linter.unusedSimpArgs false
theorem own_form {w : World} {base : Nat} {v : Value} {L : List Spn} (h : w.ownsRow base 32 2 v L.length (L.flatMap spV)) :
    ∃ A c, v = .slice A L.length c ∧ SpAt w A L ∧ L.length ≤ c ∧ ((A = none ∧ c = 0) ∨ ∃ g o, A = some ⟨g, o, none⟩) := by
  obtain ⟨A, c, e, hr, hn, _⟩ := row_of_ownK h
  refine ⟨A, c, e, hr, hn, ?_⟩
  rcases h.2 with ⟨e0, _⟩ | ⟨g, cap, cur, e0, _⟩
  · rw [e0] at e
    injection e with e1 e2 e3
    exact .inl ⟨e1.symm, e3.symm⟩
  · rw [e0] at e
    injection e with e1 e2 e3
    exact .inr ⟨g, 0, e1.symm⟩
theorem srtR_step {L : List Spn} {k : Nat} {x : Spn} (hk : L[k]? = some x) : srtR (L.take (k + 1)) = if x.i < x.o then putS (srtR (L.take k)) x else srtR (L.take k) := by
  unfold srtR
  rw [List.take_add_one, hk, List.foldl_append]
  rfl
theorem srtR_len (L : List Spn) : (srtR L).length ≤ L.length := by
  have h2 := foldl_put_len L []
  simpa [srtR] using h2
theorem putS_all {L : List Spn} {s : Spn} {P : Spn → Prop} (h : ∀ t ∈ L, P t) (hs : P s) : ∀ t ∈ putS L s, P t := by
  intro t ht
  unfold putS at ht
  rcases List.mem_append.1 ht with ht | ht
  · exact h t ((List.takeWhile_sublist _).mem ht)
  · rcases List.mem_cons.1 ht with rfl | ht
    · exact hs
    · exact h t ((List.dropWhile_sublist _).mem ht)
theorem foldl_put_pos : ∀ (L out : List Spn), (∀ t ∈ out, t.i < t.o) → ∀ t ∈ L.foldl (fun out s => if s.i < s.o then putS out s else out) out, t.i < t.o
  | [], out, h => h
  | s :: L, out, h => by
    rw [List.foldl_cons]
    by_cases hs : s.i < s.o
    · rw [if_pos hs]
      exact foldl_put_pos L _ (putS_all h hs)
    · rw [if_neg hs]
      exact foldl_put_pos L _ h
theorem srtR_pos (L : List Spn) : ∀ t ∈ srtR L, t.i < t.o := foldl_put_pos L [] (fun t ht => by cases ht)
set_option maxRecDepth 100000 in
set_option maxHeartbeats 8000000 in
theorem join_any (A : Option Addr) (c : Nat) (xs : List Spn) (w : World) (hx : SpAt w A xs) (hl : xs.length ≤ 1000000) :
    Calls Tryd.prog 34 #[.slice A xs.length c] w (NewP (joinS xs) w) := by
  obtain ⟨i0, hi, hz0, hz1, hz2⟩ := info_parts infoS
  have HI0 := Lib.hid (And.intro hi (And.intro hz0 (And.intro hz1 hz2)))
  clear hi hz0 hz1 hz2
  have HX := Lib.hid hx
  clear hx
  obtain ⟨D, hD⟩ : ∃ D, D = w.heap.size := ⟨_, rfl⟩
  have HD := Lib.hid hD
  unfold NewP
  rw [← hD]
  clear hD
  obtain ⟨J, hJ⟩ : ∃ J, J = joinS xs := ⟨_, rfl⟩
  have HJ := Lib.hid hJ
  rw [← hJ]
  clear hJ
  go_enter Tryd.func34, Tryd.ntmps34
  go_wp2_with fail
  go_loopw [3, 12] (fun ov i wr => ∃ (k : Nat) (uv : Value), uv = ov ∧ k ≤ xs.length ∧ i = .int .i64 k ∧ Hid (wr.ownsRow D 32 2 uv (srtR (xs.take k)).length ((srtR (xs.take k)).flatMap spV)) ∧ Hid (Below D w wr)) (fun _ i _ => xs.length - (intOf i).toNat)
  case atStart => exact ⟨0, _, rfl, by omega, rfl, Lib.hid (World.ownsRow_nil _ _ _ _), Lib.hid (Below.refl _ _)⟩
  case round =>
    obtain ⟨k, uv, rfl, hk, rfl, HO, G⟩ := hrel
    have hDw : D ≤ wr.heap.size := by have := G.out.size; have := HD.out; omega
    by_cases hlt : k < xs.length
    · have hlt2 : (k : Int) < (xs.length : Int) := by omega
      obtain ⟨x, hx⟩ : ∃ x, xs[k]? = some x := ⟨_, List.getElem?_eq_getElem hlt⟩
      have HXK := Lib.hid hx
      have HRw := HX.out.ext (HD.out ▸ G.out)
      obtain ⟨g0, o0, rfl⟩ := SpAt.some HRw hx
      obtain ⟨q0, q1⟩ := SpAt.get HRw hx
      have hst := srtR_step hx
      have HLN := Lib.hid (Nat.le_trans (srtR_len (xs.take k)) (List.length_take_le k xs))
      clear HRw hx
      by_cases hin : x.i < x.o
      · rw [if_pos hin] at hst
        have HST := Lib.hid hst
        generalize srtR (xs.take k) = R at *
        obtain ⟨A3, c3, e3, hr3, hn3, hA3⟩ := own_form HO.out
        subst e3
        have HPA := Lib.hid (fun W (h : SpAt W A3 R) => put_any A3 c3 R x W h (by have := HLN.out; omega) hn3 hA3)
        have HR3 := Lib.hid (hr3.ext (below_one wr (.cells #[.int .i64 x.i, .int .i64 x.o] 32)))
        clear hst hr3 hn3 hA3
        go_wp2_with fail
        refine (HPA.out _ HR3.out).mono ?_
        rintro e w3 ⟨⟨v, rfl, ho⟩, hb⟩
        have G3 := Lib.hid (show Below D w w3 from (G.out.alloc hDw _).trans (hb.mono (by simp; omega)))
        have HO3 := Lib.hid (show w3.ownsRow D 32 2 v (srtR (xs.take (k + 1))).length ((srtR (xs.take (k + 1))).flatMap spV) by
          rw [HST.out]
          exact ownsRow_mono ho (by simp; omega))
        obtain ⟨A4, c4, e4, _⟩ := own_form ho
        subst e4
        clear ho hb HPA HR3 HO G
        go_wp2_with fail
        go_roundw
        case rel => exact ⟨k + 1, _, rfl, by omega, by go_num, HO3, G3⟩
        case measure => simp [intOf]; omega
      · rw [if_neg hin] at hst
        have HST := Lib.hid hst
        clear hst
        go_wp2_with fail
        rw [← HST.out] at HO
        go_roundw
        case rel => exact ⟨k + 1, _, rfl, by omega, by go_num, Lib.hid (HO.out.alloc _), Lib.hid (G.out.alloc hDw _)⟩
        case measure => simp [intOf]; omega
    · obtain rfl : k = xs.length := by omega
      rw [List.take_length] at HO
      clear hlt
      obtain ⟨ys, hys⟩ : ∃ ys, ys = srtR xs := ⟨_, rfl⟩
      rw [← hys] at HO
      have HYS := Lib.hid (show mrg ys = J by rw [HJ.out, hys]; rfl)
      have HNEM := Lib.hid (show ∀ t ∈ ys, t.i < t.o from hys ▸ srtR_pos xs)
      have hly : ys.length ≤ 1000000 := by rw [hys]; have := srtR_len xs; omega
      obtain ⟨A2, c2, e2, hr2, _⟩ := own_form HO.out
      subst e2
      have HR := Lib.hid hr2
      have G2 := G
      obtain ⟨E, hE⟩ : ∃ E, E = wr.heap.size := ⟨_, rfl⟩
      have HE := Lib.hid hE
      have hDE : D ≤ E := by omega
      clear hr2 hE hys HO
      generalize wr = w2 at *
      clear G hDw hk
      go_wp2_with fail
      go_loopw [4, 27] (fun ov i wr => ∃ k : Nat, k ≤ ys.length ∧ i = .int .i64 k ∧ Hid (wr.ownsRow E 32 2 ov (fwd ys k).length ((fwd ys k).flatMap spV)) ∧ Hid (Below E w2 wr)) (fun _ i _ => ys.length - (intOf i).toNat)
      case atStart => exact ⟨0, by omega, rfl, Lib.hid (World.ownsRow_nil _ _ _ _), Lib.hid (Below.refl _ _)⟩
      case round =>
        obtain ⟨k, hk, rfl, HO, G⟩ := hrel
        have hEw : E ≤ wr.heap.size := by have := G.out.size; have := HE.out; omega
        by_cases hlt : k < ys.length
        · have hlt2 : (k : Int) < (ys.length : Int) := by omega
          obtain ⟨x, hx⟩ : ∃ x, ys[k]? = some x := ⟨_, List.getElem?_eq_getElem hlt⟩
          have HXK := Lib.hid hx
          have HRw := HR.out.ext (HE.out ▸ G.out)
          obtain ⟨g0, o0, rfl⟩ := SpAt.some HRw hx
          obtain ⟨q0, q1⟩ := SpAt.get HRw hx
          have hfl := Lib.hid (fwd_len ys k)
          clear HRw hx
          · have he2 : x.i < x.o := HNEM.out x (List.mem_of_getElem? HXK.out)
            rcases fwd_cases ys k with h0 | ⟨M, l, h0⟩
            · have hfs := Lib.hid (fwd_nil HXK.out he2 h0)
              rw [h0] at HO
              obtain ⟨A3, c3, e3, _⟩ := row_of_ownK HO.out
              rw [show ([] : List Spn).length = 0 from rfl] at e3
              subst e3
              clear h0
              go_wp2_with fail
              generalize hw4 : World.alloc wr _ = w4
              have F4 : Held w4 wr.heap.size [.int .i64 x.i, .int .i64 x.o] := by subst hw4; exact Held.new rfl
              obtain ⟨z0, z1⟩ := two_of F4
              have HO4 := Lib.hid (show w4.ownsRow E 32 2 (.slice A3 0 c3) 0 [] by subst hw4; exact HO.out.alloc _)
              have G4 := Lib.hid (show Below E w2 w4 by subst hw4; exact G.out.alloc hEw _)
              have hs4 : E ≤ w4.heap.size := by have := G4.out.size; have := HE.out; omega
              clear hw4 q0 q1 F4 HO G
              go_quiet (fail)
              have HO5 := Lib.hid (show (w4.drewN nq).ownsRow E 32 2 (.slice A3 0 c3) 0 [] from HO4.out)
              have G5 := Lib.hid (below_drewN G4.out nq)
              have zz0 : (w4.drewN nq).cell? ⟨wr.heap.size, 0, none⟩ = some (.int .i64 x.i) := z0
              have zz1 : (w4.drewN nq).cell? ⟨wr.heap.size, 1, none⟩ = some (.int .i64 x.o) := z1
              have hs5 : E ≤ (w4.drewN nq).heap.size := hs4
              generalize w4.drewN nq = w5 at *
              clear z0 z1 HO4 G4 hs4
              go_wp2_with (at_builtin; go_loud (refine wpList_append_lies _ rfl _ _ 22 rfl E 32 i0 (.agg #[.int .i64 0, .int .i64 0]) 2 16 Tryd.underlying22 HI0.out.1 HI0.out.2.1 HI0.out.2.2.1 HI0.out.2.2.2 rfl (by decide) _ 0 [] rfl (HO5.out.alloc _) ⟨w5.heap.size, 0, none⟩ 1 1 (spV x) rfl rfl (CellsAt.all (by simp [CellsAt, go_sem, spV])) (by simp [Value.oneCell', spV]) (by omega) (by simp only [maxLen]; omega) (by omega) (by simp; omega) _ rfl ?_))
              intro g' cap' w6 ho hgr hat hlt6
              have G6 := Lib.hid (show Below E w2 w6 from (G5.out.alloc hs5 _).grown hgr (by simp; omega) (own_base HO5.out))
              have HO6 := Lib.hid (show w6.ownsRow E 32 2 (.slice (some ⟨g', 0, none⟩) (0 + 1) cap') (fwd ys (k + 1)).length ((fwd ys (k + 1)).flatMap spV) by rw [hfs.out]; simpa using ho)
              clear ho hgr hat hlt6 HO5 G5
              go_wp2_with fail
              go_roundw
              case rel => exact ⟨k + 1, by omega, by go_num, HO6, G6⟩
              case measure => simp [intOf]; omega
            · have hml : M.length ≤ 1000000 := by have := hfl.out; rw [h0] at this; simp at this; omega
              have HJ := Lib.hid (fun h => fwd_join HXK.out he2 h0 h)
              have HN := Lib.hid (fun h => fwd_new HXK.out he2 h0 h)
              rw [h0, List.length_append, show M.length + [l].length = M.length + 1 from rfl] at HO
              obtain ⟨g, cap, e3⟩ := ownsRow_succ HO.out
              subst e3
              have HO1 := Lib.hid HO.out
              clear HO
              generalize hn : M.length + 1 = n at *
              obtain ⟨m, hm⟩ : ∃ m, m = M.length := ⟨_, rfl⟩
              have hn2 : IntKind.i64.wrap ((n : Int) - 1) = (m : Int) := by rw [IntKind.wrap_i64]; omega
              have hn6 : 0 < n := by omega
              have hn5 : decide (0 < n) = true := by simpa using hn6
              have hn3 : (m : Int) < (n : Int) := by omega
              have hn4 : (0 : Int) ≤ (m : Int) := by omega
              have HM := Lib.hid hm
              have HNE := Lib.hid hn
              have hnb : n ≤ 1000001 := by omega
              have HNN := Lib.hid hn
              clear h0 hm hn
              by_cases hj : x.i ≤ l.o
              · have HJ2 := Lib.hid (HJ.out hj)
                clear HJ HN
                go_wp2_with fail
                generalize hw4 : World.alloc wr _ = w4
                have F4 : Held w4 wr.heap.size [.int .i64 x.i, .int .i64 x.o] := by subst hw4; exact Held.new rfl
                obtain ⟨z0, z1⟩ := two_of F4
                have HO4 := Lib.hid (show w4.ownsRow E 32 2 (.slice (some ⟨g, 0, none⟩) n cap) n ((M ++ [l]).flatMap spV) by subst hw4; exact HO1.out.alloc _)
                have G4 := Lib.hid (show Below E w2 w4 by subst hw4; exact G.out.alloc hEw _)
                have hs4 : E ≤ w4.heap.size := by have := G4.out.size; have := HE.out; omega
                obtain ⟨r0, r1, r2⟩ := own_last HO4.out
                rw [← HM.out] at r0 r1 r2
                clear hw4 q0 q1 F4 HO1 G
                go_quiet (fail)
                have HO5 := Lib.hid (show (w4.drewN nq).ownsRow E 32 2 (.slice (some ⟨g, 0, none⟩) n cap) n ((M ++ [l]).flatMap spV) from HO4.out)
                have G5 := Lib.hid (below_drewN G4.out nq)
                have zz0 : (w4.drewN nq).cell? ⟨wr.heap.size, 0, none⟩ = some (.int .i64 x.i) := z0
                have zz1 : (w4.drewN nq).cell? ⟨wr.heap.size, 1, none⟩ = some (.int .i64 x.o) := z1
                have hs5 : E ≤ (w4.drewN nq).heap.size := hs4
                have r3 : (w4.drewN nq).cell? ⟨g, m * 2 + 1, none⟩ = some (.int .i64 l.o) := r1
                have r4 : (w4.drewN nq).frozen? ⟨g, m * 2 + 1, none⟩ = false := r2
                generalize w4.drewN nq = w5 at *
                clear z0 z1 HO4 G4 hs4 r0 r1 r2
                go_wp2_with fail
                go_region
                have HO6 := Lib.hid (show ((w5.setCell ⟨g, m * 2 + 1, none⟩ (.int .i64 (max l.o x.o))).drew).ownsRow E 32 2 (.slice (some ⟨g, 0, none⟩) n cap) (fwd ys (k + 1)).length ((fwd ys (k + 1)).flatMap spV) by
                  rw [HJ2.out, show (M ++ [Spn.mk l.i (max l.o x.o)]).length = n by rw [← HNE.out]; simp, HM.out]
                  exact own_joined HO5.out _)
                have G6 := Lib.hid (show Below E w2 ((w5.setCell ⟨g, m * 2 + 1, none⟩ (.int .i64 (max l.o x.o))).drew) from (G5.out.setCell (p := ⟨g, m * 2 + 1, none⟩) (own_base HO5.out g rfl) _).drew)
                go_wp2_with fail
                go_roundw
                case rel => exact ⟨k + 1, by omega, by go_num, HO6, G6⟩
                case measure => simp [intOf]; omega
              · have hj2 : l.o < x.i := by omega
                have HJ2 := Lib.hid (HN.out hj2)
                clear HJ HN
                go_wp2_with fail
                generalize hw4 : World.alloc wr _ = w4
                have F4 : Held w4 wr.heap.size [.int .i64 x.i, .int .i64 x.o] := by subst hw4; exact Held.new rfl
                obtain ⟨z0, z1⟩ := two_of F4
                have HO4 := Lib.hid (show w4.ownsRow E 32 2 (.slice (some ⟨g, 0, none⟩) n cap) n ((M ++ [l]).flatMap spV) by subst hw4; exact HO1.out.alloc _)
                have G4 := Lib.hid (show Below E w2 w4 by subst hw4; exact G.out.alloc hEw _)
                have hs4 : E ≤ w4.heap.size := by have := G4.out.size; have := HE.out; omega
                obtain ⟨r0, r1, r2⟩ := own_last HO4.out
                rw [← HM.out] at r0 r1 r2
                clear hw4 q0 q1 F4 HO1 G
                go_quiet (fail)
                have HO5 := Lib.hid (show (w4.drewN nq).ownsRow E 32 2 (.slice (some ⟨g, 0, none⟩) n cap) n ((M ++ [l]).flatMap spV) from HO4.out)
                have G5 := Lib.hid (below_drewN G4.out nq)
                have zz0 : (w4.drewN nq).cell? ⟨wr.heap.size, 0, none⟩ = some (.int .i64 x.i) := z0
                have zz1 : (w4.drewN nq).cell? ⟨wr.heap.size, 1, none⟩ = some (.int .i64 x.o) := z1
                have hs5 : E ≤ (w4.drewN nq).heap.size := hs4
                have r3 : (w4.drewN nq).cell? ⟨g, m * 2 + 1, none⟩ = some (.int .i64 l.o) := r1
                have r4 : (w4.drewN nq).frozen? ⟨g, m * 2 + 1, none⟩ = false := r2
                generalize w4.drewN nq = w5 at *
                clear z0 z1 HO4 G4 hs4 r0 r1 r2
                go_wp2_with (at_builtin; go_loud (refine wpList_append_lies _ rfl _ _ 22 rfl E 32 i0 (.agg #[.int .i64 0, .int .i64 0]) 2 16 Tryd.underlying22 HI0.out.1 HI0.out.2.1 HI0.out.2.2.1 HI0.out.2.2.2 rfl (by decide) _ n ((M ++ [l]).flatMap spV) rfl (HO5.out.alloc _) ⟨w5.heap.size, 0, none⟩ 1 1 (spV x) rfl rfl (CellsAt.all (by simp [CellsAt, go_sem, spV])) (by simp [Value.oneCell', spV]) (by omega) (by simp only [maxLen]; omega) (by omega) (by simp; omega) _ rfl ?_))
                intro g' cap' w6 ho hgr hat hlt6
                have G6 := Lib.hid (show Below E w2 w6 from (G5.out.alloc hs5 _).grown hgr (by simp; omega) (own_base HO5.out))
                have HO6 := Lib.hid (show w6.ownsRow E 32 2 (.slice (some ⟨g', 0, none⟩) (n + 1) cap') (fwd ys (k + 1)).length ((fwd ys (k + 1)).flatMap spV) by
                  rw [HJ2.out, flat_snoc, show ((M ++ [l]) ++ [x]).length = n + 1 by rw [← HNE.out]; simp]
                  simpa using ho)
                clear ho hgr hat hlt6 HO5 G5
                go_wp2_with fail
                go_roundw
                case rel => exact ⟨k + 1, by omega, by go_num, HO6, G6⟩
                case measure => simp [intOf]; omega
        · obtain rfl : k = ys.length := by omega
          rw [fwd_all, HYS.out] at HO
          clear hlt
          go_wp2_with fail
          go_ret
          exact ⟨⟨_, rfl, ownsRow_mono HO.out hDE⟩, G2.out.trans (G.out.mono hDE)⟩
end Go.Proofs.YtloioincminhiaaDoor
