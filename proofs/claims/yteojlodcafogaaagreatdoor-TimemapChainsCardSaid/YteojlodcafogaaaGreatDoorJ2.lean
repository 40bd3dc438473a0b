/-
  The contract of joined in the program. Its conditions are its hypotheses.
-/
import Derived.Test.YteojlodcafogaaaGreatDoorJ1
import Derived.Test.YteojlodcafogaaaGreatDoorI4
import Derived.Test.YteojlodcafogaaaGreatDoorG9
namespace Go.Proofs.YteojlodcafogaaaGreatDoor
open Go.RowKit Go.Joins
set_option linter.unusedVariables false
set_option linter.unusedSimpArgs false
theorem ownp_last {w : World} {B g n cap : Nat} {L : List Pc} {l : Pc} (h : w.ownsRow B 57 5 (.slice (some ⟨g, 0, none⟩) n cap) n ((L ++ [l]).flatMap pcV)) :
    w.cell? ⟨g, L.length * 5, none⟩ = some (.int .i64 l.i) ∧ w.cell? ⟨g, L.length * 5 + 1, none⟩ = some (.int .i64 l.o) ∧ w.cell? ⟨g, L.length * 5 + 2, none⟩ = some (.int .i64 l.t) ∧ w.frozen? ⟨g, L.length * 5 + 1, none⟩ = false := by
  obtain ⟨A, c, e, hr, _⟩ := row_of_ownK h
  cases e
  obtain ⟨h1, h2, h3, _, _⟩ := PcAt.get (L := L ++ [l]) hr (k := L.length) (x := l) (by simp)
  rw [Nat.zero_add] at h1 h2 h3
  exact ⟨h1, h2, h3, own_free h _⟩
theorem ownp_joined {w : World} {B g n cap : Nat} {L : List Pc} {l : Pc} (h : w.ownsRow B 57 5 (.slice (some ⟨g, 0, none⟩) n cap) n ((L ++ [l]).flatMap pcV)) (u : Int) :
    (w.setCell ⟨g, L.length * 5 + 1, none⟩ (.int .i64 u)).ownsRow B 57 5 (.slice (some ⟨g, 0, none⟩) n cap) n ((L ++ [(⟨l.i, u, l.t, l.n, l.d⟩ : Pc)]).flatMap pcV) := by
  have := own_cell h (L.length * 5 + 1) (.int .i64 u) (by rw [flat_len pcV_len]; simp; omega)
  rw [pc_set1] at this
  exact this
theorem own_formQ {w : World} {base : Nat} {v : Value} {L : List Pc} (h : w.ownsRow base 57 5 v L.length (L.flatMap pcV)) :
    ∃ A c, v = .slice A L.length c ∧ PcAt w A L ∧ L.length ≤ c ∧ ((A = none ∧ c = 0) ∨ ∃ g o, A = some ⟨g, o, none⟩) := by
  obtain ⟨A, c, e, hr, hn, _⟩ := row_of_ownK h
  refine ⟨A, c, e, hr, hn, ?_⟩
  rcases h.2 with ⟨e0, _⟩ | ⟨g, cap, cur, e0, _⟩
  · rw [e0] at e
    injection e with e1 e2 e3
    exact .inl ⟨e1.symm, e3.symm⟩
  · rw [e0] at e
    injection e with e1 e2 e3
    exact .inr ⟨g, 0, e1.symm⟩
/-- What joined gives: the joined pieces of a sorted list. -/
def JonP (xs : List Pc) (W : World) (e : Ending) (w' : World) : Prop := (∃ v ys, e = .returned v ∧ ys.Perm xs ∧ AscP ys ∧ w'.ownsRow W.heap.size 57 5 v (jndP ys).length ((jndP ys).flatMap pcV)) ∧ Below W.heap.size W w'
set_option maxRecDepth 100000 in
set_option maxHeartbeats 4000000 in
theorem joined_any (A : Option Addr) (c : Nat) (xs : List Pc) (w : World) (hx : PcAt w A xs) (hl : xs.length ≤ 1000000) (hbd : ∀ q ∈ xs, Bdp q) :
    Calls Tryz.prog 62 #[.slice A xs.length c] w (JonP xs w) := by
  obtain ⟨i0, hi, hz0, hz1, hz2⟩ := info_parts infoP
  have HI0 := Lib.hid (And.intro hi (And.intro hz0 (And.intro hz1 hz2)))
  clear hi hz0 hz1 hz2
  have HX := Lib.hid hx
  clear hx
  obtain ⟨D, hD⟩ : ∃ D, D = w.heap.size := ⟨_, rfl⟩
  have HD := Lib.hid hD
  unfold JonP
  rw [← hD]
  clear hD
  go_enter Tryz.func62, Tryz.ntmps62
  go_wp2_with fail
  refine (valuesp_any A xs.length c w).mono ?_
  rintro e w1 ⟨rfl, rfl⟩
  go_wp2_with fail
  have hs := sortedp_any _ cmpJ w.heap.size A c xs (w.alloc (.cells #[.slice A xs.length c] 22)) (HX.out.ext (below_one _ _)) (by simp [go_sem]) hl
  unfold SortedQ at hs
  refine hs.mono ?_
  clear hs
  rintro e w2 ⟨v, ys, rfl, hp, hst, ho, hb⟩
  have hly : ys.length ≤ 1000000 := hp.length_eq ▸ hl
  have HP := Lib.hid hp
  have HS := Lib.hid hst
  have HBD := Lib.hid (perm_bd hp hbd)
  have G2 := Lib.hid (show Below D w w2 from HD.out ▸ ((below_one w _).trans (hb.mono (by simp))))
  obtain ⟨A2, c2, rfl, hr2, _⟩ := row_of_ownK ho
  have HR := Lib.hid hr2
  obtain ⟨E, hE⟩ : ∃ E, E = w2.heap.size := ⟨_, rfl⟩
  have HE := Lib.hid hE
  have hDE : D ≤ E := by have := G2.out.size; have := HD.out; omega
  clear hp hst ho hb hr2 hE hbd
  go_wp2_with fail
  go_loopw [3, 11] (fun ov i wr => ∃ k : Nat, k ≤ ys.length ∧ i = .int .i64 k ∧ Hid (wr.ownsRow E 57 5 ov (fwdP ys k).length ((fwdP ys k).flatMap pcV)) ∧ Hid (Below E w2 wr)) (fun _ i _ => ys.length - (intOf i).toNat)
  case atStart => exact ⟨0, by omega, rfl, Lib.hid (World.ownsRow_nil _ _ _ _), Lib.hid (Below.refl _ _)⟩
  case round =>
    obtain ⟨k, hk, rfl, HO, G⟩ := hrel
    have hEw : E ≤ wr.heap.size := by have := G.out.size; have := HE.out; omega
    by_cases hlt : k < ys.length
    · have hlt2 : (k : Int) < (ys.length : Int) := by omega
      obtain ⟨x, hx⟩ : ∃ x, ys[k]? = some x := ⟨_, List.getElem?_eq_getElem hlt⟩
      have HXK := Lib.hid hx
      have HRw := HR.out.ext (HE.out ▸ G.out)
      obtain ⟨g0, o0, rfl⟩ := PcAt.some HRw hx
      obtain ⟨q0, q1, q2, q3, q4⟩ := PcAt.get HRw hx
      have hfl := Lib.hid (fwdP_len ys k)
      have hbx := HBD.out x (List.mem_of_getElem? hx)
      have b1 := hbx.1.1
      have b2 := hbx.1.2
      have b3 := hbx.2.2.1
      have b4 := hbx.2.2.2
      clear HRw hx hbx
      rcases fwdP_cases ys k with h0 | ⟨M, l, h0⟩
      · have hfs := Lib.hid (fwdP_nil HXK.out h0)
        rw [h0] at HO
        obtain ⟨A3, c3, e3, _⟩ := row_of_ownK HO.out
        rw [show ([] : List Pc).length = 0 from rfl] at e3
        subst e3
        clear h0
        go_wp2_with fail
        generalize hw4 : World.alloc wr _ = w4
        have F4 : Held w4 wr.heap.size (pcV x) := by subst hw4; exact Held.new rfl
        obtain ⟨z0, z1, z2, z3, z4⟩ := five_of F4
        have HO4 := Lib.hid (show w4.ownsRow E 57 5 (.slice A3 0 c3) 0 [] by subst hw4; exact HO.out.alloc _)
        have G4 := Lib.hid (show Below E w2 w4 by subst hw4; exact G.out.alloc hEw _)
        have hs4 : E ≤ w4.heap.size := by have := G4.out.size; have := HE.out; omega
        clear hw4 q0 q1 q2 q3 q4 F4 HO G
        go_quiet (fail)
        have HO5 := Lib.hid (show (w4.drewN nq).ownsRow E 57 5 (.slice A3 0 c3) 0 [] from HO4.out)
        have G5 := Lib.hid (below_drewN G4.out nq)
        have zz0 : (w4.drewN nq).cell? ⟨wr.heap.size, 0, none⟩ = some (.int .i64 x.i) := z0
        have zz1 : (w4.drewN nq).cell? ⟨wr.heap.size, 1, none⟩ = some (.int .i64 x.o) := z1
        have zz2 : (w4.drewN nq).cell? ⟨wr.heap.size, 2, none⟩ = some (.int .i64 x.t) := z2
        have zz3 : (w4.drewN nq).cell? ⟨wr.heap.size, 3, none⟩ = some (.int .i64 x.n) := z3
        have zz4 : (w4.drewN nq).cell? ⟨wr.heap.size, 4, none⟩ = some (.int .i64 x.d) := z4
        have hs5 : E ≤ (w4.drewN nq).heap.size := hs4
        generalize w4.drewN nq = w5 at *
        clear z0 z1 z2 z3 z4 HO4 G4 hs4
        go_wp2_with (at_builtin; go_loud (refine wpList_append_lies _ rfl _ _ 22 rfl E 57 i0 (.agg #[.int .i64 0, .int .i64 0, .int .i64 0, .int .i64 0, .int .i64 0]) 5 40 Tryz.underlying22 HI0.out.1 HI0.out.2.1 HI0.out.2.2.1 HI0.out.2.2.2 rfl (by decide) _ 0 [] rfl (HO5.out.alloc _) ⟨w5.heap.size, 0, none⟩ 1 1 (pcV x) rfl rfl (CellsAt.all (by simp [CellsAt, go_sem, pcV])) (by simp [Value.oneCell', pcV]) (by omega) (by simp only [maxLen]; omega) (by omega) (by simp; omega) _ rfl ?_))
        intro g' cap' w6 ho hgr hat hlt6
        have G6 := Lib.hid (show Below E w2 w6 from (G5.out.alloc hs5 _).grown hgr (by simp; omega) (own_base HO5.out))
        have HO6 := Lib.hid (show w6.ownsRow E 57 5 (.slice (some ⟨g', 0, none⟩) (0 + 1) cap') (fwdP ys (k + 1)).length ((fwdP ys (k + 1)).flatMap pcV) by rw [hfs.out]; simpa using ho)
        clear ho hgr hat hlt6 HO5 G5
        go_wp2_with fail
        go_roundw
        case rel => exact ⟨k + 1, by omega, by go_num, HO6, G6⟩
        case measure => simp [intOf]; omega
      · have hml : M.length ≤ 1000000 := by have := hfl.out; rw [h0] at this; simp at this; omega
        have HJ := Lib.hid (fun h => fwdP_join HXK.out h0 h)
        have HN := Lib.hid (fun h => fwdP_new HXK.out h0 h)
        have hbl : Bdp l := fwdP_bd HBD.out k l (by rw [h0]; simp)
        have b5 := hbl.1.1
        have b6 := hbl.1.2
        have b7 := hbl.2.2.1
        have b8 := hbl.2.2.2
        rw [h0, List.length_append, show M.length + [l].length = M.length + 1 from rfl] at HO
        obtain ⟨g, cap, e3⟩ := ownsRow_succ HO.out
        subst e3
        have HO1 := Lib.hid HO.out
        clear HO hbl
        generalize hn : M.length + 1 = n at *
        obtain ⟨m, hm⟩ : ∃ m, m = M.length := ⟨_, rfl⟩
        have hn2 : IntKind.i64.wrap ((n : Int) - 1) = (m : Int) := by rw [IntKind.wrap_i64]; omega
        have hn5 : decide ((0 : Int) ≤ (m : Int)) = true := by simp
        have hn3 : (m : Int) < (n : Int) := by omega
        have hn4 : (0 : Int) ≤ (m : Int) := by omega
        have HM := Lib.hid hm
        have HNE := Lib.hid hn
        have hnb : n ≤ 1000001 := by omega
        clear h0 hm hn
        by_cases hj : l.o = x.i
        · by_cases hj2 : l.t - l.i = x.t - x.i
          · have HJ2 := Lib.hid (HJ.out (onB_yes hj hj2))
            have e1 : (l.o == x.i) = true := beq_iff_eq.2 hj
            have e2 : (l.t - l.i == x.t - x.i) = true := beq_iff_eq.2 hj2
            clear HJ HN hj hj2
            go_wp2_with fail
            generalize hw4 : World.alloc wr _ = w4
            have F4 : Held w4 wr.heap.size (pcV x) := by subst hw4; exact Held.new rfl
            obtain ⟨z0, z1, z2, z3, z4⟩ := five_of F4
            have HO4 := Lib.hid (show w4.ownsRow E 57 5 (.slice (some ⟨g, 0, none⟩) n cap) n ((M ++ [l]).flatMap pcV) by subst hw4; exact HO1.out.alloc _)
            have G4 := Lib.hid (show Below E w2 w4 by subst hw4; exact G.out.alloc hEw _)
            have hs4 : E ≤ w4.heap.size := by have := G4.out.size; have := HE.out; omega
            obtain ⟨r0, r1, r2, r3⟩ := ownp_last HO4.out
            rw [← HM.out] at r0 r1 r2 r3
            clear hw4 q0 q1 q2 q3 q4 F4 HO1 G
            go_quiet (fail)
            have HO5 := Lib.hid (show (w4.drewN nq).ownsRow E 57 5 (.slice (some ⟨g, 0, none⟩) n cap) n ((M ++ [l]).flatMap pcV) from HO4.out)
            have G5 := Lib.hid (below_drewN G4.out nq)
            have zz0 : (w4.drewN nq).cell? ⟨wr.heap.size, 0, none⟩ = some (.int .i64 x.i) := z0
            have zz1 : (w4.drewN nq).cell? ⟨wr.heap.size, 1, none⟩ = some (.int .i64 x.o) := z1
            have zz2 : (w4.drewN nq).cell? ⟨wr.heap.size, 2, none⟩ = some (.int .i64 x.t) := z2
            have zz3 : (w4.drewN nq).cell? ⟨wr.heap.size, 3, none⟩ = some (.int .i64 x.n) := z3
            have zz4 : (w4.drewN nq).cell? ⟨wr.heap.size, 4, none⟩ = some (.int .i64 x.d) := z4
            have hs5 : E ≤ (w4.drewN nq).heap.size := hs4
            have rr1 : (w4.drewN nq).cell? ⟨g, m * 5 + 1, none⟩ = some (.int .i64 l.o) := r1
            have rr3 : (w4.drewN nq).frozen? ⟨g, m * 5 + 1, none⟩ = false := r3
            generalize w4.drewN nq = w5 at *
            clear z0 z1 z2 z3 z4 HO4 G4 hs4 r0 r1 r2 r3
            go_wp2_with fail
            have HO6 := Lib.hid (show (w5.setCell ⟨g, m * 5 + 1, none⟩ (.int .i64 x.o)).ownsRow E 57 5 (.slice (some ⟨g, 0, none⟩) n cap) (fwdP ys (k + 1)).length ((fwdP ys (k + 1)).flatMap pcV) by
              rw [HJ2.out, show (M ++ [(⟨l.i, x.o, l.t, l.n, l.d⟩ : Pc)]).length = n by rw [← HNE.out]; simp, HM.out]
              exact ownp_joined HO5.out _)
            have G6 := Lib.hid (show Below E w2 (w5.setCell ⟨g, m * 5 + 1, none⟩ (.int .i64 x.o)) from G5.out.setCell (p := ⟨g, m * 5 + 1, none⟩) (own_base HO5.out g rfl) _)
            go_roundw
            case rel => exact ⟨k + 1, by omega, by go_num, HO6, G6⟩
            case measure => simp [intOf]; omega
          · have HJ2 := Lib.hid (HN.out (onB_no2 hj2))
            have e1 : (l.o == x.i) = true := beq_iff_eq.2 hj
            have e2 : (l.t - l.i == x.t - x.i) = false := beq_eq_false_iff_ne.2 hj2
            clear HJ HN hj hj2
            go_wp2_with fail
            generalize hw4 : World.alloc wr _ = w4
            have F4 : Held w4 wr.heap.size (pcV x) := by subst hw4; exact Held.new rfl
            obtain ⟨z0, z1, z2, z3, z4⟩ := five_of F4
            have HO4 := Lib.hid (show w4.ownsRow E 57 5 (.slice (some ⟨g, 0, none⟩) n cap) n ((M ++ [l]).flatMap pcV) by subst hw4; exact HO1.out.alloc _)
            have G4 := Lib.hid (show Below E w2 w4 by subst hw4; exact G.out.alloc hEw _)
            have hs4 : E ≤ w4.heap.size := by have := G4.out.size; have := HE.out; omega
            obtain ⟨r0, r1, r2, r3⟩ := ownp_last HO4.out
            rw [← HM.out] at r0 r1 r2 r3
            clear hw4 q0 q1 q2 q3 q4 F4 HO1 G
            go_quiet (fail)
            have HO5 := Lib.hid (show (w4.drewN nq).ownsRow E 57 5 (.slice (some ⟨g, 0, none⟩) n cap) n ((M ++ [l]).flatMap pcV) from HO4.out)
            have G5 := Lib.hid (below_drewN G4.out nq)
            have zz0 : (w4.drewN nq).cell? ⟨wr.heap.size, 0, none⟩ = some (.int .i64 x.i) := z0
            have zz1 : (w4.drewN nq).cell? ⟨wr.heap.size, 1, none⟩ = some (.int .i64 x.o) := z1
            have zz2 : (w4.drewN nq).cell? ⟨wr.heap.size, 2, none⟩ = some (.int .i64 x.t) := z2
            have zz3 : (w4.drewN nq).cell? ⟨wr.heap.size, 3, none⟩ = some (.int .i64 x.n) := z3
            have zz4 : (w4.drewN nq).cell? ⟨wr.heap.size, 4, none⟩ = some (.int .i64 x.d) := z4
            have hs5 : E ≤ (w4.drewN nq).heap.size := hs4
            have rr1 : (w4.drewN nq).cell? ⟨g, m * 5 + 1, none⟩ = some (.int .i64 l.o) := r1
            have rr3 : (w4.drewN nq).frozen? ⟨g, m * 5 + 1, none⟩ = false := r3
            generalize w4.drewN nq = w5 at *
            clear z0 z1 z2 z3 z4 HO4 G4 hs4 r0 r1 r2 r3
            go_wp2_with (at_builtin; go_loud (refine wpList_append_lies _ rfl _ _ 22 rfl E 57 i0 (.agg #[.int .i64 0, .int .i64 0, .int .i64 0, .int .i64 0, .int .i64 0]) 5 40 Tryz.underlying22 HI0.out.1 HI0.out.2.1 HI0.out.2.2.1 HI0.out.2.2.2 rfl (by decide) _ n ((M ++ [l]).flatMap pcV) rfl (HO5.out.alloc _) ⟨w5.heap.size, 0, none⟩ 1 1 (pcV x) rfl rfl (CellsAt.all (by simp [CellsAt, go_sem, pcV])) (by simp [Value.oneCell', pcV]) (by omega) (by simp only [maxLen]; omega) (by omega) (by simp; omega) _ rfl ?_))
            intro g' cap' w6 ho hgr hat hlt6
            have G6 := Lib.hid (show Below E w2 w6 from (G5.out.alloc hs5 _).grown hgr (by simp; omega) (own_base HO5.out))
            have HO6 := Lib.hid (show w6.ownsRow E 57 5 (.slice (some ⟨g', 0, none⟩) (n + 1) cap') (fwdP ys (k + 1)).length ((fwdP ys (k + 1)).flatMap pcV) by
              rw [HJ2.out, pflat_snoc, show ((M ++ [l]) ++ [x]).length = n + 1 by rw [← HNE.out]; simp]
              simpa using ho)
            clear ho hgr hat hlt6 HO5 G5
            go_wp2_with fail
            go_roundw
            case rel => exact ⟨k + 1, by omega, by go_num, HO6, G6⟩
            case measure => simp [intOf]; omega
        · have HJ2 := Lib.hid (HN.out (onB_no1 hj))
          have e1 : (l.o == x.i) = false := beq_eq_false_iff_ne.2 hj
          clear HJ HN hj
          go_wp2_with fail
          generalize hw4 : World.alloc wr _ = w4
          have F4 : Held w4 wr.heap.size (pcV x) := by subst hw4; exact Held.new rfl
          obtain ⟨z0, z1, z2, z3, z4⟩ := five_of F4
          have HO4 := Lib.hid (show w4.ownsRow E 57 5 (.slice (some ⟨g, 0, none⟩) n cap) n ((M ++ [l]).flatMap pcV) by subst hw4; exact HO1.out.alloc _)
          have G4 := Lib.hid (show Below E w2 w4 by subst hw4; exact G.out.alloc hEw _)
          have hs4 : E ≤ w4.heap.size := by have := G4.out.size; have := HE.out; omega
          obtain ⟨r0, r1, r2, r3⟩ := ownp_last HO4.out
          rw [← HM.out] at r0 r1 r2 r3
          clear hw4 q0 q1 q2 q3 q4 F4 HO1 G
          go_quiet (fail)
          have HO5 := Lib.hid (show (w4.drewN nq).ownsRow E 57 5 (.slice (some ⟨g, 0, none⟩) n cap) n ((M ++ [l]).flatMap pcV) from HO4.out)
          have G5 := Lib.hid (below_drewN G4.out nq)
          have zz0 : (w4.drewN nq).cell? ⟨wr.heap.size, 0, none⟩ = some (.int .i64 x.i) := z0
          have zz1 : (w4.drewN nq).cell? ⟨wr.heap.size, 1, none⟩ = some (.int .i64 x.o) := z1
          have zz2 : (w4.drewN nq).cell? ⟨wr.heap.size, 2, none⟩ = some (.int .i64 x.t) := z2
          have zz3 : (w4.drewN nq).cell? ⟨wr.heap.size, 3, none⟩ = some (.int .i64 x.n) := z3
          have zz4 : (w4.drewN nq).cell? ⟨wr.heap.size, 4, none⟩ = some (.int .i64 x.d) := z4
          have hs5 : E ≤ (w4.drewN nq).heap.size := hs4
          have rr1 : (w4.drewN nq).cell? ⟨g, m * 5 + 1, none⟩ = some (.int .i64 l.o) := r1
          have rr3 : (w4.drewN nq).frozen? ⟨g, m * 5 + 1, none⟩ = false := r3
          generalize w4.drewN nq = w5 at *
          clear z0 z1 z2 z3 z4 HO4 G4 hs4 r0 r1 r2 r3
          go_wp2_with (at_builtin; go_loud (refine wpList_append_lies _ rfl _ _ 22 rfl E 57 i0 (.agg #[.int .i64 0, .int .i64 0, .int .i64 0, .int .i64 0, .int .i64 0]) 5 40 Tryz.underlying22 HI0.out.1 HI0.out.2.1 HI0.out.2.2.1 HI0.out.2.2.2 rfl (by decide) _ n ((M ++ [l]).flatMap pcV) rfl (HO5.out.alloc _) ⟨w5.heap.size, 0, none⟩ 1 1 (pcV x) rfl rfl (CellsAt.all (by simp [CellsAt, go_sem, pcV])) (by simp [Value.oneCell', pcV]) (by omega) (by simp only [maxLen]; omega) (by omega) (by simp; omega) _ rfl ?_))
          intro g' cap' w6 ho hgr hat hlt6
          have G6 := Lib.hid (show Below E w2 w6 from (G5.out.alloc hs5 _).grown hgr (by simp; omega) (own_base HO5.out))
          have HO6 := Lib.hid (show w6.ownsRow E 57 5 (.slice (some ⟨g', 0, none⟩) (n + 1) cap') (fwdP ys (k + 1)).length ((fwdP ys (k + 1)).flatMap pcV) by
            rw [HJ2.out, pflat_snoc, show ((M ++ [l]) ++ [x]).length = n + 1 by rw [← HNE.out]; simp]
            simpa using ho)
          clear ho hgr hat hlt6 HO5 G5
          go_wp2_with fail
          go_roundw
          case rel => exact ⟨k + 1, by omega, by go_num, HO6, G6⟩
          case measure => simp [intOf]; omega
    · obtain rfl : k = ys.length := by omega
      rw [fwdP_all] at HO
      clear hlt
      go_wp2_with fail
      go_ret
      exact ⟨⟨_, ys, rfl, HP.out, HS.out, ownsRow_mono HO.out hDE⟩, G2.out.trans (G.out.mono hDE)⟩
end Go.Proofs.YteojlodcafogaaaGreatDoor
