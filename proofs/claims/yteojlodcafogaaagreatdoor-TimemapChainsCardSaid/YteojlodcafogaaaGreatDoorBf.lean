/-
  Joining spans. The conditions of the contracts are their hypotheses.
-/
import Derived.Test.YteojlodcafogaaaGreatDoorBe
import Derived.BigRegion
import Derived.BigQuiet
import Derived.Deep.AppendLies
import Derived.Deep.QuietTactic
import Derived.Laws.AppendOwnNone
import Derived.Test.YteojlodcafogaaaGreatDoorBd
namespace Go.Proofs.YteojlodcafogaaaGreatDoor
open Go.RowKit Go.Joins
set_option linter.unusedVariables false
set_option linter.unusedSimpArgs false
theorem own_cell {w : World} {B g n cap : Nat} {e : TypeId} {size : Nat} {xs : List Value} (h : w.ownsRow B e size (.slice (some ⟨g, 0, none⟩) n cap) n xs) (i : Nat) (u : Value) (hi : i < xs.length) :
    (w.setCell ⟨g, i, none⟩ u).ownsRow B e size (.slice (some ⟨g, 0, none⟩) n cap) n (xs.set i u) := by
  obtain ⟨hl, h⟩ := h
  rcases h with ⟨h, _⟩ | ⟨g', cap', cur, hv, h1, h2, h3, h4, h5, h6⟩
  · cases h
  · cases hv
    refine ⟨by rw [List.length_set, hl], .inr ⟨g, cap, cur.setIfInBounds i u, rfl, h1, by rw [block_setCell h2 u], h3, h4, by simpa using h5, ?_⟩⟩
    rw [Array.toList_setIfInBounds, List.take_set, h6]
theorem own_free {w : World} {B g n cap : Nat} {e : TypeId} {size : Nat} {xs : List Value} (h : w.ownsRow B e size (.slice (some ⟨g, 0, none⟩) n cap) n xs) (i : Nat) : w.frozen? ⟨g, i, none⟩ = false := by
  rcases h.2 with ⟨h, _⟩ | ⟨g', cap', cur, hv, h1, h2, h3, h4, h5, h6⟩
  · cases h
  · cases hv
    simp [World.frozen?, h2]
theorem spV_set1 (u : Int) : ∀ (L : List Spn) (l : Spn), ((L ++ [l]).flatMap spV).set (L.length * 2 + 1) (.int .i64 u) = (L ++ [Spn.mk l.i u]).flatMap spV
  | [], l => rfl
  | y :: r, l => by
    have ih := spV_set1 u r l
    rw [List.cons_append, List.flatMap_cons, List.cons_append, List.flatMap_cons, ← ih, List.length_cons, List.set_append_right _ _ (by rw [spV_len]; omega), spV_len]
    congr 2
    omega
theorem own_last {w : World} {B g n cap : Nat} {L : List Spn} {l : Spn} (h : w.ownsRow B 42 2 (.slice (some ⟨g, 0, none⟩) n cap) n ((L ++ [l]).flatMap spV)) :
    w.cell? ⟨g, L.length * 2, none⟩ = some (.int .i64 l.i) ∧ w.cell? ⟨g, L.length * 2 + 1, none⟩ = some (.int .i64 l.o) ∧ w.frozen? ⟨g, L.length * 2 + 1, none⟩ = false := by
  obtain ⟨A, c, e, hr, _⟩ := row_of_ownK h
  cases e
  obtain ⟨h1, h2⟩ := SpAt.get (L := L ++ [l]) hr (k := L.length) (x := l) (by simp)
  rw [Nat.zero_add] at h1 h2
  exact ⟨h1, h2, own_free h _⟩
theorem own_joined {w : World} {B g n cap : Nat} {L : List Spn} {l : Spn} (h : w.ownsRow B 42 2 (.slice (some ⟨g, 0, none⟩) n cap) n ((L ++ [l]).flatMap spV)) (u : Int) :
    (w.setCell ⟨g, L.length * 2 + 1, none⟩ (.int .i64 u)).ownsRow B 42 2 (.slice (some ⟨g, 0, none⟩) n cap) n ((L ++ [Spn.mk l.i u]).flatMap spV) := by
  have := own_cell h (L.length * 2 + 1) (.int .i64 u) (by rw [flat_len spV_len]; simp; omega)
  rw [spV_set1] at this
  exact this
/-- What is joined of the first k. -/
def fstR (ys : List Spn) (k : Nat) : List Spn := (ys.take k).foldl stp []
theorem fstR_step {ys : List Spn} {k : Nat} {x : Spn} (hk : ys[k]? = some x) : fstR ys (k + 1) = stp (fstR ys k) x := by
  unfold fstR
  rw [List.take_add_one, hk, List.foldl_append]
  rfl
theorem fstR_len (ys : List Spn) (k : Nat) : (fstR ys k).length ≤ ys.length := by
  have := foldl_stp_len (ys.take k) []
  simp at this
  unfold fstR
  omega
theorem fstR_all (ys : List Spn) : (fstR ys ys.length).reverse = mrg ys := by unfold fstR mrg; rw [List.take_length]
theorem stp_skip {out : List Spn} {x : Spn} (h : x.o ≤ x.i) : stp out x = out := by unfold stp; rw [if_neg (by omega)]
theorem stp_nil {x : Spn} (h : x.i < x.o) : stp [] x = [x] := by unfold stp; rw [if_pos h]
theorem stp_join {l x : Spn} {r : List Spn} (h : x.i < x.o) (h2 : x.i ≤ l.o) : stp (l :: r) x = ⟨l.i, max l.o x.o⟩ :: r := by unfold stp; rw [if_pos h]; simp only []; rw [if_pos h2]
theorem stp_new {l x : Spn} {r : List Spn} (h : x.i < x.o) (h2 : l.o < x.i) : stp (l :: r) x = x :: l :: r := by unfold stp; rw [if_pos h]; simp only []; rw [if_neg (by omega)]
def fwd (ys : List Spn) (k : Nat) : List Spn := (fstR ys k).reverse
theorem fwd_len (ys : List Spn) (k : Nat) : (fwd ys k).length ≤ ys.length := by unfold fwd; rw [List.length_reverse]; exact fstR_len ys k
theorem fwd_cases (ys : List Spn) (k : Nat) : fwd ys k = [] ∨ ∃ M l, fwd ys k = M ++ [l] := by
  unfold fwd
  cases fstR ys k with
  | nil => exact .inl rfl
  | cons l r => exact .inr ⟨r.reverse, l, by rw [List.reverse_cons]⟩
theorem fwd_skip {ys : List Spn} {k : Nat} {x : Spn} (hk : ys[k]? = some x) (h : x.o ≤ x.i) : fwd ys (k + 1) = fwd ys k := by unfold fwd; rw [fstR_step hk, stp_skip h]
theorem fwd_nil {ys : List Spn} {k : Nat} {x : Spn} (hk : ys[k]? = some x) (h : x.i < x.o) (h0 : fwd ys k = []) : fwd ys (k + 1) = [] ++ [x] := by
  unfold fwd at h0 ⊢
  rw [List.reverse_eq_nil_iff] at h0
  rw [fstR_step hk, h0, stp_nil h]
  rfl
theorem fwd_some {ys : List Spn} {k : Nat} {M : List Spn} {l : Spn} (h0 : fwd ys k = M ++ [l]) : fstR ys k = l :: M.reverse := by
  unfold fwd at h0
  have := congrArg List.reverse h0
  simpa using this
theorem fwd_join {ys : List Spn} {k : Nat} {x l : Spn} {M : List Spn} (hk : ys[k]? = some x) (h : x.i < x.o) (h0 : fwd ys k = M ++ [l]) (h2 : x.i ≤ l.o) : fwd ys (k + 1) = M ++ [Spn.mk l.i (max l.o x.o)] := by
  have e := fwd_some h0
  unfold fwd
  rw [fstR_step hk, e, stp_join h h2]
  simp
theorem fwd_new {ys : List Spn} {k : Nat} {x l : Spn} {M : List Spn} (hk : ys[k]? = some x) (h : x.i < x.o) (h0 : fwd ys k = M ++ [l]) (h2 : l.o < x.i) : fwd ys (k + 1) = (M ++ [l]) ++ [x] := by
  have e := fwd_some h0
  unfold fwd
  rw [fstR_step hk, e, stp_new h h2]
  simp
theorem fwd_all (ys : List Spn) : fwd ys ys.length = mrg ys := fstR_all ys
def MergeP (xs : List Spn) (W : World) (e : Ending) (w' : World) : Prop := (∃ v ys, e = .returned v ∧ ys.Perm xs ∧ Srt ys ∧ w'.ownsRow W.heap.size 42 2 v (mrg ys).length ((mrg ys).flatMap spV)) ∧ Below W.heap.size W w'
set_option maxRecDepth 100000 in
set_option maxHeartbeats 4000000 in
theorem merge_any (A : Option Addr) (c : Nat) (xs : List Spn) (w : World) (hx : SpAt w A xs) (hl : xs.length ≤ 1000000) :
    Calls Tryz.prog 79 #[.slice A xs.length c] w (MergeP xs w) := by
  obtain ⟨i0, hi, hz0, hz1, hz2⟩ := info_parts infoS
  have HI0 := Lib.hid (And.intro hi (And.intro hz0 (And.intro hz1 hz2)))
  clear hi hz0 hz1 hz2
  have HX := Lib.hid hx
  clear hx
  obtain ⟨D, hD⟩ : ∃ D, D = w.heap.size := ⟨_, rfl⟩
  have HD := Lib.hid hD
  unfold MergeP
  rw [← hD]
  clear hD
  go_enter Tryz.func79, Tryz.ntmps79
  go_wp2_with fail
  refine (values_any A xs.length c w).mono ?_
  rintro e w1 ⟨rfl, rfl⟩
  go_wp2_with fail
  have hs := sorted_any w.heap.size A c xs (w.alloc (.cells #[.slice A xs.length c] 35)) (HX.out.ext (below_one _ _)) (by simp [go_sem]) hl
  unfold SortedP at hs
  refine hs.mono ?_
  clear hs
  rintro e w2 ⟨v, ys, rfl, hp, hst, ho, hb⟩
  have hly : ys.length = xs.length := hp.length_eq
  have HP := Lib.hid hp
  have HS := Lib.hid hst
  have G2 := Lib.hid (show Below D w w2 from HD.out ▸ ((below_one w _).trans (hb.mono (by simp))))
  obtain ⟨A2, c2, rfl, hr2, _⟩ := row_of_ownK ho
  have HR := Lib.hid hr2
  obtain ⟨E, hE⟩ : ∃ E, E = w2.heap.size := ⟨_, rfl⟩
  have HE := Lib.hid hE
  have hDE : D ≤ E := by have := G2.out.size; have := HD.out; omega
  clear hp hst ho hb hr2 hE
  go_wp2_with fail
  go_loopw [3, 13] (fun ov i wr => ∃ k : Nat, k ≤ ys.length ∧ i = .int .i64 k ∧ Hid (wr.ownsRow E 42 2 ov (fwd ys k).length ((fwd ys k).flatMap spV)) ∧ Hid (Below E w2 wr)) (fun _ i _ => ys.length - (intOf i).toNat)
  case atStart => exact ⟨0, by omega, rfl, Lib.hid (World.ownsRow_nil _ _ _ _), Lib.hid (Below.refl _ _)⟩
  case round =>
    obtain ⟨k, hk, rfl, HO, G⟩ := hrel
    have hEw : E ≤ wr.heap.size := by have := G.out.size; have := HE.out; omega
    by_cases hlt : k < ys.length
    · have hlt2 : (k : Int) < (ys.length : Int) := by omega
      obtain ⟨x, hx⟩ : ∃ x, ys[k]? = some x := ⟨_, List.getElem?_eq_getElem hlt⟩
      have HXK := Lib.hid hx
      have HRw := HR.out.ext (HE.out ▸ G.out)
      obtain ⟨g0, o0, rfl⟩ := SpAt.some HRw hx
      obtain ⟨q0, q1⟩ := SpAt.get HRw hx
      have hfl := Lib.hid (fwd_len ys k)
      clear HRw hx
      by_cases he : x.o ≤ x.i
      · have hfs := Lib.hid (fwd_skip HXK.out he)
        go_wp2_with fail
        rw [← hfs.out] at HO
        go_roundw
        case rel => exact ⟨k + 1, by omega, by go_num, Lib.hid (HO.out.alloc _), Lib.hid (G.out.alloc hEw _)⟩
        case measure => simp [intOf]; omega
      · have he2 : x.i < x.o := by omega
        rcases fwd_cases ys k with h0 | ⟨M, l, h0⟩
        · have hfs := Lib.hid (fwd_nil HXK.out he2 h0)
          rw [h0] at HO
          obtain ⟨A3, c3, e3, _⟩ := row_of_ownK HO.out
          rw [show ([] : List Spn).length = 0 from rfl] at e3
          subst e3
          clear h0
          go_wp2_with fail
          generalize hw4 : World.alloc wr _ = w4
          have F4 : Held w4 wr.heap.size [.int .i64 x.i, .int .i64 x.o] := by subst hw4; exact Held.new rfl
          obtain ⟨z0, z1⟩ := two_of F4
          have HO4 := Lib.hid (show w4.ownsRow E 42 2 (.slice A3 0 c3) 0 [] by subst hw4; exact HO.out.alloc _)
          have G4 := Lib.hid (show Below E w2 w4 by subst hw4; exact G.out.alloc hEw _)
          have hs4 : E ≤ w4.heap.size := by have := G4.out.size; have := HE.out; omega
          clear hw4 q0 q1 F4 HO G
          go_quiet (fail)
          have HO5 := Lib.hid (show (w4.drewN nq).ownsRow E 42 2 (.slice A3 0 c3) 0 [] from HO4.out)
          have G5 := Lib.hid (below_drewN G4.out nq)
          have zz0 : (w4.drewN nq).cell? ⟨wr.heap.size, 0, none⟩ = some (.int .i64 x.i) := z0
          have zz1 : (w4.drewN nq).cell? ⟨wr.heap.size, 1, none⟩ = some (.int .i64 x.o) := z1
          have hs5 : E ≤ (w4.drewN nq).heap.size := hs4
          generalize w4.drewN nq = w5 at *
          clear z0 z1 HO4 G4 hs4
          go_wp2_with (at_builtin; go_loud (refine wpList_append_lies _ rfl _ _ 35 rfl E 42 i0 (.agg #[.int .i64 0, .int .i64 0]) 2 16 Tryz.underlying35 HI0.out.1 HI0.out.2.1 HI0.out.2.2.1 HI0.out.2.2.2 rfl (by decide) _ 0 [] rfl (HO5.out.alloc _) ⟨w5.heap.size, 0, none⟩ 1 1 (spV x) rfl rfl (CellsAt.all (by simp [CellsAt, go_sem, spV])) (by simp [Value.oneCell', spV]) (by omega) (by simp only [maxLen]; omega) (by omega) (by simp; omega) _ rfl ?_))
          intro g' cap' w6 ho hgr hat hlt6
          have G6 := Lib.hid (show Below E w2 w6 from (G5.out.alloc hs5 _).grown hgr (by simp; omega) (own_base HO5.out))
          have HO6 := Lib.hid (show w6.ownsRow E 42 2 (.slice (some ⟨g', 0, none⟩) (0 + 1) cap') (fwd ys (k + 1)).length ((fwd ys (k + 1)).flatMap spV) by rw [hfs.out]; simpa using ho)
          clear ho hgr hat hlt6 HO5 G5
          go_wp2_with fail
          go_roundw
          case rel => exact ⟨k + 1, by omega, by go_num, HO6, G6⟩
          case measure => simp [intOf]; omega
        · have hml : M.length ≤ 1000000 := by have := hfl.out; rw [h0] at this; simp at this; omega
          have HJ := Lib.hid (fun h => fwd_join HXK.out he2 h0 h)
          have HN := Lib.hid (fun h => fwd_new HXK.out he2 h0 h)
          rw [h0, List.length_append, show M.length + [l].length = M.length + 1 from rfl] at HO
          obtain ⟨g, cap, e3⟩ := ownsRow_succ HO.out
          subst e3
          have HO1 := Lib.hid HO.out
          clear HO
          generalize hn : M.length + 1 = n at *
          obtain ⟨m, hm⟩ : ∃ m, m = M.length := ⟨_, rfl⟩
          have hn2 : IntKind.i64.wrap ((n : Int) - 1) = (m : Int) := by rw [IntKind.wrap_i64]; omega
          have hn5 : decide ((0 : Int) ≤ (m : Int)) = true := by simp
          have hn3 : (m : Int) < (n : Int) := by omega
          have hn4 : (0 : Int) ≤ (m : Int) := by omega
          have HM := Lib.hid hm
          have HNE := Lib.hid hn
          have hnb : n ≤ 1000001 := by omega
          have HNN := Lib.hid hn
          clear h0 hm hn
          by_cases hj : x.i ≤ l.o
          · have HJ2 := Lib.hid (HJ.out hj)
            clear HJ HN
            go_wp2_with fail
            generalize hw4 : World.alloc wr _ = w4
            have F4 : Held w4 wr.heap.size [.int .i64 x.i, .int .i64 x.o] := by subst hw4; exact Held.new rfl
            obtain ⟨z0, z1⟩ := two_of F4
            have HO4 := Lib.hid (show w4.ownsRow E 42 2 (.slice (some ⟨g, 0, none⟩) n cap) n ((M ++ [l]).flatMap spV) by subst hw4; exact HO1.out.alloc _)
            have G4 := Lib.hid (show Below E w2 w4 by subst hw4; exact G.out.alloc hEw _)
            have hs4 : E ≤ w4.heap.size := by have := G4.out.size; have := HE.out; omega
            obtain ⟨r0, r1, r2⟩ := own_last HO4.out
            rw [← HM.out] at r0 r1 r2
            clear hw4 q0 q1 F4 HO1 G
            go_quiet (fail)
            have HO5 := Lib.hid (show (w4.drewN nq).ownsRow E 42 2 (.slice (some ⟨g, 0, none⟩) n cap) n ((M ++ [l]).flatMap spV) from HO4.out)
            have G5 := Lib.hid (below_drewN G4.out nq)
            have zz0 : (w4.drewN nq).cell? ⟨wr.heap.size, 0, none⟩ = some (.int .i64 x.i) := z0
            have zz1 : (w4.drewN nq).cell? ⟨wr.heap.size, 1, none⟩ = some (.int .i64 x.o) := z1
            have hs5 : E ≤ (w4.drewN nq).heap.size := hs4
            have r3 : (w4.drewN nq).cell? ⟨g, m * 2 + 1, none⟩ = some (.int .i64 l.o) := r1
            have r4 : (w4.drewN nq).frozen? ⟨g, m * 2 + 1, none⟩ = false := r2
            generalize w4.drewN nq = w5 at *
            clear z0 z1 HO4 G4 hs4 r0 r1 r2
            go_wp2_with fail
            go_region
            have HO6 := Lib.hid (show ((w5.setCell ⟨g, m * 2 + 1, none⟩ (.int .i64 (max l.o x.o))).drew).ownsRow E 42 2 (.slice (some ⟨g, 0, none⟩) n cap) (fwd ys (k + 1)).length ((fwd ys (k + 1)).flatMap spV) by
              rw [HJ2.out, show (M ++ [Spn.mk l.i (max l.o x.o)]).length = n by rw [← HNE.out]; simp, HM.out]
              exact own_joined HO5.out _)
            have G6 := Lib.hid (show Below E w2 ((w5.setCell ⟨g, m * 2 + 1, none⟩ (.int .i64 (max l.o x.o))).drew) from (G5.out.setCell (p := ⟨g, m * 2 + 1, none⟩) (own_base HO5.out g rfl) _).drew)
            go_wp2_with fail
            go_roundw
            case rel => exact ⟨k + 1, by omega, by go_num, HO6, G6⟩
            case measure => simp [intOf]; omega
          · have hj2 : l.o < x.i := by omega
            have HJ2 := Lib.hid (HN.out hj2)
            clear HJ HN
            go_wp2_with fail
            generalize hw4 : World.alloc wr _ = w4
            have F4 : Held w4 wr.heap.size [.int .i64 x.i, .int .i64 x.o] := by subst hw4; exact Held.new rfl
            obtain ⟨z0, z1⟩ := two_of F4
            have HO4 := Lib.hid (show w4.ownsRow E 42 2 (.slice (some ⟨g, 0, none⟩) n cap) n ((M ++ [l]).flatMap spV) by subst hw4; exact HO1.out.alloc _)
            have G4 := Lib.hid (show Below E w2 w4 by subst hw4; exact G.out.alloc hEw _)
            have hs4 : E ≤ w4.heap.size := by have := G4.out.size; have := HE.out; omega
            obtain ⟨r0, r1, r2⟩ := own_last HO4.out
            rw [← HM.out] at r0 r1 r2
            clear hw4 q0 q1 F4 HO1 G
            go_quiet (fail)
            have HO5 := Lib.hid (show (w4.drewN nq).ownsRow E 42 2 (.slice (some ⟨g, 0, none⟩) n cap) n ((M ++ [l]).flatMap spV) from HO4.out)
            have G5 := Lib.hid (below_drewN G4.out nq)
            have zz0 : (w4.drewN nq).cell? ⟨wr.heap.size, 0, none⟩ = some (.int .i64 x.i) := z0
            have zz1 : (w4.drewN nq).cell? ⟨wr.heap.size, 1, none⟩ = some (.int .i64 x.o) := z1
            have hs5 : E ≤ (w4.drewN nq).heap.size := hs4
            have r3 : (w4.drewN nq).cell? ⟨g, m * 2 + 1, none⟩ = some (.int .i64 l.o) := r1
            have r4 : (w4.drewN nq).frozen? ⟨g, m * 2 + 1, none⟩ = false := r2
            generalize w4.drewN nq = w5 at *
            clear z0 z1 HO4 G4 hs4 r0 r1 r2
            go_wp2_with (at_builtin; go_loud (refine wpList_append_lies _ rfl _ _ 35 rfl E 42 i0 (.agg #[.int .i64 0, .int .i64 0]) 2 16 Tryz.underlying35 HI0.out.1 HI0.out.2.1 HI0.out.2.2.1 HI0.out.2.2.2 rfl (by decide) _ n ((M ++ [l]).flatMap spV) rfl (HO5.out.alloc _) ⟨w5.heap.size, 0, none⟩ 1 1 (spV x) rfl rfl (CellsAt.all (by simp [CellsAt, go_sem, spV])) (by simp [Value.oneCell', spV]) (by omega) (by simp only [maxLen]; omega) (by omega) (by simp; omega) _ rfl ?_))
            intro g' cap' w6 ho hgr hat hlt6
            have G6 := Lib.hid (show Below E w2 w6 from (G5.out.alloc hs5 _).grown hgr (by simp; omega) (own_base HO5.out))
            have HO6 := Lib.hid (show w6.ownsRow E 42 2 (.slice (some ⟨g', 0, none⟩) (n + 1) cap') (fwd ys (k + 1)).length ((fwd ys (k + 1)).flatMap spV) by
              rw [HJ2.out, flat_snoc, show ((M ++ [l]) ++ [x]).length = n + 1 by rw [← HNE.out]; simp]
              simpa using ho)
            clear ho hgr hat hlt6 HO5 G5
            go_wp2_with fail
            go_roundw
            case rel => exact ⟨k + 1, by omega, by go_num, HO6, G6⟩
            case measure => simp [intOf]; omega
    · obtain rfl : k = ys.length := by omega
      rw [fwd_all] at HO
      clear hlt
      go_wp2_with fail
      go_ret
      exact ⟨⟨_, ys, rfl, HP.out, HS.out, ownsRow_mono HO.out hDE⟩, G2.out.trans (G.out.mono hDE)⟩
end Go.Proofs.YteojlodcafogaaaGreatDoor
namespace Go.Proofs.YteojlodcafogaaaGreatDoor
open Go.RowKit Go.Joins
set_option linter.unusedVariables false
set_option linter.unusedSimpArgs false
theorem own_empty (w : World) (base : Nat) (hb : base ≤ w.heap.size) : (w.alloc (.cells #[] 42)).ownsRow base 42 2 (.slice (some ⟨w.heap.size, 0, none⟩) 0 0) 0 [] :=
  ⟨rfl, .inr ⟨w.heap.size, 0, #[], rfl, hb, heap_at w _ rfl, Nat.le_refl _, Nat.zero_le _, rfl, rfl⟩⟩
theorem news_take {w : World} {g o : Nat} {L : List Spn} (h : SpAt w (some ⟨g, o, none⟩) L) (k : Nat) : ∀ j u, ((L.take k).flatMap spV)[j]? = some u → w.cell? ((⟨g, o, none⟩ : Addr).add j) = some u := by
  intro j u hj
  rw [← flat_take spV_len] at hj
  obtain ⟨b, o', e, hc⟩ := RowAt.take h (k * 2) j u hj
  cases e
  rw [Addr.add_lit]
  exact hc
theorem news_drop {w : World} {g o : Nat} {L : List Spn} (h : SpAt w (some ⟨g, o, none⟩) L) (k : Nat) : ∀ j u, ((L.drop k).flatMap spV)[j]? = some u → w.cell? ((⟨g, o + k * 2, none⟩ : Addr).add j) = some u := by
  intro j u hj
  rw [← flat_drop spV_len, List.getElem?_drop] at hj
  obtain ⟨b, o', e, hc⟩ := h (k * 2 + j) u hj
  cases e
  rw [← Nat.add_assoc] at hc
  rw [Addr.add_lit]
  exact hc
theorem put_at {L : List Spn} {s : Spn} {k : Nat} (hk : k ≤ L.length) (h1 : ∀ j x, j < k → L[j]? = some x → x.i ≤ s.i) (h2 : ∀ x, L[k]? = some x → s.i < x.i) : putS L s = L.take k ++ [s] ++ L.drop k := by
  unfold putS
  have e1 : L.takeWhile (fun t => decide (t.i ≤ s.i)) = L.take k ∧ L.dropWhile (fun t => decide (t.i ≤ s.i)) = L.drop k := by
    clear hk
    induction k generalizing L with
    | zero =>
      cases L with
      | nil => exact ⟨rfl, rfl⟩
      | cons x r =>
        have := h2 x rfl
        have e : decide (x.i ≤ s.i) = false := by simp; omega
        simp [List.takeWhile_cons, List.dropWhile_cons, e]
    | succ k ih =>
      cases L with
      | nil => exact ⟨rfl, rfl⟩
      | cons x r =>
        have := h1 0 x (by omega) rfl
        have e : decide (x.i ≤ s.i) = true := by simp; omega
        obtain ⟨i1, i2⟩ := ih (L := r) (fun j y hj hy => h1 (j + 1) y (by omega) hy) (fun y hy => h2 y hy)
        simp [List.takeWhile_cons, List.dropWhile_cons, e, i1, i2]
  rw [e1.1, e1.2]
  simp
set_option maxRecDepth 100000 in
set_option maxHeartbeats 4000000 in
theorem put_any (A : Option Addr) (c : Nat) (L : List Spn) (s : Spn) (w : World) (hx : SpAt w A L) (hl : L.length ≤ 1000000) (hc : L.length ≤ c) (hA : (A = none ∧ c = 0) ∨ ∃ g o, A = some ⟨g, o, none⟩) :
    Calls Tryz.prog 80 #[.slice A L.length c, spA s] w (NewP (putS L s) w) := by
  obtain ⟨i0, hi, hz0, hz1, hz2⟩ := info_parts infoS
  have HI0 := Lib.hid (And.intro hi (And.intro hz0 (And.intro hz1 hz2)))
  clear hi hz0 hz1 hz2
  obtain ⟨D, hD⟩ : ∃ D, D = w.heap.size := ⟨_, rfl⟩
  unfold NewP
  rw [← hD]
  obtain ⟨P, hP⟩ : ∃ P, P = putS L s := ⟨_, rfl⟩
  have HP := Lib.hid hP
  rw [← hP]
  clear hP
  go_enter Tryz.func80, Tryz.ntmps80
  go_wp2_with fail
  generalize hw1 : World.alloc w _ = w1
  have F1 := Lib.hid (show Held w1 D [.int .i64 s.i, .int .i64 s.o] by subst hw1; exact Held.new hD)
  have HX := Lib.hid (show SpAt w1 A L by subst hw1; exact hx.ext (below_one _ _))
  have G1 := Lib.hid (show Below D w w1 by subst hw1; rw [hD]; exact below_one _ _)
  have hs1 : D < w1.heap.size := F1.out.lt
  obtain ⟨N, hN⟩ : ∃ N, w1.heap.size = N := ⟨_, rfl⟩
  rw [← hD]
  clear hw1 hx hD
  go_loopw [5] (fun i wr => ∃ k : Nat, k ≤ L.length ∧ i = .int .i64 k ∧ Hid (∀ j x, j < k → L[j]? = some x → x.i ≤ s.i) ∧ Hid (Below w1.heap.size w1 wr)) (fun i _ => L.length - (intOf i).toNat)
  case atStart => exact ⟨0, by omega, rfl, Lib.hid (fun j x hj _ => by omega), Lib.hid (Below.refl _ _)⟩
  case round =>
    obtain ⟨k, hk, rfl, HK, G⟩ := hrel
    have hsw := G.out.size
    obtain ⟨z0, z1⟩ := two_of (F1.out.ext G.out)
    have HRw := Lib.hid (HX.out.ext G.out)
    by_cases hlt : k < L.length
    · have hlt2 : (k : Int) < (L.length : Int) := by omega
      obtain ⟨x, hx⟩ : ∃ x, L[k]? = some x := ⟨_, List.getElem?_eq_getElem hlt⟩
      obtain ⟨g, o, rfl⟩ := SpAt.some HRw.out hx
      obtain ⟨q0, q1⟩ := SpAt.get HRw.out hx
      have HXK := Lib.hid hx
      clear hx
      by_cases hle : x.i ≤ s.i
      · go_wp2_with fail
        go_quiet (fail)
        go_wp2_with fail
        go_roundw
        case rel => exact ⟨k + 1, by omega, by go_num, Lib.hid (fun j y hj hy => by
          by_cases hjk : j < k
          · exact HK.out j y hjk hy
          · obtain rfl : j = k := by omega
            rw [HXK.out] at hy
            cases hy
            exact hle), Lib.hid (below_drewN G.out _)⟩
        case measure => simp [intOf]; omega
      · have HPT := Lib.hid (HP.out.trans (put_at hk HK.out (fun y hy => by rw [HXK.out] at hy; cases hy; omega)))
        have hc1 : k ≤ c := by omega
        have hc2 : (k : Int) ≤ (c : Int) := by omega
        have hlk : (k : Int) ≤ (L.length : Int) := by omega
        go_wp2_with fail
        go_quiet (fail)
        have G2 := Lib.hid (show Below N w1 (wr.drewN nq) from hN ▸ below_drewN G.out nq)
        have zz0 : (wr.drewN nq).cell? ⟨D, 0, none⟩ = some (.int .i64 s.i) := z0
        have zz1 : (wr.drewN nq).cell? ⟨D, 1, none⟩ = some (.int .i64 s.o) := z1
        have hs2 : N ≤ (wr.drewN nq).heap.size := hN ▸ hsw
        have HX2 := Lib.hid (show SpAt (wr.drewN nq) (some ⟨g, o, none⟩) L from HRw.out.ext (below_drewN (Below.refl _ wr) nq))
        generalize wr.drewN nq = w2 at *
        clear z0 z1 HRw G HK
        try clear hg0
        go_wp2_with (at_builtin; go_loud (refine wpList_append_own _ rfl _ _ 35 rfl N 42 i0 (.agg #[.int .i64 0, .int .i64 0]) 2 16 Tryz.underlying35 HI0.out.1 HI0.out.2.1 HI0.out.2.2.1 HI0.out.2.2.2 rfl (by decide) _ 0 [] rfl (own_empty w2 N hs2) ⟨g, o, none⟩ k _ ((L.take k).flatMap spV) rfl (by rw [flat_len spV_len, List.length_take]; congr 1; omega) (news_take (HX2.out.ext (below_one w2 _)) k) (spV_flat_one _) (by simp only [maxLen]; omega) (by omega) (by simp; omega) ?_))
        intro v3 w3 ho3 hgr3 _
        have G3 := Lib.hid (show Below N w1 w3 from (G2.out.alloc hs2 _).grown hgr3 (by simp; omega) (fun k e => by cases e; exact hs2))
        have HO3 := Lib.hid (show w3.ownsRow N 42 2 v3 k ((L.take k).flatMap spV) by simpa using ho3)
        have hs3 : N ≤ w3.heap.size := by have := G3.out.size; omega
        obtain ⟨y0, y1⟩ := two_of (F1.out.ext (hN ▸ G3.out))
        have HX3 := Lib.hid (HX.out.ext (hN ▸ G3.out))
        clear ho3 hgr3 HX2 G2 zz0 zz1 hs2
        go_wp2_with (at_builtin; go_loud (refine wpList_append_own _ rfl _ _ 35 rfl N 42 i0 (.agg #[.int .i64 0, .int .i64 0]) 2 16 Tryz.underlying35 HI0.out.1 HI0.out.2.1 HI0.out.2.2.1 HI0.out.2.2.2 rfl (by decide) v3 k ((L.take k).flatMap spV) rfl (HO3.out.alloc _) ⟨w3.heap.size, 0, none⟩ 1 1 (spV s) rfl rfl (CellsAt.all (by simp [CellsAt, go_sem, spV])) (by simp [Value.oneCell', spV]) (by simp only [maxLen]; omega) (by omega) (by simp; omega) ?_))
        intro v4 w4 ho4 hgr4 _
        have G4 := Lib.hid (show Below N w1 w4 from (G3.out.alloc hs3 _).grown hgr4 (by simp; omega) (own_base HO3.out))
        have HO4 := Lib.hid (show w4.ownsRow N 42 2 v4 (k + 1) ((L.take k ++ [s]).flatMap spV) by rw [flat_snoc]; exact ho4)
        have hs4 : N ≤ w4.heap.size := by have := G4.out.size; omega
        have HX4 := Lib.hid (HX.out.ext (hN ▸ G4.out))
        clear ho4 hgr4 HX3 G3 HO3 y0 y1 hs3
        go_wp2_with (at_builtin; go_loud (refine wpList_append_own _ rfl _ _ 35 rfl N 42 i0 (.agg #[.int .i64 0, .int .i64 0]) 2 16 Tryz.underlying35 HI0.out.1 HI0.out.2.1 HI0.out.2.2.1 HI0.out.2.2.2 rfl (by decide) v4 (k + 1) ((L.take k ++ [s]).flatMap spV) rfl HO4.out ⟨g, o + k * 2, none⟩ (L.length - k) _ ((L.drop k).flatMap spV) (by first | rfl | (simp [Act.eval, Act.put]; done)) (by rw [flat_len spV_len, List.length_drop]) (news_drop HX4.out k) (spV_flat_one _) (by simp only [maxLen]; omega) (by omega) hs4 ?_))
        intro v5 w5 ho5 hgr5 _
        have G5 := Lib.hid (show Below N w1 w5 from G4.out.grown hgr5 hs4 (own_base HO4.out))
        have HO5 := Lib.hid (show w5.ownsRow D 42 2 v5 P.length (P.flatMap spV) by
          rw [HPT.out, List.flatMap_append, show (L.take k ++ [s] ++ L.drop k).length = k + 1 + (L.length - k) by simp; omega]
          exact ownsRow_mono (by simpa using ho5) (show D ≤ N by omega))
        clear ho5 hgr5 HX4 G4 HO4 hs4
        go_wp2_with fail
        go_ret
        exact ⟨⟨_, rfl, HO5.out⟩, G1.out.trans (G5.out.mono (by omega))⟩
    · have hkl : k = L.length := by omega
      have HPT := Lib.hid (HP.out.trans (put_at hk HK.out (fun y hy => by rw [hkl, List.getElem?_eq_none (Nat.le_refl _)] at hy; cases hy)))
      have hg0 : decide (k < L.length) = false := by simpa using hlt
      rcases hA with ⟨rfl, rfl⟩ | ⟨g, o, rfl⟩
      · have hl0 : L = [] := List.eq_nil_of_length_eq_zero (by omega)
        subst hl0
        obtain rfl : k = 0 := by omega
        clear hlt hg0 hkl
        go_wp2_with fail
        go_quiet (fail)
        have G2 := Lib.hid (show Below N w1 (wr.drewN nq) from hN ▸ below_drewN G.out nq)
        have zz0 : ((wr.drewN nq).alloc (.cells #[] 42)).cell? ⟨D, 0, none⟩ = some (.int .i64 s.i) := (two_of ((F1.out.ext (hN ▸ G2.out)).alloc _)).1
        have zz1 : ((wr.drewN nq).alloc (.cells #[] 42)).cell? ⟨D, 1, none⟩ = some (.int .i64 s.o) := (two_of ((F1.out.ext (hN ▸ G2.out)).alloc _)).2
        have hs2 : N ≤ (wr.drewN nq).heap.size := hN ▸ hsw
        generalize wr.drewN nq = w2 at *
        clear z0 z1 HRw G HK
        go_wp2_with (first
          | (at_builtin; refine wpList_append_own_none rfl _ _ 35 rfl N 42 i0 2 Tryz.underlying35 HI0.out.1 _ 0 [] rfl (own_empty w2 N hs2) rfl ?_)
          | (at_builtin; refine wpList_append_own _ rfl _ _ 35 rfl N 42 i0 (.agg #[.int .i64 0, .int .i64 0]) 2 16 Tryz.underlying35 HI0.out.1 HI0.out.2.1 HI0.out.2.2.1 HI0.out.2.2.2 rfl (by decide) _ 0 [] rfl ((own_empty w2 N hs2).alloc _) ⟨w2.heap.size + 1, 0, none⟩ 1 1 (spV s) rfl rfl (CellsAt.all (by simp [CellsAt, go_sem, spV])) (by simp [Value.oneCell', spV]) (by simp only [maxLen]; omega) (by omega) (by simp; omega) ?_))
        intro v4 w4 ho4 hgr4 _
        have G4 := Lib.hid (show Below N w1 w4 from ((G2.out.alloc hs2 _).alloc (by simp; omega) _).grown hgr4 (by simp; omega) (fun k e => by cases e; exact hs2))
        have HO5 := Lib.hid (show w4.ownsRow D 42 2 v4 P.length (P.flatMap spV) by
          rw [HPT.out]
          exact ownsRow_mono (by simpa using ho4) (show D ≤ N by omega))
        have ho6 : w4.ownsRow N 42 2 v4 (0 + 1) (spV s) := by simpa using ho4
        obtain ⟨g4, c4, e4⟩ := ownsRow_succ ho6
        subst e4
        have HO6 := Lib.hid ho6
        clear ho4 hgr4 ho6 zz0 zz1 hs2
        go_wp2_with (at_builtin; refine wpList_append_own_none rfl _ _ 35 rfl N 42 i0 2 Tryz.underlying35 HI0.out.1 _ _ _ rfl HO6.out rfl ?_)
        go_ret
        exact ⟨⟨_, rfl, HO5.out⟩, G1.out.trans (G4.out.mono (by omega))⟩
      · have HKL := Lib.hid hkl
        clear hlt hkl
        by_cases hck : c = k
        · obtain rfl : k = c := hck.symm
          have hlk : (k : Int) ≤ (L.length : Int) := by omega
          go_wp2_with fail
          go_quiet (fail)
          have G2 := Lib.hid (show Below N w1 (wr.drewN nq) from hN ▸ below_drewN G.out nq)
          have zz0 : (wr.drewN nq).cell? ⟨D, 0, none⟩ = some (.int .i64 s.i) := z0
          have zz1 : (wr.drewN nq).cell? ⟨D, 1, none⟩ = some (.int .i64 s.o) := z1
          have hs2 : N ≤ (wr.drewN nq).heap.size := hN ▸ hsw
          have HX2 := Lib.hid (show SpAt (wr.drewN nq) (some ⟨g, o, none⟩) L from HRw.out.ext (below_drewN (Below.refl _ wr) nq))
          generalize wr.drewN nq = w2 at *
          clear z0 z1 HRw G HK
          try clear hg0
          go_wp2_with (at_builtin; go_loud (refine wpList_append_own _ rfl _ _ 35 rfl N 42 i0 (.agg #[.int .i64 0, .int .i64 0]) 2 16 Tryz.underlying35 HI0.out.1 HI0.out.2.1 HI0.out.2.2.1 HI0.out.2.2.2 rfl (by decide) _ 0 [] rfl (own_empty w2 N hs2) ⟨g, o, none⟩ k _ ((L.take k).flatMap spV) rfl (by rw [flat_len spV_len, List.length_take]; congr 1; omega) (news_take (HX2.out.ext (below_one w2 _)) k) (spV_flat_one _) (by simp only [maxLen]; omega) (by omega) (by simp; omega) ?_))
          intro v3 w3 ho3 hgr3 _
          have G3 := Lib.hid (show Below N w1 w3 from (G2.out.alloc hs2 _).grown hgr3 (by simp; omega) (fun k e => by cases e; exact hs2))
          have HO3 := Lib.hid (show w3.ownsRow N 42 2 v3 k ((L.take k).flatMap spV) by simpa using ho3)
          have hs3 : N ≤ w3.heap.size := by have := G3.out.size; omega
          obtain ⟨y0, y1⟩ := two_of (F1.out.ext (hN ▸ G3.out))
          have HX3 := Lib.hid (HX.out.ext (hN ▸ G3.out))
          clear ho3 hgr3 HX2 G2 zz0 zz1 hs2
          go_wp2_with (at_builtin; go_loud (refine wpList_append_own _ rfl _ _ 35 rfl N 42 i0 (.agg #[.int .i64 0, .int .i64 0]) 2 16 Tryz.underlying35 HI0.out.1 HI0.out.2.1 HI0.out.2.2.1 HI0.out.2.2.2 rfl (by decide) v3 k ((L.take k).flatMap spV) rfl (HO3.out.alloc _) ⟨w3.heap.size, 0, none⟩ 1 1 (spV s) rfl rfl (CellsAt.all (by simp [CellsAt, go_sem, spV])) (by simp [Value.oneCell', spV]) (by simp only [maxLen]; omega) (by omega) (by simp; omega) ?_))
          intro v4 w4 ho4 hgr4 _
          have G4 := Lib.hid (show Below N w1 w4 from (G3.out.alloc hs3 _).grown hgr4 (by simp; omega) (own_base HO3.out))
          have HO4 := Lib.hid (show w4.ownsRow N 42 2 v4 (k + 1) ((L.take k ++ [s]).flatMap spV) by rw [flat_snoc]; exact ho4)
          have hs4 : N ≤ w4.heap.size := by have := G4.out.size; omega
          have HX4 := Lib.hid (HX.out.ext (hN ▸ G4.out))
          clear ho4 hgr4 HX3 G3 HO3 y0 y1 hs3
          go_wp2_with (at_builtin; go_loud (refine wpList_append_own _ rfl _ _ 35 rfl N 42 i0 (.agg #[.int .i64 0, .int .i64 0]) 2 16 Tryz.underlying35 HI0.out.1 HI0.out.2.1 HI0.out.2.2.1 HI0.out.2.2.2 rfl (by decide) v4 (k + 1) ((L.take k ++ [s]).flatMap spV) rfl HO4.out ⟨g, o, none⟩ 0 _ [] (by first | rfl | (simp [Act.eval, Act.put]; done)) rfl (by simp) (by simp) (by simp only [maxLen]; omega) (by omega) hs4 ?_))
          intro v5 w5 ho5 hgr5 _
          have G5 := Lib.hid (show Below N w1 w5 from G4.out.grown hgr5 hs4 (own_base HO4.out))
          have HO5 := Lib.hid (show w5.ownsRow D 42 2 v5 P.length (P.flatMap spV) by
            rw [HPT.out, List.drop_eq_nil_of_le (by have := HKL.out; omega), List.append_nil, show (L.take k ++ [s]).length = k + 1 by simp; omega]
            exact ownsRow_mono (by simpa using ho5) (show D ≤ N by omega))
          clear ho5 hgr5 HX4 G4 HO4 hs4
          go_wp2_with fail
          go_ret
          exact ⟨⟨_, rfl, HO5.out⟩, G1.out.trans (G5.out.mono (by omega))⟩
        · skip
          have hc1 : k ≤ c := by omega
          have hc2 : (k : Int) ≤ (c : Int) := by omega
          have hlk : (k : Int) ≤ (L.length : Int) := by omega
          go_wp2_with fail
          go_quiet (fail)
          have G2 := Lib.hid (show Below N w1 (wr.drewN nq) from hN ▸ below_drewN G.out nq)
          have zz0 : (wr.drewN nq).cell? ⟨D, 0, none⟩ = some (.int .i64 s.i) := z0
          have zz1 : (wr.drewN nq).cell? ⟨D, 1, none⟩ = some (.int .i64 s.o) := z1
          have hs2 : N ≤ (wr.drewN nq).heap.size := hN ▸ hsw
          have HX2 := Lib.hid (show SpAt (wr.drewN nq) (some ⟨g, o, none⟩) L from HRw.out.ext (below_drewN (Below.refl _ wr) nq))
          generalize wr.drewN nq = w2 at *
          clear z0 z1 HRw G HK
          try clear hg0
          go_wp2_with (at_builtin; go_loud (refine wpList_append_own _ rfl _ _ 35 rfl N 42 i0 (.agg #[.int .i64 0, .int .i64 0]) 2 16 Tryz.underlying35 HI0.out.1 HI0.out.2.1 HI0.out.2.2.1 HI0.out.2.2.2 rfl (by decide) _ 0 [] rfl (own_empty w2 N hs2) ⟨g, o, none⟩ k _ ((L.take k).flatMap spV) rfl (by rw [flat_len spV_len, List.length_take]; congr 1; omega) (news_take (HX2.out.ext (below_one w2 _)) k) (spV_flat_one _) (by simp only [maxLen]; omega) (by omega) (by simp; omega) ?_))
          intro v3 w3 ho3 hgr3 _
          have G3 := Lib.hid (show Below N w1 w3 from (G2.out.alloc hs2 _).grown hgr3 (by simp; omega) (fun k e => by cases e; exact hs2))
          have HO3 := Lib.hid (show w3.ownsRow N 42 2 v3 k ((L.take k).flatMap spV) by simpa using ho3)
          have hs3 : N ≤ w3.heap.size := by have := G3.out.size; omega
          obtain ⟨y0, y1⟩ := two_of (F1.out.ext (hN ▸ G3.out))
          have HX3 := Lib.hid (HX.out.ext (hN ▸ G3.out))
          clear ho3 hgr3 HX2 G2 zz0 zz1 hs2
          go_wp2_with (at_builtin; go_loud (refine wpList_append_own _ rfl _ _ 35 rfl N 42 i0 (.agg #[.int .i64 0, .int .i64 0]) 2 16 Tryz.underlying35 HI0.out.1 HI0.out.2.1 HI0.out.2.2.1 HI0.out.2.2.2 rfl (by decide) v3 k ((L.take k).flatMap spV) rfl (HO3.out.alloc _) ⟨w3.heap.size, 0, none⟩ 1 1 (spV s) rfl rfl (CellsAt.all (by simp [CellsAt, go_sem, spV])) (by simp [Value.oneCell', spV]) (by simp only [maxLen]; omega) (by omega) (by simp; omega) ?_))
          intro v4 w4 ho4 hgr4 _
          have G4 := Lib.hid (show Below N w1 w4 from (G3.out.alloc hs3 _).grown hgr4 (by simp; omega) (own_base HO3.out))
          have HO4 := Lib.hid (show w4.ownsRow N 42 2 v4 (k + 1) ((L.take k ++ [s]).flatMap spV) by rw [flat_snoc]; exact ho4)
          have hs4 : N ≤ w4.heap.size := by have := G4.out.size; omega
          have HX4 := Lib.hid (HX.out.ext (hN ▸ G4.out))
          clear ho4 hgr4 HX3 G3 HO3 y0 y1 hs3
          go_wp2_with (at_builtin; go_loud (refine wpList_append_own _ rfl _ _ 35 rfl N 42 i0 (.agg #[.int .i64 0, .int .i64 0]) 2 16 Tryz.underlying35 HI0.out.1 HI0.out.2.1 HI0.out.2.2.1 HI0.out.2.2.2 rfl (by decide) v4 (k + 1) ((L.take k ++ [s]).flatMap spV) rfl HO4.out ⟨g, o + k * 2, none⟩ (L.length - k) _ ((L.drop k).flatMap spV) (by first | rfl | (simp [Act.eval, Act.put]; done)) (by rw [flat_len spV_len, List.length_drop]) (news_drop HX4.out k) (spV_flat_one _) (by simp only [maxLen]; omega) (by omega) hs4 ?_))
          intro v5 w5 ho5 hgr5 _
          have G5 := Lib.hid (show Below N w1 w5 from G4.out.grown hgr5 hs4 (own_base HO4.out))
          have HO5 := Lib.hid (show w5.ownsRow D 42 2 v5 P.length (P.flatMap spV) by
            rw [HPT.out, List.flatMap_append, show (L.take k ++ [s] ++ L.drop k).length = k + 1 + (L.length - k) by simp; omega]
            exact ownsRow_mono (by simpa using ho5) (show D ≤ N by omega))
          clear ho5 hgr5 HX4 G4 HO4 hs4
          go_wp2_with fail
          go_ret
          exact ⟨⟨_, rfl, HO5.out⟩, G1.out.trans (G5.out.mono (by omega))⟩
end Go.Proofs.YteojlodcafogaaaGreatDoor
namespace Go.Proofs.YteojlodcafogaaaGreatDoor
open Go.RowKit Go.Joins
set_option linter.unusedVariables false
set_option linter.unusedSimpArgs false
theorem own_form {w : World} {base : Nat} {v : Value} {L : List Spn} (h : w.ownsRow base 42 2 v L.length (L.flatMap spV)) :
    ∃ A c, v = .slice A L.length c ∧ SpAt w A L ∧ L.length ≤ c ∧ ((A = none ∧ c = 0) ∨ ∃ g o, A = some ⟨g, o, none⟩) := by
  obtain ⟨A, c, e, hr, hn, _⟩ := row_of_ownK h
  refine ⟨A, c, e, hr, hn, ?_⟩
  rcases h.2 with ⟨e0, _⟩ | ⟨g, cap, cur, e0, _⟩
  · rw [e0] at e
    injection e with e1 e2 e3
    exact .inl ⟨e1.symm, e3.symm⟩
  · rw [e0] at e
    injection e with e1 e2 e3
    exact .inr ⟨g, 0, e1.symm⟩
theorem srtR_step {L : List Spn} {k : Nat} {x : Spn} (hk : L[k]? = some x) : srtR (L.take (k + 1)) = if x.i < x.o then putS (srtR (L.take k)) x else srtR (L.take k) := by
  unfold srtR
  rw [List.take_add_one, hk, List.foldl_append]
  rfl
theorem srtR_len (L : List Spn) : (srtR L).length ≤ L.length := by
  have h2 := foldl_put_len L []
  simpa [srtR] using h2
theorem putS_all {L : List Spn} {s : Spn} {P : Spn → Prop} (h : ∀ t ∈ L, P t) (hs : P s) : ∀ t ∈ putS L s, P t := by
  intro t ht
  unfold putS at ht
  rcases List.mem_append.1 ht with ht | ht
  · exact h t ((List.takeWhile_sublist _).mem ht)
  · rcases List.mem_cons.1 ht with rfl | ht
    · exact hs
    · exact h t ((List.dropWhile_sublist _).mem ht)
theorem foldl_put_pos : ∀ (L out : List Spn), (∀ t ∈ out, t.i < t.o) → ∀ t ∈ L.foldl (fun out s => if s.i < s.o then putS out s else out) out, t.i < t.o
  | [], out, h => h
  | s :: L, out, h => by
    rw [List.foldl_cons]
    by_cases hs : s.i < s.o
    · rw [if_pos hs]
      exact foldl_put_pos L _ (putS_all h hs)
    · rw [if_neg hs]
      exact foldl_put_pos L _ h
theorem srtR_pos (L : List Spn) : ∀ t ∈ srtR L, t.i < t.o := foldl_put_pos L [] (fun t ht => by cases ht)
set_option maxRecDepth 100000 in
set_option maxHeartbeats 8000000 in
theorem join_any (A : Option Addr) (c : Nat) (xs : List Spn) (w : World) (hx : SpAt w A xs) (hl : xs.length ≤ 1000000) :
    Calls Tryz.prog 49 #[.slice A xs.length c] w (NewP (joinS xs) w) := by
  obtain ⟨i0, hi, hz0, hz1, hz2⟩ := info_parts infoS
  have HI0 := Lib.hid (And.intro hi (And.intro hz0 (And.intro hz1 hz2)))
  clear hi hz0 hz1 hz2
  have HX := Lib.hid hx
  clear hx
  obtain ⟨D, hD⟩ : ∃ D, D = w.heap.size := ⟨_, rfl⟩
  have HD := Lib.hid hD
  unfold NewP
  rw [← hD]
  clear hD
  obtain ⟨J, hJ⟩ : ∃ J, J = joinS xs := ⟨_, rfl⟩
  have HJ := Lib.hid hJ
  rw [← hJ]
  clear hJ
  go_enter Tryz.func49, Tryz.ntmps49
  go_wp2_with fail
  go_loopw [3, 12] (fun ov i wr => ∃ (k : Nat) (uv : Value), uv = ov ∧ k ≤ xs.length ∧ i = .int .i64 k ∧ Hid (wr.ownsRow D 42 2 uv (srtR (xs.take k)).length ((srtR (xs.take k)).flatMap spV)) ∧ Hid (Below D w wr)) (fun _ i _ => xs.length - (intOf i).toNat)
  case atStart => exact ⟨0, _, rfl, by omega, rfl, Lib.hid (World.ownsRow_nil _ _ _ _), Lib.hid (Below.refl _ _)⟩
  case round =>
    obtain ⟨k, uv, rfl, hk, rfl, HO, G⟩ := hrel
    have hDw : D ≤ wr.heap.size := by have := G.out.size; have := HD.out; omega
    by_cases hlt : k < xs.length
    · have hlt2 : (k : Int) < (xs.length : Int) := by omega
      obtain ⟨x, hx⟩ : ∃ x, xs[k]? = some x := ⟨_, List.getElem?_eq_getElem hlt⟩
      have HXK := Lib.hid hx
      have HRw := HX.out.ext (HD.out ▸ G.out)
      obtain ⟨g0, o0, rfl⟩ := SpAt.some HRw hx
      obtain ⟨q0, q1⟩ := SpAt.get HRw hx
      have hst := srtR_step hx
      have HLN := Lib.hid (Nat.le_trans (srtR_len (xs.take k)) (List.length_take_le k xs))
      clear HRw hx
      by_cases hin : x.i < x.o
      · rw [if_pos hin] at hst
        have HST := Lib.hid hst
        generalize srtR (xs.take k) = R at *
        obtain ⟨A3, c3, e3, hr3, hn3, hA3⟩ := own_form HO.out
        subst e3
        have HPA := Lib.hid (fun W (h : SpAt W A3 R) => put_any A3 c3 R x W h (by have := HLN.out; omega) hn3 hA3)
        have HR3 := Lib.hid (hr3.ext (below_one wr (.cells #[.int .i64 x.i, .int .i64 x.o] 42)))
        clear hst hr3 hn3 hA3
        go_wp2_with fail
        refine (HPA.out _ HR3.out).mono ?_
        rintro e w3 ⟨⟨v, rfl, ho⟩, hb⟩
        have G3 := Lib.hid (show Below D w w3 from (G.out.alloc hDw _).trans (hb.mono (by simp; omega)))
        have HO3 := Lib.hid (show w3.ownsRow D 42 2 v (srtR (xs.take (k + 1))).length ((srtR (xs.take (k + 1))).flatMap spV) by
          rw [HST.out]
          exact ownsRow_mono ho (by simp; omega))
        obtain ⟨A4, c4, e4, _⟩ := own_form ho
        subst e4
        clear ho hb HPA HR3 HO G
        go_wp2_with fail
        go_roundw
        case rel => exact ⟨k + 1, _, rfl, by omega, by go_num, HO3, G3⟩
        case measure => simp [intOf]; omega
      · rw [if_neg hin] at hst
        have HST := Lib.hid hst
        clear hst
        go_wp2_with fail
        rw [← HST.out] at HO
        go_roundw
        case rel => exact ⟨k + 1, _, rfl, by omega, by go_num, Lib.hid (HO.out.alloc _), Lib.hid (G.out.alloc hDw _)⟩
        case measure => simp [intOf]; omega
    · obtain rfl : k = xs.length := by omega
      rw [List.take_length] at HO
      clear hlt
      obtain ⟨ys, hys⟩ : ∃ ys, ys = srtR xs := ⟨_, rfl⟩
      rw [← hys] at HO
      have HYS := Lib.hid (show mrg ys = J by rw [HJ.out, hys]; rfl)
      have HNEM := Lib.hid (show ∀ t ∈ ys, t.i < t.o from hys ▸ srtR_pos xs)
      have hly : ys.length ≤ 1000000 := by rw [hys]; have := srtR_len xs; omega
      obtain ⟨A2, c2, e2, hr2, _⟩ := own_form HO.out
      subst e2
      have HR := Lib.hid hr2
      have G2 := G
      obtain ⟨E, hE⟩ : ∃ E, E = wr.heap.size := ⟨_, rfl⟩
      have HE := Lib.hid hE
      have hDE : D ≤ E := by omega
      clear hr2 hE hys HO
      generalize wr = w2 at *
      clear G hDw hk
      go_wp2_with fail
      go_loopw [4, 27] (fun ov i wr => ∃ k : Nat, k ≤ ys.length ∧ i = .int .i64 k ∧ Hid (wr.ownsRow E 42 2 ov (fwd ys k).length ((fwd ys k).flatMap spV)) ∧ Hid (Below E w2 wr)) (fun _ i _ => ys.length - (intOf i).toNat)
      case atStart => exact ⟨0, by omega, rfl, Lib.hid (World.ownsRow_nil _ _ _ _), Lib.hid (Below.refl _ _)⟩
      case round =>
        obtain ⟨k, hk, rfl, HO, G⟩ := hrel
        have hEw : E ≤ wr.heap.size := by have := G.out.size; have := HE.out; omega
        by_cases hlt : k < ys.length
        · have hlt2 : (k : Int) < (ys.length : Int) := by omega
          obtain ⟨x, hx⟩ : ∃ x, ys[k]? = some x := ⟨_, List.getElem?_eq_getElem hlt⟩
          have HXK := Lib.hid hx
          have HRw := HR.out.ext (HE.out ▸ G.out)
          obtain ⟨g0, o0, rfl⟩ := SpAt.some HRw hx
          obtain ⟨q0, q1⟩ := SpAt.get HRw hx
          have hfl := Lib.hid (fwd_len ys k)
          clear HRw hx
          · have he2 : x.i < x.o := HNEM.out x (List.mem_of_getElem? HXK.out)
            rcases fwd_cases ys k with h0 | ⟨M, l, h0⟩
            · have hfs := Lib.hid (fwd_nil HXK.out he2 h0)
              rw [h0] at HO
              obtain ⟨A3, c3, e3, _⟩ := row_of_ownK HO.out
              rw [show ([] : List Spn).length = 0 from rfl] at e3
              subst e3
              clear h0
              go_wp2_with fail
              generalize hw4 : World.alloc wr _ = w4
              have F4 : Held w4 wr.heap.size [.int .i64 x.i, .int .i64 x.o] := by subst hw4; exact Held.new rfl
              obtain ⟨z0, z1⟩ := two_of F4
              have HO4 := Lib.hid (show w4.ownsRow E 42 2 (.slice A3 0 c3) 0 [] by subst hw4; exact HO.out.alloc _)
              have G4 := Lib.hid (show Below E w2 w4 by subst hw4; exact G.out.alloc hEw _)
              have hs4 : E ≤ w4.heap.size := by have := G4.out.size; have := HE.out; omega
              clear hw4 q0 q1 F4 HO G
              go_quiet (fail)
              have HO5 := Lib.hid (show (w4.drewN nq).ownsRow E 42 2 (.slice A3 0 c3) 0 [] from HO4.out)
              have G5 := Lib.hid (below_drewN G4.out nq)
              have zz0 : (w4.drewN nq).cell? ⟨wr.heap.size, 0, none⟩ = some (.int .i64 x.i) := z0
              have zz1 : (w4.drewN nq).cell? ⟨wr.heap.size, 1, none⟩ = some (.int .i64 x.o) := z1
              have hs5 : E ≤ (w4.drewN nq).heap.size := hs4
              generalize w4.drewN nq = w5 at *
              clear z0 z1 HO4 G4 hs4
              go_wp2_with (at_builtin; go_loud (refine wpList_append_lies _ rfl _ _ 35 rfl E 42 i0 (.agg #[.int .i64 0, .int .i64 0]) 2 16 Tryz.underlying35 HI0.out.1 HI0.out.2.1 HI0.out.2.2.1 HI0.out.2.2.2 rfl (by decide) _ 0 [] rfl (HO5.out.alloc _) ⟨w5.heap.size, 0, none⟩ 1 1 (spV x) rfl rfl (CellsAt.all (by simp [CellsAt, go_sem, spV])) (by simp [Value.oneCell', spV]) (by omega) (by simp only [maxLen]; omega) (by omega) (by simp; omega) _ rfl ?_))
              intro g' cap' w6 ho hgr hat hlt6
              have G6 := Lib.hid (show Below E w2 w6 from (G5.out.alloc hs5 _).grown hgr (by simp; omega) (own_base HO5.out))
              have HO6 := Lib.hid (show w6.ownsRow E 42 2 (.slice (some ⟨g', 0, none⟩) (0 + 1) cap') (fwd ys (k + 1)).length ((fwd ys (k + 1)).flatMap spV) by rw [hfs.out]; simpa using ho)
              clear ho hgr hat hlt6 HO5 G5
              go_wp2_with fail
              go_roundw
              case rel => exact ⟨k + 1, by omega, by go_num, HO6, G6⟩
              case measure => simp [intOf]; omega
            · have hml : M.length ≤ 1000000 := by have := hfl.out; rw [h0] at this; simp at this; omega
              have HJ := Lib.hid (fun h => fwd_join HXK.out he2 h0 h)
              have HN := Lib.hid (fun h => fwd_new HXK.out he2 h0 h)
              rw [h0, List.length_append, show M.length + [l].length = M.length + 1 from rfl] at HO
              obtain ⟨g, cap, e3⟩ := ownsRow_succ HO.out
              subst e3
              have HO1 := Lib.hid HO.out
              clear HO
              generalize hn : M.length + 1 = n at *
              obtain ⟨m, hm⟩ : ∃ m, m = M.length := ⟨_, rfl⟩
              have hn2 : IntKind.i64.wrap ((n : Int) - 1) = (m : Int) := by rw [IntKind.wrap_i64]; omega
              have hn6 : 0 < n := by omega
              have hn5 : decide (0 < n) = true := by simpa using hn6
              have hn3 : (m : Int) < (n : Int) := by omega
              have hn4 : (0 : Int) ≤ (m : Int) := by omega
              have HM := Lib.hid hm
              have HNE := Lib.hid hn
              have hnb : n ≤ 1000001 := by omega
              have HNN := Lib.hid hn
              clear h0 hm hn
              by_cases hj : x.i ≤ l.o
              · have HJ2 := Lib.hid (HJ.out hj)
                clear HJ HN
                go_wp2_with fail
                generalize hw4 : World.alloc wr _ = w4
                have F4 : Held w4 wr.heap.size [.int .i64 x.i, .int .i64 x.o] := by subst hw4; exact Held.new rfl
                obtain ⟨z0, z1⟩ := two_of F4
                have HO4 := Lib.hid (show w4.ownsRow E 42 2 (.slice (some ⟨g, 0, none⟩) n cap) n ((M ++ [l]).flatMap spV) by subst hw4; exact HO1.out.alloc _)
                have G4 := Lib.hid (show Below E w2 w4 by subst hw4; exact G.out.alloc hEw _)
                have hs4 : E ≤ w4.heap.size := by have := G4.out.size; have := HE.out; omega
                obtain ⟨r0, r1, r2⟩ := own_last HO4.out
                rw [← HM.out] at r0 r1 r2
                clear hw4 q0 q1 F4 HO1 G
                go_quiet (fail)
                have HO5 := Lib.hid (show (w4.drewN nq).ownsRow E 42 2 (.slice (some ⟨g, 0, none⟩) n cap) n ((M ++ [l]).flatMap spV) from HO4.out)
                have G5 := Lib.hid (below_drewN G4.out nq)
                have zz0 : (w4.drewN nq).cell? ⟨wr.heap.size, 0, none⟩ = some (.int .i64 x.i) := z0
                have zz1 : (w4.drewN nq).cell? ⟨wr.heap.size, 1, none⟩ = some (.int .i64 x.o) := z1
                have hs5 : E ≤ (w4.drewN nq).heap.size := hs4
                have r3 : (w4.drewN nq).cell? ⟨g, m * 2 + 1, none⟩ = some (.int .i64 l.o) := r1
                have r4 : (w4.drewN nq).frozen? ⟨g, m * 2 + 1, none⟩ = false := r2
                generalize w4.drewN nq = w5 at *
                clear z0 z1 HO4 G4 hs4 r0 r1 r2
                go_wp2_with fail
                go_region
                have HO6 := Lib.hid (show ((w5.setCell ⟨g, m * 2 + 1, none⟩ (.int .i64 (max l.o x.o))).drew).ownsRow E 42 2 (.slice (some ⟨g, 0, none⟩) n cap) (fwd ys (k + 1)).length ((fwd ys (k + 1)).flatMap spV) by
                  rw [HJ2.out, show (M ++ [Spn.mk l.i (max l.o x.o)]).length = n by rw [← HNE.out]; simp, HM.out]
                  exact own_joined HO5.out _)
                have G6 := Lib.hid (show Below E w2 ((w5.setCell ⟨g, m * 2 + 1, none⟩ (.int .i64 (max l.o x.o))).drew) from (G5.out.setCell (p := ⟨g, m * 2 + 1, none⟩) (own_base HO5.out g rfl) _).drew)
                go_wp2_with fail
                go_roundw
                case rel => exact ⟨k + 1, by omega, by go_num, HO6, G6⟩
                case measure => simp [intOf]; omega
              · have hj2 : l.o < x.i := by omega
                have HJ2 := Lib.hid (HN.out hj2)
                clear HJ HN
                go_wp2_with fail
                generalize hw4 : World.alloc wr _ = w4
                have F4 : Held w4 wr.heap.size [.int .i64 x.i, .int .i64 x.o] := by subst hw4; exact Held.new rfl
                obtain ⟨z0, z1⟩ := two_of F4
                have HO4 := Lib.hid (show w4.ownsRow E 42 2 (.slice (some ⟨g, 0, none⟩) n cap) n ((M ++ [l]).flatMap spV) by subst hw4; exact HO1.out.alloc _)
                have G4 := Lib.hid (show Below E w2 w4 by subst hw4; exact G.out.alloc hEw _)
                have hs4 : E ≤ w4.heap.size := by have := G4.out.size; have := HE.out; omega
                obtain ⟨r0, r1, r2⟩ := own_last HO4.out
                rw [← HM.out] at r0 r1 r2
                clear hw4 q0 q1 F4 HO1 G
                go_quiet (fail)
                have HO5 := Lib.hid (show (w4.drewN nq).ownsRow E 42 2 (.slice (some ⟨g, 0, none⟩) n cap) n ((M ++ [l]).flatMap spV) from HO4.out)
                have G5 := Lib.hid (below_drewN G4.out nq)
                have zz0 : (w4.drewN nq).cell? ⟨wr.heap.size, 0, none⟩ = some (.int .i64 x.i) := z0
                have zz1 : (w4.drewN nq).cell? ⟨wr.heap.size, 1, none⟩ = some (.int .i64 x.o) := z1
                have hs5 : E ≤ (w4.drewN nq).heap.size := hs4
                have r3 : (w4.drewN nq).cell? ⟨g, m * 2 + 1, none⟩ = some (.int .i64 l.o) := r1
                have r4 : (w4.drewN nq).frozen? ⟨g, m * 2 + 1, none⟩ = false := r2
                generalize w4.drewN nq = w5 at *
                clear z0 z1 HO4 G4 hs4 r0 r1 r2
                go_wp2_with (at_builtin; go_loud (refine wpList_append_lies _ rfl _ _ 35 rfl E 42 i0 (.agg #[.int .i64 0, .int .i64 0]) 2 16 Tryz.underlying35 HI0.out.1 HI0.out.2.1 HI0.out.2.2.1 HI0.out.2.2.2 rfl (by decide) _ n ((M ++ [l]).flatMap spV) rfl (HO5.out.alloc _) ⟨w5.heap.size, 0, none⟩ 1 1 (spV x) rfl rfl (CellsAt.all (by simp [CellsAt, go_sem, spV])) (by simp [Value.oneCell', spV]) (by omega) (by simp only [maxLen]; omega) (by omega) (by simp; omega) _ rfl ?_))
                intro g' cap' w6 ho hgr hat hlt6
                have G6 := Lib.hid (show Below E w2 w6 from (G5.out.alloc hs5 _).grown hgr (by simp; omega) (own_base HO5.out))
                have HO6 := Lib.hid (show w6.ownsRow E 42 2 (.slice (some ⟨g', 0, none⟩) (n + 1) cap') (fwd ys (k + 1)).length ((fwd ys (k + 1)).flatMap spV) by
                  rw [HJ2.out, flat_snoc, show ((M ++ [l]) ++ [x]).length = n + 1 by rw [← HNE.out]; simp]
                  simpa using ho)
                clear ho hgr hat hlt6 HO5 G5
                go_wp2_with fail
                go_roundw
                case rel => exact ⟨k + 1, by omega, by go_num, HO6, G6⟩
                case measure => simp [intOf]; omega
        · obtain rfl : k = ys.length := by omega
          rw [fwd_all, HYS.out] at HO
          clear hlt
          go_wp2_with fail
          go_ret
          exact ⟨⟨_, rfl, ownsRow_mono HO.out hDE⟩, G2.out.trans (G.out.mono hDE)⟩
end Go.Proofs.YteojlodcafogaaaGreatDoor
namespace Go.Proofs.YteojlodcafogaaaGreatDoor
open Go.RowKit Go.Joins
set_option linter.unusedVariables false
set_option linter.unusedSimpArgs false
/-- A call that gives a list and an error. -/
def RetP (r : List Spn × Int) (W : World) (e : Ending) (w' : World) : Prop := (∃ v, e = .returned (.tuple #[v, .int .i64 r.2]) ∧ w'.ownsRow W.heap.size 42 2 v r.1.length (r.1.flatMap spV)) ∧ Below W.heap.size W w'
theorem any_step {L : List Spn} {k : Nat} {x : Spn} (hk : L[k]? = some x) (h : (L.take k).any outB = false) : (L.take (k + 1)).any outB = outB x := by
  rw [List.take_add_one, hk, List.any_append, h]
  simp
theorem any_hit {L : List Spn} {k : Nat} {x : Spn} (hk : L[k]? = some x) (h : outB x = true) : L.any outB = true := List.any_eq_true.2 ⟨x, List.mem_of_getElem? hk, h⟩
theorem outB_in {x : Spn} (h : x.o ≤ x.i) : outB x = false := by unfold outB; rw [decide_eq_false (by omega)]; rfl
theorem outB_low {x : Spn} (h : x.i < x.o) (h2 : x.i < 0) : outB x = true := by unfold outB; simp [h, h2]
theorem outB_high {x : Spn} (h : x.i < x.o) (h2 : 10378368000 < x.o) : outB x = true := by unfold outB; simp [h, h2]
theorem outB_ok {x : Spn} (h : 0 ≤ x.i) (h2 : x.o ≤ 10378368000) : outB x = false := by
  unfold outB
  rw [decide_eq_false (show ¬ (x.i < 0) by omega), decide_eq_false (show ¬ (mT < x.o) by show ¬ (10378368000 < x.o); omega)]
  simp
theorem norS_long {L : List Spn} (h : 400 < L.length) : norS L = ([], 9) := by unfold norS; rw [if_pos h]
theorem norS_out {L : List Spn} (h : ¬ 400 < L.length) (h2 : L.any outB = true) : norS L = ([], 2) := by unfold norS; rw [if_neg h, if_pos h2]
theorem norS_in {L : List Spn} (h : ¬ 400 < L.length) (h2 : L.any outB = false) : norS L = (joinS L, 0) := by unfold norS; rw [if_neg h, if_neg (by simp [h2])]

set_option maxHeartbeats 1000000 in
theorem norm_any (A : Option Addr) (c : Nat) (L : List Spn) (w : World) (h : SpAt w A L) (hl : L.length ≤ 1000000) :
    Calls Tryz.prog 48 #[.slice A L.length c] w (RetP (norS L) w) := by
  have HS := Lib.hid h
  obtain ⟨D, hD⟩ : ∃ D, D = w.heap.size := ⟨_, rfl⟩
  have HD := Lib.hid hD
  unfold RetP
  rw [← hD]
  clear h hD
  by_cases h4 : 400 < L.length
  · rw [norS_long h4]
    have h5 : (400 : Int) < (L.length : Int) := by omega
    go_enter Tryz.func48, Tryz.ntmps48
    go_wp2_with fail
    go_ret2
    exact ⟨⟨_, rfl, World.ownsRow_nil _ _ _ _⟩, Below.refl _ _⟩
  · have H4 := Lib.hid h4
    have h5 : ¬ ((400 : Int) < (L.length : Int)) := by omega
    obtain ⟨R, hR⟩ : ∃ R, R = norS L := ⟨_, rfl⟩
    have HR := Lib.hid hR
    rw [← hR]
    clear hR h4
    go_enter Tryz.func48, Tryz.ntmps48
    go_wp2_with fail
    go_loopw [11] (fun i wr => ∃ k : Nat, k ≤ L.length ∧ i = .int .i64 k ∧ Hid ((L.take k).any outB = false) ∧ Hid (Below D w wr)) (fun i _ => L.length - (intOf i).toNat)
    case atStart => exact ⟨0, by omega, rfl, Lib.hid rfl, Lib.hid (Below.refl _ _)⟩
    case round =>
      obtain ⟨k, hk, rfl, HK, G⟩ := hrel
      have hDw : D ≤ wr.heap.size := by have := G.out.size; have := HD.out; omega
      have HRw := Lib.hid (HS.out.ext (HD.out ▸ G.out))
      by_cases hlt : k < L.length
      · have hlt2 : (k : Int) < (L.length : Int) := by omega
        obtain ⟨x, hx⟩ : ∃ x, L[k]? = some x := ⟨_, List.getElem?_eq_getElem hlt⟩
        have HX := Lib.hid hx
        obtain ⟨g, o, rfl⟩ := SpAt.some HRw.out hx
        obtain ⟨q0, q1⟩ := SpAt.get HRw.out hx
        clear hx
        by_cases c1 : x.i < x.o
        · by_cases c2 : x.i < 0
          · obtain rfl : R = ([], 2) := HR.out.trans (norS_out H4.out (any_hit HX.out (outB_low c1 c2)))
            go_wp2_with fail
            go_ret2
            exact ⟨⟨_, rfl, World.ownsRow_nil _ _ _ _⟩, G.out.alloc hDw _⟩
          · by_cases c3 : 10378368000 < x.o
            · obtain rfl : R = ([], 2) := HR.out.trans (norS_out H4.out (any_hit HX.out (outB_high c1 c3)))
              go_wp2_with fail
              go_ret2
              exact ⟨⟨_, rfl, World.ownsRow_nil _ _ _ _⟩, G.out.alloc hDw _⟩
            · have HK2 := Lib.hid ((any_step HX.out HK.out).trans (outB_ok (by omega) (by omega)))
              go_wp2_with fail
              go_roundw
              case rel => exact ⟨k + 1, by omega, by go_num, HK2, Lib.hid (G.out.alloc hDw _)⟩
              case measure => simp [intOf]; omega
        · have HK2 := Lib.hid ((any_step HX.out HK.out).trans (outB_in (by omega)))
          go_wp2_with fail
          go_roundw
          case rel => exact ⟨k + 1, by omega, by go_num, HK2, Lib.hid (G.out.alloc hDw _)⟩
          case measure => simp [intOf]; omega
      · obtain rfl : k = L.length := by omega
        have hall := HK.out
        rw [List.take_length] at hall
        obtain rfl : R = (joinS L, 0) := HR.out.trans (norS_in H4.out hall)
        clear hlt hall HK
        go_wp2_with fail
        refine (merge_any A c L wr HRw.out (by omega)).mono ?_
        rintro e w2 ⟨⟨v, ys, rfl, hp, hs, ho⟩, hb⟩
        have HO := Lib.hid (show w2.ownsRow D 42 2 v (joinS L).length ((joinS L).flatMap spV) by
          rw [← joinS_of (L := L) hs (fun n => memS_perm hp n)]
          exact ownsRow_mono ho hDw)
        clear hp hs
        have G2 := Lib.hid (G.out.trans (hb.mono hDw))
        clear ho hb G
        go_wp2_with fail
        go_ret2
        exact ⟨⟨_, rfl, HO.out⟩, G2.out⟩

end Go.Proofs.YteojlodcafogaaaGreatDoor
