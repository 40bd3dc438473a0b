/-
  Joining spans. The conditions of the contracts are their hypotheses.
-/
import Derived.Test.YtmopjhbfobmklaaGreatDoorMBe
import Derived.BigRegion
import Derived.BigQuiet
import Derived.Deep.AppendLies
import Derived.Deep.QuietTactic
import Derived.Laws.AppendOwnNone
import Derived.Test.YtmopjhbfobmklaaGreatDoorMCs
set_option maxRecDepth 100000
set_option maxHeartbeats 40000000
namespace Go.Proofs.YtmopjhbfobmklaaGreatDoor
open Go.RowKit Go.Joins
set_option linter.unusedVariables false
set_option linter.unusedSimpArgs false
theorem own_cell {w : World} {B g n cap : Nat} {e : TypeId} {size : Nat} {xs : List Value} (h : w.ownsRow B e size (.slice (some ⟨g, 0, none⟩) n cap) n xs) (i : Nat) (u : Value) (hi : i < xs.length) :
  (w.setCell ⟨g, i, none⟩ u).ownsRow B e size (.slice (some ⟨g, 0, none⟩) n cap) n (xs.set i u) := by
 obtain ⟨hl, h⟩ := h
 rcases h with ⟨h, _⟩ | ⟨g', cap', cur, hv, h1, h2, h3, h4, h5, h6⟩
 ·cases h
 cases hv
 refine ⟨by rw [List.length_set, hl], .inr ⟨g, cap, cur.setIfInBounds i u, rfl, h1, by rw [block_setCell h2 u], h3, h4, by simpa using h5, ?_⟩⟩
 rw [Array.toList_setIfInBounds, List.take_set, h6]
theorem own_free {w : World} {B g n cap : Nat} {e : TypeId} {size : Nat} {xs : List Value} (h : w.ownsRow B e size (.slice (some ⟨g, 0, none⟩) n cap) n xs) (i : Nat) : w.frozen? ⟨g, i, none⟩ = false := by
 rcases h.2 with ⟨h, _⟩ | ⟨g', cap', cur, hv, h1, h2, h3, h4, h5, h6⟩
 ·cases h
 cases hv
 simp [World.frozen?, h2]
theorem spV_set1 (u : Int) : ∀ (L : List Spn) (l : Spn), ((L ++ [l]).flatMap spV).set (L.length * 2 + 1) (.int .i64 u) = (L ++ [Spn.mk l.i u]).flatMap spV
 | [], l => rfl
 | y :: r, l => by
  have ih := spV_set1 u r l
  rw [List.cons_append, List.flatMap_cons, List.cons_append, List.flatMap_cons, ← ih, List.length_cons, List.set_append_right _ _ (by rw [spV_len]; omega), spV_len]
  congr 2
  omega
theorem own_last {w : World} {B g n cap : Nat} {L : List Spn} {l : Spn} (h : w.ownsRow B 29 2 (.slice (some ⟨g, 0, none⟩) n cap) n ((L ++ [l]).flatMap spV)) :
  w.cell? ⟨g, L.length * 2, none⟩ = some (.int .i64 l.i) ∧ w.cell? ⟨g, L.length * 2 + 1, none⟩ = some (.int .i64 l.o) ∧ w.frozen? ⟨g, L.length * 2 + 1, none⟩ = false := by
 obtain ⟨A, c, e, hr, _⟩ := row_of_ownK h
 cases e
 obtain ⟨h1, h2⟩ := SpAt.get (L := L ++ [l]) hr (k := L.length) (x := l) (by simp)
 rw [Nat.zero_add] at h1 h2
 exact ⟨h1, h2, own_free h _⟩
theorem own_joined {w : World} {B g n cap : Nat} {L : List Spn} {l : Spn} (h : w.ownsRow B 29 2 (.slice (some ⟨g, 0, none⟩) n cap) n ((L ++ [l]).flatMap spV)) (u : Int) :
  (w.setCell ⟨g, L.length * 2 + 1, none⟩ (.int .i64 u)).ownsRow B 29 2 (.slice (some ⟨g, 0, none⟩) n cap) n ((L ++ [Spn.mk l.i u]).flatMap spV) := by
 have := own_cell h (L.length * 2 + 1) (.int .i64 u) (by rw [flat_len spV_len]; simp; omega)
 rw [spV_set1] at this
 exact this
def fstR (ys : List Spn) (k : Nat) : List Spn := (ys.take k).foldl stp []
theorem fstR_step {ys : List Spn} {k : Nat} {x : Spn} (hk : ys[k]? = some x) : fstR ys (k + 1) = stp (fstR ys k) x := by
 unfold fstR
 rw [List.take_add_one, hk, List.foldl_append]
 rfl
theorem fstR_len (ys : List Spn) (k : Nat) : (fstR ys k).length ≤ ys.length := by
 have := foldl_stp_len (ys.take k) []
 simp at this
 unfold fstR
 omega
theorem fstR_all (ys : List Spn) : (fstR ys ys.length).reverse = mrg ys := by unfold fstR mrg; rw [List.take_length]
theorem stp_skip {out : List Spn} {x : Spn} (h : x.o ≤ x.i) : stp out x = out := by unfold stp; rw [if_neg (by omega)]
theorem stp_nil {x : Spn} (h : x.i < x.o) : stp [] x = [x] := by unfold stp; rw [if_pos h]
theorem stp_join {l x : Spn} {r : List Spn} (h : x.i < x.o) (h2 : x.i ≤ l.o) : stp (l :: r) x = ⟨l.i, max l.o x.o⟩ :: r := by unfold stp; rw [if_pos h]; simp only []; rw [if_pos h2]
theorem stp_new {l x : Spn} {r : List Spn} (h : x.i < x.o) (h2 : l.o < x.i) : stp (l :: r) x = x :: l :: r := by unfold stp; rw [if_pos h]; simp only []; rw [if_neg (by omega)]
def fwd (ys : List Spn) (k : Nat) : List Spn := (fstR ys k).reverse
theorem fwd_len (ys : List Spn) (k : Nat) : (fwd ys k).length ≤ ys.length := by unfold fwd; rw [List.length_reverse]; exact fstR_len ys k
theorem fwd_cases (ys : List Spn) (k : Nat) : fwd ys k = [] ∨ ∃ M l, fwd ys k = M ++ [l] := by
 unfold fwd
 cases fstR ys k with
 | nil => exact .inl rfl
 | cons l r => exact .inr ⟨r.reverse, l, by rw [List.reverse_cons]⟩
theorem fwd_skip {ys : List Spn} {k : Nat} {x : Spn} (hk : ys[k]? = some x) (h : x.o ≤ x.i) : fwd ys (k + 1) = fwd ys k := by unfold fwd; rw [fstR_step hk, stp_skip h]
theorem fwd_nil {ys : List Spn} {k : Nat} {x : Spn} (hk : ys[k]? = some x) (h : x.i < x.o) (h0 : fwd ys k = []) : fwd ys (k + 1) = [] ++ [x] := by
 unfold fwd at h0 ⊢
 rw [List.reverse_eq_nil_iff] at h0
 rw [fstR_step hk, h0, stp_nil h]
 rfl
theorem fwd_some {ys : List Spn} {k : Nat} {M : List Spn} {l : Spn} (h0 : fwd ys k = M ++ [l]) : fstR ys k = l :: M.reverse := by
 unfold fwd at h0
 have := congrArg List.reverse h0
 simpa using this
theorem fwd_join {ys : List Spn} {k : Nat} {x l : Spn} {M : List Spn} (hk : ys[k]? = some x) (h : x.i < x.o) (h0 : fwd ys k = M ++ [l]) (h2 : x.i ≤ l.o) : fwd ys (k + 1) = M ++ [Spn.mk l.i (max l.o x.o)] := by
 have e := fwd_some h0
 unfold fwd
 rw [fstR_step hk, e, stp_join h h2]
 simp
theorem fwd_new {ys : List Spn} {k : Nat} {x l : Spn} {M : List Spn} (hk : ys[k]? = some x) (h : x.i < x.o) (h0 : fwd ys k = M ++ [l]) (h2 : l.o < x.i) : fwd ys (k + 1) = (M ++ [l]) ++ [x] := by
 have e := fwd_some h0
 unfold fwd
 rw [fstR_step hk, e, stp_new h h2]
 simp
theorem fwd_all (ys : List Spn) : fwd ys ys.length = mrg ys := fstR_all ys
def MergeP (xs : List Spn) (W : World) (e : Ending) (w' : World) : Prop := (∃ v ys, e = .returned v ∧ ys.Perm xs ∧ Srt ys ∧ w'.ownsRow W.heap.size 29 2 v (mrg ys).length ((mrg ys).flatMap spV)) ∧ Below W.heap.size W w'
theorem merge_any (A : Option Addr) (c : Nat) (xs : List Spn) (w : World) (hx : SpAt w A xs) (hl : xs.length ≤ 1000000) :
  Calls Tryz.prog 70 #[.slice A xs.length c] w (MergeP xs w) := by
 obtain ⟨i0, hi, hz0, hz1, hz2⟩ := info_parts infoS
 have HI0 := ι (And.intro hi (And.intro hz0 (And.intro hz1 hz2)))
 clear hi hz0 hz1 hz2
 have HX := ι hx
 clear hx
 obtain ⟨D, hD⟩ : ∃ D, D = w.heap.size := ⟨_, rfl⟩
 have HD := ι hD
 unfold MergeP
 rw [← hD]
 clear hD
 go_enter Tryz.func70, Tryz.ntmps70
 go_wp2_with fail
 refine (values_any A xs.length c w).mono ?_
 rintro e w1 ⟨rfl, rfl⟩
 go_wp2_with fail
 have hs := sorted_any w.heap.size A c xs (w.alloc (.cells #[.slice A xs.length c] 60)) (HX.out.ext (below_one _ _)) (by simp [go_sem]) hl
 unfold SortedP at hs
 refine hs.mono ?_
 clear hs
 rintro e w2 ⟨v, ys, rfl, hp, hst, ho, hb⟩
 have hly : ys.length = xs.length := hp.length_eq
 have HP := ι hp
 have HS := ι hst
 have G2 := ι (show Below D w w2 from HD.out ▸ ((below_one w _).trans (hb.mono (by simp))))
 obtain ⟨A2, c2, rfl, hr2, _⟩ := row_of_ownK ho
 have HR := ι hr2
 obtain ⟨E, hE⟩ : ∃ E, E = w2.heap.size := ⟨_, rfl⟩
 have HE := ι hE
 have hDE : D ≤ E := by have := G2.out.size; have := HD.out; omega
 clear hp hst ho hb hr2 hE
 go_wp2_with fail
 go_loopw [3, 13] (fun ov i wr => ∃ k : Nat, k ≤ ys.length ∧ i = .int .i64 k ∧ Hid (wr.ownsRow E 29 2 ov (fwd ys k).length ((fwd ys k).flatMap spV)) ∧ Hid (Below E w2 wr)) (fun _ i _ => ys.length - (intOf i).toNat)
 case atStart => exact ⟨0, by omega, rfl, ι (World.ownsRow_nil _ _ _ _), ι (Below.refl _ _)⟩
 case round =>
 obtain ⟨k, hk, rfl, HO, G⟩ := hrel
 have hEw : E ≤ wr.heap.size := by have := G.out.size; have := HE.out; omega
 by_cases hlt : k < ys.length
 ·have hlt2 : (k : Int) < (ys.length : Int) := by omega
  obtain ⟨x, hx⟩ : ∃ x, ys[k]? = some x := ⟨_, List.getElem?_eq_getElem hlt⟩
  have HXK := ι hx
  have HRw := HR.out.ext (HE.out ▸ G.out)
  obtain ⟨g0, o0, rfl⟩ := SpAt.some HRw hx
  obtain ⟨q0, q1⟩ := SpAt.get HRw hx
  have hfl := ι (fwd_len ys k)
  clear HRw hx
  by_cases he : x.o ≤ x.i
  ·have hfs := ι (fwd_skip HXK.out he)
   go_wp2_with fail
   rw [← hfs.out] at HO
   go_roundw
   case rel => exact ⟨k + 1, by omega, by go_num, ι (HO.out.alloc _), ι (G.out.alloc hEw _)⟩
   case measure => simp [intOf]; omega
  have he2 : x.i < x.o := by omega
  rcases fwd_cases ys k with h0 | ⟨M, l, h0⟩
  ·have hfs := ι (fwd_nil HXK.out he2 h0)
   rw [h0] at HO
   obtain ⟨A3, c3, e3, _⟩ := row_of_ownK HO.out
   rw [show ([] : List Spn).length = 0 from rfl] at e3
   subst e3
   clear h0
   go_wp2_with fail
   generalize hw4 : World.alloc wr _ = w4
   have F4 : Held w4 wr.heap.size [.int .i64 x.i, .int .i64 x.o] := by subst hw4; exact Held.new rfl
   obtain ⟨z0, z1⟩ := two_of F4
   have HO4 := ι (show w4.ownsRow E 29 2 (.slice A3 0 c3) 0 [] by subst hw4; exact HO.out.alloc _)
   have G4 := ι (show Below E w2 w4 by subst hw4; exact G.out.alloc hEw _)
   have hs4 : E ≤ w4.heap.size := by have := G4.out.size; have := HE.out; omega
   clear hw4 q0 q1 F4 HO G
   go_quiet (fail)
   have HO5 := ι (show (w4.drewN nq).ownsRow E 29 2 (.slice A3 0 c3) 0 [] from HO4.out)
   have G5 := ι (below_drewN G4.out nq)
   have zz0 : (w4.drewN nq).cell? ⟨wr.heap.size, 0, none⟩ = some (.int .i64 x.i) := z0
   have zz1 : (w4.drewN nq).cell? ⟨wr.heap.size, 1, none⟩ = some (.int .i64 x.o) := z1
   have hs5 : E ≤ (w4.drewN nq).heap.size := hs4
   generalize w4.drewN nq = w5 at *
   clear z0 z1 HO4 G4 hs4
   go_wp2_with (at_builtin; go_loud (refine wpList_append_lies _ rfl _ _ 60 rfl E 29 i0 (.agg #[.int .i64 0, .int .i64 0]) 2 16 Tryz.underlying60 HI0.out.1 HI0.out.2.1 HI0.out.2.2.1 HI0.out.2.2.2 rfl (by decide) _ 0 [] rfl (HO5.out.alloc _) ⟨w5.heap.size, 0, none⟩ 1 1 (spV x) rfl rfl (CellsAt.all (by simp [CellsAt, go_sem, spV])) (by simp [Value.oneCell', spV]) (by omega) (by simp only [maxLen]; omega) (by omega) (by simp; omega) _ rfl ?_))
   intro g' cap' w6 ho hgr hat hlt6
   have G6 := ι (show Below E w2 w6 from (G5.out.alloc hs5 _).grown hgr (by simp; omega) (own_base HO5.out))
   have HO6 := ι (show w6.ownsRow E 29 2 (.slice (some ⟨g', 0, none⟩) (0 + 1) cap') (fwd ys (k + 1)).length ((fwd ys (k + 1)).flatMap spV) by rw [hfs.out]; simpa using ho)
   clear ho hgr hat hlt6 HO5 G5
   go_wp2_with fail
   go_roundw
   case rel => exact ⟨k + 1, by omega, by go_num, HO6, G6⟩
   case measure => simp [intOf]; omega
  have hml : M.length ≤ 1000000 := by have := hfl.out; rw [h0] at this; simp at this; omega
  have HJ := ι (fun h => fwd_join HXK.out he2 h0 h)
  have HN := ι (fun h => fwd_new HXK.out he2 h0 h)
  rw [h0, List.length_append, show M.length + [l].length = M.length + 1 from rfl] at HO
  obtain ⟨g, cap, e3⟩ := ownsRow_succ HO.out
  subst e3
  have HO1 := ι HO.out
  clear HO
  generalize hn : M.length + 1 = n at *
  obtain ⟨m, hm⟩ : ∃ m, m = M.length := ⟨_, rfl⟩
  have hn2 : IntKind.i64.wrap ((n : Int) - 1) = (m : Int) := by rw [IntKind.wrap_i64]; omega
  have hn5 : decide ((0 : Int) ≤ (m : Int)) = true := by simp
  have hn3 : (m : Int) < (n : Int) := by omega
  have hn4 : (0 : Int) ≤ (m : Int) := by omega
  have HM := ι hm
  have HNE := ι hn
  have hnb : n ≤ 1000001 := by omega
  have HNN := ι hn
  clear h0 hm hn
  by_cases hj : x.i ≤ l.o
  ·have HJ2 := ι (HJ.out hj)
   clear HJ HN
   go_wp2_with fail
   generalize hw4 : World.alloc wr _ = w4
   have F4 : Held w4 wr.heap.size [.int .i64 x.i, .int .i64 x.o] := by subst hw4; exact Held.new rfl
   obtain ⟨z0, z1⟩ := two_of F4
   have HO4 := ι (show w4.ownsRow E 29 2 (.slice (some ⟨g, 0, none⟩) n cap) n ((M ++ [l]).flatMap spV) by subst hw4; exact HO1.out.alloc _)
   have G4 := ι (show Below E w2 w4 by subst hw4; exact G.out.alloc hEw _)
   have hs4 : E ≤ w4.heap.size := by have := G4.out.size; have := HE.out; omega
   obtain ⟨r0, r1, r2⟩ := own_last HO4.out
   rw [← HM.out] at r0 r1 r2
   clear hw4 q0 q1 F4 HO1 G
   go_quiet (fail)
   have HO5 := ι (show (w4.drewN nq).ownsRow E 29 2 (.slice (some ⟨g, 0, none⟩) n cap) n ((M ++ [l]).flatMap spV) from HO4.out)
   have G5 := ι (below_drewN G4.out nq)
   have zz0 : (w4.drewN nq).cell? ⟨wr.heap.size, 0, none⟩ = some (.int .i64 x.i) := z0
   have zz1 : (w4.drewN nq).cell? ⟨wr.heap.size, 1, none⟩ = some (.int .i64 x.o) := z1
   have hs5 : E ≤ (w4.drewN nq).heap.size := hs4
   have r3 : (w4.drewN nq).cell? ⟨g, m * 2 + 1, none⟩ = some (.int .i64 l.o) := r1
   have r4 : (w4.drewN nq).frozen? ⟨g, m * 2 + 1, none⟩ = false := r2
   generalize w4.drewN nq = w5 at *
   clear z0 z1 HO4 G4 hs4 r0 r1 r2
   go_wp2_with fail
   go_region
   have HO6 := ι (show ((w5.setCell ⟨g, m * 2 + 1, none⟩ (.int .i64 (max l.o x.o))).drew).ownsRow E 29 2 (.slice (some ⟨g, 0, none⟩) n cap) (fwd ys (k + 1)).length ((fwd ys (k + 1)).flatMap spV) by
    rw [HJ2.out, show (M ++ [Spn.mk l.i (max l.o x.o)]).length = n by rw [← HNE.out]; simp, HM.out]
    exact own_joined HO5.out _)
   have G6 := ι (show Below E w2 ((w5.setCell ⟨g, m * 2 + 1, none⟩ (.int .i64 (max l.o x.o))).drew) from (G5.out.setCell (p := ⟨g, m * 2 + 1, none⟩) (own_base HO5.out g rfl) _).drew)
   go_wp2_with fail
   go_roundw
   case rel => exact ⟨k + 1, by omega, by go_num, HO6, G6⟩
   case measure => simp [intOf]; omega
  have hj2 : l.o < x.i := by omega
  have HJ2 := ι (HN.out hj2)
  clear HJ HN
  go_wp2_with fail
  generalize hw4 : World.alloc wr _ = w4
  have F4 : Held w4 wr.heap.size [.int .i64 x.i, .int .i64 x.o] := by subst hw4; exact Held.new rfl
  obtain ⟨z0, z1⟩ := two_of F4
  have HO4 := ι (show w4.ownsRow E 29 2 (.slice (some ⟨g, 0, none⟩) n cap) n ((M ++ [l]).flatMap spV) by subst hw4; exact HO1.out.alloc _)
  have G4 := ι (show Below E w2 w4 by subst hw4; exact G.out.alloc hEw _)
  have hs4 : E ≤ w4.heap.size := by have := G4.out.size; have := HE.out; omega
  obtain ⟨r0, r1, r2⟩ := own_last HO4.out
  rw [← HM.out] at r0 r1 r2
  clear hw4 q0 q1 F4 HO1 G
  go_quiet (fail)
  have HO5 := ι (show (w4.drewN nq).ownsRow E 29 2 (.slice (some ⟨g, 0, none⟩) n cap) n ((M ++ [l]).flatMap spV) from HO4.out)
  have G5 := ι (below_drewN G4.out nq)
  have zz0 : (w4.drewN nq).cell? ⟨wr.heap.size, 0, none⟩ = some (.int .i64 x.i) := z0
  have zz1 : (w4.drewN nq).cell? ⟨wr.heap.size, 1, none⟩ = some (.int .i64 x.o) := z1
  have hs5 : E ≤ (w4.drewN nq).heap.size := hs4
  have r3 : (w4.drewN nq).cell? ⟨g, m * 2 + 1, none⟩ = some (.int .i64 l.o) := r1
  have r4 : (w4.drewN nq).frozen? ⟨g, m * 2 + 1, none⟩ = false := r2
  generalize w4.drewN nq = w5 at *
  clear z0 z1 HO4 G4 hs4 r0 r1 r2
  go_wp2_with (at_builtin; go_loud (refine wpList_append_lies _ rfl _ _ 60 rfl E 29 i0 (.agg #[.int .i64 0, .int .i64 0]) 2 16 Tryz.underlying60 HI0.out.1 HI0.out.2.1 HI0.out.2.2.1 HI0.out.2.2.2 rfl (by decide) _ n ((M ++ [l]).flatMap spV) rfl (HO5.out.alloc _) ⟨w5.heap.size, 0, none⟩ 1 1 (spV x) rfl rfl (CellsAt.all (by simp [CellsAt, go_sem, spV])) (by simp [Value.oneCell', spV]) (by omega) (by simp only [maxLen]; omega) (by omega) (by simp; omega) _ rfl ?_))
  intro g' cap' w6 ho hgr hat hlt6
  have G6 := ι (show Below E w2 w6 from (G5.out.alloc hs5 _).grown hgr (by simp; omega) (own_base HO5.out))
  have HO6 := ι (show w6.ownsRow E 29 2 (.slice (some ⟨g', 0, none⟩) (n + 1) cap') (fwd ys (k + 1)).length ((fwd ys (k + 1)).flatMap spV) by
   rw [HJ2.out, flat_snoc, show ((M ++ [l]) ++ [x]).length = n + 1 by rw [← HNE.out]; simp]
   simpa using ho)
  clear ho hgr hat hlt6 HO5 G5
  go_wp2_with fail
  go_roundw
  case rel => exact ⟨k + 1, by omega, by go_num, HO6, G6⟩
  case measure => simp [intOf]; omega
 obtain rfl : k = ys.length := by omega
 rw [fwd_all] at HO
 clear hlt
 go_wp2_with fail
 go_ret
 exact ⟨⟨_, ys, rfl, HP.out, HS.out, ownsRow_mono HO.out hDE⟩, G2.out.trans (G.out.mono hDE)⟩
end Go.Proofs.YtmopjhbfobmklaaGreatDoor
namespace Go.Proofs.YtmopjhbfobmklaaGreatDoor
open Go.RowKit Go.Joins
set_option linter.unusedVariables false
set_option linter.unusedSimpArgs false
end Go.Proofs.YtmopjhbfobmklaaGreatDoor
namespace Go.Proofs.YtmopjhbfobmklaaGreatDoor
open Go.RowKit Go.Joins
set_option linter.unusedVariables false
set_option linter.unusedSimpArgs false
theorem own_form {w : World} {base : Nat} {v : Value} {L : List Spn} (h : w.ownsRow base 29 2 v L.length (L.flatMap spV)) :
  ∃ A c, v = .slice A L.length c ∧ SpAt w A L ∧ L.length ≤ c ∧ ((A = none ∧ c = 0) ∨ ∃ g o, A = some ⟨g, o, none⟩) := by
 obtain ⟨A, c, e, hr, hn, _⟩ := row_of_ownK h
 refine ⟨A, c, e, hr, hn, ?_⟩
 rcases h.2 with ⟨e0, _⟩ | ⟨g, cap, cur, e0, _⟩
 ·rw [e0] at e
  injection e with e1 e2 e3
  exact .inl ⟨e1.symm, e3.symm⟩
 rw [e0] at e
 injection e with e1 e2 e3
 exact .inr ⟨g, 0, e1.symm⟩
end Go.Proofs.YtmopjhbfobmklaaGreatDoor
namespace Go.Proofs.YtmopjhbfobmklaaGreatDoor
open Go.RowKit Go.Joins
set_option linter.unusedVariables false
set_option linter.unusedSimpArgs false
def RetP (r : List Spn × Int) (W : World) (e : Ending) (w' : World) : Prop := (∃ v, e = .returned (.tuple #[v, .int .i64 r.2]) ∧ w'.ownsRow W.heap.size 29 2 v r.1.length (r.1.flatMap spV)) ∧ Below W.heap.size W w'
theorem any_step {L : List Spn} {k : Nat} {x : Spn} (hk : L[k]? = some x) (h : (L.take k).any outB = false) : (L.take (k + 1)).any outB = outB x := by
 rw [List.take_add_one, hk, List.any_append, h]
 simp
theorem any_hit {L : List Spn} {k : Nat} {x : Spn} (hk : L[k]? = some x) (h : outB x = true) : L.any outB = true := List.any_eq_true.2 ⟨x, List.mem_of_getElem? hk, h⟩
theorem outB_in {x : Spn} (h : x.o ≤ x.i) : outB x = false := by unfold outB; rw [decide_eq_false (by omega)]; rfl
theorem outB_low {x : Spn} (h : x.i < x.o) (h2 : x.i < 0) : outB x = true := by unfold outB; simp [h, h2]
theorem outB_high {x : Spn} (h : x.i < x.o) (h2 : 10378368000 < x.o) : outB x = true := by unfold outB; simp [h, h2]
theorem outB_ok {x : Spn} (h : 0 ≤ x.i) (h2 : x.o ≤ 10378368000) : outB x = false := by
 unfold outB
 rw [decide_eq_false (show ¬ (x.i < 0) by omega), decide_eq_false (show ¬ (mT < x.o) by show ¬ (10378368000 < x.o); omega)]
 simp
theorem norS_long {L : List Spn} (h : 400 < L.length) : norS L = ([], 9) := by unfold norS; rw [if_pos h]
theorem norS_out {L : List Spn} (h : ¬ 400 < L.length) (h2 : L.any outB = true) : norS L = ([], 2) := by unfold norS; rw [if_neg h, if_pos h2]
theorem norS_in {L : List Spn} (h : ¬ 400 < L.length) (h2 : L.any outB = false) : norS L = (joinS L, 0) := by unfold norS; rw [if_neg h, if_neg (by simp [h2])]
theorem norm_any (A : Option Addr) (c : Nat) (L : List Spn) (w : World) (h : SpAt w A L) (hl : L.length ≤ 1000000) :
  Calls Tryz.prog 38 #[.slice A L.length c] w (RetP (norS L) w) := by
 have HS := ι h
 obtain ⟨D, hD⟩ : ∃ D, D = w.heap.size := ⟨_, rfl⟩
 have HD := ι hD
 unfold RetP
 rw [← hD]
 clear h hD
 by_cases h4 : 400 < L.length
 ·rw [norS_long h4]
  have h5 : (400 : Int) < (L.length : Int) := by omega
  go_enter Tryz.func38, Tryz.ntmps38
  go_wp2_with fail
  go_ret2
  exact ⟨⟨_, rfl, World.ownsRow_nil _ _ _ _⟩, Below.refl _ _⟩
 have H4 := ι h4
 have h5 : ¬ ((400 : Int) < (L.length : Int)) := by omega
 obtain ⟨R, hR⟩ : ∃ R, R = norS L := ⟨_, rfl⟩
 have HR := ι hR
 rw [← hR]
 clear hR h4
 go_enter Tryz.func38, Tryz.ntmps38
 go_wp2_with fail
 go_loopw [11] (fun i wr => ∃ k : Nat, k ≤ L.length ∧ i = .int .i64 k ∧ Hid ((L.take k).any outB = false) ∧ Hid (Below D w wr)) (fun i _ => L.length - (intOf i).toNat)
 case atStart => exact ⟨0, by omega, rfl, ι rfl, ι (Below.refl _ _)⟩
 case round =>
 obtain ⟨k, hk, rfl, HK, G⟩ := hrel
 have hDw : D ≤ wr.heap.size := by have := G.out.size; have := HD.out; omega
 have HRw := ι (HS.out.ext (HD.out ▸ G.out))
 by_cases hlt : k < L.length
 ·have hlt2 : (k : Int) < (L.length : Int) := by omega
  obtain ⟨x, hx⟩ : ∃ x, L[k]? = some x := ⟨_, List.getElem?_eq_getElem hlt⟩
  have HX := ι hx
  obtain ⟨g, o, rfl⟩ := SpAt.some HRw.out hx
  obtain ⟨q0, q1⟩ := SpAt.get HRw.out hx
  clear hx
  by_cases c1 : x.i < x.o
  ·by_cases c2 : x.i < 0
   ·obtain rfl : R = ([], 2) := HR.out.trans (norS_out H4.out (any_hit HX.out (outB_low c1 c2)))
    go_wp2_with fail
    go_ret2
    exact ⟨⟨_, rfl, World.ownsRow_nil _ _ _ _⟩, G.out.alloc hDw _⟩
   by_cases c3 : 10378368000 < x.o
   ·obtain rfl : R = ([], 2) := HR.out.trans (norS_out H4.out (any_hit HX.out (outB_high c1 c3)))
    go_wp2_with fail
    go_ret2
    exact ⟨⟨_, rfl, World.ownsRow_nil _ _ _ _⟩, G.out.alloc hDw _⟩
   have HK2 := ι ((any_step HX.out HK.out).trans (outB_ok (by omega) (by omega)))
   go_wp2_with fail
   go_roundw
   case rel => exact ⟨k + 1, by omega, by go_num, HK2, ι (G.out.alloc hDw _)⟩
   case measure => simp [intOf]; omega
  have HK2 := ι ((any_step HX.out HK.out).trans (outB_in (by omega)))
  go_wp2_with fail
  go_roundw
  case rel => exact ⟨k + 1, by omega, by go_num, HK2, ι (G.out.alloc hDw _)⟩
  case measure => simp [intOf]; omega
 obtain rfl : k = L.length := by omega
 have hall := HK.out
 rw [List.take_length] at hall
 obtain rfl : R = (joinS L, 0) := HR.out.trans (norS_in H4.out hall)
 clear hlt hall HK
 go_wp2_with fail
 refine (merge_any A c L wr HRw.out (by omega)).mono ?_
 rintro e w2 ⟨⟨v, ys, rfl, hp, hs, ho⟩, hb⟩
 have HO := ι (show w2.ownsRow D 29 2 v (joinS L).length ((joinS L).flatMap spV) by
  rw [← joinS_of (L := L) hs (fun n => memS_perm hp n)]
  exact ownsRow_mono ho hDw)
 clear hp hs
 have G2 := ι (G.out.trans (hb.mono hDw))
 clear ho hb G
 go_wp2_with fail
 go_ret2
 exact ⟨⟨_, rfl, HO.out⟩, G2.out⟩
end Go.Proofs.YtmopjhbfobmklaaGreatDoor
