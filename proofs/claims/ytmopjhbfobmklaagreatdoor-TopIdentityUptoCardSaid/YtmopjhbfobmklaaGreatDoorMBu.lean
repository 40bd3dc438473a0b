/-
  The contracts of Minus and Gaps, with what they rest on. Their conditions are their hypotheses.
-/
import Derived.Test.YtmopjhbfobmklaaGreatDoorMBf
import Derived.Laws.AppendOwnNone
set_option maxRecDepth 100000
set_option maxHeartbeats 40000000
namespace Go.Proofs.YtmopjhbfobmklaaGreatDoor
open Go.RowKit Go.Joins
set_option linter.unusedVariables false
set_option linter.unusedSimpArgs false
theorem common_any (P : Option Addr) (c : Nat) (A : List Spn) (P2 : Option Addr) (c2 : Nat) (B : List Spn) (w : World) (ha : SpAt w P A) (hb : SpAt w P2 B) (hla : A.length ≤ 1000) (hlb : B.length ≤ 1000) :
  Calls Tryz.prog 73 #[.slice P A.length c, .slice P2 B.length c2] w (NewP (comS A B) w) := by
 obtain ⟨i0, hi, hz0, hz1, hz2⟩ := info_parts infoS
 have HI0 := ι (And.intro hi (And.intro hz0 (And.intro hz1 hz2)))
 clear hi hz0 hz1 hz2
 have HA := ι ha
 have HB := ι hb
 obtain ⟨D, hD⟩ : ∃ D, D = w.heap.size := ⟨_, rfl⟩
 have HD := ι hD
 unfold NewP
 rw [← hD]
 clear ha hb hD
 go_enter Tryz.func73, Tryz.ntmps73
 go_wp2_with fail
 go_loopw [5, 13] (fun ov i wr => ∃ k : Nat, k ≤ A.length ∧ i = .int .i64 k ∧ Hid (wr.ownsRow D 29 2 ov (comS (A.take k) B).length ((comS (A.take k) B).flatMap spV)) ∧ Hid (Below D w wr)) (fun _ i _ => A.length - (intOf i).toNat)
 case atStart => exact ⟨0, by omega, rfl, ι (World.ownsRow_nil _ _ _ _), ι (Below.refl _ _)⟩
 case round =>
 obtain ⟨k, hk, rfl, HO, G⟩ := hrel
 have hDw : D ≤ wr.heap.size := by have := G.out.size; have := HD.out; omega
 by_cases hlt : k < A.length
 ·have hlt2 : (k : Int) < (A.length : Int) := by omega
  obtain ⟨x, hx⟩ : ∃ x, A[k]? = some x := ⟨_, List.getElem?_eq_getElem hlt⟩
  have HX := ι hx
  have HRw := HA.out.below (HD.out ▸ G.out) (Nat.le_refl _)
  obtain ⟨g, o, rfl⟩ := SpAt.some HRw hx
  obtain ⟨q0, q1⟩ := SpAt.get HRw hx
  clear HRw hx
  go_wp2_with fail
  clear q0 q1
  generalize hw1 : World.alloc wr _ = w1
  have HF1 := ι (show Held w1 wr.heap.size [.int .i64 x.i, .int .i64 x.o] by subst hw1; exact Held.new rfl)
  have HO1 := ι (show w1.ownsRow D 29 2 _ _ _ by subst hw1; exact HO.out.alloc _)
  have G1 := ι (show Below D w w1 by subst hw1; exact G.out.alloc hDw _)
  have hs1 : wr.heap.size < w1.heap.size := by subst hw1; show _ < (wr.heap.push _).size; simp
  have hn1 := fun e => Nat.lt_irrefl _ (HO.out.lt wr.heap.size e).2
  generalize wr.heap.size = X at *
  have HCL := ι (comS_len (A.take k) B)
  have HTL := ι (List.length_take_le k A)
  have HST := ι (comS_step (B := B) HX.out)
  generalize comS (A.take k) B = C at *
  clear hw1 HO G
  go_loopw [5, 19] (fun ov i wr => ∃ j : Nat, j ≤ B.length ∧ i = .int .i64 j ∧ Hid (wr.ownsRow D 29 2 ov (C ++ ((B.take j).map (cutS x)).filter (fun t => decide (t.i < t.o))).length ((C ++ ((B.take j).map (cutS x)).filter (fun t => decide (t.i < t.o))).flatMap spV)) ∧ Hid (Below D w wr) ∧ Hid (Held wr X [.int .i64 x.i, .int .i64 x.o]) ∧ X < wr.heap.size ∧ ov.ownBlock ≠ some X) (fun _ i _ => B.length - (intOf i).toNat)
  case atStart => exact ⟨0, by omega, rfl, by simpa using HO1, G1, HF1, hs1, hn1⟩
  case round =>
  obtain ⟨j, hj, rfl, HO, G, HF, hsz, hne⟩ := hrel
  have hDw2 : D ≤ wr.heap.size := by have := G.out.size; have := HD.out; omega
  clear HO1 G1 HF1 hs1 hn1
  by_cases hltj : j < B.length
  ·have hltj2 : (j : Int) < (B.length : Int) := by omega
   obtain ⟨y, hy⟩ : ∃ y, B[j]? = some y := ⟨_, List.getElem?_eq_getElem hltj⟩
   have HY := ι hy
   have HRw := HB.out.below (HD.out ▸ G.out) (Nat.le_refl _)
   obtain ⟨g2, o2, rfl⟩ := SpAt.some HRw hy
   obtain ⟨q0, q1⟩ := SpAt.get HRw hy
   obtain ⟨z0, z1⟩ := two_of HF.out
   have hfs := filt_step (x := x) HY.out
   have HFL := ι (filt_len x (B.take j))
   have HTB := ι (List.length_take_le j B)
   obtain ⟨p, hp⟩ : ∃ p, p = max x.i y.i := ⟨_, rfl⟩
   obtain ⟨q, hq⟩ : ∃ q, q = min x.o y.o := ⟨_, rfl⟩
   have mx : (if x.i < y.i then y.i else x.i) = p := by rw [hp]; split <;> omega
   have mn : (if y.o < x.o then y.o else x.o) = q := by rw [hq]; split <;> omega
   have mx2 : max x.i y.i = p := hp.symm
   have mn2 : min x.o y.o = q := hq.symm
   rw [← hp, ← hq, show cutS x y = (Spn.mk p q) by unfold cutS; rw [← hp, ← hq]] at hfs
   clear HRw hy hp hq
   by_cases hin : p < q
   ·rw [if_pos hin] at hfs
    have hb1 := ι (show (C ++ ((B.take j).map (cutS x)).filter (fun t => decide (t.i < t.o))).length ≤ 2000000 by
     have h1 := HCL.out
     have h2 := HTL.out
     have h3 := HFL.out
     have h4 := HTB.out
     have h5 : (A.take k).length * B.length ≤ 1000 * 1000 := Nat.mul_le_mul (by omega) hlb
     rw [List.length_append]
     omega)
    have HFS := ι (show C ++ ((B.take (j + 1)).map (cutS x)).filter (fun t => decide (t.i < t.o)) = (C ++ ((B.take j).map (cutS x)).filter (fun t => decide (t.i < t.o))) ++ [Spn.mk p q] by rw [hfs, List.append_assoc])
    clear hfs HFL HTB HCL HTL
    generalize C ++ ((B.take j).map (cutS x)).filter (fun t => decide (t.i < t.o)) = M at *
    go_wp2_with (at_builtin; go_loud (refine wpList_append_lies _ rfl _ _ 60 rfl D 29 i0 (.agg #[.int .i64 0, .int .i64 0]) 2 16 Tryz.underlying60 HI0.out.1 HI0.out.2.1 HI0.out.2.2.1 HI0.out.2.2.2 rfl (by decide) _ M.length (M.flatMap spV) rfl (((HO.out.alloc _).alloc _).alloc _) ⟨wr.heap.size + 1 + 1, 0, none⟩ 1 1 (spV (Spn.mk p q)) rfl rfl (CellsAt.all (by simp [CellsAt, go_sem, spV])) (by simp [Value.oneCell', spV]) (by omega) (by have := hb1.out; simp only [maxLen]; omega) (by have := hb1.out; omega) (by simp; omega) _ rfl ?_))
    intro g' cap' w5 ho hgr hat hlt5
    have G5 := ι (show Below D w w5 from ((((G.out.alloc hDw2 _).alloc (by simp; omega) _).alloc (by simp; omega) _).grown hgr (by simp; omega) (own_base HO.out)))
    have HO5 := ι (show w5.ownsRow D 29 2 (.slice (some ⟨g', 0, none⟩) (M.length + 1) cap') (M ++ [Spn.mk p q]).length ((M ++ [Spn.mk p q]).flatMap spV) by
     rw [List.flatMap_append, List.length_append]
     simpa using ho)
    rw [← HFS.out] at HO5
    have HF5 := ι (show Held w5 X [.int .i64 x.i, .int .i64 x.o] by
     obtain ⟨t, ht⟩ := (((HF.out.alloc (.cells #[.int .i64 y.i, .int .i64 y.o] 29)).alloc (.cells #[.int .i64 p, .int .i64 q] 29)).alloc (.cells #[.int .i64 p, .int .i64 q] 29))
     refine ⟨t, (hgr.block X (by simp; omega) (Ne.symm hne)).trans ht⟩)
    have hne5 : (Value.slice (some ⟨g', 0, none⟩) (M.length + 1) cap').ownBlock ≠ some X := by
     intro e
     have e : g' = X := by simpa [Value.ownBlock] using e
     rcases hat with h | h
     ·exact hne (h.trans (congrArg some e))
     omega
    have hsz5 : X < w5.heap.size := by have := hgr.size; simp at this; omega
    clear ho hgr hat hlt5 hne
    go_wp2_with fail
    go_roundw
    case rel => exact ⟨j + 1, by omega, by go_num, HO5, G5, HF5, hsz5, hne5⟩
    case measure => simp [intOf]; omega
   rw [if_neg hin, List.append_nil] at hfs
   have HFS := ι hfs
   clear hfs
   go_wp2_with fail
   rw [← HFS.out] at HO
   go_roundw
   case rel => exact ⟨j + 1, by omega, by go_num, ι ((HO.out.alloc _).alloc _), ι ((G.out.alloc hDw2 _).alloc (by simp; omega) _), ι ((HF.out.alloc _).alloc _), by simp; omega, hne⟩
   case measure => simp [intOf]; omega
  obtain rfl : j = B.length := by omega
  rw [List.take_length, ← HST.out] at HO
  clear hltj
  go_wp2_with fail
  go_roundw
  case rel => exact ⟨k + 1, by omega, by go_num, HO, G⟩
  case measure => simp [intOf]; omega
 obtain rfl : k = A.length := by omega
 rw [List.take_length] at HO
 clear hlt
 go_wp2_with fail
 go_ret
 exact ⟨⟨_, rfl, HO.out⟩, G.out⟩
theorem lim_any (base : Nat) (v : Value) (L : List Spn) (w : World) (h : w.ownsRow base 29 2 v L.length (L.flatMap spV)) :
  Calls Tryz.prog 72 #[v] w fun e w' => ∃ v', e = .returned (.tuple #[v', .int .i64 (limS L).2]) ∧ w'.ownsRow base 29 2 v' (limS L).1.length ((limS L).1.flatMap spV) ∧ w' = w := by
 obtain ⟨A, c, e, _⟩ := own_form h
 subst e
 have H := ι h
 clear h
 by_cases hl : 400 < L.length
 ·rw [show limS L = ([], 9) by unfold limS; rw [if_pos hl]]
  have h5 : (400 : Int) < (L.length : Int) := by omega
  go_enter Tryz.func72, Tryz.ntmps72
  go_wp2_with fail
  go_ret2
  exact ⟨_, rfl, World.ownsRow_nil _ _ _ _, rfl⟩
 rw [show limS L = (L, 0) by unfold limS; rw [if_neg hl]]
 have h5 : ¬ ((400 : Int) < (L.length : Int)) := by omega
 go_enter Tryz.func72, Tryz.ntmps72
 go_wp2_with fail
 go_ret2
 exact ⟨_, rfl, H.out, rfl⟩
theorem two_any (A : Option Addr) (c : Nat) (L : List Spn) (A2 : Option Addr) (c2 : Nat) (L2 : List Spn) (w : World) (h : SpAt w A L) (h2 : SpAt w A2 L2) (hl : L.length ≤ 1000000) (hl2 : L2.length ≤ 1000000) :
  Calls Tryz.prog 71 #[.slice A L.length c, .slice A2 L2.length c2] w fun e w' => e = .returned (.int .i64 (twoS L L2)) ∧ Below w.heap.size w w' := by
 have H := ι h
 have H2 := ι h2
 have HD := ι (rfl : w.heap.size = w.heap.size)
 obtain ⟨D, hD⟩ : ∃ D, D = w.heap.size := ⟨_, rfl⟩
 have HDD := ι hD
 rw [← hD]
 clear h h2 hD
 unfold twoS
 cases hc : decide (chkS L = 0) with
 | true =>
  have hc0 : chkS L = 0 := by simpa using hc
  have HC := ι hc0
  rw [if_pos hc0]
  clear hc hc0
  go_enter Tryz.func71, Tryz.ntmps71
  go_wp2_with fail
  refine (chk_any A c L w H.out (by omega)).mono ?_
  rintro e w1 ⟨rfl, hb⟩
  rw [HC.out]
  have HB := ι hb
  have H3 := ι (H2.out.ext hb)
  clear hb
  go_wp2_with fail
  refine (chk_any A2 c2 L2 w1 H3.out (by omega)).mono ?_
  rintro e w2 ⟨rfl, hb2⟩
  go_wp2_with fail
  go_ret
  exact ⟨rfl, HDD.out ▸ HB.out.trans (hb2.mono HB.out.size)⟩
 | false =>
  have hc0 : ¬ (chkS L = 0) := by simpa using hc
  rw [if_neg hc0]
  obtain ⟨E, hE⟩ : ∃ E, E = chkS L := ⟨_, rfl⟩
  have HE := ι hE
  rw [← hE] at hc0 ⊢
  have hc2 : (E == 0) = false := by simpa using hc0
  clear hc hE
  go_enter Tryz.func71, Tryz.ntmps71
  go_wp2_with fail
  refine (chk_any A c L w H.out (by omega)).mono ?_
  rintro e w1 ⟨rfl, hb⟩
  rw [← HE.out]
  go_wp2_with fail
  go_ret
  exact ⟨rfl, HDD.out ▸ hb⟩
theorem rst_len : ∀ (top a : Int) (L : List Spn), (rstS top a L).length ≤ L.length + 1
 | top, a, [] => by simp [rstS]
 | top, a, s :: L => by
  have := rst_len top s.o L
  unfold rstS
  split <;> simp <;> omega
theorem rst_step {top a : Int} {L : List Spn} {k : Nat} {x : Spn} (hk : L[k]? = some x) : rstS top a (L.drop k) = (if a < x.i then [Spn.mk a x.i] else []) ++ rstS top x.o (L.drop (k + 1)) := by
 obtain ⟨h, e⟩ := List.getElem?_eq_some_iff.1 hk
 rw [List.drop_eq_getElem_cons h, e]
 show (if a < x.i then ⟨a, x.i⟩ :: rstS top x.o (L.drop (k + 1)) else rstS top x.o (L.drop (k + 1))) = _
 split <;> rfl
theorem rest_any (P : Option Addr) (c : Nat) (L : List Spn) (w : World) (ha : SpAt w P L) (hl : L.length ≤ 100000) :
  Calls Tryz.prog 74 #[.slice P L.length c] w (NewP (rstS (mT + 1) 0 L) w) := by
 obtain ⟨i0, hi, hz0, hz1, hz2⟩ := info_parts infoS
 have HI0 := ι (And.intro hi (And.intro hz0 (And.intro hz1 hz2)))
 clear hi hz0 hz1 hz2
 have HA := ι ha
 obtain ⟨D, hD⟩ : ∃ D, D = w.heap.size := ⟨_, rfl⟩
 have HD := ι hD
 unfold NewP
 rw [← hD]
 obtain ⟨R, hR⟩ : ∃ R, R = rstS 10378368001 0 L := ⟨_, rfl⟩
 have HRL := ι (show R.length ≤ 100001 by rw [hR]; have := rst_len 10378368001 0 L; omega)
 have HR := ι (show ([] : List Spn) ++ rstS 10378368001 0 (L.drop 0) = R from hR.symm)
 rw [show rstS (mT + 1) 0 L = R from hR.symm]
 clear ha hD hR
 go_enter Tryz.func74, Tryz.ntmps74
 go_wp2_with fail
 go_loopw [3, 4, 9] (fun ov a i wr => ∃ (k : Nat) (z : Int) (C : List Spn), k ≤ L.length ∧ i = .int .i64 k ∧ a = .int .i64 z ∧ Hid (wr.ownsRow D 29 2 ov C.length (C.flatMap spV)) ∧ Hid (C ++ rstS 10378368001 z (L.drop k) = R) ∧ Hid (Below D w wr)) (fun _ _ i _ => L.length - (intOf i).toNat)
 case atStart => exact ⟨0, 0, [], by omega, rfl, rfl, ι (World.ownsRow_nil _ _ _ _), HR, ι (Below.refl _ _)⟩
 case round =>
 obtain ⟨k, z, C, hk, rfl, rfl, HO, HC, G⟩ := hrel
 have hDw : D ≤ wr.heap.size := by have := G.out.size; have := HD.out; omega
 have hcl := ι (show C.length ≤ 100001 by have h1 := congrArg List.length HC.out; have h2 := HRL.out; rw [List.length_append] at h1; omega)
 by_cases hlt : k < L.length
 ·have hlt2 : (k : Int) < (L.length : Int) := by omega
  obtain ⟨x, hx⟩ : ∃ x, L[k]? = some x := ⟨_, List.getElem?_eq_getElem hlt⟩
  have HRw := HA.out.ext (HD.out ▸ G.out)
  obtain ⟨g, o, rfl⟩ := SpAt.some HRw hx
  obtain ⟨q0, q1⟩ := SpAt.get HRw hx
  have hst := rst_step (top := 10378368001) (a := z) hx
  clear HRw hx
  by_cases hz : z < x.i
  ·rw [if_pos hz] at hst
   have HC2 := ι (show (C ++ [Spn.mk z x.i]) ++ rstS 10378368001 x.o (L.drop (k + 1)) = R by rw [List.append_assoc, ← hst]; exact HC.out)
   clear hst
   go_wp2_with (at_builtin; go_loud (refine wpList_append_lies _ rfl _ _ 60 rfl D 29 i0 (.agg #[.int .i64 0, .int .i64 0]) 2 16 Tryz.underlying60 HI0.out.1 HI0.out.2.1 HI0.out.2.2.1 HI0.out.2.2.2 rfl (by decide) _ C.length (C.flatMap spV) rfl ((HO.out.alloc _).alloc _) ⟨wr.heap.size + 1, 0, none⟩ 1 1 (spV (Spn.mk z x.i)) rfl rfl (CellsAt.all (by simp [CellsAt, go_sem, spV])) (by simp [Value.oneCell', spV]) (by omega) (by have := hcl.out; simp only [maxLen]; omega) (by have := hcl.out; omega) (by simp; omega) _ rfl ?_))
   intro g' cap' w5 ho hgr hat hlt5
   have G5 := ι (show Below D w w5 from (((G.out.alloc hDw _).alloc (by simp; omega) _).grown hgr (by simp; omega) (own_base HO.out)))
   have HO5 := ι (show w5.ownsRow D 29 2 (.slice (some ⟨g', 0, none⟩) (C.length + 1) cap') (C ++ [Spn.mk z x.i]).length ((C ++ [Spn.mk z x.i]).flatMap spV) by
    rw [List.flatMap_append, List.length_append]
    simpa using ho)
   have z1 : w5.cell? ⟨wr.heap.size, 1, none⟩ = some (.int .i64 x.o) := by
    have hne := fun e => Nat.lt_irrefl _ (HO.out.lt wr.heap.size e).2
    refine (hgr.cell_far _ (by simp; omega) (fun e => hne e.symm)).trans ?_
    simp [go_sem]
   clear ho hgr hat hlt5 q0 q1
   go_wp2_with fail
   go_roundw
   case rel => exact ⟨k + 1, x.o, _, by omega, by go_num, rfl, HO5, HC2, G5⟩
   case measure => simp [intOf]; omega
  rw [if_neg hz, List.nil_append] at hst
  have HC2 := ι (show C ++ rstS 10378368001 x.o (L.drop (k + 1)) = R by rw [← hst]; exact HC.out)
  clear hst
  go_wp2_with fail
  go_roundw
  case rel => exact ⟨k + 1, x.o, C, by omega, by go_num, rfl, ι (HO.out.alloc _), HC2, ι (G.out.alloc hDw _)⟩
  case measure => simp [intOf]; omega
 obtain rfl : k = L.length := by omega
 have HC2 := ι (show R = C ++ [Spn.mk z 10378368001] by have := HC.out; rw [List.drop_length] at this; exact this.symm)
 clear hlt
 go_wp2_with (at_builtin; go_loud (refine wpList_append_lies _ rfl _ _ 60 rfl D 29 i0 (.agg #[.int .i64 0, .int .i64 0]) 2 16 Tryz.underlying60 HI0.out.1 HI0.out.2.1 HI0.out.2.2.1 HI0.out.2.2.2 rfl (by decide) _ C.length (C.flatMap spV) rfl (HO.out.alloc _) ⟨wr.heap.size, 0, none⟩ 1 1 (spV (Spn.mk z 10378368001)) rfl rfl (CellsAt.all (by simp [CellsAt, go_sem, spV])) (by simp [Value.oneCell', spV]) (by omega) (by have := hcl.out; simp only [maxLen]; omega) (by have := hcl.out; omega) (by simp; omega) _ rfl ?_))
 intro g' cap' w5 ho hgr hat hlt5
 have G5 := ι (show Below D w w5 from ((G.out.alloc hDw _).grown hgr (by simp; omega) (own_base HO.out)))
 have HO5 := ι (show w5.ownsRow D 29 2 (.slice (some ⟨g', 0, none⟩) (C.length + 1) cap') R.length (R.flatMap spV) by
  rw [HC2.out, List.flatMap_append, List.length_append]
  simpa using ho)
 clear ho hgr hat hlt5
 go_wp2_with fail
 go_ret
 exact ⟨⟨_, rfl, HO5.out⟩, G5.out⟩
theorem sub_any (P : Option Addr) (c : Nat) (A : List Spn) (P2 : Option Addr) (c2 : Nat) (B : List Spn) (w : World) (ha : SpAt w P A) (hb : SpAt w P2 B) (hla : A.length ≤ 900) (hlb : B.length ≤ 900) :
  Calls Tryz.prog 40 #[.slice P A.length c, .slice P2 B.length c2] w (RetP (subS A B) w) := by
 have HA := ι ha
 have HB := ι hb
 obtain ⟨D, hD⟩ : ∃ D, D = w.heap.size := ⟨_, rfl⟩
 have HD := ι hD
 unfold RetP
 rw [← hD]
 obtain ⟨R, hR⟩ : ∃ R, R = subS A B := ⟨_, rfl⟩
 rw [← hR]
 cases hc : decide (twoS A B = 0) with
 | true =>
  have hc0 : twoS A B = 0 := by simpa using hc
  have hr2 : R = limS (comS A (rstS (mT + 1) 0 B)) := by rw [hR]; unfold subS; rw [if_pos hc0]
  have HR := ι hr2
  have HC := ι hc0
  clear ha hb hD hR hc hc0 hr2
  go_enter Tryz.func40, Tryz.ntmps40
  go_wp2_with fail
  refine (two_any P c A P2 c2 B w HA.out HB.out (by omega) (by omega)).mono ?_
  rintro e w1 ⟨rfl, hb⟩
  rw [HC.out]
  have G1 := ι (show Below D w w1 from HD.out ▸ hb)
  have A1 := ι (HA.out.ext hb)
  have B1 := ι (HB.out.ext hb)
  have hs1 : D ≤ w1.heap.size := by have := hb.size; have := HD.out; omega
  clear hb
  go_wp2_with fail
  refine (rest_any P2 c2 B w1 B1.out (by omega)).mono ?_
  rintro e w2 ⟨⟨v2, rfl, ho⟩, hb⟩
  obtain ⟨A4, c4, e4, hr4, _⟩ := own_form ho
  subst e4
  have G2 := ι (G1.out.trans (hb.mono hs1))
  have hs2 : D ≤ w2.heap.size := by have := G2.out.size; have := HD.out; omega
  have A2 := ι (A1.out.ext hb)
  have R2 := ι hr4
  clear ho hb hr4
  go_wp2_with fail
  refine (common_any P c A A4 c4 _ w2 A2.out R2.out (by omega) (by have := rst_len (mT + 1) 0 B; omega)).mono ?_
  rintro e w3 ⟨⟨v, rfl, ho⟩, hb⟩
  obtain ⟨A3, c3, e3, _⟩ := own_form ho
  subst e3
  clear A2 R2
  go_wp2_with fail
  have HO := ι (show w3.ownsRow D 29 2 _ (comS A (rstS (mT + 1) 0 B)).length ((comS A (rstS (mT + 1) 0 B)).flatMap spV) from ownsRow_mono ho hs2)
  have G3 := ι (G2.out.trans (hb.mono hs2))
  clear ho hb
  refine (lim_any D _ _ w3 HO.out).mono ?_
  rintro e w4 ⟨v', rfl, ho, rfl⟩
  rw [← HR.out] at ho ⊢
  go_wp2_with fail
  go_ret2
  exact ⟨⟨_, rfl, ho⟩, G3.out⟩
 | false =>
  have hc0 : ¬ (twoS A B = 0) := by simpa using hc
  obtain ⟨E, hE⟩ : ∃ E, E = twoS A B := ⟨_, rfl⟩
  obtain rfl : R = ([], E) := by rw [hR, hE]; unfold subS; rw [if_neg hc0]
  have HE := ι hE
  have hc2 : (E == 0) = false := by rw [hE]; simpa using hc0
  clear ha hb hD hR hc hc0 hE
  go_enter Tryz.func40, Tryz.ntmps40
  go_wp2_with fail
  refine (two_any P c A P2 c2 B w HA.out HB.out (by omega) (by omega)).mono ?_
  rintro e w1 ⟨rfl, hb⟩
  rw [← HE.out]
  have G1 := ι (show Below D w w1 from HD.out ▸ hb)
  clear hb
  go_wp2_with fail
  go_ret2
  exact ⟨⟨_, rfl, World.ownsRow_nil _ _ _ _⟩, G1.out⟩
end Go.Proofs.YtmopjhbfobmklaaGreatDoor
