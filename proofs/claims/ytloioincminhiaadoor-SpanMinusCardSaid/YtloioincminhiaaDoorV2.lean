/-
  The contracts of Union and Intersect in the reference. Their conditions are their hypotheses.
-/
import Derived.Test.YtloioincminhiaaDoorV1
import Derived.Test.YtloioincminhiaaDoorM2
namespace Go.Proofs.YtloioincminhiaaDoor
open Go.RowKit Go.Joins
set_option linter.unusedVariables false
set_option linter.unusedSimpArgs false
set_option maxRecDepth 100000 in
set_option maxHeartbeats 2000000 in
theorem intr_any (P : Option Addr) (c : Nat) (A : List Spn) (P2 : Option Addr) (c2 : Nat) (B : List Spn) (w : World) (ha : SpAt w P A) (hb : SpAt w P2 B) (hla : A.length ≤ 900) (hlb : B.length ≤ 900) :
    Calls Tryd.prog 26 #[.slice P A.length c, .slice P2 B.length c2] w (RetP (intS A B) w) := by
  have HA := Lib.hid ha
  have HB := Lib.hid hb
  obtain ⟨D, hD⟩ : ∃ D, D = w.heap.size := ⟨_, rfl⟩
  have HD := Lib.hid hD
  unfold RetP
  rw [← hD]
  obtain ⟨R, hR⟩ : ∃ R, R = intS A B := ⟨_, rfl⟩
  rw [← hR]
  cases hc : decide (twoS A B = 0) with
  | true =>
    have hc0 : twoS A B = 0 := by simpa using hc
    have hr2 : R = limS (comS A B) := by rw [hR]; unfold intS; rw [if_pos hc0]
    have HR := Lib.hid hr2
    have HC := Lib.hid hc0
    have HCA := Lib.hid (chkS_ok.1 (twoS_ok.1 hc0).1).2.1
    have HCB := Lib.hid (chkS_ok.1 (twoS_ok.1 hc0).2).2.1
    obtain ⟨i0, hi, hz0, hz1, hz2⟩ := info_parts infoS
    have HI0 := Lib.hid (And.intro hi (And.intro hz0 (And.intro hz1 hz2)))
    clear hi hz0 hz1 hz2
    clear ha hb hD hR hc hc0 hr2
    go_enter Tryd.func26, Tryd.ntmps26
    go_wp2_with fail
    refine (twor_any P c A P2 c2 B w HA.out HB.out (by omega) (by omega)).mono ?_
    rintro e w1 ⟨rfl, hb⟩
    rw [HC.out]
    have G1 := Lib.hid (show Below D w w1 from HD.out ▸ hb)
    have A1 := Lib.hid (HA.out.ext hb)
    have B1 := Lib.hid (HB.out.ext hb)
    have hs1 : D ≤ w1.heap.size := by have := hb.size; have := HD.out; omega
    clear hb
    go_wp2_with fail
    go_loopw [7, 20] (fun ov i wr => ∃ k : Nat, k ≤ A.length ∧ i = .int .i64 k ∧ Hid (wr.ownsRow D 32 2 ov (crsS (A.take k) B).length ((crsS (A.take k) B).flatMap spV)) ∧ Hid (Below D w wr)) (fun _ i _ => A.length - (intOf i).toNat)
    case atStart => exact ⟨0, by omega, rfl, Lib.hid (World.ownsRow_nil _ _ _ _), G1⟩
    case round =>
      obtain ⟨k, hk, rfl, HO, G⟩ := hrel
      have hDw : D ≤ wr.heap.size := by have := G.out.size; have := HD.out; omega
      by_cases hlt : k < A.length
      · have hlt2 : (k : Int) < (A.length : Int) := by omega
        obtain ⟨x, hx⟩ : ∃ x, A[k]? = some x := ⟨_, List.getElem?_eq_getElem hlt⟩
        have HX := Lib.hid hx
        have HRw := HA.out.below (HD.out ▸ G.out) (Nat.le_refl _)
        obtain ⟨g, o, rfl⟩ := SpAt.some HRw hx
        obtain ⟨q0, q1⟩ := SpAt.get HRw hx
        clear HRw hx
        go_wp2_with fail
        clear q0 q1
        generalize hw1 : World.alloc wr _ = w1
        have HF1 := Lib.hid (show Held w1 wr.heap.size [.int .i64 x.i, .int .i64 x.o] by subst hw1; exact Held.new rfl)
        have HO1 := Lib.hid (show w1.ownsRow D 32 2 _ _ _ by subst hw1; exact HO.out.alloc _)
        have G1 := Lib.hid (show Below D w w1 by subst hw1; exact G.out.alloc hDw _)
        have hs1 : wr.heap.size < w1.heap.size := by subst hw1; show _ < (wr.heap.push _).size; simp
        have hn1 := fun e => Nat.lt_irrefl _ (HO.out.lt wr.heap.size e).2
        generalize wr.heap.size = X at *
        have HCL := Lib.hid (crs_len (A.take k) B)
        have HTL := Lib.hid (List.length_take_le k A)
        have HST := Lib.hid (crs_step (B := B) HX.out)
        generalize crsS (A.take k) B = C at *
        clear hw1 HO G
        go_loopw [7, 26] (fun ov i wr => ∃ j : Nat, j ≤ B.length ∧ i = .int .i64 j ∧ Hid (wr.ownsRow D 32 2 ov (C ++ ((B.take j).map (cutS x))).length ((C ++ ((B.take j).map (cutS x))).flatMap spV)) ∧ Hid (Below D w wr) ∧ Hid (Held wr X [.int .i64 x.i, .int .i64 x.o]) ∧ X < wr.heap.size ∧ ov.ownBlock ≠ some X) (fun _ i _ => B.length - (intOf i).toNat)
        case atStart => exact ⟨0, by omega, rfl, by simpa using HO1, G1, HF1, hs1, hn1⟩
        case round =>
          obtain ⟨j, hj, rfl, HO, G, HF, hsz, hne⟩ := hrel
          have hDw2 : D ≤ wr.heap.size := by have := G.out.size; have := HD.out; omega
          clear HO1 G1 HF1 hs1 hn1
          by_cases hltj : j < B.length
          · have hltj2 : (j : Int) < (B.length : Int) := by omega
            obtain ⟨y, hy⟩ : ∃ y, B[j]? = some y := ⟨_, List.getElem?_eq_getElem hltj⟩
            have HY := Lib.hid hy
            have HRw := HB.out.below (HD.out ▸ G.out) (Nat.le_refl _)
            obtain ⟨g2, o2, rfl⟩ := SpAt.some HRw hy
            obtain ⟨q0, q1⟩ := SpAt.get HRw hy
            obtain ⟨z0, z1⟩ := two_of HF.out
            have hfs := mp_step (x := x) HY.out
            have HFL := Lib.hid (mp_len x (B.take j))
            have HTB := Lib.hid (List.length_take_le j B)
            obtain ⟨p, hp⟩ : ∃ p, p = max x.i y.i := ⟨_, rfl⟩
            obtain ⟨q, hq⟩ : ∃ q, q = min x.o y.o := ⟨_, rfl⟩
            have mx : max x.i y.i = p := hp.symm
            have mn : min x.o y.o = q := hq.symm
            rw [show cutS x y = (Spn.mk p q) by unfold cutS; rw [← hp, ← hq]] at hfs
            clear HRw hy hp hq
            have hb1 := Lib.hid (show (C ++ ((B.take j).map (cutS x))).length ≤ 2000000 by
              have h1 := HCL.out
              have h2 := HTL.out
              have h3 := HFL.out
              have h4 := HTB.out
              have h5 : (A.take k).length * B.length ≤ 1000 * 1000 := Nat.mul_le_mul (by omega) (by omega)
              rw [List.length_append]
              omega)
            have HFS := Lib.hid (show C ++ ((B.take (j + 1)).map (cutS x)) = (C ++ ((B.take j).map (cutS x))) ++ [Spn.mk p q] by rw [hfs, List.append_assoc])
            clear hfs HFL HTB HCL HTL
            generalize C ++ ((B.take j).map (cutS x)) = M at *
            go_wp2_with (at_builtin; go_loud (refine wpList_append_lies _ rfl _ _ 22 rfl D 32 i0 (.agg #[.int .i64 0, .int .i64 0]) 2 16 Tryd.underlying22 HI0.out.1 HI0.out.2.1 HI0.out.2.2.1 HI0.out.2.2.2 rfl (by decide) _ M.length (M.flatMap spV) rfl ((HO.out.alloc _).alloc _) ⟨wr.heap.size + 1, 0, none⟩ 1 1 (spV (Spn.mk p q)) rfl rfl (CellsAt.all (by simp [CellsAt, go_sem, spV])) (by simp [Value.oneCell', spV]) (by omega) (by have := hb1.out; simp only [maxLen]; omega) (by have := hb1.out; omega) (by simp; omega) _ rfl ?_))
            intro g' cap' w5 ho hgr hat hlt5
            have G5 := Lib.hid (show Below D w w5 from (((G.out.alloc hDw2 _).alloc (by simp; omega) _).grown hgr (by simp; omega) (own_base HO.out)))
            have HO5 := Lib.hid (show w5.ownsRow D 32 2 (.slice (some ⟨g', 0, none⟩) (M.length + 1) cap') (M ++ [Spn.mk p q]).length ((M ++ [Spn.mk p q]).flatMap spV) by
              rw [List.flatMap_append, List.length_append]
              simpa using ho)
            rw [← HFS.out] at HO5
            have HF5 := Lib.hid (show Held w5 X [.int .i64 x.i, .int .i64 x.o] by
              obtain ⟨t, ht⟩ := ((HF.out.alloc (.cells #[.int .i64 y.i, .int .i64 y.o] 32)).alloc (.cells #[.int .i64 p, .int .i64 q] 32))
              refine ⟨t, (hgr.block X (by simp; omega) (Ne.symm hne)).trans ht⟩)
            have hne5 : (Value.slice (some ⟨g', 0, none⟩) (M.length + 1) cap').ownBlock ≠ some X := by
              intro e
              have e : g' = X := by simpa [Value.ownBlock] using e
              rcases hat with h | h
              · exact hne (h.trans (congrArg some e))
              · omega
            have hsz5 : X < w5.heap.size := by have := hgr.size; simp at this; omega
            clear ho hgr hat hlt5 hne
            go_wp2_with fail
            go_roundw
            case rel => exact ⟨j + 1, by omega, by go_num, HO5, G5, HF5, hsz5, hne5⟩
            case measure => simp [intOf]; omega
          · obtain rfl : j = B.length := by omega
            rw [List.take_length, ← HST.out] at HO
            clear hltj
            go_wp2_with fail
            go_roundw
            case rel => exact ⟨k + 1, by omega, by go_num, HO, G⟩
            case measure => simp [intOf]; omega
      · obtain rfl : k = A.length := by omega
        rw [List.take_length] at HO
        have hcl : (crsS A B).length ≤ 1000000 := Nat.le_trans (crs_len A B) (Nat.le_trans (Nat.mul_le_mul hla hlb) (by decide))
        obtain ⟨A4, c4, e4, hr4, _⟩ := own_form HO.out
        subst e4
        have R4 := Lib.hid hr4
        have hir := Lib.hid (show joinS (crsS A B) = comS A B from intR_eq HCA.out HCB.out)
        clear hlt hr4
        go_wp2_with fail
        refine (join_any A4 c4 (crsS A B) wr R4.out hcl).mono ?_
        rintro e w3 ⟨⟨v, rfl, ho⟩, hb⟩
        rw [hir.out] at ho
        obtain ⟨A3, c3, e3, _⟩ := own_form ho
        subst e3
        have HO := Lib.hid (show w3.ownsRow D 32 2 _ (comS A B).length ((comS A B).flatMap spV) from ownsRow_mono ho hDw)
        have G3 := Lib.hid (G.out.trans (hb.mono hDw))
        clear ho hb
        go_wp2_with fail
        refine (limr_any D _ _ w3 HO.out).mono ?_
        rintro e w4 ⟨v', rfl, ho, rfl⟩
        rw [← HR.out] at ho ⊢
        go_wp2_with fail
        go_ret2
        exact ⟨⟨_, rfl, ho⟩, G3.out⟩
  | false =>
    have hc0 : ¬ (twoS A B = 0) := by simpa using hc
    obtain ⟨E, hE⟩ : ∃ E, E = twoS A B := ⟨_, rfl⟩
    obtain rfl : R = ([], E) := by rw [hR, hE]; unfold intS; rw [if_neg hc0]
    have HE := Lib.hid hE
    have hc2 : (E == 0) = false := by rw [hE]; simpa using hc0
    clear ha hb hD hR hc hc0 hE
    go_enter Tryd.func26, Tryd.ntmps26
    go_wp2_with fail
    refine (twor_any P c A P2 c2 B w HA.out HB.out (by omega) (by omega)).mono ?_
    rintro e w1 ⟨rfl, hb⟩
    rw [← HE.out]
    have G1 := Lib.hid (show Below D w w1 from HD.out ▸ hb)
    clear hb
    go_wp2_with fail
    go_ret2
    exact ⟨⟨_, rfl, World.ownsRow_nil _ _ _ _⟩, G1.out⟩
end Go.Proofs.YtloioincminhiaaDoor
