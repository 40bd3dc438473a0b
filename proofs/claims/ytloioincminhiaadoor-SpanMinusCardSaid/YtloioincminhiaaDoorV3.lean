/-
  The contract of Minus in the reference. Its conditions are its hypotheses.
-/
import Derived.Test.YtloioincminhiaaDoorU3
import Derived.Test.YtloioincminhiaaDoorM2
namespace Go.Proofs.YtloioincminhiaaDoor
open Go.RowKit Go.Joins
set_option linter.unusedVariables false
set_option linter.unusedSimpArgs false
theorem left_len : ∀ (o a : Int) (B : List Spn), (leftS o a B).length ≤ B.length + 1
  | o, a, [] => by simp [leftS]
  | o, a, t :: B => by
    have h1 := left_len o a B
    have h2 := left_len o t.o B
    unfold leftS
    split <;> simp <;> omega
theorem minR_len : ∀ (A B : List Spn), (minR A B).length ≤ A.length * (B.length + 1)
  | [], B => by simp [minR]
  | s :: A, B => by
    have h1 := minR_len A B
    have h2 := left_len s.o s.i B
    show (leftS s.o s.i B ++ minR A B).length ≤ _
    rw [List.length_append, List.length_cons, Nat.succ_mul]
    omega
theorem minR_step {A B : List Spn} {k : Nat} {x : Spn} (hk : A[k]? = some x) : minR (A.take (k + 1)) B = minR (A.take k) B ++ leftS x.o x.i B := by
  unfold minR
  rw [List.take_add_one, hk, List.flatMap_append]
  simp
theorem left_step {o a : Int} {B : List Spn} {j : Nat} {y : Spn} (hj : B[j]? = some y) : leftS o a (B.drop j) = if y.o ≤ a ∨ o ≤ y.i then leftS o a (B.drop (j + 1)) else ⟨a, y.i⟩ :: leftS o y.o (B.drop (j + 1)) := by
  obtain ⟨h, e⟩ := List.getElem?_eq_some_iff.1 hj
  rw [List.drop_eq_getElem_cons h, e]
  rfl
set_option maxRecDepth 100000 in
set_option maxHeartbeats 2000000 in
theorem subr_any (P : Option Addr) (c : Nat) (A : List Spn) (P2 : Option Addr) (c2 : Nat) (B : List Spn) (w : World) (ha : SpAt w P A) (hb : SpAt w P2 B) (hla : A.length ≤ 900) (hlb : B.length ≤ 900) :
    Calls Tryd.prog 20 #[.slice P A.length c, .slice P2 B.length c2] w (RetP (subS A B) w) := by
  have HA := Lib.hid ha
  have HB := Lib.hid hb
  obtain ⟨D, hD⟩ : ∃ D, D = w.heap.size := ⟨_, rfl⟩
  have HD := Lib.hid hD
  unfold RetP
  rw [← hD]
  obtain ⟨R, hR⟩ : ∃ R, R = subS A B := ⟨_, rfl⟩
  rw [← hR]
  cases hc : decide (twoS A B = 0) with
  | true =>
    have hc0 : twoS A B = 0 := by simpa using hc
    have hr2 : R = limS (comS A (rstS (mT + 1) 0 B)) := by rw [hR]; unfold subS; rw [if_pos hc0]
    have HR := Lib.hid hr2
    have HC := Lib.hid hc0
    have HCA := Lib.hid (chkS_ok.1 (twoS_ok.1 hc0).1).2
    have HCB := Lib.hid (chkS_ok.1 (twoS_ok.1 hc0).2).2
    obtain ⟨i0, hi, hz0, hz1, hz2⟩ := info_parts infoS
    have HI0 := Lib.hid (And.intro hi (And.intro hz0 (And.intro hz1 hz2)))
    clear hi hz0 hz1 hz2
    clear ha hb hD hR hc hc0 hr2
    go_enter Tryd.func20, Tryd.ntmps20
    go_wp2_with fail
    refine (twor_any P c A P2 c2 B w HA.out HB.out (by omega) (by omega)).mono ?_
    rintro e w1 ⟨rfl, hb⟩
    rw [HC.out]
    have G1 := Lib.hid (show Below D w w1 from HD.out ▸ hb)
    have A1 := Lib.hid (HA.out.ext hb)
    have B1 := Lib.hid (HB.out.ext hb)
    have hs1 : D ≤ w1.heap.size := by have := hb.size; have := HD.out; omega
    clear hb
    go_wp2_with fail
    go_loopw [7, 21] (fun ov i wr => ∃ k : Nat, k ≤ A.length ∧ i = .int .i64 k ∧ Hid (wr.ownsRow D 32 2 ov (minR (A.take k) B).length ((minR (A.take k) B).flatMap spV)) ∧ Hid (Below D w wr)) (fun _ i _ => A.length - (intOf i).toNat)
    case atStart => exact ⟨0, by omega, rfl, Lib.hid (World.ownsRow_nil _ _ _ _), G1⟩
    case round =>
      obtain ⟨k, hk, rfl, HO, G⟩ := hrel
      have hDw : D ≤ wr.heap.size := by have := G.out.size; have := HD.out; omega
      by_cases hlt : k < A.length
      · have hlt2 : (k : Int) < (A.length : Int) := by omega
        obtain ⟨x, hx⟩ : ∃ x, A[k]? = some x := ⟨_, List.getElem?_eq_getElem hlt⟩
        have HX := Lib.hid hx
        have HRw := HA.out.ext (HD.out ▸ G.out)
        obtain ⟨g, o, rfl⟩ := SpAt.some HRw hx
        obtain ⟨q0, q1⟩ := SpAt.get HRw hx
        clear HRw hx
        go_wp2_with fail
        clear q0 q1
        generalize hw1 : World.alloc wr _ = w1
        have HF1 := Lib.hid (show Held w1 wr.heap.size [.int .i64 x.i, .int .i64 x.o] by subst hw1; exact Held.new rfl)
        have HO1 := Lib.hid (show w1.ownsRow D 32 2 _ _ _ by subst hw1; exact HO.out.alloc _)
        have G1 := Lib.hid (show Below D w w1 by subst hw1; exact G.out.alloc hDw _)
        have hs1 : wr.heap.size < w1.heap.size := by subst hw1; show _ < (wr.heap.push _).size; simp
        have hn1 := fun e => Nat.lt_irrefl _ (HO.out.lt wr.heap.size e).2
        generalize wr.heap.size = X at *
        have HCL := Lib.hid (Nat.le_trans (minR_len (A.take k) B) (Nat.mul_le_mul (List.length_take_le k A |> fun _ => by simp; omega : (A.take k).length ≤ 900) (show B.length + 1 ≤ 901 by omega)))
        have HST := Lib.hid (minR_step (B := B) HX.out)
        have HLL := Lib.hid (left_len x.o x.i B)
        generalize minR (A.take k) B = C at *
        clear hw1 HO G
        go_loopw [7, 10, 29] (fun ov z i wr => ∃ (j : Nat) (a : Int) (E : List Spn), j ≤ B.length ∧ i = .int .i64 j ∧ z = .int .i64 a ∧ Hid (wr.ownsRow D 32 2 ov (C ++ E).length ((C ++ E).flatMap spV)) ∧ Hid (E ++ leftS x.o a (B.drop j) = leftS x.o x.i B) ∧ Hid (Below D w wr) ∧ Hid (Held wr X [.int .i64 x.i, .int .i64 x.o]) ∧ X < wr.heap.size ∧ ov.ownBlock ≠ some X) (fun _ _ i _ => B.length - (intOf i).toNat)
        case atStart => exact ⟨0, x.i, [], by omega, rfl, rfl, by simpa using HO1, Lib.hid rfl, G1, HF1, hs1, hn1⟩
        case round =>
          obtain ⟨j, a, E, hj, rfl, rfl, HO, HE, G, HF, hsz, hne⟩ := hrel
          clear HO1 G1 HF1 hs1 hn1
          have hDw2 : D ≤ wr.heap.size := by have := G.out.size; have := HD.out; omega
          have hb1 := Lib.hid (show (C ++ E).length ≤ 900000 by
            have h1 := HCL.out
            have h2 := HLL.out
            have h3 := congrArg List.length HE.out
            rw [List.length_append] at h3 ⊢
            omega)
          obtain ⟨z0, z1⟩ := two_of HF.out
          by_cases hltj : j < B.length
          · have hltj2 : (j : Int) < (B.length : Int) := by omega
            obtain ⟨y, hy⟩ : ∃ y, B[j]? = some y := ⟨_, List.getElem?_eq_getElem hltj⟩
            have HRw := HB.out.ext (HD.out ▸ G.out)
            obtain ⟨g2, o2, rfl⟩ := SpAt.some HRw hy
            obtain ⟨q0, q1⟩ := SpAt.get HRw hy
            have hfs := left_step (o := x.o) (a := a) hy
            clear HRw hy
            have hneX : X ≠ wr.heap.size := by omega
            by_cases c1 : y.o ≤ a
            · rw [if_pos (.inl c1)] at hfs
              have HE2 := Lib.hid (hfs ▸ HE.out)
              clear hfs
              go_wp2_with fail
              go_roundw
              case rel => exact ⟨j + 1, a, E, by omega, by go_num, rfl, Lib.hid (HO.out.alloc _), HE2, Lib.hid (G.out.alloc hDw2 _), Lib.hid (HF.out.alloc _), by simp; omega, hne⟩
              case measure => simp [intOf]; omega
            · by_cases c2 : x.o ≤ y.i
              · rw [if_pos (.inr c2)] at hfs
                have HE2 := Lib.hid (hfs ▸ HE.out)
                clear hfs
                go_wp2_with fail
                go_roundw
                case rel => exact ⟨j + 1, a, E, by omega, by go_num, rfl, Lib.hid (HO.out.alloc _), HE2, Lib.hid (G.out.alloc hDw2 _), Lib.hid (HF.out.alloc _), by simp; omega, hne⟩
                case measure => simp [intOf]; omega
              · rw [if_neg (by omega)] at hfs
                have HE2 := Lib.hid (show (E ++ [Spn.mk a y.i]) ++ leftS x.o y.o (B.drop (j + 1)) = leftS x.o x.i B by rw [List.append_assoc, List.singleton_append, ← hfs]; exact HE.out)
                clear hfs
                generalize hM : C ++ E = M at *
                have HM := Lib.hid hM
                clear hM
                go_wp2_with (at_builtin; go_loud (refine wpList_append_lies _ rfl _ _ 22 rfl D 32 i0 (.agg #[.int .i64 0, .int .i64 0]) 2 16 Tryd.underlying22 HI0.out.1 HI0.out.2.1 HI0.out.2.2.1 HI0.out.2.2.2 rfl (by decide) _ M.length (M.flatMap spV) rfl ((HO.out.alloc _).alloc _) ⟨wr.heap.size + 1, 0, none⟩ 1 1 (spV (Spn.mk a y.i)) rfl rfl (CellsAt.all (by simp [CellsAt, go_sem, spV])) (by simp [Value.oneCell', spV]) (by omega) (by have := hb1.out; simp only [maxLen]; omega) (by have := hb1.out; omega) (by simp; omega) _ rfl ?_))
                intro g' cap' w5 ho hgr hat hlt5
                have G5 := Lib.hid (show Below D w w5 from (((G.out.alloc hDw2 _).alloc (by simp; omega) _).grown hgr (by simp; omega) (own_base HO.out)))
                have HO5 := Lib.hid (show w5.ownsRow D 32 2 (.slice (some ⟨g', 0, none⟩) (M.length + 1) cap') (C ++ (E ++ [Spn.mk a y.i])).length ((C ++ (E ++ [Spn.mk a y.i])).flatMap spV) by
                  rw [← List.append_assoc, HM.out, List.flatMap_append, List.length_append]
                  simpa using ho)
                have HF5 := Lib.hid (show Held w5 X [.int .i64 x.i, .int .i64 x.o] by
                  obtain ⟨t, ht⟩ := ((HF.out.alloc (.cells #[.int .i64 y.i, .int .i64 y.o] 32)).alloc (.cells #[.int .i64 a, .int .i64 y.i] 32))
                  exact ⟨t, (hgr.block X (by simp; omega) (Ne.symm hne)).trans ht⟩)
                have hne5 : (Value.slice (some ⟨g', 0, none⟩) (M.length + 1) cap').ownBlock ≠ some X := by
                  intro e
                  have e : g' = X := by simpa [Value.ownBlock] using e
                  rcases hat with h | h
                  · exact hne (h.trans (congrArg some e))
                  · omega
                have hsz5 : X < w5.heap.size := by have := hgr.size; simp at this; omega
                have y1 : w5.cell? ⟨wr.heap.size, 1, none⟩ = some (.int .i64 y.o) := by
                  have hnn := fun e => Nat.lt_irrefl _ (HO.out.lt wr.heap.size e).2
                  refine (hgr.cell_far _ (by simp; omega) (fun e => hnn e.symm)).trans ?_
                  simp [go_sem]
                clear ho hgr hat hlt5 hne z0 z1 q0 q1
                go_wp2_with fail
                go_roundw
                case rel => exact ⟨j + 1, y.o, _, by omega, by go_num, rfl, HO5, HE2, G5, HF5, hsz5, hne5⟩
                case measure => simp [intOf]; omega
          · obtain rfl : j = B.length := by omega
            have HE2 := Lib.hid (show leftS x.o x.i B = E ++ [Spn.mk a x.o] by have := HE.out; rw [List.drop_length] at this; exact this.symm)
            generalize hM : C ++ E = M at *
            have HM := Lib.hid hM
            clear hM hltj
            go_wp2_with (at_builtin; go_loud (refine wpList_append_lies _ rfl _ _ 22 rfl D 32 i0 (.agg #[.int .i64 0, .int .i64 0]) 2 16 Tryd.underlying22 HI0.out.1 HI0.out.2.1 HI0.out.2.2.1 HI0.out.2.2.2 rfl (by decide) _ M.length (M.flatMap spV) rfl (HO.out.alloc _) ⟨wr.heap.size, 0, none⟩ 1 1 (spV (Spn.mk a x.o)) rfl rfl (CellsAt.all (by simp [CellsAt, go_sem, spV])) (by simp [Value.oneCell', spV]) (by omega) (by have := hb1.out; simp only [maxLen]; omega) (by have := hb1.out; omega) (by simp; omega) _ rfl ?_))
            intro g' cap' w5 ho hgr hat hlt5
            have G5 := Lib.hid (show Below D w w5 from ((G.out.alloc hDw2 _).grown hgr (by simp; omega) (own_base HO.out)))
            have HO5 := Lib.hid (show w5.ownsRow D 32 2 (.slice (some ⟨g', 0, none⟩) (M.length + 1) cap') (minR (A.take (k + 1)) B).length ((minR (A.take (k + 1)) B).flatMap spV) by
              rw [HST.out, HE2.out, ← List.append_assoc, HM.out, List.flatMap_append, List.length_append]
              simpa using ho)
            clear ho hgr hat hlt5
            go_wp2_with fail
            go_roundw
            case rel => exact ⟨k + 1, by omega, by go_num, HO5, G5⟩
            case measure => simp [intOf]; omega
      · obtain rfl : k = A.length := by omega
        rw [List.take_length] at HO
        have hcl : (minR A B).length ≤ 1000000 := Nat.le_trans (minR_len A B) (Nat.le_trans (Nat.mul_le_mul hla (show B.length + 1 ≤ 901 by omega)) (by decide))
        obtain ⟨A4, c4, e4, hr4, _⟩ := own_form HO.out
        subst e4
        have R4 := Lib.hid hr4
        have hir := Lib.hid (show joinS (minR A B) = comS A (rstS (mT + 1) 0 B) from subR_eq HCA.out.1 HCA.out.2 HCB.out.1 HCB.out.2)
        clear hlt hr4
        go_wp2_with fail
        refine (join_any A4 c4 (minR A B) wr R4.out hcl).mono ?_
        rintro e w3 ⟨⟨v, rfl, ho⟩, hb⟩
        rw [hir.out] at ho
        obtain ⟨A3, c3, e3, _⟩ := own_form ho
        subst e3
        have HO := Lib.hid (show w3.ownsRow D 32 2 _ (comS A (rstS (mT + 1) 0 B)).length ((comS A (rstS (mT + 1) 0 B)).flatMap spV) from ownsRow_mono ho hDw)
        have G3 := Lib.hid (G.out.trans (hb.mono hDw))
        clear ho hb
        go_wp2_with fail
        refine (limr_any D _ _ w3 HO.out).mono ?_
        rintro e w4 ⟨v', rfl, ho, rfl⟩
        rw [← HR.out] at ho ⊢
        go_wp2_with fail
        go_ret2
        exact ⟨⟨_, rfl, ho⟩, G3.out⟩
  | false =>
    have hc0 : ¬ (twoS A B = 0) := by simpa using hc
    obtain ⟨E, hE⟩ : ∃ E, E = twoS A B := ⟨_, rfl⟩
    obtain rfl : R = ([], E) := by rw [hR, hE]; unfold subS; rw [if_neg hc0]
    have HE := Lib.hid hE
    have hc2 : (E == 0) = false := by rw [hE]; simpa using hc0
    clear ha hb hD hR hc hc0 hE
    go_enter Tryd.func20, Tryd.ntmps20
    go_wp2_with fail
    refine (twor_any P c A P2 c2 B w HA.out HB.out (by omega) (by omega)).mono ?_
    rintro e w1 ⟨rfl, hb⟩
    rw [← HE.out]
    have G1 := Lib.hid (show Below D w w1 from HD.out ▸ hb)
    clear hb
    go_wp2_with fail
    go_ret2
    exact ⟨⟨_, rfl, World.ownsRow_nil _ _ _ _⟩, G1.out⟩
end Go.Proofs.YtloioincminhiaaDoor
