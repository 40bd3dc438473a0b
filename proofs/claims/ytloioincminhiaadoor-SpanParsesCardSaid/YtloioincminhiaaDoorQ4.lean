/-
  The contract of Parse in the reference. Its conditions are its hypotheses.
-/
import Derived.Test.YtloioincminhiaaDoorQ3
import Derived.Test.YtloioincminhiaaDoorT2
namespace Go.Proofs.YtloioincminhiaaDoor
open Go.RowKit Go.Joins
set_option linter.unusedVariables false
set_option linter.unusedSimpArgs false
def lenV : Value → Nat
  | .slice _ n _ => n
  | _ => 0
set_option maxRecDepth 100000 in
set_option maxHeartbeats 4000000 in
theorem parser_any (S : List UInt8) (w : World) (hs : S.length ≤ 100000) :
    Calls Tryd.prog 32 #[.string (sB S)] w (RetP (prsV S) w) := by
  obtain ⟨D, hD⟩ : ∃ D, D = w.heap.size := ⟨_, rfl⟩
  have HD := Lib.hid hD
  unfold RetP
  rw [← hD]
  obtain ⟨R, hR⟩ : ∃ R, R = prsV S := ⟨_, rfl⟩
  rw [← hR]
  by_cases h45 : S = [45]
  · obtain rfl : R = ([], 0) := by rw [hR, h45]; rfl
    have heq : sB S = ⟨#[45]⟩ := by rw [h45]; rfl
    rw [heq]
    clear hD hR h45 heq
    go_enter Tryd.func32, Tryd.ntmps32
    go_wp2_with fail
    go_ret2
    exact ⟨⟨_, rfl, World.ownsRow_nil _ _ _ _⟩, Below.refl _ _⟩
  · have hne : ¬ ((sB S).toList = [45]) := by
      rw [Lib.toList_data, sB_list]
      exact h45
    have hne2 : ((sB S).toList == [45]) = false := by rw [beq_eq_false_iff_ne]; exact hne
    obtain ⟨i0, hi, hz0, hz1, hz2⟩ := info_parts infoS
    have HI0 := Lib.hid (And.intro hi (And.intro hz0 (And.intro hz1 hz2)))
    have HR := Lib.hid hR
    have H45 := Lib.hid h45
    have HS := Lib.hid hs
    clear hR hi hz0 hz1 hz2 h45 hs hD
    go_enter Tryd.func32, Tryd.ntmps32
    go_wp2_with fail
    go_loopw [5, 6, 4] (fun rv mv lv wr => ∃ (k : Nat) (r : List UInt8) (m : Bool) (A : Option Addr) (c : Nat) (C : List Spn), rv = .string (sB r) ∧ mv = .bool m ∧ lv = .slice A k c ∧ k ≤ 401 ∧ Hid (C.length = k) ∧ Hid (r.length ≤ 100000) ∧ Hid (m = true → wordsC 44 r = (wordsC 44 S).drop k) ∧ Hid (m = false → k = (wordsC 44 S).length) ∧ Hid (∀ L, txtS L = (S, 0) → C = L.take k) ∧ Hid (wr.ownsRow D 32 2 (.slice A k c) C.length (C.flatMap spV)) ∧ Hid (Below D w wr)) (fun _ _ lv _ => 401 - lenV lv)
    case atStart => exact ⟨0, S, true, none, 0, [], rfl, rfl, rfl, by omega, Lib.hid rfl, HS, Lib.hid (fun _ => rfl), Lib.hid (fun h => by cases h), Lib.hid (fun _ _ => rfl), Lib.hid (World.ownsRow_nil _ _ _ _), Lib.hid (Below.refl _ _)⟩
    case round =>
      obtain ⟨k, r, m, A, c, C, rfl, rfl, rfl, hk, HCL, HRL, HM1, HM0, HH, HO, G⟩ := hrel
      have hs : D ≤ wr.heap.size := by have := G.out.size; have := HD.out; omega
      by_cases hgo : m = true ∧ k ≤ 400
      · obtain ⟨rfl, hk4⟩ := hgo
        have hk4' : (k : Int) ≤ 400 := by omega
        have HW := Lib.hid (HM1.out rfl)
        have HWC := Lib.hid (words_cut 44 r)
        have HCUT := Lib.hid (fun W : World => cutr_any r 44 W HRL.out)
        obtain ⟨l1, l2⟩ := cutC_len 44 r
        obtain ⟨u, hu⟩ : ∃ u, u = (cutC 44 r).1 := ⟨_, rfl⟩
        obtain ⟨v, hv⟩ : ∃ v, v = (cutC 44 r).2 := ⟨_, rfl⟩
        obtain ⟨q, hq⟩ : ∃ q, q = decide (44 ∈ r) := ⟨_, rfl⟩
        rw [← hu, ← hv] at HWC HCUT
        rw [← hu] at l1
        rw [← hv] at l2
        rw [← hq] at HCUT
        have HUL := Lib.hid (show u.length ≤ 100000 by have := HRL.out; omega)
        have HVL := Lib.hid (show v.length ≤ 100000 by have := HRL.out; omega)
        have HUK := Lib.hid (show (wordsC 44 S)[k]? = some u by
          have e := HW.out.symm.trans HWC.out
          have := congrArg (fun l => l[0]?) e
          simpa using this)
        have HQ1 := Lib.hid (show q = true → wordsC 44 v = (wordsC 44 S).drop (k + 1) from fun h => by
          have e := HW.out.symm.trans HWC.out
          rw [hq] at h
          rw [if_pos (of_decide_eq_true h)] at e
          have := congrArg (List.drop 1) e
          rw [List.drop_drop] at this
          rw [show k + 1 = k + 1 from rfl, this]
          rfl)
        have HQ0 := Lib.hid (show q = false → k + 1 = (wordsC 44 S).length from fun h => by
          have e := HW.out.symm.trans HWC.out
          rw [hq] at h
          rw [if_neg (of_decide_eq_false h)] at e
          have := congrArg List.length e
          rw [List.length_drop] at this
          simp only [List.length_cons, List.length_nil] at this
          omega)
        clear hu hv hq l1 l2 HM1 HM0
        go_wp2_with fail
        refine (HCUT.out wr).mono ?_
        rintro e w2 ⟨rfl, hb⟩
        have G2 := Lib.hid (G.out.trans (hb.mono hs))
        have HO2 := Lib.hid (ownsRow_below (B := wr.heap.size) HO.out hb (Nat.le_refl _))
        have hs2 : D ≤ w2.heap.size := by have := G2.out.size; have := HD.out; omega
        clear hb HCUT
        obtain ⟨⟨x, b⟩, hp⟩ : ∃ p, p = pairR u := ⟨_, rfl⟩
        have HP := Lib.hid (fun W : World => pair_any u W HUL.out)
        rw [← hp] at HP
        have HST := Lib.hid (hit_step H45.out HH.out HUK.out hp.symm)
        clear hp
        go_wp2_with fail
        refine (HP.out w2).mono ?_
        rintro e w3 ⟨rfl, hb⟩
        have G3 := Lib.hid (G2.out.trans (hb.mono hs2))
        have HO3 := Lib.hid (ownsRow_below (B := w2.heap.size) HO2.out hb (Nat.le_refl _))
        have hs3 : D ≤ w3.heap.size := by have := G3.out.size; have := HD.out; omega
        clear hb HP
        cases b with
        | false =>
          obtain rfl : R = ([], 4) := by rw [HR.out]; exact prs_miss H45.out (HST.out.2 rfl)
          go_wp2_with fail
          go_ret2
          exact ⟨⟨_, rfl, World.ownsRow_nil _ _ _ _⟩, G3.out.alloc hs3 _⟩
        | true =>
          have HH2 := Lib.hid (HST.out.1 rfl)
          have HO4 := Lib.hid ((HO3.out.alloc (.cells #[.int .i64 x.i, .int .i64 x.o] 32)).alloc (.cells #[.int .i64 x.i, .int .i64 x.o] 32))
          have hcl := HCL.out
          go_wp2_with (at_builtin; go_loud (refine wpList_append_lies _ rfl _ _ 22 rfl D 32 i0 (.agg #[.int .i64 0, .int .i64 0]) 2 16 Tryd.underlying22 HI0.out.1 HI0.out.2.1 HI0.out.2.2.1 HI0.out.2.2.2 rfl (by decide) _ C.length (C.flatMap spV) rfl HO4.out ⟨w3.heap.size + 1, 0, none⟩ 1 1 (spV x) rfl rfl (CellsAt.all (by simp [CellsAt, go_sem, spV])) (by simp [Value.oneCell', spV]) (by omega) (by simp only [maxLen]; omega) (by omega) (by simp; omega) _ rfl ?_))
          intro g' cap' w5 ho hgr hat hlt5
          have G5 := Lib.hid (show Below D w w5 from ((G3.out.alloc hs3 _).alloc (by simp; omega) _).grown hgr (by simp; omega) (own_base HO4.out))
          have HO5 := Lib.hid (show w5.ownsRow D 32 2 (.slice (some ⟨g', 0, none⟩) (k + 1) cap') (C ++ [x]).length ((C ++ [x]).flatMap spV) by
            rw [flat_snoc, List.length_append, HCL.out]
            simpa using ho)
          clear ho hgr hat hlt5
          go_wp2_with fail
          go_roundw
          case rel => exact ⟨k + 1, v, q, _, _, C ++ [x], rfl, rfl, rfl, by omega, Lib.hid (by have := HCL.out; simp; omega), HVL, HQ1, HQ0, HH2, HO5, G5⟩
          case measure => simp [lenV]; omega
      · have HEND := Lib.hid (show k = (wordsC 44 S).length ∨ 400 < k from by
          cases m with
          | false => exact .inl (HM0.out rfl)
          | true => exact .inr (Nat.lt_of_not_le fun h => hgo ⟨rfl, h⟩))
        have HEQ := Lib.hid (fun h => HR.out.trans (hit_end H45.out HH.out HEND.out HCL.out h))
        have HEQ2 := Lib.hid (fun h => HR.out.trans (prs_hit (L := C) h))
        obtain ⟨⟨tt, te⟩, ht⟩ : ∃ t, t = txtS C := ⟨_, rfl⟩
        have hcl := HCL.out
        have HT := Lib.hid (fun W (h : SpAt W A C) => textr_any A c C W h (by omega))
        unfold TextP at HT
        rw [← ht] at HEQ HEQ2
        have HT := Lib.hid (fun W (h : SpAt W A C) => (show Calls Tryd.prog 30 #[.slice A k c] W (fun e w' => e = .returned (.tuple #[.string (sB tt), .int .i64 te]) ∧ Below W.heap.size W w') by
          have := HT.out W h
          rw [← ht, hcl] at this
          exact this))
        have HRW := Lib.hid (show SpAt wr A C by
          obtain ⟨A4, c4, e4, hr4, _⟩ := own_form HO.out
          injection e4 with e1 e2 e3
          rw [e1]
          exact hr4)
        clear ht hcl
        cases m with
        | false =>
          clear hgo
          go_wp2_with fail
          refine (HT.out wr HRW.out).mono ?_
          rintro e w2 ⟨rfl, hb⟩
          have G2 := Lib.hid (G.out.trans (hb.mono hs))
          have HO2 := Lib.hid (ownsRow_below (B := wr.heap.size) HO.out hb (Nat.le_refl _))
          clear hb HT
          by_cases z1 : te = 0
          · subst z1
            by_cases z3 : tt = S
            · subst z3
              obtain rfl : R = (C, 0) := HEQ2.out rfl
              have z4 : ((sB tt).toList == (sB tt).toList) = true := by simp
              clear hne hne2
              go_wp2_with fail
              go_ret2
              exact ⟨⟨_, rfl, HO2.out⟩, G2.out⟩
            · obtain rfl : R = ([], 4) := HEQ.out (fun h => z3 (Prod.mk.inj h).1)
              have z4 : ((sB tt).toList == (sB S).toList) = false := by
                rw [beq_eq_false_iff_ne, Lib.toList_data, Lib.toList_data, sB_list, sB_list]
                exact z3
              clear z3
              go_wp2_with fail
              go_ret2
              exact ⟨⟨_, rfl, World.ownsRow_nil _ _ _ _⟩, G2.out⟩
          · obtain rfl : R = ([], 4) := HEQ.out (fun h => z1 (Prod.mk.inj h).2)
            have z2 : (te == 0) = false := by simpa using z1
            go_wp2_with fail
            go_ret2
            exact ⟨⟨_, rfl, World.ownsRow_nil _ _ _ _⟩, G2.out⟩
        | true =>
          have hk4 : ¬ ((k : Int) ≤ 400) := fun h => hgo ⟨rfl, by omega⟩
          clear hgo
          go_wp2_with fail
          refine (HT.out wr HRW.out).mono ?_
          rintro e w2 ⟨rfl, hb⟩
          have G2 := Lib.hid (G.out.trans (hb.mono hs))
          have HO2 := Lib.hid (ownsRow_below (B := wr.heap.size) HO.out hb (Nat.le_refl _))
          clear hb HT
          by_cases z1 : te = 0
          · subst z1
            by_cases z3 : tt = S
            · subst z3
              obtain rfl : R = (C, 0) := HEQ2.out rfl
              have z4 : ((sB tt).toList == (sB tt).toList) = true := by simp
              clear hne hne2
              go_wp2_with fail
              go_ret2
              exact ⟨⟨_, rfl, HO2.out⟩, G2.out⟩
            · obtain rfl : R = ([], 4) := HEQ.out (fun h => z3 (Prod.mk.inj h).1)
              have z4 : ((sB tt).toList == (sB S).toList) = false := by
                rw [beq_eq_false_iff_ne, Lib.toList_data, Lib.toList_data, sB_list, sB_list]
                exact z3
              clear z3
              go_wp2_with fail
              go_ret2
              exact ⟨⟨_, rfl, World.ownsRow_nil _ _ _ _⟩, G2.out⟩
          · obtain rfl : R = ([], 4) := HEQ.out (fun h => z1 (Prod.mk.inj h).2)
            have z2 : (te == 0) = false := by simpa using z1
            go_wp2_with fail
            go_ret2
            exact ⟨⟨_, rfl, World.ownsRow_nil _ _ _ _⟩, G2.out⟩
end Go.Proofs.YtloioincminhiaaDoor
