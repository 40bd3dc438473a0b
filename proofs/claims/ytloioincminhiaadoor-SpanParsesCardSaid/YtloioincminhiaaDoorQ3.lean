/-
  The contract of Pair in the reference. Its conditions are its hypotheses.
-/
import Derived.Test.YtloioincminhiaaDoorQ1
import Derived.Test.YtloioincminhiaaDoorQ2
namespace Go.Proofs.YtloioincminhiaaDoor
open Go.RowKit Go.Joins
set_option linter.unusedVariables false
set_option linter.unusedSimpArgs false
/-- What Pair gives. -/
def pairR (u : List UInt8) : Spn × Bool := (⟨(numRV (cutC 45 u).1).1, (numRV (cutC 45 u).2).1⟩, decide (45 ∈ u) && (numRV (cutC 45 u).1).2 && (numRV (cutC 45 u).2).2)
theorem pairR_wdS {x : Spn} (h0 : 0 ≤ x.i) (h1 : x.i ≤ 10378368000) (h2 : 0 ≤ x.o) (h3 : x.o ≤ 10378368000) : pairR (wdS x) = (x, true) := by
  have hn : (45 : UInt8) ∉ Lib.itoa x.i := by rw [itoa_dec h0]; exact dec_no (by decide)
  have hc : cutC 45 (wdS x) = (Lib.itoa x.i, Lib.itoa x.o) := by
    unfold wdS
    rw [List.append_assoc]
    exact cutC_cut hn
  have hm : (45 : UInt8) ∈ wdS x := by unfold wdS; simp
  unfold pairR
  rw [hc, numRV_itoa (by omega) (by omega), numRV_itoa (by omega) (by omega)]
  simp [hm]
theorem hit_step {S : List UInt8} {C : List Spn} {k : Nat} {u : List UInt8} {x : Spn} {b : Bool} (h45 : S ≠ [45]) (hC : ∀ L, txtS L = (S, 0) → C = L.take k) (hu : (wordsC 44 S)[k]? = some u) (hp : pairR u = (x, b)) :
    (b = true → ∀ L, txtS L = (S, 0) → C ++ [x] = L.take (k + 1)) ∧ (b = false → ∀ L, txtS L ≠ (S, 0)) := by
  have key : ∀ L, txtS L = (S, 0) → ∃ y, L[k]? = some y ∧ pairR u = (y, true) := by
    intro L hL
    have h0 : chkS L = 0 := by
      by_cases h0 : chkS L = 0
      · exact h0
      · unfold txtS at hL; rw [if_neg h0] at hL; exact absurd (Prod.mk.inj hL).2 h0
    have he : L.length ≠ 0 := by
      intro he
      unfold txtS at hL
      rw [if_pos h0, if_pos he] at hL
      exact h45 (Prod.mk.inj hL).1.symm
    have hb := chk_bd h0
    have hS : Lib.join (L.map wdS) [44] = S := by
      unfold txtS at hL
      rw [if_pos h0, if_neg he] at hL
      exact (Prod.mk.inj hL).1
    have hw : wordsC 44 (Lib.join (L.map wdS) [44]) = L.map wdS := words_join _ (by intro e; simp at e; rw [e] at he; exact he rfl) (fun w hw => by
      obtain ⟨x, hx, rfl⟩ := List.mem_map.1 hw
      exact comma_no (hb x hx).1 (hb x hx).2.2.1)
    rw [hS] at hw
    rw [hw, List.getElem?_map] at hu
    cases hk : L[k]? with
    | none => rw [hk] at hu; cases hu
    | some y =>
      rw [hk] at hu
      have e : wdS y = u := Option.some.inj hu
      obtain ⟨b1, b2, b3, b4⟩ := hb y (List.mem_of_getElem? hk)
      exact ⟨y, rfl, by rw [← e]; exact pairR_wdS b1 b2 b3 b4⟩
  refine ⟨?_, ?_⟩
  · rintro rfl L hL
    obtain ⟨y, hy, hq⟩ := key L hL
    obtain rfl : x = y := (Prod.mk.inj (hp.symm.trans hq)).1
    rw [List.take_add_one, hy, hC L hL]
    rfl
  · rintro rfl L hL
    obtain ⟨y, hy, hq⟩ := key L hL
    exact absurd (Prod.mk.inj (hp.symm.trans hq)).2 (by decide)
theorem prs_miss {S : List UInt8} (h45 : S ≠ [45]) (h : ∀ L, txtS L ≠ (S, 0)) : prsV S = ([], 4) := by
  unfold prsV
  rw [if_neg h45]
  split
  · rename_i L hL
    rw [if_neg (fun ⟨h1, h2⟩ => h L (Prod.ext h2 h1))]
  · rfl
theorem prs_hit {S : List UInt8} {L : List Spn} (h : txtS L = (S, 0)) : prsV S = (L, 0) := by
  have := prs_text (L := L) (by rw [h])
  rwa [h] at this
/-- The list is whole: its text is S, or no list's is. -/
theorem hit_end {S : List UInt8} {C : List Spn} {k : Nat} (h45 : S ≠ [45]) (hC : ∀ L, txtS L = (S, 0) → C = L.take k) (hk : k = (wordsC 44 S).length ∨ 400 < k) (hCk : C.length = k) (h : txtS C ≠ (S, 0)) : prsV S = ([], 4) := by
  refine prs_miss h45 fun L hL => ?_
  have e := hC L hL
  have h0 : chkS L = 0 := by
    by_cases h0 : chkS L = 0
    · exact h0
    · unfold txtS at hL; rw [if_neg h0] at hL; exact absurd (Prod.mk.inj hL).2 h0
  have hl := (chkS_ok.1 h0).1
  have he : L.length ≠ 0 := by
    intro he
    unfold txtS at hL
    rw [if_pos h0, if_pos he] at hL
    exact h45 (Prod.mk.inj hL).1.symm
  have hb := chk_bd h0
  have hS : Lib.join (L.map wdS) [44] = S := by
    unfold txtS at hL
    rw [if_pos h0, if_neg he] at hL
    exact (Prod.mk.inj hL).1
  have hw : wordsC 44 (Lib.join (L.map wdS) [44]) = L.map wdS := words_join _ (by intro e; simp at e; rw [e] at he; exact he rfl) (fun w hw => by
    obtain ⟨x, hx, rfl⟩ := List.mem_map.1 hw
    exact comma_no (hb x hx).1 (hb x hx).2.2.1)
  rw [hS] at hw
  have hwl := congrArg List.length hw
  rw [List.length_map] at hwl
  have : C = L := by rw [e]; exact List.take_of_length_le (by
    have := congrArg List.length e
    rw [List.length_take] at this
    omega)
  exact h (this ▸ hL)
theorem first_at (c : UInt8) : ∀ s : List UInt8, c ∈ s → ∃ k : Nat, s[k]? = some c ∧ c ∉ s.take k
  | [], h => by cases h
  | b :: r, h => by
    by_cases e : b = c
    · exact ⟨0, by rw [e]; rfl, by simp⟩
    · obtain ⟨k, h1, h2⟩ := first_at c r (by rcases List.mem_cons.1 h with h | h; exact absurd h.symm e; exact h)
      exact ⟨k + 1, h1, by simp; exact ⟨fun h => e h.symm, h2⟩⟩
theorem words_cut (c : UInt8) (s : List UInt8) : wordsC c s = (cutC c s).1 :: (if c ∈ s then wordsC c (cutC c s).2 else []) := by
    by_cases h : c ∈ s
    · rw [if_pos h]
      obtain ⟨k, hk, hn⟩ := first_at c s h
      have e : s = s.take k ++ c :: s.drop (k + 1) := by
        have hl := (List.getElem?_eq_some_iff.1 hk).1
        have he := (List.getElem?_eq_some_iff.1 hk).2
        rw [← he, ← List.drop_eq_getElem_cons hl, List.take_append_drop]
      rw [(cutC_at hk hn).1]
      conv => lhs; rw [e]
      exact wordsC_cut hn
    · rw [if_neg h, cutC_no h]
      exact wordsC_no h
set_option maxHeartbeats 4000000 in
theorem pair_any (u : List UInt8) (w : World) (hs : u.length ≤ 100000) :
    Calls Tryd.prog 51 #[.string (sB u)] w fun e w' => e = .returned (.tuple #[.agg #[.int .i64 (pairR u).1.i, .int .i64 (pairR u).1.o], .bool (pairR u).2]) ∧ Below w.heap.size w w' := by
  obtain ⟨R, hR⟩ : ∃ R, R = pairR u := ⟨_, rfl⟩
  rw [← hR]
  have HU := Lib.hid (fun W : World => cutr_any u 45 W hs)
  have HR := Lib.hid hR
  obtain ⟨l1, l2⟩ := cutC_len 45 u
  obtain ⟨ca, hca⟩ : ∃ ca, ca = (cutC 45 u).1 := ⟨_, rfl⟩
  obtain ⟨cb, hcb⟩ : ∃ cb, cb = (cutC 45 u).2 := ⟨_, rfl⟩
  rw [← hca] at HU l1
  rw [← hcb] at HU l2
  have HNA := Lib.hid (fun W : World => number_any (sB ca) W (by rw [sB_size]; omega))
  have HNB := Lib.hid (fun W : World => number_any (sB cb) W (by rw [sB_size]; omega))
  rw [sB_list] at HNA HNB
  have HV := Lib.hid (show R = (⟨(numRV ca).1, (numRV cb).1⟩, decide (45 ∈ u) && (numRV ca).2 && (numRV cb).2) by rw [hR, hca, hcb]; rfl)
  obtain ⟨⟨va, ka⟩, hva⟩ : ∃ v, v = numRV ca := ⟨_, rfl⟩
  obtain ⟨⟨vb, kb⟩, hvb⟩ : ∃ v, v = numRV cb := ⟨_, rfl⟩
  rw [← hva] at HNA HV
  rw [← hvb] at HNB HV
  obtain ⟨B, hB⟩ : ∃ B, B = w.heap.size := ⟨_, rfl⟩
  rw [← hB]
  clear hR HR hca hcb l1 l2 hva hvb
  have HB := Lib.hid hB
  go_enter Tryd.func51, Tryd.ntmps51
  go_wp2_with fail
  rw [← hB]
  generalize hw2 : World.alloc _ _ = w2
  have F0 := Lib.hid (show Held w2 B [.int .i64 0, .int .i64 0] by subst hw2; exact Held.new hB)
  have FB := Lib.hid (show Below B w w2 by subst hw2; rw [hB]; exact below_one _ _)
  have fs : B + 1 ≤ w2.heap.size := by subst hw2; simp [hB]
  clear hw2 hB
  refine (HU.out w2).mono ?_
  rintro e w3 ⟨rfl, hb⟩
  have F0 := Lib.hid (F0.out.ext hb)
  have FB := Lib.hid (FB.out.trans (hb.mono (by omega)))
  have fs := Nat.le_trans fs hb.size
  clear hb
  go_wp2_with fail
  refine (HNA.out w3).mono ?_
  rintro e w4 ⟨rfl, _, hb⟩
  have F0 := Lib.hid (F0.out.ext hb)
  have FB := Lib.hid (FB.out.trans (hb.mono (by omega)))
  have fs := Nat.le_trans fs hb.size
  clear hb
  go_wp2_with fail
  refine (HNB.out w4).mono ?_
  rintro e w5 ⟨rfl, _, hb⟩
  have F0 := Lib.hid (F0.out.ext hb)
  have FB := Lib.hid (FB.out.trans (hb.mono (by omega)))
  have fs := Nat.le_trans fs hb.size
  clear hb
  obtain ⟨y0, y1⟩ := two_of F0.out
  have y2 := F0.out.free 0
  have y3 := F0.out.free 1
  obtain ⟨m, hm⟩ : ∃ m, m = decide (45 ∈ u) := ⟨_, rfl⟩
  rw [← hm] at HV ⊢
  clear hm HU HNA HNB
  cases m
  all_goals cases ka
  all_goals cases kb
  all_goals
    go_wp2_with fail
    have r := Lib.hid (((F0.out).set 0 (.int .i64 va)).set 1 (.int .i64 vb))
    have rb := Lib.hid ((FB.out.setCell (p := ⟨B, 0, none⟩) (Nat.le_refl _) (.int .i64 va)).setCell (p := ⟨B, 1, none⟩) (Nat.le_refl _) (.int .i64 vb))
    generalize World.setCell _ _ _ = w9 at *
    have r0' := r.out.cell 0
    have r1' := r.out.cell 1
    simp only [List.set_cons_zero, List.set_cons_succ, List.getElem?_cons_zero, List.getElem?_cons_succ] at r0' r1'
    refine bodyPost_ret (by simp [results, Tryd.results51, r0', r1', go_sem]; try rfl) rfl ?_
    exact ⟨by rw [HV.out]; rfl, rb.out⟩
end Go.Proofs.YtloioincminhiaaDoor
