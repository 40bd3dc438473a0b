/-
  The contracts of Norm, in the program and in the reference. Their conditions are their hypotheses.
-/
import Derived.Test.YtbliilemjkjimaaDoorC2
import Derived.Test.YtbliilemjkjimaaDoorSu
namespace Go.Proofs.YtbliilemjkjimaaDoor
open Go.RowKit
set_option linter.unusedVariables false
set_option linter.unusedSimpArgs false
theorem Held.pair {w : World} {g : Nat} {a b : Value} (h : Held w g [a, b]) : w.cell? ⟨g, 0, none⟩ = some a ∧ w.cell? ⟨g, 1, none⟩ = some b ∧ w.frozen? ⟨g, 0, none⟩ = false ∧ w.frozen? ⟨g, 1, none⟩ = false :=
  ⟨h.cell 0, h.cell 1, h.free 0, h.free 1⟩
theorem cell_same {w w' : World} {g : Nat} (h : w'.heap[g]? = w.heap[g]?) (i : Nat) : w'.cell? ⟨g, i, none⟩ = w.cell? ⟨g, i, none⟩ := by
  unfold World.cell?
  simp only [h]
theorem RowAt.other {w : World} {g g' : Nat} {o : Nat} {xs : List Value} (h : RowAt w (some ⟨g, o, none⟩) xs) (hne : g ≠ g') (i : Nat) (v : Value) : RowAt (w.setCell ⟨g', i, none⟩ v) (some ⟨g, o, none⟩) xs := fun k u hk => by
  obtain ⟨b, o2, e, hc⟩ := h k u hk
  cases e
  exact ⟨_, _, rfl, (cell_same (Below.heap_setCell w ⟨g', i, none⟩ v g hne) _).trans hc⟩
theorem i5 : (Tryd.prog.info? 5).map (fun i => (i.zero, i.size, i.bytes)) = some (some (.int .u8 0), 1, 1) := by kernel_rfl
theorem info_parts {p : TypeId} {v : Value} {s b : Nat} (h : (Tryd.prog.info? p).map (fun i => (i.zero, i.size, i.bytes)) = some (some v, s, b)) :
    ∃ i, Tryd.prog.info? p = some i ∧ i.zero = some v ∧ i.size = s ∧ i.bytes = b := by
  cases hi : Tryd.prog.info? p with
  | none => rw [hi] at h; cases h
  | some i => rw [hi] at h; simp at h; exact ⟨i, rfl, h.1, h.2.1, h.2.2⟩
/-- The first frame behind Norm. -/
def fstV (f : Int) (l : List Pr) : Int := if mid l = [] then 0 else wrap64 (f + lead l)
theorem norm_any (f : Int) (A : Option Addr) (n c : Nat) (bs : List UInt8) (w : World) (h : BytesAt w A bs) (hn : n = bs.length) (hnc : n ≤ c) (hc : c ≤ maxLen) (h4 : n ≤ 400003) (hf : -9223372036854775808 ≤ f ∧ f ≤ 9223372036854775807) :
    Calls Tryd.prog 13 #[strm f A n c] w fun e w' => (∃ A' c', e = .returned (strm (fstV f (prs bs)) A' (2 * (mid (prs bs)).length) c') ∧ BytesAt w' A' (flat (mid (prs bs))) ∧ 2 * (mid (prs bs)).length ≤ c' ∧ c' ≤ maxLen) ∧ Below w.heap.size w w' := by
  have hm : c ≤ 9223372036854775807 := by simpa [maxLen] using hc
  have HH := Lib.hid (And.intro h hn)
  have HF := Lib.hid hf
  clear hc h hn hf
  unfold strm
  have e1 : ((n : Int).tdiv 2) = ((n / 2 : Nat) : Int) := by rw [Int.tdiv_eq_ediv_of_nonneg (by omega)]; omega
  have e2 : (((n / 2 : Nat) : Int) * 2).toNat = n / 2 * 2 := by omega
  obtain ⟨B, hB⟩ : ∃ B, B = w.heap.size := ⟨_, rfl⟩
  rw [← hB]
  go_enter Tryd.func13, Tryd.ntmps13
  go_wp2_with fail
  rw [← hB]
  generalize hw : World.alloc _ _ = x1
  have H2 := Lib.hid (show Held x1 (B + 1) [.int .i64 0, .slice none 0 0] by subst hw; exact Held.new (by simp [hB]))
  have FB := Lib.hid (show Below B w x1 by subst hw; rw [hB]; exact (below_one _ _).alloc (by simp) _)
  have fs : B + 2 ≤ x1.heap.size := by subst hw; simp [hB]
  have HX := Lib.hid (show BytesAt x1 A bs from HH.out.1.ext (hB ▸ FB.out))
  clear hw hB
  have h2 : n / 2 * 2 ≤ n ∧ n ≤ n / 2 * 2 + 1 := by omega
  have HM := Lib.hid (show n / 2 * 2 = 2 * (prs bs).length by rw [prs_len, ← HH.out.2]; omega)
  generalize hk0 : n / 2 * 2 = m at *
  go_loopw [3, 4] (fun p fst wr => wr = x1 ∧ ∃ (k : Nat) (C : Option Addr), 2 * k ≤ m ∧ p = .slice C (m - 2 * k) (c - 2 * k) ∧ Hid (BytesAt wr C (bs.drop (2 * k))) ∧ fst = .int .i64 (wrap64 (f + k)) ∧ Hid (∀ j, j < k → (prs bs)[j]? = some (128, 128))) (fun p _ _ => match p with | .slice _ l _ => l | _ => 0)
  case atStart => exact ⟨rfl, 0, A, by omega, rfl, Lib.hid HX.out, by have := HF.out; rw [show wrap64 (f + ((0 : Nat) : Int)) = f from by go_arith], Lib.hid (fun j h => by omega)⟩
  case round =>
    obtain ⟨rfl, k, C, hk, rfl, HC, rfl, HK⟩ := hrel
    by_cases hz : 2 * k + 1 < m
    · obtain ⟨a, b', r, ed, ep⟩ := two_at (bs := bs) (k := k) (by have := HH.out.2; omega)
      have HN := Lib.hid (show BytesAt wr C (a :: b' :: r) by rw [← ed]; exact HC.out)
      obtain ⟨bC, oC, rfl, -⟩ := HN.out.get (k := 0) (by simp)
      have gp : ((m - 2 * k : Nat) : Int) > 0 := by omega
      go_wp2_with fail
      refine (null_any _ _ _ a b' r _ HN.out (by omega) (by omega)).mono ?_
      rintro e w' ⟨rfl, rfl⟩
      cases hN : isN (a, b')
      · go_wp2_with fail
        go_loopw [3] (fun p wr2 => wr2 = wr ∧ ∃ j : Nat, 2 * j + 2 ≤ m - 2 * k ∧ p = .slice (some ⟨bC, oC, none⟩) (m - 2 * k - 2 * j) (c - 2 * k) ∧ Hid (∀ i, (prs bs).length - j ≤ i → i < (prs bs).length → (prs bs)[i]? = some (128, 128))) (fun p _ => match p with | .slice _ l _ => l | _ => 0)
        case atStart => exact ⟨rfl, 0, by omega, rfl, Lib.hid (fun i h1 h2 => by omega)⟩
        case round =>
          obtain ⟨rfl, j, hj, rfl, HJ⟩ := hrel
          obtain ⟨x, y, t, et, ep2⟩ := two_at (bs := bs) (k := (prs bs).length - j - 1) (by have := HH.out.2; have := HM.out; omega)
          have HN2 := Lib.hid (show BytesAt wr (some ⟨bC, oC + (m - 2 * k - 2 * j - 2), none⟩) (x :: y :: t) by
            rw [← et, show 2 * ((prs bs).length - j - 1) = 2 * k + (m - 2 * k - 2 * j - 2) from by have := HM.out; omega, ← List.drop_drop]
            exact HC.out.drop _)
          have gp2 : ((m - 2 * k - 2 * j : Nat) : Int) > 0 := by omega
          have et2 : (((m - 2 * k - 2 * j : Nat) : Int) - 2).toNat = m - 2 * k - 2 * j - 2 := by omega
          go_wp2_with fail
          refine (null_any _ _ _ x y t _ HN2.out (by omega) (by omega)).mono ?_
          rintro e w' ⟨rfl, rfl⟩
          cases hN2 : isN (x, y)
          · obtain ⟨i0, hi, hz0, hz1, hz2⟩ := info_parts i5
            have HI0 := Lib.hid (And.intro hi (And.intro hz0 (And.intro hz1 hz2)))
            clear hi hz0 hz1 hz2
            have hz0 := mid_at HK.out ep hN (by have := HM.out; omega) ep2 hN2 HJ.out
            rw [show 2 * ((prs bs).length - k - j) = m - 2 * k - 2 * j from by have := HM.out; omega] at hz0
            have HZ := Lib.hid hz0
            clear hz0
            have HL := Lib.hid (show m - 2 * k - 2 * j = 2 * ((prs bs).length - k - j) by have := HM.out; omega)
            generalize hL : m - 2 * k - 2 * j = L at *
            have HC2 := Lib.hid (HC.out.take L)
            have hLl : ((bs.drop (2 * k)).take L).length = L := by have := HH.out.2; simp; omega
            generalize (bs.drop (2 * k)).take L = ns at *
            go_wp2_with (at_builtin; go_loud (refine wpList_append_own _ rfl _ _ 22 rfl wr.heap.size 5 i0 (.int .u8 0) 1 1 Tryd.underlying22 HI0.out.1 HI0.out.2.1 HI0.out.2.2.1 HI0.out.2.2.2 rfl (by decide) _ 0 [] rfl (World.ownsRow_nil _ _ _ _) ⟨bC, oC, none⟩ L (c - 2 * k) (ns.map byteV) rfl ?c1 ?c2 ?c3 ?c4 ?c5 ?c6 ?_))
            case c1 => simp [hLl]
            case c2 =>
              intro j u hj
              obtain ⟨b2, o2, e, hc⟩ := HC2.out j u hj
              cases e
              rw [show ((⟨bC, oC, none⟩ : Addr).add j) = ⟨bC, oC + j, none⟩ from by cases j <;> simp [Addr.add]]
              exact hc
            case c3 =>
              intro u hu
              obtain ⟨b, _, rfl⟩ := List.mem_map.1 hu
              rfl
            case c4 => simp only [maxLen]; omega
            case c5 => omega
            case c6 => exact Nat.le_refl _
            intro v2 w2 hown2 hgr _
            have hbw : Below wr.heap.size wr w2 := below_grown (Below.refl _ _) (Nat.le_refl _) hgr
            replace H2 := Lib.hid (H2.out.ext hbw)
            replace FB := Lib.hid (FB.out.trans (hbw.mono (by omega)))
            have hform := hown2.form (by omega)
            obtain ⟨A2, c2, hv2, hr2, hc2, hc3, _⟩ := row_of_own hown2
            have HR := Lib.hid (And.intro hr2 (And.intro hc2 hc3))
            subst hv2
            obtain ⟨g, cap2, hv3, hgB, hgl⟩ := hform
            cases hv3
            clear hown2 hgr hr2 hc2 hc3
            obtain ⟨q0, q1, q2, q3⟩ := H2.out.pair
            go_wp2_with fail
            have r := Lib.hid (((H2.out).set 0 (.int .i64 (wrap64 (f + (k : Int))))).set 1 (.slice (some ⟨g, 0, none⟩) L c2))
            have rb := Lib.hid ((FB.out.setCell (p := ⟨B + 1, 0, none⟩) (by simp) (.int .i64 (wrap64 (f + (k : Int))))).setCell (p := ⟨B + 1, 1, none⟩) (by simp) (.slice (some ⟨g, 0, none⟩) L c2))
            have hne : g ≠ B + 1 := by omega
            have hr4 := Lib.hid ((RowAt.other HR.out.1 hne 0 (.int .i64 (wrap64 (f + (k : Int))))).other hne 1 (.slice (some ⟨g, 0, none⟩) L c2))
            generalize World.setCell (World.setCell _ _ _) _ _ = w4 at *
            have r0' := r.out.cell 0
            have r1' := r.out.cell 1
            simp only [List.set_cons_zero, List.set_cons_succ, List.getElem?_cons_zero, List.getElem?_cons_succ] at r0' r1'
            refine bodyPost_ret (by simp [results, Tryd.results13, r0', r1', go_sem]; try rfl) rfl ?_
            refine ⟨⟨some ⟨g, 0, none⟩, c2, ?_, ?_, ?_, HR.out.2.2⟩, rb.out⟩
            · rw [fstV, if_neg HZ.out.2.2.2, HZ.out.2.2.1, HZ.out.2.1, ← HL.out]
            · rw [← HZ.out.1]; show RowAt _ _ _; simpa using hr4.out
            · rw [HZ.out.2.1, ← HL.out]; simpa using HR.out.2.1
          · have hjm : 2 * (j + 1) + 2 ≤ m - 2 * k := by
              have hne : (prs bs).length - j - 1 ≠ k := fun e => by rw [e, ep] at ep2; cases ep2; rw [hN] at hN2; cases hN2
              have := HM.out
              omega
            go_wp2_with fail
            go_roundw
            case rel =>
              refine ⟨trivial, j + 1, hjm, by rw [show m - 2 * k - 2 * (j + 1) = m - 2 * k - 2 * j - 2 from by omega], Lib.hid fun i h1 h2 => ?_⟩
              by_cases hi : i = (prs bs).length - j - 1
              · rw [hi, ep2, isN_eq.1 hN2]
              · exact HJ.out i (by omega) h2
            case measure => simp; omega
      · go_wp2_with fail
        go_roundw
        case rel => 
          refine ⟨trivial, k + 1, _, by omega, by rw [show m - 2 * (k + 1) = m - 2 * k - 2 from by omega, show c - 2 * (k + 1) = c - 2 * k - 2 from by omega], Lib.hid ?_, by rw [show wrap64 (f + ((k + 1 : Nat) : Int)) = wrap64 (wrap64 (f + (k : Int)) + 1) from by unfold wrap64; omega], Lib.hid ?_⟩
          · have ed2 : bs.drop (2 * (k + 1)) = r := by rw [show 2 * (k + 1) = 2 * k + 2 from by omega, ← List.drop_drop, ed]; rfl
            rw [ed2]
            split
            · rename_i hc2
              have : r = [] := by
                have := congrArg List.length ed2
                simp at this
                exact List.length_eq_zero_iff.1 (by have := HH.out.2; omega)
              rw [this]; exact RowAt.nil _ _
            · exact HN.out.drop 2
          · intro j hj
            by_cases hjk : j = k
            · rw [hjk, ep, isN_eq.1 hN]
            · exact HK.out j (by omega)
        case measure => simp; omega
    · have gm : m - 2 * k = 0 := by omega
      rw [gm]
      go_wp2_with fail
      have HE := Lib.hid (lead_nil (l := prs bs) (fun j hj => HK.out j (by have := HM.out; omega)))
      go_loopw [3] (fun p wr2 => wr2 = wr ∧ p = .slice C 0 (c - 2 * k)) (fun _ _ => 0)
      case atStart => exact ⟨rfl, rfl⟩
      case round =>
        obtain ⟨rfl, rfl⟩ := hrel
        obtain ⟨q0, q1, q2, q3⟩ := H2.out.pair
        go_wp2_with fail
        have r := Lib.hid (((H2.out).set 0 (.int .i64 (0))).set 1 (.slice none 0 0))
        have rb := Lib.hid ((FB.out.setCell (p := ⟨B + 1, 0, none⟩) (by simp) (.int .i64 (0))).setCell (p := ⟨B + 1, 1, none⟩) (by simp) (.slice none 0 0))
        generalize World.setCell _ _ _ = w4 at *
        have r0' := r.out.cell 0
        have r1' := r.out.cell 1
        simp only [List.set_cons_zero, List.set_cons_succ, List.getElem?_cons_zero, List.getElem?_cons_succ] at r0' r1'
        refine bodyPost_ret (by simp [results, Tryd.results13, r0', r1', go_sem]; try rfl) rfl ?_
        rw [HE.out.1, fstV, if_pos HE.out.1]
        exact ⟨⟨none, 0, rfl, RowAt.nil _ _, Nat.le_refl _, by simp⟩, rb.out⟩
end Go.Proofs.YtbliilemjkjimaaDoor
