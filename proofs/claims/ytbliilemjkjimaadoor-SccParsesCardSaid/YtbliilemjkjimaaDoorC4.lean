/-
  The contract of the reference's Norm. Its conditions are its hypotheses.
-/
import Derived.Test.YtbliilemjkjimaaDoorC3
import Derived.Deep.RegionHeld3
import Derived.IntWalk
namespace Go.Proofs.YtbliilemjkjimaaDoor
open Go.RowKit
set_option linter.unusedVariables false
set_option linter.unusedSimpArgs false
theorem prs_idx : ∀ {bs : List UInt8} {k : Nat} (h : 2 * k + 1 < bs.length), (prs bs)[k]? = some (bs[2 * k], bs[2 * k + 1])
  | a :: b :: r, 0, _ => rfl
  | a :: b :: r, k + 1, h => by
    have := prs_idx (bs := r) (k := k) (by simp at h; omega)
    simpa [prs, show 2 * (k + 1) = 2 * k + 1 + 1 from by omega] using this
theorem nullr_at (A : Option Addr) (n c k : Nat) (bs : List UInt8) (p : Pr) (w : World) (h : BytesAt w A bs) (hn : n = bs.length) (hp : (prs bs)[k]? = some p) (hl : n ≤ 9223372036854775807) :
    Calls Tryd.prog 27 #[.slice A n c, .int .i64 k] w fun e w' => e = .returned (.bool (isN p)) ∧ w = w' := by
  have hk : 2 * k + 1 < bs.length := by
    have := (List.getElem?_eq_some_iff.1 hp).1
    rw [prs_len] at this
    omega
  have e := prs_idx hk
  rw [hp] at e
  cases e
  exact nullr_any A n c k bs w h (by omega) hk hl
theorem row_add {w : World} {b o : Nat} {xs : List Value} (h : RowAt w (some ⟨b, o, none⟩) xs) : ∀ j u, xs[j]? = some u → w.cell? ((⟨b, o, none⟩ : Addr).add j) = some u := by
  intro j u hj
  obtain ⟨b2, o2, e, hc⟩ := h j u hj
  cases e
  rw [show ((⟨b, o, none⟩ : Addr).add j) = ⟨b, o + j, none⟩ from by cases j <;> simp [Addr.add]]
  exact hc
theorem slice_lh {b o n c k r : Nat} {x y : Int} (hx : x = k) (hy : y = r) (h1 : k ≤ r) (h2 : r ≤ c) (h3 : k < c) (w : World) :
    (Instr.slice 22 (.slice (some ⟨b, o, none⟩) n c) (some (.int .i64 x)) (some (.int .i64 y)) none).run Tryd.prog w = .ok (.slice (some ⟨b, o + k, none⟩) (r - k) (c - k)) w := by
  subst hx hy
  have : ¬ c = k := by omega
  simp [go_sem, sliced, h1, h2, this]
theorem normr_any (f : Int) (A : Option Addr) (n c : Nat) (bs : List UInt8) (w : World) (h : BytesAt w A bs) (hn : n = bs.length) (hnc : n ≤ c) (hc : c ≤ maxLen) (h4 : n ≤ 400003) (hf : -9223372036854775808 ≤ f ∧ f ≤ 9223372036854775807) :
    Calls Tryd.prog 14 #[strm f A n c] w fun e w' => (∃ A' c', e = .returned (strm (fstV f (prs bs)) A' (2 * (mid (prs bs)).length) c') ∧ BytesAt w' A' (flat (mid (prs bs))) ∧ 2 * (mid (prs bs)).length ≤ c' ∧ c' ≤ maxLen) ∧ Below w.heap.size w w' := by
  have hm : c ≤ 9223372036854775807 := by simpa [maxLen] using hc
  have HH := Lib.hid (And.intro h hn)
  have HF := Lib.hid hf
  clear hc h hn hf
  unfold strm
  have e1 : ((n : Int).tdiv 2) = ((n / 2 : Nat) : Int) := by rw [Int.tdiv_eq_ediv_of_nonneg (by omega)]; omega
  obtain ⟨B, hB⟩ : ∃ B, B = w.heap.size := ⟨_, rfl⟩
  rw [← hB]
  go_enter Tryd.func14, Tryd.ntmps14
  go_wp2_with fail
  rw [← hB]
  generalize hw : World.alloc _ _ = x1
  have H1 := Lib.hid (show Held x1 B [.int .i64 f, .slice A n c] by subst hw; exact (Held.new hB).alloc _)
  have H2 := Lib.hid (show Held x1 (B + 1) [.int .i64 0, .slice none 0 0] by subst hw; exact Held.new (by simp [hB]))
  have FB := Lib.hid (show Below B w x1 by subst hw; rw [hB]; exact (below_one _ _).alloc (by simp) _)
  have fs : B + 2 ≤ x1.heap.size := by subst hw; simp [hB]
  have HX := Lib.hid (show BytesAt x1 A bs from HH.out.1.ext (hB ▸ FB.out))
  clear hw hB
  obtain ⟨p0, p1, p2, p3⟩ := H1.out.pair
  obtain ⟨q0, q1, q2, q3⟩ := H2.out.pair
  go_quiet (fail)
  rw [show ((n : Int) / 2) = ((n / 2 : Nat) : Int) from by omega]
  generalize hx2 : x1.drewN _ = x2
  replace H1 := Lib.hid (show Held x2 B [.int .i64 f, .slice A n c] by subst hx2; exact H1.out.drewN _)
  replace H2 := Lib.hid (show Held x2 (B + 1) [.int .i64 0, .slice none 0 0] by subst hx2; exact H2.out.drewN _)
  replace FB := Lib.hid (show Below B w x2 by subst hx2; exact below_drewN FB.out _)
  replace HX := Lib.hid (show BytesAt x2 A bs by subst hx2; exact HX.out.drewN _)
  replace fs : B + 2 ≤ x2.heap.size := by subst hx2; exact fs
  clear hx2 p0 p1 p2 p3 q0 q1 q2 q3
  obtain ⟨p0, p1, p2, p3⟩ := H1.out.pair
  obtain ⟨q0, q1, q2, q3⟩ := H2.out.pair
  have HM := Lib.hid (show n / 2 = (prs bs).length by rw [prs_len, ← HH.out.2])
  have ht : 2 * (n / 2) ≤ n := by omega
  generalize n / 2 = t at *
  go_wp2_with fail
  go_loop [3] (fun i => ∃ k : Nat, k ≤ t ∧ i = .int .i64 k ∧ Hid (∀ j, j < k → (prs bs)[j]? = some (128, 128))) (fun i => t - (intOf i).toNat)
  case atStart => exact ⟨0, by omega, rfl, Lib.hid (fun j h => by omega)⟩
  case round =>
    obtain ⟨k, hk, rfl, HK⟩ := hrel
    by_cases hlt : k < t
    · obtain ⟨p, hp⟩ : ∃ p, (prs bs)[k]? = some p := ⟨_, List.getElem?_eq_getElem (by have := HM.out; omega)⟩
      have HP := Lib.hid hp
      clear hp
      go_wp2_with fail
      refine (nullr_at A n c k bs p _ HX.out HH.out.2 HP.out (by omega)).mono ?_
      rintro e w' ⟨rfl, rfl⟩
      cases hN : isN p
      · go_wp2_with fail
        go_loop [4] (fun i => ∃ j : Nat, k + j < t ∧ i = .int .i64 ((t - j : Nat) : Int) ∧ Hid (∀ i, t - j ≤ i → i < t → (prs bs)[i]? = some (128, 128))) (fun i => (intOf i).toNat)
        case atStart => exact ⟨0, by omega, rfl, Lib.hid (fun i h1 h2 => by omega)⟩
        case round =>
          obtain ⟨j, hj, rfl, HJ⟩ := hrel
          obtain ⟨q, hq⟩ : ∃ q, (prs bs)[t - j - 1]? = some q := ⟨_, List.getElem?_eq_getElem (by have := HM.out; omega)⟩
          have HQ := Lib.hid hq
          clear hq
          generalize hr : t - j = r at *
          have er : ((r : Int) - 1) = ((r - 1 : Nat) : Int) := by omega
          have hkr : k < r := by omega
          go_wp2_with fail
          refine (nullr_at A n c (r - 1) bs q _ HX.out HH.out.2 HQ.out (by omega)).mono ?_
          rintro e w' ⟨rfl, rfl⟩
          cases hN2 : isN q
          · go_wp2_with fail
            obtain ⟨i0, hi, hz0, hz1, hz2⟩ := info_parts i5
            have HI0 := Lib.hid (And.intro hi (And.intro hz0 (And.intro hz1 hz2)))
            clear hi hz0 hz1 hz2
            have hz0 := mid_at (j := j) HK.out HP.out hN (by have := HM.out; omega) (by rw [← HM.out, show t - j - 1 = r - 1 from by omega]; exact HQ.out) hN2 (fun i h1 h2 => HJ.out i (by have := HM.out; omega) (by have := HM.out; omega))
            rw [show 2 * ((prs bs).length - k - j) = 2 * r - 2 * k from by have := HM.out; omega] at hz0
            have HZ := Lib.hid hz0
            clear hz0
            have HL := Lib.hid (show 2 * r - 2 * k = 2 * ((prs bs).length - k - j) by have := HM.out; omega)
            obtain ⟨bA, oA, rfl, -⟩ := HX.out.get (k := 0) (by have := HH.out.2; omega)
            have HC2 := Lib.hid ((HX.out.drop (2 * k)).take (2 * r - 2 * k))
            have t1 : (2 * (k : Int)).toNat = 2 * k := by omega
            have t2 : (2 * (r : Int)).toNat = 2 * r := by omega
            have t3 : 2 * (k : Int) ≤ 2 * (r : Int) := by omega
            have t4 : 2 * (r : Int) ≤ (c : Int) := by omega
            have t5 : (0 : Int) ≤ 2 * (k : Int) := by omega
            have hLl : ((bs.drop (2 * k)).take (2 * r - 2 * k)).length = 2 * r - 2 * k := by have := HH.out.2; simp; omega
            generalize (bs.drop (2 * k)).take (2 * r - 2 * k) = ns at *
            have z0 : ∀ o, (x2.alloc o).frozen? ⟨B + 1, 0, none⟩ = false := fun o => (H2.out.alloc o).free 0
            have z1 : ∀ o, (x2.alloc o).frozen? ⟨B + 1, 1, none⟩ = false := fun o => (H2.out.alloc o).free 1
            have s1 : IntKind.i64.wrap (2 * (k : Int)) = 2 * (k : Int) := IntWalk.i64_in _ (by omega)
            have s2 : IntKind.i64.wrap (2 * (r : Int)) = 2 * (r : Int) := IntWalk.i64_in _ (by omega)
            have hs : ∀ w', (Instr.slice 22 (.slice (some ⟨bA, oA, none⟩) n c) (some (.int .i64 (2 * (k : Int)))) (some (.int .i64 (2 * (r : Int)))) none).run Tryd.prog w' = .ok (.slice (some ⟨bA, oA + 2 * k, none⟩) (2 * r - 2 * k) (c - 2 * k)) w' := fun w' => slice_lh (by omega) (by omega) (by omega) (by omega) (by omega) w'
            have hc1 := Lib.hid (show (ns.map byteV).length = (2 * r - 2 * k) * 1 by simp [hLl])
            have hc3 := Lib.hid (show ∀ u ∈ ns.map byteV, u.oneCell' = true by
              intro u hu
              obtain ⟨b, _, rfl⟩ := List.mem_map.1 hu
              rfl)
            clear HJ HK hLl
            have y0 : ∀ o, (x2.alloc o).cell? ⟨B + 1, 0, none⟩ = some (.int .i64 0) := fun o => (H2.out.alloc o).cell 0
            have y1 : ∀ o, (x2.alloc o).cell? ⟨B + 1, 1, none⟩ = some (.slice none 0 0) := fun o => (H2.out.alloc o).cell 1
            go_region_held3 (fun w' => w'.cell? ⟨B, 0, none⟩ = some (.int .i64 f) ∧ w'.cell? ⟨B, 1, none⟩ = some (.slice (some ⟨bA, oA, none⟩) n c))
              (first
                | go_keep
                | (go_split_ands
                   refine ⟨?_, ?_⟩
                   all_goals (rw [hgrow.cell_far _ (by simp; omega) (by simp)]; assumption)))
              ((refine step_append_grows (by rfl) _ _ _ (by rfl) 5 i0 (.int .u8 0) 1 1 Tryd.underlying22 HI0.out.1 HI0.out.2.1 HI0.out.2.2.1 HI0.out.2.2.2 rfl (by decide) (some ⟨x2.heap.size, 0, none⟩) 0 0 [] (by rfl) (by simp) (by simp) (by simp)
                  ⟨bA, oA + 2 * k, none⟩ (2 * r - 2 * k) (c - 2 * k) (ns.map byteV) (by rfl) hc1.out (fun j u hj => row_add (RowAt.ext HC2.out (by first | exact below_one _ _ | exact (below_one _ _).drew | exact (below_one _ _).drew.drew)) j u hj) hc3.out (by omega) (by simp only [maxLen]; omega) (by omega) ?_; intro v2 w2 hown2 hgrow
                have hfm := hown2.form (by omega)
                obtain ⟨g2, c2, rfl, hgB, hgl⟩ := hfm
                have z0' : w2.frozen? ⟨B + 1, 0, none⟩ = false := by rw [hgrow.frozen_far _ (by simp; omega) (by simp)]; go_simp
                have z1' : w2.frozen? ⟨B + 1, 1, none⟩ = false := by rw [hgrow.frozen_far _ (by simp; omega) (by simp)]; go_simp
                have y0' : w2.cell? ⟨B + 1, 0, none⟩ = some (.int .i64 0) := by rw [hgrow.cell_far _ (by simp; omega) (by simp)]; go_simp
                have y1' : w2.cell? ⟨B + 1, 1, none⟩ = some (.slice none 0 0) := by rw [hgrow.cell_far _ (by simp; omega) (by simp)]; go_simp))
            go_wp2_with fail
            have hbw : Below x2.heap.size x2 w2 := below_grown (by first | exact below_one _ _ | exact (below_one _ _).drew | exact (below_one _ _).drew.drew) (by simp) hgrow
            have H3 := H2.out.ext hbw
            have FB3 := FB.out.trans (hbw.mono (by omega))
            obtain ⟨A3, c3, e3, hr3, hc3', hc4, _⟩ := row_of_own hown2
            cases e3
            have rr := Lib.hid ((H3.set 0 (.int .i64 (IntKind.i64.wrap (f + (k : Int))))).set 1 (.slice (some ⟨g2, 0, none⟩) (2 * r - 2 * k) c2))
            have rb := Lib.hid ((FB3.setCell (p := ⟨B + 1, 0, none⟩) (by simp) (.int .i64 (IntKind.i64.wrap (f + (k : Int))))).setCell (p := ⟨B + 1, 1, none⟩) (by simp) (.slice (some ⟨g2, 0, none⟩) (2 * r - 2 * k) c2))
            have hne : g2 ≠ B + 1 := by simp at hgB; omega
            have hr4 := Lib.hid ((RowAt.other hr3 hne 0 (.int .i64 (IntKind.i64.wrap (f + (k : Int))))).other hne 1 (.slice (some ⟨g2, 0, none⟩) (2 * r - 2 * k) c2))
            generalize World.setCell (World.setCell _ _ _) _ _ = w4 at *
            have r0' := rr.out.cell 0
            have r1' := rr.out.cell 1
            simp only [List.set_cons_zero, List.set_cons_succ, List.getElem?_cons_zero, List.getElem?_cons_succ] at r0' r1'
            refine bodyPost_ret (by simp [results, Tryd.results14, r0', r1', go_sem]; try rfl) rfl ?_
            refine ⟨⟨some ⟨g2, 0, none⟩, c2, ?_, ?_, ?_, hc4⟩, rb.out⟩
            · rw [fstV, if_neg HZ.out.2.2.2, HZ.out.2.2.1, HZ.out.2.1, ← HL.out, show IntKind.i64.wrap (f + (k : Int)) = wrap64 (f + k) from by rw [IntKind.wrap_i64]; unfold wrap64; omega]
            · rw [← HZ.out.1]; show RowAt _ _ _; simpa using hr4.out
            · rw [HZ.out.2.1, ← HL.out]; simpa using hc3'
          · have hjm : k + (j + 1) < t := by
              have hne : r - 1 ≠ k := fun e => by have := HP.out; rw [← e, HQ.out] at this; cases this; rw [hN] at hN2; cases hN2
              omega
            go_wp2_with fail
            go_round
            case rel =>
              refine ⟨j + 1, hjm, by rw [show t - (j + 1) = r - 1 from by omega], Lib.hid fun i h1 h2 => ?_⟩
              by_cases hi : i = r - 1
              · rw [hi, HQ.out, isN_eq.1 hN2]
              · exact HJ.out i (by omega) h2
            case measure => simp [intOf]; omega
      · go_wp2_with fail
        go_round
        case rel =>
          refine ⟨k + 1, by omega, by go_num, Lib.hid fun j hj => ?_⟩
          by_cases hjk : j = k
          · rw [hjk, HP.out, isN_eq.1 hN]
          · exact HK.out j (by omega)
        case measure => simp [intOf]; omega
    · have ek : k = t := by omega
      subst ek
      go_wp2_with fail
      go_loop [4] (fun i => i = .int .i64 (k : Int)) (fun i => 0)
      case atStart => exact rfl
      case round =>
        subst hrel
        go_wp2_with fail
        have HE := Lib.hid (lead_nil (l := prs bs) (fun j hj => HK.out j (by have := HM.out; omega)))
        have r := Lib.hid (((H2.out).set 0 (.int .i64 (0))).set 1 (.slice none 0 0))
        have rb := Lib.hid ((FB.out.setCell (p := ⟨B + 1, 0, none⟩) (by simp) (.int .i64 (0))).setCell (p := ⟨B + 1, 1, none⟩) (by simp) (.slice none 0 0))
        generalize World.setCell _ _ _ = w4 at *
        have r0' := r.out.cell 0
        have r1' := r.out.cell 1
        simp only [List.set_cons_zero, List.set_cons_succ, List.getElem?_cons_zero, List.getElem?_cons_succ] at r0' r1'
        refine bodyPost_ret (by simp [results, Tryd.results14, r0', r1', go_sem]; try rfl) rfl ?_
        rw [HE.out.1, fstV, if_pos HE.out.1]
        exact ⟨⟨none, 0, rfl, RowAt.nil _ _, Nat.le_refl _, by simp⟩, rb.out⟩
end Go.Proofs.YtbliilemjkjimaaDoor
