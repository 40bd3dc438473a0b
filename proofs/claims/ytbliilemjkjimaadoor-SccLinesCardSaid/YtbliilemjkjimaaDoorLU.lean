/-
  The contract of the law SccNulls. Its conditions are its hypotheses.
-/
import Derived.Test.YtbliilemjkjimaaDoorCm
import Derived.Test.YtbliilemjkjimaaDoorLN
import Derived.Test.YtbliilemjkjimaaDoorSy
namespace Go.Proofs.YtbliilemjkjimaaDoor
open Go.RowKit Go.Joins
set_option linter.unusedVariables false
set_option linter.unusedSimpArgs false
theorem trim_end : ∀ (l : List Pr), trim l ≠ [] → ∃ p, (trim l)[(trim l).length - 1]? = some p ∧ isN p = false
  | [], h => absurd rfl h
  | p :: r, h => by
    rw [trim] at h ⊢
    split at h
    · exact absurd rfl h
    · rename_i hc
      rw [if_neg hc]
      by_cases hr : trim r = []
      · rw [hr]
        refine ⟨p, rfl, ?_⟩
        cases hp : isN p
        · rfl
        · exact absurd ⟨hr, hp⟩ hc
      · obtain ⟨q, h1, h2⟩ := trim_end r hr
        refine ⟨q, ?_, h2⟩
        have : 0 < (trim r).length := List.length_pos_iff.2 hr
        rw [List.length_cons, show (trim r).length + 1 - 1 = (trim r).length - 1 + 1 by omega, List.getElem?_cons_succ]
        exact h1
theorem nulls_at {l : List Pr} {i : Nat} {p : Pr} (hp : l[i]? = some p) : (mid l = [] → p = (128, 128)) ∧ (mid l ≠ [] → i < lead l ∨ lead l + (mid l).length ≤ i → p = (128, 128)) ∧ (mid l ≠ [] → ∀ j, i = lead l + j → j < (mid l).length → (mid l)[j]? = some p) := by
  have hi := (List.getElem?_eq_some_iff.1 hp).1
  have h := prs_get l i hi
  rw [hp] at h
  refine ⟨fun h0 => ?_, fun h0 h1 => ?_, fun h0 j h1 h2 => (h.2 h0).2 j h1 h2⟩
  · have := h.1 h0; cases this; rfl
  · have := (h.2 h0).1 h1; cases this; rfl
theorem drop_prs : ∀ {bs : List UInt8} {k : Nat} {p : Pr}, (prs bs)[k]? = some p → ∃ r, bs.drop (2 * k) = p.1 :: p.2 :: r
  | [], k, p, h => by simp [prs] at h
  | [_], k, p, h => by simp [prs] at h
  | a :: b :: r, 0, p, h => by cases h; exact ⟨r, rfl⟩
  | a :: b :: r, k + 1, p, h => by
    have := drop_prs (bs := r) (k := k) (p := p) (by simpa [prs] using h)
    rw [show 2 * (k + 1) = 2 * k + 1 + 1 from by omega]
    exact this
def pB (p : Pr) : ByteArray := ⟨#[p.1, p.2]⟩
theorem pB_null (p : Pr) : ((pB p).toList == [128, 128]) = isN p := by
  rw [Lib.toList_data]
  obtain ⟨a, b⟩ := p
  rw [Bool.eq_iff_iff, beq_iff_eq, isN_eq]
  simp [pB]
theorem ret_bool {a b : Bool} (h : a = b) : Ending.returned (.bool a) = .returned (.bool b) := by rw [h]
theorem conv_pair {w : World} {b o k c : Nat} {bs : List UInt8} {p : Pr} (h : BytesAt w (some ⟨b, o, none⟩) bs) (hp : (prs bs)[k]? = some p) :
    (convert 22 9 (.slice (some ⟨b, o + 2 * k, none⟩) 2 c)).run Tryd.prog w = .ok (.string (pB p)) w := by
  obtain ⟨r, hr⟩ := drop_prs hp
  have h2 := BytesAt.take (BytesAt.drop h (2 * k)) 2
  rw [hr] at h2
  exact conv_bytes h2 2 c rfl
theorem slice_hi {b o n c r : Nat} {y : Int} (hy : y = r) (h0 : c ≠ 0) (h2 : r ≤ c) (w : World) :
    (Instr.slice 22 (.slice (some ⟨b, o, none⟩) n c) none (some (.int .i64 y)) none).run Tryd.prog w = .ok (.slice (some ⟨b, o, none⟩) r c) w := by
  subst hy
  simp [go_sem, sliced, h2, h0]
theorem slice_lo {b o n c r : Nat} {y : Int} (hy : y = r) (h1 : r ≤ n) (h2 : n ≤ c) (h3 : c ≠ r) (w : World) :
    (Instr.slice 22 (.slice (some ⟨b, o, none⟩) n c) (some (.int .i64 y)) none none).run Tryd.prog w = .ok (.slice (some ⟨b, o + r, none⟩) (n - r) (c - r)) w := by
  subst hy
  simp [go_sem, sliced, h1, h2, h3]
theorem wrap_sub {f F : Int} {i m : Nat} (hF : F = wrap64 (f + (m : Int))) (hi : i ≤ 1000) (hm : m ≤ 1000) : wrap64 (wrap64 (f + (i : Int)) - F) = (i : Int) - m := by
  rw [hF]
  unfold wrap64
  omega
set_option maxRecDepth 100000 in
set_option maxHeartbeats 1000000 in
theorem nulls_law (f : Int) (A : Option Addr) (n c : Nat) (bs : List UInt8) (u : Int) (w : World) (h : BytesAt w A bs) (hn : n = bs.length) (hnc : n ≤ c) (hcm : c ≤ maxLen) (hf : -9223372036854775808 ≤ f ∧ f ≤ 9223372036854775807) (u0 : 0 ≤ u) (u1 : u ≤ 255) (hmx : Mx w) :
    Calls Tryd.prog 8 #[strm f A n c, .int .u8 u] w fun e w' => e = .returned (.bool true) ∧ Below w.heap.size w w' := by
  have hm : c ≤ 9223372036854775807 := by simpa [maxLen] using hcm
  have HH := Lib.hid (And.intro h hn)
  have HF := Lib.hid hf
  have HM := Lib.hid hmx
  have HCM := Lib.hid hcm
  clear h hn hf hmx hcm
  unfold strm
  obtain ⟨B, hB⟩ : ∃ B, B = w.heap.size := ⟨_, rfl⟩
  rw [← hB]
  have MX := Lib.hid (fun (w' : World) (hb : Below B w w') => show Mx w' from HM.out.on (by rw [← hB]; exact hb))
  go_enter Tryd.func8, Tryd.ntmps8
  go_wp2_with fail
  rw [← hB]
  generalize hw1 : World.alloc _ _ = w1
  have H := Lib.hid (show Held w1 B [.int .i64 f, .slice A n c] by subst hw1; exact Held.new hB)
  have FB := Lib.hid (show Below B w w1 by subst hw1; subst hB; exact below_one _ _)
  have HX := Lib.hid (show BytesAt w1 A bs from HH.out.1.ext (hB ▸ FB.out))
  clear hw1 hB
  refine (awake_any _ (MX.out _ FB.out)).mono ?_
  rintro e w2 ⟨rfl, hb⟩
  replace FB := Lib.hid (FB.out.trans (hb.mono (Nat.le_of_lt H.out.lt)))
  replace H := Lib.hid (H.out.ext hb)
  replace HX := Lib.hid (HX.out.ext hb)
  clear hb
  obtain ⟨q0, q1, q2, q3⟩ := H.out.pair
  go_wp2_with fail
  refine (few_any f A n c _ hnc HCM.out).mono ?_
  rintro e w3 ⟨rfl, hb⟩
  replace FB := Lib.hid (FB.out.trans (hb.mono (Nat.le_of_lt H.out.lt)))
  replace H := Lib.hid (H.out.ext hb)
  replace HX := Lib.hid (HX.out.ext hb)
  clear hb q0 q1 q2 q3
  obtain ⟨q0, q1, q2, q3⟩ := H.out.pair
  have HX2 := Lib.hid (HX.out.take (min n 120))
  have HL := Lib.hid (show min n 120 = (bs.take (min n 120)).length by have := HH.out.2; simp; omega)
  generalize bs.take (min n 120) = cs at *
  have hk : min n 120 ≤ c ∧ min n 120 ≤ 120 := by omega
  generalize min n 120 = k at *
  obtain ⟨hk1, hk2⟩ := hk
  unfold strm
  go_wp2_with fail
  have r := Lib.hid ((H.out.set 0 (.int .i64 f)).set 1 (.slice A k c))
  have rb := Lib.hid ((FB.out.setCell (p := ⟨B, 0, none⟩) (by simp) (.int .i64 f)).setCell (p := ⟨B, 1, none⟩) (by simp) (.slice A k c))
  have rx := Lib.hid (bytes_other (bytes_other HX2.out H.out (byte_no _ _ _ _) 0 (.int .i64 f)) (H.out.set 0 (.int .i64 f)) (byte_no f A n c) 1 (.slice A k c))
  generalize World.setCell (World.setCell _ _ _) _ _ = w4 at *
  clear q0 q1 q2 q3 H FB HX2 HX HH HM
  obtain ⟨q0, q1, q2, q3⟩ := (show Held w4 B [.int .i64 f, .slice A k c] from r.out).pair
  have hBs : B < w4.heap.size := r.out.lt
  refine (norm_any f A k c cs _ rx.out HL.out hk1 HCM.out (by omega) HF.out).mono ?_
  rintro e w5 ⟨⟨A5, c5, rfl, hx5, hc5, hm5⟩, hb⟩
  have r5 := Lib.hid (r.out.ext hb)
  have rb5 := Lib.hid (rb.out.trans (hb.mono (Nat.le_of_lt hBs)))
  have rx5 := Lib.hid (BytesAt.ext rx.out hb)
  have K5 := Lib.hid hx5
  have z5 : B ≤ w5.heap.size := Nat.le_of_lt r5.out.lt
  have HN5 := Lib.hid (prs_len cs)
  rw [← HL.out] at HN5
  have hml := lead_mid_le (prs cs)
  rw [HN5.out] at hml
  have HAT := Lib.hid (fun (i : Nat) (p : Pr) (hp : (prs cs)[i]? = some p) => nulls_at hp)
  have HNL := Lib.hid (show ∀ i, i < k / 2 → ∃ p, (prs cs)[i]? = some p from fun i hi => ⟨_, List.getElem?_eq_getElem (by rw [HN5.out]; exact hi)⟩)
  clear hb q0 q1 q2 q3 r rb rx hx5
  obtain ⟨N, hN⟩ : ∃ N, N = k / 2 := ⟨_, rfl⟩
  have e1 : ((k : Int).tdiv 2) = (N : Int) := by rw [Int.tdiv_eq_ediv_of_nonneg (by omega)]; omega
  have hNb : N ≤ 60 := by omega
  rw [← hN] at hml HNL
  have hNk : 2 * N ≤ k := by omega
  clear hN HN5
  by_cases hM : mid (prs cs) = []
  · rw [show fstV f (prs cs) = 0 from by rw [fstV, if_pos hM], hM]
    have HA := Lib.hid (fun (i : Nat) (p : Pr) (hp : (prs cs)[i]? = some p) => (HAT.out i p hp).1 hM)
    clear HAT K5 hM hml hc5 hm5
    unfold strm
    obtain ⟨B7, hB7⟩ : ∃ B7, B7 = w5.heap.size := ⟨_, rfl⟩
    go_wp2_with fail
    rw [← hB7]
    generalize hw7 : World.alloc _ _ = w7
    have s7 := Lib.hid (show Held w7 B7 [.int .i64 0, .slice A5 0 c5] by subst hw7; exact Held.new hB7)
    have r7 := Lib.hid (show Held w7 B [.int .i64 f, .slice A k c] by subst hw7; exact r5.out.alloc _)
    have rb7 := Lib.hid (show Below B w w7 by subst hw7; exact rb5.out.alloc z5 _)
    have rx7 := Lib.hid (show BytesAt w7 A cs by subst hw7; exact rx5.out.ext (below_one _ _))
    clear hw7 hB7 r5 rb5 rx5
    obtain ⟨q0, q1, q2, q3⟩ := r7.out.pair
    obtain ⟨p0, p1, p2, p3⟩ := s7.out.pair
    go_quiet (fail)
    generalize hw8 : w7.drewN _ = w8
    have r8 := Lib.hid (show Held w8 B [.int .i64 f, .slice A k c] by subst hw8; exact r7.out.drewN _)
    have s8 := Lib.hid (show Held w8 B7 [.int .i64 0, .slice A5 0 c5] by subst hw8; exact s7.out.drewN _)
    have rb8 := Lib.hid (show Below B w w8 by subst hw8; exact below_drewN rb7.out _)
    have rx8 := Lib.hid (show BytesAt w8 A cs by subst hw8; exact rx7.out.drewN _)
    clear hw8 r7 s7 rb7 rx7 q0 q1 q2 q3 p0 p1 p2 p3 e1
    obtain ⟨q0, q1, q2, q3⟩ := r8.out.pair
    obtain ⟨p0, p1, p2, p3⟩ := s8.out.pair
    by_cases hN0 : N = 0
    · have hNz : ((N : Int) == 0) = true := by simp [hN0]
      clear hN0
      go_wp2_with fail
      go_ret
      exact ⟨by simp, rb8.out⟩
    · have hNz : ((N : Int) == 0) = false := by rw [beq_eq_false_iff_ne]; omega
      obtain ⟨i, hi⟩ : ∃ i : Nat, u % (N : Int) = i := ⟨(u % (N : Int)).toNat, by have := Int.emod_nonneg u (show (N : Int) ≠ 0 by omega); omega⟩
      have hiN : i < N := by have := Int.emod_lt_of_pos u (show (0 : Int) < N by omega); omega
      have hi2 : u.tmod (N : Int) = i := by rw [Int.tmod_eq_emod_of_nonneg u0]; exact hi
      obtain ⟨p, hp⟩ := HNL.out i hiN
      have hpn := HA.out i p hp
      subst hpn
      obtain ⟨bA, oA, rfl, -⟩ := rx8.out.get (k := 0) (by rw [← HL.out]; omega)
      have hs : ∀ w', (Instr.slice 22 (.slice (some ⟨bA, oA, none⟩) k c) (some (.int .i64 (2 * (i : Int)))) (some (.int .i64 (2 * (i : Int) + 2))) none).run Tryd.prog w' = .ok (.slice (some ⟨bA, oA + 2 * i, none⟩) 2 (c - 2 * i)) w' := fun w' => by
        have := slice_lh (b := bA) (o := oA) (n := k) (c := c) (k := 2 * i) (r := 2 * i + 2) (x := 2 * (i : Int)) (y := 2 * (i : Int) + 2) (by omega) (by omega) (by omega) (by omega) (by omega) w'
        rw [show 2 * i + 2 - 2 * i = 2 from by omega] at this
        exact this
      have cv := conv_pair (c := c - 2 * i) rx8.out hp
      have hib : (i : Int) ≤ 60 := by omega
      have hN0' : (0 : Int) < N := by omega
      have hNb' : (N : Int) ≤ 60 := by omega
      clear hN0 hp HNL HA HF
      go_wp2_with fail
      go_ret
      exact ⟨ret_bool (by rw [pB_null]; rfl), rb8.out⟩
  · obtain ⟨M, hMM⟩ : ∃ M, M = mid (prs cs) := ⟨_, rfl⟩
    obtain ⟨q9, hq9, hq9n⟩ := trim_end ((prs cs).dropWhile isN) hM
    have HTE := Lib.hid (show M[M.length - 1]? = some q9 from by rw [hMM]; exact hq9)
    have HT0 := Lib.hid (show ∀ p, M[0]? = some p → isN p = false from fun p hp => by
      cases e : mid (prs cs) with
      | nil => exact absurd e hM
      | cons q r =>
        rw [hMM, e] at hp
        simp at hp
        rw [← hp]
        exact mid_head e)
    have HF2 := Lib.hid (show fstV f (prs cs) = wrap64 (f + ((lead (prs cs) : Nat) : Int)) by rw [fstV, if_neg hM])
    have hL0 : 0 < M.length := by rw [hMM]; exact List.length_pos_iff.2 hM
    have HA := Lib.hid (fun (i : Nat) (p : Pr) (hp : (prs cs)[i]? = some p) => And.intro ((HAT.out i p hp).2.1 hM) ((HAT.out i p hp).2.2 hM))
    rw [← hMM] at hml hc5 K5 HA ⊢
    obtain ⟨L, hL⟩ : ∃ L, L = M.length := ⟨_, rfl⟩
    rw [← hL] at hml hc5 hL0 HTE HA ⊢
    have HLM := Lib.hid hL
    generalize fstV f (prs cs) = F at *
    generalize lead (prs cs) = ld at *
    have HQN := Lib.hid hq9n
    clear HAT hM hMM hq9 hq9n hL
    unfold strm
    obtain ⟨B7, hB7⟩ : ∃ B7, B7 = w5.heap.size := ⟨_, rfl⟩
    go_wp2_with fail
    rw [← hB7]
    generalize hw7 : World.alloc _ _ = w7
    have s7 := Lib.hid (show Held w7 B7 [.int .i64 F, .slice A5 (2 * L) c5] by subst hw7; exact Held.new hB7)
    have r7 := Lib.hid (show Held w7 B [.int .i64 f, .slice A k c] by subst hw7; exact r5.out.alloc _)
    have rb7 := Lib.hid (show Below B w w7 by subst hw7; exact rb5.out.alloc z5 _)
    have rx7 := Lib.hid (show BytesAt w7 A cs by subst hw7; exact rx5.out.ext (below_one _ _))
    have K7 := Lib.hid (show BytesAt w7 A5 (flat M) by subst hw7; exact K5.out.ext (below_one _ _))
    clear hw7 hB7 r5 rb5 rx5 K5
    obtain ⟨q0, q1, q2, q3⟩ := r7.out.pair
    obtain ⟨p0, p1, p2, p3⟩ := s7.out.pair
    have e2 : (2 * (L : Int)).tdiv 2 = (L : Int) := by rw [Int.tdiv_eq_ediv_of_nonneg (by omega)]; omega
    go_quiet (fail)
    generalize hw8 : w7.drewN _ = w8
    have r8 := Lib.hid (show Held w8 B [.int .i64 f, .slice A k c] by subst hw8; exact r7.out.drewN _)
    have s8 := Lib.hid (show Held w8 B7 [.int .i64 F, .slice A5 (2 * L) c5] by subst hw8; exact s7.out.drewN _)
    have rb8 := Lib.hid (show Below B w w8 by subst hw8; exact below_drewN rb7.out _)
    have rx8 := Lib.hid (show BytesAt w8 A cs by subst hw8; exact rx7.out.drewN _)
    have K8 := Lib.hid (show BytesAt w8 A5 (flat M) by subst hw8; exact K7.out.drewN _)
    clear hw8 r7 s7 rb7 rx7 K7 q0 q1 q2 q3 p0 p1 p2 p3 e1 e2
    obtain ⟨q0, q1, q2, q3⟩ := r8.out.pair
    obtain ⟨p0, p1, p2, p3⟩ := s8.out.pair
    obtain ⟨pf, hpf⟩ : ∃ pf, M[0]? = some pf := ⟨_, List.getElem?_eq_getElem (by rw [← HLM.out]; exact hL0)⟩
    have hN0 : 0 < N := by omega
    have hNz : ((N : Int) == 0) = false := by rw [beq_eq_false_iff_ne]; omega
    obtain ⟨i, hi⟩ : ∃ i : Nat, u % (N : Int) = i := ⟨(u % (N : Int)).toNat, by have := Int.emod_nonneg u (show (N : Int) ≠ 0 by omega); omega⟩
    have hiN : i < N := by have := Int.emod_lt_of_pos u (show (0 : Int) < N by omega); omega
    have hi2 : u.tmod (N : Int) = i := by rw [Int.tmod_eq_emod_of_nonneg u0]; exact hi
    obtain ⟨p, hp⟩ := HNL.out i hiN
    have HAP := Lib.hid (HA.out i p hp)
    obtain ⟨bA, oA, rfl, -⟩ := rx8.out.get (k := 0) (by rw [← HL.out]; omega)
    obtain ⟨b5, o5, rfl, -⟩ := K8.out.get (k := 0) (by rw [flat_len, ← HLM.out]; omega)
    have hs : ∀ w', (Instr.slice 22 (.slice (some ⟨bA, oA, none⟩) k c) (some (.int .i64 (2 * (i : Int)))) (some (.int .i64 (2 * (i : Int) + 2))) none).run Tryd.prog w' = .ok (.slice (some ⟨bA, oA + 2 * i, none⟩) 2 (c - 2 * i)) w' := fun w' => by
      have := slice_lh (b := bA) (o := oA) (n := k) (c := c) (k := 2 * i) (r := 2 * i + 2) (x := 2 * (i : Int)) (y := 2 * (i : Int) + 2) (by omega) (by omega) (by omega) (by omega) (by omega) w'
      rw [show 2 * i + 2 - 2 * i = 2 from by omega] at this
      exact this
    have cv := conv_pair (c := c - 2 * i) rx8.out hp
    have hcc : 2 * L ≤ c5 := hc5
    have hcm5 : c5 ≤ 9223372036854775807 := by simpa [maxLen] using hm5
    have hs1 : ∀ w', (Instr.slice 22 (.slice (some ⟨b5, o5, none⟩) (2 * L) c5) none (some (.int .i64 2)) none).run Tryd.prog w' = .ok (.slice (some ⟨b5, o5, none⟩) 2 c5) w' := fun w' => by
      exact slice_hi (r := 2) rfl (by omega) (by omega) w'
    have hs2 : ∀ w', (Instr.slice 22 (.slice (some ⟨b5, o5, none⟩) (2 * L) c5) (some (.int .i64 (2 * (L : Int) - 2))) none none).run Tryd.prog w' = .ok (.slice (some ⟨b5, o5 + 2 * (L - 1), none⟩) 2 (c5 - 2 * (L - 1))) w' := fun w' => by
      have := slice_lo (b := b5) (o := o5) (n := 2 * L) (c := c5) (r := 2 * (L - 1)) (y := 2 * (L : Int) - 2) (by omega) (by omega) (by omega) (by omega) w'
      rw [show 2 * L - 2 * (L - 1) = 2 from by omega] at this
      exact this
    have cv1 : (convert 22 9 (.slice (some ⟨b5, o5, none⟩) 2 c5)).run Tryd.prog w8 = .ok (.string (pB pf)) w8 := conv_pair (k := 0) (c := c5) K8.out (by rw [prs_flat]; exact hpf)
    have cv2 := conv_pair (k := L - 1) (c := c5 - 2 * (L - 1)) K8.out (by rw [prs_flat]; exact HTE.out)
    have n1 : ((pB pf).toList == [128, 128]) = false := by rw [pB_null]; exact HT0.out _ hpf
    have n2 : ((pB q9).toList == [128, 128]) = false := by rw [pB_null]; exact HQN.out
    have hm2 : (2 * (L : Int)).tmod 2 = 0 := by rw [Int.tmod_eq_emod_of_nonneg (by omega)]; omega
    have hLz : ((L : Int) == 0) = false := by rw [beq_eq_false_iff_ne]; omega
    have hJ := wrap_sub (i := i) HF2.out (by omega) (by omega)
    obtain ⟨J, hJJ⟩ : ∃ J : Int, J = (i : Int) - (ld : Int) := ⟨_, rfl⟩
    rw [← hJJ] at hJ
    have hib : (i : Int) ≤ 60 := by omega
    have hN0' : (0 : Int) < N := by omega
    have hNb' : (N : Int) ≤ 60 := by omega
    have hL0' : (0 : Int) < L := by omega
    have HP := Lib.hid hp
    have hLb : L ≤ 60 := by omega
    clear hp hpf HNL HA HF HF2 HT0 HTE HQN hc5 hm5
    by_cases c1 : J < 0
    · have hpn := HAP.out.1 (.inl (by omega))
      subst hpn
      clear hJJ
      go_wp2_with fail
      go_ret
      exact ⟨ret_bool (by rw [pB_null]; rfl), rb8.out⟩
    · by_cases c2 : (L : Int) ≤ J
      · have hpn := HAP.out.1 (.inr (by omega))
        subst hpn
        clear hJJ
        go_wp2_with fail
        go_ret
        exact ⟨ret_bool (by rw [pB_null]; rfl), rb8.out⟩
      · obtain ⟨j, hj⟩ : ∃ j : Nat, J = j := ⟨J.toNat, by omega⟩
        have hjp := HAP.out.2 j (by omega) (by omega)
        subst hj
        have hs3 : ∀ w', (Instr.slice 22 (.slice (some ⟨b5, o5, none⟩) (2 * L) c5) (some (.int .i64 (2 * (j : Int)))) (some (.int .i64 (2 * (j : Int) + 2))) none).run Tryd.prog w' = .ok (.slice (some ⟨b5, o5 + 2 * j, none⟩) 2 (c5 - 2 * j)) w' := fun w' => by
          have := slice_lh (b := b5) (o := o5) (n := 2 * L) (c := c5) (k := 2 * j) (r := 2 * j + 2) (x := 2 * (j : Int)) (y := 2 * (j : Int) + 2) (by omega) (by omega) (by omega) (by omega) (by omega) w'
          rw [show 2 * j + 2 - 2 * j = 2 from by omega] at this
          exact this
        have cv3 := conv_pair (k := j) (c := c5 - 2 * j) K8.out (by rw [prs_flat]; exact hjp)
        have hj60 : (j : Int) ≤ 60 := by omega
        clear hJJ
        go_wp2_with fail
        go_ret
        exact ⟨ret_bool (by simp), rb8.out⟩
end Go.Proofs.YtbliilemjkjimaaDoor
