/-
  The contract of the law SccNorms where the bytes are made anew. Its conditions are its hypotheses.
-/
import Derived.Test.YtbliilemjkjimaaDoorLN
namespace Go.Proofs.YtbliilemjkjimaaDoor
open Go.RowKit Go.Joins
set_option linter.unusedVariables false
set_option linter.unusedSimpArgs false
theorem size_setCell' (w : World) (p : Addr) (v : Value) : (w.setCell p v).heap.size = w.heap.size := by simp
theorem made_zeros (N : Nat) : (madeCells #[Value.int .u8 0] N).toList = (List.replicate N (0 : UInt8)).map byteV := by
  rw [List.map_replicate]
  apply List.ext_getElem
  · simp [madeCells]
  · intro i h1 h2
    simp [madeCells, byteV, Nat.mod_one]
set_option maxRecDepth 100000 in
theorem norms_make (f : Int) (A : Option Addr) (n c : Nat) (bs : List UInt8) (m : Int) (w : World) (h : BytesAt w A bs) (hn : n = bs.length) (hnc : n ≤ c) (hcm : c ≤ maxLen) (hf : -9223372036854775808 ≤ f ∧ f ≤ 9223372036854775807) (h0 : 0 ≤ m) (h1 : m ≤ 4294967295) (hmx : Mx w) (hne : (m % 512 == 0) = true) :
    Calls Tryd.prog 3 #[strm f A n c, .int .u32 m] w fun e w' => e = .returned (.bool true) ∧ Below w.heap.size w w' := by
  have hm : c ≤ 9223372036854775807 := by simpa [maxLen] using hcm
  have HH := Lib.hid (And.intro h hn)
  have HF := Lib.hid hf
  have HM := Lib.hid hmx
  have HCM := Lib.hid hcm
  clear h hn hf hmx hcm
  unfold strm
  obtain ⟨B, hB⟩ : ∃ B, B = w.heap.size := ⟨_, rfl⟩
  rw [← hB]
  go_enter Tryd.func3, Tryd.ntmps3
  go_wp2_with fail
  rw [← hB]
  generalize hw1 : World.alloc _ _ = w1
  have H := Lib.hid (show Held w1 B [.int .i64 f, .slice A n c] by subst hw1; exact Held.new hB)
  have FB := Lib.hid (show Below B w w1 by subst hw1; subst hB; exact below_one _ _)
  have HX := Lib.hid (show BytesAt w1 A bs from HH.out.1.ext (hB ▸ FB.out))
  replace HM := Lib.hid (show Mx w1 from HM.out.on (hB ▸ FB.out))
  clear hw1 hB
  refine (awake_any _ HM.out).mono ?_
  rintro e w2 ⟨rfl, hb⟩
  replace FB := Lib.hid (FB.out.trans (hb.mono (Nat.le_of_lt H.out.lt)))
  replace H := Lib.hid (H.out.ext hb)
  replace HX := Lib.hid (HX.out.ext hb)
  clear hb HM
  obtain ⟨q0, q1, q2, q3⟩ := H.out.pair
  go_wp2_with fail
  refine (few_any f A n c _ hnc HCM.out).mono ?_
  rintro e w3 ⟨rfl, hb⟩
  replace FB := Lib.hid (FB.out.trans (hb.mono (Nat.le_of_lt H.out.lt)))
  replace H := Lib.hid (H.out.ext hb)
  replace HX := Lib.hid (HX.out.ext hb)
  clear hb q0 q1 q2 q3
  obtain ⟨q0, q1, q2, q3⟩ := H.out.pair
  have HX2 := Lib.hid (HX.out.take (min n 120))
  have HL := Lib.hid (show min n 120 = (bs.take (min n 120)).length by have := HH.out.2; simp; omega)
  generalize bs.take (min n 120) = cs at *
  have hk : min n 120 ≤ c ∧ min n 120 ≤ 400003 := by omega
  generalize min n 120 = k at *
  obtain ⟨hk1, hk2⟩ := hk
  unfold strm
  obtain ⟨N, hN⟩ : ∃ N : Nat, (399998 + m / 512 % 6 : Int) = N := ⟨(399998 + m / 512 % 6).toNat, by omega⟩
  have hN2 : N ≤ 400003 := by omega
  obtain ⟨i0, hi, hz0, hz1, hz2⟩ := info_parts i5
  have HI0 := Lib.hid (And.intro hi (And.intro hz0 (And.intro hz1 hz2)))
  have HNN := Lib.hid hN
  clear hi hz0 hz1 hz2 hN
  have hb0 : 0 ≤ m / 512 ∧ m / 512 ≤ 8388607 := by omega
  have hb1 : 0 ≤ m / 512 % 6 ∧ m / 512 % 6 ≤ 5 := by omega
  obtain ⟨g, hg⟩ : ∃ g, g = w3.heap.size := ⟨_, rfl⟩
  have hBg : B < g := by rw [hg]; exact H.out.lt
  have hBw3 : B < w3.heap.size := H.out.lt
  have HG := Lib.hid hg
  have HY1 := Lib.hid (show i0.bytes * N ≤ 281474976710656 by rw [HI0.out.2.2.2]; omega)
  have HY2 := Lib.hid (show N ≤ maxLen by simp only [maxLen]; omega)
  have HY3 := Lib.hid (show B + 1 ≤ ((w3.setCell ⟨B, 0, none⟩ (.int .i64 f)).setCell ⟨B, 1, none⟩ (.slice A k c)).heap.size by simp; omega)
  clear hg
  go_wp2_with (refine wpList_make_full _ rfl (.tmp 16) (.tmp 16) 22 rfl (B + 1) 5 i0 (.int .u8 0) 1 Tryd.underlying22 HI0.out.1 HI0.out.2.1 HI0.out.2.2.1 .i64 .i64 (399998 + m / 512 % 6) (399998 + m / 512 % 6) N rfl rfl HNN.out HNN.out HY1.out HY2.out HY3.out ?_)
  intro w5 ho hgr
  have HR := Lib.hid ((((H.out.set 0 (.int .i64 f)).set 1 (.slice A k c)).grown hgr (by simp)))
  have FB5 := Lib.hid (below_grown ((FB.out.setCell (p := ⟨B, 0, none⟩) (by simp) (.int .i64 f)).setCell (p := ⟨B, 1, none⟩) (by simp) (.slice A k c)) (by simp; omega) hgr)
  obtain ⟨A9, c9, e9, r9, _, _, _⟩ := row_of_own ho
  cases e9
  have HXN := Lib.hid (show BytesAt w5 (some ⟨w3.heap.size, 0, none⟩) (List.replicate N 0) from by rw [made_zeros] at r9; exact r9)
  rw [← HG.out] at HXN ⊢
  clear ho hgr r9 q0 q1 q2 q3
  obtain ⟨q0, q1, q2, q3⟩ := (show Held w5 B [.int .i64 f, .slice A k c] from HR.out).pair
  go_wp2_with fail
  have r := Lib.hid (HR.out.set 1 (.slice (some ⟨g, 0, none⟩) N N))
  have rb := Lib.hid (FB5.out.setCell (p := ⟨B, 1, none⟩) (by simp) (.slice (some ⟨g, 0, none⟩) N N))
  have rx := Lib.hid (bytes_other HXN.out HR.out (byte_no f A k c) 1 (.slice (some ⟨g, 0, none⟩) N N))
  have HLN := Lib.hid (show N = (List.replicate N (0 : UInt8)).length by simp)
  have HCN := Lib.hid HY2.out
  clear q0 q1 q2 q3 HY3
  generalize w5.setCell _ _ = w4 at *
  obtain ⟨q0, q1, q2, q3⟩ := (show Held w4 B [.int .i64 f, .slice (some ⟨g, 0, none⟩) N N] from r.out).pair
  have fbb : Below w4.heap.size w4 w4 := Below.refl _ _
  have hBs : B < w4.heap.size := r.out.lt
  go_region_held3 (fun w9 => w9.cell? ⟨B, 0, none⟩ = some (.int .i64 f) ∧ w9.cell? ⟨B, 1, none⟩ = some (.slice (some ⟨g, 0, none⟩) N N) ∧ Below w4.heap.size w4 w9)
    ((refine ⟨?_, ?_, ?_⟩ <;> first
        | assumption
        | exact Below.drew ‹_›
        | exact (hb.cell (Nat.lt_of_lt_of_le hBs hks)).trans hk0
        | exact (hb.cell (Nat.lt_of_lt_of_le hBs hks)).trans hk1
        | exact bthen hkb hb))
    (first
      | (go_at_call 13; obtain ⟨hk0, hk1, hkb⟩ := ‹_ ∧ _ ∧ Below w4.heap.size w4 _›; have hks := hkb.size; refine (norm_any f (some ⟨g, 0, none⟩) N N (List.replicate N 0) _ (BytesAt.ext rx.out hkb) HLN.out (by omega) HCN.out (by omega) HF.out).mono ?_; rintro e wn ⟨⟨A1, c1, rfl, hx1, hc1, hm1⟩, hb⟩; unfold strm; have K1 := Lib.hid hx1; clear hx1 hc1 hm1; try (replace K2 := Lib.hid (ext_of K2.out rfl hb)))
      | (go_at_call 14; obtain ⟨hk0, hk1, hkb⟩ := ‹_ ∧ _ ∧ Below w4.heap.size w4 _›; have hks := hkb.size; refine (normr_any f (some ⟨g, 0, none⟩) N N (List.replicate N 0) _ (BytesAt.ext rx.out hkb) HLN.out (by omega) HCN.out (by omega) HF.out).mono ?_; rintro e wm ⟨⟨A2, c2, rfl, hx2, hc2, hm2⟩, hb⟩; unfold strm; have K2 := Lib.hid hx2; clear hx2 hc2 hm2; try (replace K1 := Lib.hid (ext_of K1.out rfl hb)))
      | (go_at_call 12; obtain ⟨hk0, hk1, hkb⟩ := ‹_ ∧ _ ∧ Below w4.heap.size w4 _›; have hks := hkb.size; refine (same_any _ _ A1 A2 _ _ c1 c2 (flat (mid (prs (List.replicate N 0)))) (flat (mid (prs (List.replicate N 0)))) _ (of_heap K1.out rfl) (of_heap K2.out rfl) (flat_len _).symm (flat_len _).symm).mono ?_; rintro e ws ⟨rfl, hb⟩; simp only [beq_self_eq_true, Bool.and_self])
      | (go_at_call 15; obtain ⟨hk0, hk1, hkb⟩ := ‹_ ∧ _ ∧ Below w4.heap.size w4 _›; have hks := hkb.size; refine (check_any f (some ⟨g, 0, none⟩) N N _ (by omega)).mono ?_; rintro e wc ⟨rfl, hb⟩)
      | (go_at_call 16; obtain ⟨hk0, hk1, hkb⟩ := ‹_ ∧ _ ∧ Below w4.heap.size w4 _›; have hks := hkb.size; refine (checkr_any f (some ⟨g, 0, none⟩) N N _ (by omega)).mono ?_; rintro e wd ⟨rfl, hb⟩))
  all_goals
    obtain ⟨_, _, hkb⟩ := ‹_ ∧ _ ∧ Below w4.heap.size w4 _›
    have HKB := Lib.hid (rb.out.trans (hkb.mono (Nat.le_of_lt hBs)))
    clear hkb
    go_wp2_with fail
    go_ret
    exact ⟨by first | rfl | simp, HKB.out⟩
theorem norms_law (f : Int) (A : Option Addr) (n c : Nat) (bs : List UInt8) (m : Int) (w : World) (h : BytesAt w A bs) (hn : n = bs.length) (hnc : n ≤ c) (hcm : c ≤ maxLen) (hf : -9223372036854775808 ≤ f ∧ f ≤ 9223372036854775807) (h0 : 0 ≤ m) (h1 : m ≤ 4294967295) (hmx : Mx w) :
    Calls Tryd.prog 3 #[strm f A n c, .int .u32 m] w fun e w' => e = .returned (.bool true) ∧ Below w.heap.size w w' := by
  cases hne : (m % 512 == 0) with
  | false => exact norms_plain f A n c bs m w h hn hnc hcm hf h0 h1 hmx hne
  | true => exact norms_make f A n c bs m w h hn hnc hcm hf h0 h1 hmx hne
end Go.Proofs.YtbliilemjkjimaaDoor
