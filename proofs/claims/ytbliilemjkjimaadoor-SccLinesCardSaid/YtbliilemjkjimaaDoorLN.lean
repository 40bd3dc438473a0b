/-
  The contract of the law SccNorms. Its conditions are its hypotheses.
-/
import Derived.Test.YtbliilemjkjimaaDoorCm
import Derived.Test.YtbliilemjkjimaaDoorC4
import Derived.Deep.RegionHeld3
namespace Go.Proofs.YtbliilemjkjimaaDoor
open Go.RowKit Go.Joins
set_option linter.unusedVariables false
set_option linter.unusedSimpArgs false
theorem of_heap {w X : World} {A : Option Addr} {bs : List UInt8} (h : BytesAt w A bs) (hX : X.heap = w.heap) : BytesAt X A bs := fun k u hk => by
  obtain ⟨b, o, e, hc⟩ := h k u hk
  refine ⟨b, o, e, ?_⟩
  rw [← hc]
  simp [World.cell?, hX]
theorem ext_of {w X w' : World} {A : Option Addr} {bs : List UInt8} (h : BytesAt w A bs) (hX : X.heap = w.heap) (hb : Below X.heap.size X w') : BytesAt w' A bs := BytesAt.ext (of_heap h hX) hb
theorem norms_plain (f : Int) (A : Option Addr) (n c : Nat) (bs : List UInt8) (m : Int) (w : World) (h : BytesAt w A bs) (hn : n = bs.length) (hnc : n ≤ c) (hcm : c ≤ maxLen) (hf : -9223372036854775808 ≤ f ∧ f ≤ 9223372036854775807) (h0 : 0 ≤ m) (h1 : m ≤ 4294967295) (hmx : Mx w) (hne : (m % 512 == 0) = false) :
    Calls Tryd.prog 3 #[strm f A n c, .int .u32 m] w fun e w' => e = .returned (.bool true) ∧ Below w.heap.size w w' := by
  have hm : c ≤ 9223372036854775807 := by simpa [maxLen] using hcm
  have HH := Lib.hid (And.intro h hn)
  have HF := Lib.hid hf
  have HM := Lib.hid hmx
  have HCM := Lib.hid hcm
  clear h hn hf hmx hcm
  unfold strm
  obtain ⟨B, hB⟩ : ∃ B, B = w.heap.size := ⟨_, rfl⟩
  rw [← hB]
  go_enter Tryd.func3, Tryd.ntmps3
  go_wp2_with fail
  rw [← hB]
  generalize hw1 : World.alloc _ _ = w1
  have H := Lib.hid (show Held w1 B [.int .i64 f, .slice A n c] by subst hw1; exact Held.new hB)
  have FB := Lib.hid (show Below B w w1 by subst hw1; subst hB; exact below_one _ _)
  have HX := Lib.hid (show BytesAt w1 A bs from HH.out.1.ext (hB ▸ FB.out))
  replace HM := Lib.hid (show Mx w1 from HM.out.on (hB ▸ FB.out))
  clear hw1 hB
  refine (awake_any _ HM.out).mono ?_
  rintro e w2 ⟨rfl, hb⟩
  replace FB := Lib.hid (FB.out.trans (hb.mono (Nat.le_of_lt H.out.lt)))
  replace H := Lib.hid (H.out.ext hb)
  replace HX := Lib.hid (HX.out.ext hb)
  clear hb HM
  obtain ⟨q0, q1, q2, q3⟩ := H.out.pair
  go_wp2_with fail
  refine (few_any f A n c _ hnc HCM.out).mono ?_
  rintro e w3 ⟨rfl, hb⟩
  replace FB := Lib.hid (FB.out.trans (hb.mono (Nat.le_of_lt H.out.lt)))
  replace H := Lib.hid (H.out.ext hb)
  replace HX := Lib.hid (HX.out.ext hb)
  clear hb q0 q1 q2 q3
  obtain ⟨q0, q1, q2, q3⟩ := H.out.pair
  have HX2 := Lib.hid (HX.out.take (min n 120))
  have HL := Lib.hid (show min n 120 = (bs.take (min n 120)).length by have := HH.out.2; simp; omega)
  generalize bs.take (min n 120) = cs at *
  have hk : min n 120 ≤ c ∧ min n 120 ≤ 400003 := by omega
  generalize min n 120 = k at *
  obtain ⟨hk1, hk2⟩ := hk
  unfold strm
  go_wp2_with fail
  have r := Lib.hid ((H.out.set 0 (.int .i64 f)).set 1 (.slice A k c))
  have rb := Lib.hid ((FB.out.setCell (p := ⟨B, 0, none⟩) (by simp) (.int .i64 f)).setCell (p := ⟨B, 1, none⟩) (by simp) (.slice A k c))
  have rx := Lib.hid (bytes_other (bytes_other HX2.out H.out (byte_no _ _ _ _) 0 (.int .i64 f)) (H.out.set 0 (.int .i64 f)) (byte_no f A n c) 1 (.slice A k c))
  generalize World.setCell (World.setCell _ _ _) _ _ = w4 at *
  clear q0 q1 q2 q3 H FB HX2 HX HH
  obtain ⟨q0, q1, q2, q3⟩ := (show Held w4 B [.int .i64 f, .slice A k c] from r.out).pair
  have fbb : Below w4.heap.size w4 w4 := Below.refl _ _
  have hBs : B < w4.heap.size := r.out.lt
  go_region_held3 (fun w9 => w9.cell? ⟨B, 0, none⟩ = some (.int .i64 f) ∧ w9.cell? ⟨B, 1, none⟩ = some (.slice A k c) ∧ Below w4.heap.size w4 w9)
    ((refine ⟨?_, ?_, ?_⟩ <;> first
        | assumption
        | exact Below.drew ‹_›
        | exact (hb.cell (Nat.lt_of_lt_of_le hBs hks)).trans hk0
        | exact (hb.cell (Nat.lt_of_lt_of_le hBs hks)).trans hk1
        | exact bthen hkb hb))
    (first
      | (go_at_call 13; obtain ⟨hk0, hk1, hkb⟩ := ‹_ ∧ _ ∧ Below w4.heap.size w4 _›; have hks := hkb.size; refine (norm_any f A k c cs _ (BytesAt.ext rx.out hkb) HL.out (by omega) HCM.out (by omega) HF.out).mono ?_; rintro e wn ⟨⟨A1, c1, rfl, hx1, hc1, hm1⟩, hb⟩; unfold strm; have K1 := Lib.hid hx1; clear hx1 hc1 hm1; try (replace K2 := Lib.hid (ext_of K2.out rfl hb)))
      | (go_at_call 14; obtain ⟨hk0, hk1, hkb⟩ := ‹_ ∧ _ ∧ Below w4.heap.size w4 _›; have hks := hkb.size; refine (normr_any f A k c cs _ (BytesAt.ext rx.out hkb) HL.out (by omega) HCM.out (by omega) HF.out).mono ?_; rintro e wm ⟨⟨A2, c2, rfl, hx2, hc2, hm2⟩, hb⟩; unfold strm; have K2 := Lib.hid hx2; clear hx2 hc2 hm2; try (replace K1 := Lib.hid (ext_of K1.out rfl hb)))
      | (go_at_call 12; obtain ⟨hk0, hk1, hkb⟩ := ‹_ ∧ _ ∧ Below w4.heap.size w4 _›; have hks := hkb.size; refine (same_any _ _ A1 A2 _ _ c1 c2 (flat (mid (prs cs))) (flat (mid (prs cs))) _ (of_heap K1.out rfl) (of_heap K2.out rfl) (flat_len _).symm (flat_len _).symm).mono ?_; rintro e ws ⟨rfl, hb⟩; simp only [beq_self_eq_true, Bool.and_self])
      | (go_at_call 15; obtain ⟨hk0, hk1, hkb⟩ := ‹_ ∧ _ ∧ Below w4.heap.size w4 _›; have hks := hkb.size; refine (check_any f A k c _ (by omega)).mono ?_; rintro e wc ⟨rfl, hb⟩)
      | (go_at_call 16; obtain ⟨hk0, hk1, hkb⟩ := ‹_ ∧ _ ∧ Below w4.heap.size w4 _›; have hks := hkb.size; refine (checkr_any f A k c _ (by omega)).mono ?_; rintro e wd ⟨rfl, hb⟩))
  all_goals
    obtain ⟨_, _, hkb⟩ := ‹_ ∧ _ ∧ Below w4.heap.size w4 _›
    have HKB := Lib.hid (rb.out.trans (hkb.mono (Nat.le_of_lt hBs)))
    clear hkb
    go_wp2_with fail
    go_ret
    exact ⟨by first | rfl | simp, HKB.out⟩
end Go.Proofs.YtbliilemjkjimaaDoor
