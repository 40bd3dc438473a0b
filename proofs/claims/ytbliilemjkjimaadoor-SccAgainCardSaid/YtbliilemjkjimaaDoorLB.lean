/-
  The contract of the law SccBack. Its conditions are its hypotheses.
-/
import Derived.Test.YtbliilemjkjimaaDoorCm
import Derived.Test.YtbliilemjkjimaaDoorLN
import Derived.Test.YtbliilemjkjimaaDoorSy
namespace Go.Proofs.YtbliilemjkjimaaDoor
open Go.RowKit Go.Joins
set_option linter.unusedVariables false
set_option linter.unusedSimpArgs false
theorem print_err {f : Int} {s : List UInt8} {d : Bool} (h : (printV f s d).2 ≠ 0) : (printV f s d).1 = [] := by
  unfold printV at *
  split
  · rfl
  · rename_i h2
    rw [if_neg h2] at h
    unfold printN at *
    split
    · rfl
    · rename_i h3
      rw [if_neg h3] at h
      exact absurd rfl h
theorem printV_chk {f : Int} {s : List UInt8} {d : Bool} (h : (printV f s d).2 = 0) : chkS f s.length = 0 := by
  unfold printV at h
  split at h
  · rename_i h2; exact absurd h h2
  · rename_i h2; simpa using h2
set_option maxHeartbeats 400000 in
theorem back_any (f : Int) (A : Option Addr) (n c : Nat) (bs : List UInt8) (d : Bool) (w : World) (h : BytesAt w A bs) (hn : n = bs.length) (hnc : n ≤ c) (hcm : c ≤ maxLen) (hf : -9223372036854775808 ≤ f ∧ f ≤ 9223372036854775807) (hmx : Mx w) :
    Calls Tryd.prog 6 #[strm f A n c, .bool d] w fun e w' => e = .returned (.bool true) ∧ Below w.heap.size w w' := by
  have hm : c ≤ 9223372036854775807 := by simpa [maxLen] using hcm
  have HH := Lib.hid (And.intro h hn)
  have HF := Lib.hid hf
  have HM := Lib.hid hmx
  have HCM := Lib.hid hcm
  clear h hn hf hmx hcm
  unfold strm
  obtain ⟨B, hB⟩ : ∃ B, B = w.heap.size := ⟨_, rfl⟩
  rw [← hB]
  have MX := Lib.hid (fun (w' : World) (hb : Below B w w') => show Mx w' from HM.out.on (by rw [← hB]; exact hb))
  go_enter Tryd.func6, Tryd.ntmps6
  go_wp2_with fail
  rw [← hB]
  generalize hw1 : World.alloc _ _ = w1
  have H := Lib.hid (show Held w1 B [.int .i64 f, .slice A n c] by subst hw1; exact Held.new hB)
  have FB := Lib.hid (show Below B w w1 by subst hw1; subst hB; exact below_one _ _)
  have HX := Lib.hid (show BytesAt w1 A bs from HH.out.1.ext (hB ▸ FB.out))
  clear hw1 hB
  refine (awake_any _ (MX.out _ FB.out)).mono ?_
  rintro e w2 ⟨rfl, hb⟩
  replace FB := Lib.hid (FB.out.trans (hb.mono (Nat.le_of_lt H.out.lt)))
  replace H := Lib.hid (H.out.ext hb)
  replace HX := Lib.hid (HX.out.ext hb)
  clear hb
  obtain ⟨q0, q1, q2, q3⟩ := H.out.pair
  go_wp2_with fail
  refine (few_any f A n c _ hnc HCM.out).mono ?_
  rintro e w3 ⟨rfl, hb⟩
  replace FB := Lib.hid (FB.out.trans (hb.mono (Nat.le_of_lt H.out.lt)))
  replace H := Lib.hid (H.out.ext hb)
  replace HX := Lib.hid (HX.out.ext hb)
  clear hb q0 q1 q2 q3
  obtain ⟨q0, q1, q2, q3⟩ := H.out.pair
  have HX2 := Lib.hid (HX.out.take (min n 120))
  have HL := Lib.hid (show min n 120 = (bs.take (min n 120)).length by have := HH.out.2; simp; omega)
  generalize bs.take (min n 120) = cs at *
  have hk : min n 120 ≤ c ∧ min n 120 ≤ 120 := by omega
  generalize min n 120 = k at *
  obtain ⟨hk1, hk2⟩ := hk
  unfold strm
  go_wp2_with fail
  have r := Lib.hid ((H.out.set 0 (.int .i64 f)).set 1 (.slice A k c))
  have rb := Lib.hid ((FB.out.setCell (p := ⟨B, 0, none⟩) (by simp) (.int .i64 f)).setCell (p := ⟨B, 1, none⟩) (by simp) (.slice A k c))
  have rx := Lib.hid (bytes_other (bytes_other HX2.out H.out (byte_no _ _ _ _) 0 (.int .i64 f)) (H.out.set 0 (.int .i64 f)) (byte_no f A n c) 1 (.slice A k c))
  generalize World.setCell (World.setCell _ _ _) _ _ = w4 at *
  clear q0 q1 q2 q3 H FB HX2 HX HH HM
  obtain ⟨q0, q1, q2, q3⟩ := (show Held w4 B [.int .i64 f, .slice A k c] from r.out).pair
  have hBs : B < w4.heap.size := r.out.lt
  refine (print_any f A k c cs d _ rx.out HL.out hk1 HCM.out).mono ?_
  rintro e w5 ⟨rfl, hb⟩
  have r5 := Lib.hid (r.out.ext hb)
  have rb5 := Lib.hid (rb.out.trans (hb.mono (Nat.le_of_lt hBs)))
  have rx5 := Lib.hid (BytesAt.ext rx.out hb)
  clear hb q0 q1 q2 q3 r rb rx
  have HP := Lib.hid (show printV f cs d = printV f cs d from rfl)
  unfold prB
  have HS := Lib.hid (print_short (f := f) (s := cs) (d := d))
  have HE := Lib.hid (print_err (f := f) (s := cs) (d := d))
  have HC := Lib.hid (printV_chk (f := f) (s := cs) (d := d))
  have HBK := Lib.hid (back (f := f) (s := cs) (d := d))
  generalize printV f cs d = R at *
  obtain ⟨T, x⟩ := R
  simp only [] at *
  by_cases hx : x = 0
  · have hxb : (x != 0) = false := by simp [hx]
    have HK := Lib.hid (HBK.out hx)
    have HCH := Lib.hid (chkS_zero (HC.out hx))
    have HTL := Lib.hid (show (⟨T.toArray⟩ : ByteArray).size ≤ 1000000 by
      have h1 := HS.out
      have h2 := nn_len (prs cs)
      rw [prs_len, ← HL.out] at h2
      show T.toArray.size ≤ _
      simp only [List.size_toArray]
      omega)
    clear hx HE HBK HS HC
    go_wp2_with fail
    refine (parse31_any ⟨T.toArray⟩ _ HTL.out (MX.out _ rb5.out)).mono ?_
    rintro e w6 ⟨h1, hb⟩
    rw [show ((⟨T.toArray⟩ : ByteArray).data.toList) = T from rfl, HK.out] at h1
    obtain ⟨A6, c6, rfl, hx6, hc6, hm6⟩ := h1
    have r6 := Lib.hid (r5.out.ext hb)
    have rb6 := Lib.hid (rb5.out.trans (hb.mono (Nat.le_of_lt r5.out.lt)))
    have rx6 := Lib.hid (rx5.out.ext hb)
    have K6 := Lib.hid hx6
    have e2 := normV_2 f (prs cs)
    have HN := Lib.hid (fstV_norm (f := f) (l := prs cs) HCH.out.2.2.1 HCH.out.2.2.2 (by rw [prs_len, ← HL.out]; omega))
    rw [e2] at hc6 K6
    rw [e2]
    generalize (normV f (prs cs)).1 = F at *
    unfold strm
    clear hb hx6 HK e2
    have za0 : ∀ o, (w6.alloc o).cell? ⟨B, 0, none⟩ = some (.int .i64 f) := fun o => (r6.out.alloc o).cell 0
    have za1 : ∀ o, (w6.alloc o).cell? ⟨B, 1, none⟩ = some (.slice A k c) := fun o => (r6.out.alloc o).cell 1
    obtain ⟨B7, hB7⟩ : ∃ B7, B7 = w6.heap.size := ⟨_, rfl⟩
    go_wp2_with fail
    rw [← hB7]
    generalize hw7 : World.alloc _ _ = w7
    have s7 := Lib.hid (show Held w7 B7 [.int .i64 F, .slice A6 (2 * (mid (prs cs)).length) c6] by subst hw7; exact Held.new hB7)
    have g7 := Lib.hid (show Below w6.heap.size w6 w7 by subst hw7; exact below_one _ _)
    have rb7 := Lib.hid (rb6.out.trans (g7.out.mono (Nat.le_of_lt r6.out.lt)))
    have rx7 := Lib.hid (rx6.out.ext g7.out)
    have K7 := Lib.hid (K6.out.ext g7.out)
    have z7 : B ≤ w7.heap.size := by have := g7.out.size; have := r6.out.lt; omega
    clear hw7 hB7 za0 za1 g7
    refine (norm_any f A k c cs _ rx7.out HL.out hk1 HCM.out (by omega) HF.out).mono ?_
    rintro e w8 ⟨⟨A8, c8, rfl, hx8, hc8, hm8⟩, hb⟩
    rw [HN.out]
    unfold strm
    have s8 := Lib.hid (s7.out.ext hb)
    have rb8 := Lib.hid (rb7.out.trans (hb.mono z7))
    have K8 := Lib.hid (K7.out.ext hb)
    have J8 := Lib.hid hx8
    have z8 : B ≤ w8.heap.size := Nat.le_trans z7 hb.size
    clear hb hx8 hm8 hm6 hc8 hc6
    have za0 : ∀ o, (w8.alloc o).cell? ⟨B7, 0, none⟩ = some (.int .i64 F) := fun o => (s8.out.alloc o).cell 0
    have za1 : ∀ o, (w8.alloc o).cell? ⟨B7, 1, none⟩ = some (.slice A6 (2 * (mid (prs cs)).length) c6) := fun o => (s8.out.alloc o).cell 1
    have c1 := fun o => conv_bytes (K8.out.ext (below_one w8 o)) (2 * (mid (prs cs)).length) c6 (flat_len _).symm
    have c2 := fun o => conv_bytes (J8.out.ext (below_one w8 o)) (2 * (mid (prs cs)).length) c8 (flat_len _).symm
    go_wp2_with fail
    go_ret
    exact ⟨by simp, rb8.out.alloc z8 _⟩
  · have hxb : (x != 0) = true := by simpa using hx
    have e0 : T = [] := HE.out hx
    subst e0
    clear hx HE HBK HC
    go_wp2_with fail
    go_ret
    exact ⟨rfl, rb5.out⟩
end Go.Proofs.YtbliilemjkjimaaDoor
