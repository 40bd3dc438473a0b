/-
  The contracts of Decimal and Text in the reference. Their conditions are their hypotheses.
-/
import Derived.Test.YtdccjkbhmpfcmaaDoorR7
namespace Go.Proofs.YtdccjkbhmpfcmaaDoor
open Go.RowKit
set_option linter.unusedVariables false
set_option linter.unusedSimpArgs false
theorem itoa_dec' {n : Int} (h : 0 ≤ n) : Lib.itoa n = Lib.decDigits n.toNat := by rw [Lib.itoa, if_neg (by omega)]
theorem itoa_small {n : Int} (h0 : 0 ≤ n) (h : n < 10) : itoaB n = ⟨#[UInt8.ofNat (48 + n % 10).toNat]⟩ := by
  rw [itoaB, itoa_dec' h0, Lib.decDigits, dif_pos (by omega), show (48 + n % 10).toNat = 48 + n.toNat by omega]
theorem itoa_big {n : Int} (h : 10 ≤ n) : itoaB n = itoaB (n / 10) ++ ⟨#[UInt8.ofNat (48 + n % 10).toNat]⟩ := by
  have e : Lib.itoa n = Lib.itoa (n / 10) ++ [UInt8.ofNat (48 + n % 10).toNat] := by
    rw [itoa_dec' (by omega), itoa_dec' (by omega), Lib.decDigits, dif_neg (by omega)]
    rw [show (n / 10).toNat = n.toNat / 10 by omega, show (48 + n % 10).toNat = 48 + n.toNat % 10 by omega]
  rw [itoaB, e]
  exact ByteArray.ext (by simp [itoaB])
theorem itoa_minus {n : Int} (h : n < 0) : itoaB n = ⟨#[45]⟩ ++ itoaB (-n) := by
  have e : Lib.itoa n = 45 :: Lib.itoa (-n) := by
    rw [Lib.itoa, if_pos h, itoa_dec' (by omega), show (-n).toNat = n.natAbs by omega]
  rw [itoaB, e]
  exact ByteArray.ext (by simp [itoaB])
theorem one_string (w : World) (n : Int) :
    (convert 63 9 (.slice (some ⟨w.heap.size, 0, none⟩) 1 1)).run Tryd.prog (w.alloc (.cells #[.int .u8 n] 5)) = .ok (.string ⟨#[UInt8.ofNat n.toNat]⟩) (w.alloc (.cells #[.int .u8 n] 5)) := by
  have := run_convert_bytes_arg (P := Tryd.prog) (w.alloc (.cells #[.int .u8 n] 5)) 63 5 Tryd.underlying63 Tryd.underlying5 w.heap.size 0 1 1 [n] rfl (fun i hi => by
    obtain rfl : i = 0 := by omega
    simp [go_sem]) 9 Tryd.underlying9
  exact this
theorem decimal_nat : ∀ (k : Nat) (n : Int) (w : World), n.toNat ≤ k → 0 ≤ n → n ≤ 9223372036854775807 →
    Calls Tryd.prog 48 #[.int .i64 n] w fun e w' => e = .returned (.string (itoaB n)) ∧ Below w.heap.size w w' := by
  intro k
  have small : ∀ (n : Int) (w : World), 0 ≤ n → n < 10 → Calls Tryd.prog 48 #[.int .i64 n] w fun e w' => e = .returned (.string (itoaB n)) ∧ Below w.heap.size w w' := by
    intro n w h0 hs
    have HI := Lib.hid (itoa_small h0 hs)
    have kc := one_string
    go_enter Tryd.func48, Tryd.ntmps48
    go_wp2_with fail
    go_ret
    exact ⟨by rw [HI.out]; rfl, (Below.refl _ _).alloc (Nat.le_refl _) _⟩
  induction k with
  | zero => exact fun n w hk h0 h1 => small n w h0 (by omega)
  | succ k ih =>
    intro n w hk h0 h1
    by_cases hs : n < 10
    · exact small n w h0 hs
    · have HI := Lib.hid (itoa_big (n := n) (by omega))
      have z1 := itoaB_size (n := n / 10) (by omega) (by omega)
      have kc := one_string
      go_enter Tryd.func48, Tryd.ntmps48
      go_wp2_with fail
      refine (ih (n / 10) _ (by omega) (by omega) (by omega)).mono ?_
      rintro e w2 ⟨rfl, hb2⟩
      have HB2 := Lib.hid ((below_one _ _).trans (hb2.mono (by simp)))
      clear hb2
      go_wp2_with fail
      go_ret
      exact ⟨by rw [HI.out]; rfl, HB2.out⟩
theorem decimal_any (n : Int) (w : World) (h0 : -9223372036854775807 ≤ n) (h1 : n ≤ 9223372036854775807) :
    Calls Tryd.prog 48 #[.int .i64 n] w fun e w' => e = .returned (.string (itoaB n)) ∧ Below w.heap.size w w' := by
  by_cases hn : n < 0
  · have HI := Lib.hid (itoa_minus hn)
    have z1 := itoaB_size (n := -n) (by omega) (by omega)
    go_enter Tryd.func48, Tryd.ntmps48
    go_wp2_with fail
    refine (decimal_nat _ (-n) _ (Nat.le_refl _) (by omega) (by omega)).mono ?_
    rintro e w2 ⟨rfl, hb2⟩
    go_wp2_with fail
    go_ret
    exact ⟨by rw [HI.out]; rfl, hb2⟩
  · exact decimal_nat _ n w (Nat.le_refl _) (by omega) h1
theorem textr_any (n d : Int) (w : World) (hn : I64 n) (hd : I64 d) :
    Calls Tryd.prog 23 #[rat n d] w fun e w' => e = .returned (.string (textB n d)) ∧ Below w.heap.size w w' := by
  have HN := Lib.hid hn
  have HD := Lib.hid hd
  clear hn hd
  obtain ⟨T, hT⟩ : ∃ T, T = textB n d := ⟨_, rfl⟩
  have HTX := Lib.hid hT
  rw [← hT]
  obtain ⟨B, hB⟩ : ∃ B, B = w.heap.size := ⟨_, rfl⟩
  have HB := Lib.hid hB
  rw [← hB]
  clear hT
  go_enter Tryd.func23, Tryd.ntmps23
  go_wp2_with fail
  rw [← hB]
  generalize hw1 : World.alloc _ _ = w1
  have f0 : Held w1 B [.int .i64 n, .int .i64 d] := by subst hw1; exact Held.new hB
  have fb : Below B w w1 := by subst hw1; rw [hB]; exact below_one _ _
  have fs : B + 1 ≤ w1.heap.size := by subst hw1; simp [hB]
  clear hw1 hB
  refine (validr_any n d _ HN.out HD.out).mono ?_
  rintro e w2 ⟨rfl, hb⟩
  have FB := Lib.hid (fb.trans (hb.mono (by omega)))
  have fs2 := Nat.le_trans fs hb.size
  have F0 := Lib.hid (f0.ext hb)
  clear hb fb f0 fs
  cases hv : validV n d with
  | false =>
    have HT2 := Lib.hid (HTX.out.trans (textB_bad hv))
    clear hv
    go_wp2_with fail
    go_ret
    exact ⟨by rw [HT2.out]; rfl, FB.out⟩
  | true =>
    have HT2 := Lib.hid (HTX.out.trans (textB_valid hv))
    have b := valid_bd hv
    have s1 := itoaB_size (n := n) (by omega) (by omega)
    have s2 := itoaB_size (n := d) (by omega) (by omega)
    obtain ⟨b1, b2, b3, b4, _⟩ := b
    clear hv
    obtain ⟨c0, c1, _, _⟩ := F0.out.two
    have fbb := FB.out
    have y1 : ∀ w', (Op.stringOp .add (itoaB n) ⟨#[47]⟩).run Tryd.prog w' = .ok (.string (itoaB n ++ ⟨#[47]⟩)) w' := fun w' => run_string_add_sum w' _ _ (by have : (⟨#[47]⟩ : ByteArray).size = 1 := rfl; omega)
    have y2 : ∀ w', (Op.stringOp .add (itoaB n ++ ⟨#[47]⟩) (itoaB d)).run Tryd.prog w' = .ok (.string (itoaB n ++ ⟨#[47]⟩ ++ itoaB d)) w' := fun w' => run_string_add_sum w' _ _ (by rw [ByteArray.size_append]; have : (⟨#[47]⟩ : ByteArray).size = 1 := rfl; omega)
    go_wp2_with fail
    go_region_held3 (fun w' => w'.cell? ⟨B, 0, none⟩ = some (.int .i64 n) ∧ w'.cell? ⟨B, 1, none⟩ = some (.int .i64 d) ∧ Below B w w' ∧ B + 1 ≤ w'.heap.size)
      ((refine ⟨?_, ?_, ?_, ?_⟩ <;> first
        | assumption
        | exact Below.drew ‹_›
        | exact (hb.cell (Nat.lt_of_lt_of_le (Nat.lt_succ_self _) hks)).trans hk0
        | exact (hb.cell (Nat.lt_of_lt_of_le (Nat.lt_succ_self _) hks)).trans hk1
        | exact hkb.trans (hb.mono (Nat.le_of_succ_le hks))
        | exact Nat.le_trans hks hb.size))
      (first
        | (go_at_call_of 48 (Value.int .i64 n); obtain ⟨hk0, hk1, hkb, hks⟩ := ‹_ ∧ _ ∧ Below B w _ ∧ _›; refine (decimal_any n _ (by omega) (by omega)).mono ?_; rintro e w' ⟨rfl, hb⟩)
        | (go_at_call_of 48 (Value.int .i64 d); obtain ⟨hk0, hk1, hkb, hks⟩ := ‹_ ∧ _ ∧ Below B w _ ∧ _›; refine (decimal_any d _ (by omega) (by omega)).mono ?_; rintro e w' ⟨rfl, hb⟩))
    all_goals
      obtain ⟨_, _, hkb, _⟩ := ‹_ ∧ _ ∧ Below B w _ ∧ _›
      have HKB := Lib.hid hkb
      go_wp2_with fail
      go_ret
      exact ⟨by rw [HT2.out]; rfl, HKB.out⟩
end Go.Proofs.YtdccjkbhmpfcmaaDoor
