/-
  The contract of Decimal in the reference. Its conditions are its hypotheses.
-/
import Derived.Test.YtloioincminhiaaDoorT1
import Derived.Laws.BytesArg
namespace Go.Proofs.YtloioincminhiaaDoor
open Go.RowKit
set_option linter.unusedVariables false
set_option linter.unusedSimpArgs false
def itoaB (n : Int) : ByteArray := ⟨(Lib.itoa n).toArray⟩
theorem len_data (s : ByteArray) : s.data.toList.length = s.size := by simp
theorem itoaB_size {n : Int} (h0 : -9223372036854775808 ≤ n) (h1 : n ≤ 9223372036854775807) : (itoaB n).size ≤ 21 := by
  have := Lib.itoa_length_le n (by omega) (by omega)
  rw [← len_data]
  exact this
theorem itoa_dec' {n : Int} (h : 0 ≤ n) : Lib.itoa n = Lib.decDigits n.toNat := by rw [Lib.itoa, if_neg (by omega)]
theorem itoa_small {n : Int} (h0 : 0 ≤ n) (h : n < 10) : itoaB n = ⟨#[UInt8.ofNat (48 + n % 10).toNat]⟩ := by
  rw [itoaB, itoa_dec' h0, Lib.decDigits, dif_pos (by omega), show (48 + n % 10).toNat = 48 + n.toNat by omega]
theorem itoa_big {n : Int} (h : 10 ≤ n) : itoaB n = itoaB (n / 10) ++ ⟨#[UInt8.ofNat (48 + n % 10).toNat]⟩ := by
  have e : Lib.itoa n = Lib.itoa (n / 10) ++ [UInt8.ofNat (48 + n % 10).toNat] := by
    rw [itoa_dec' (by omega), itoa_dec' (by omega), Lib.decDigits, dif_neg (by omega)]
    rw [show (n / 10).toNat = n.toNat / 10 by omega, show (48 + n % 10).toNat = 48 + n.toNat % 10 by omega]
  rw [itoaB, e]
  exact ByteArray.ext (by simp [itoaB])
theorem itoa_minus {n : Int} (h : n < 0) : itoaB n = ⟨#[45]⟩ ++ itoaB (-n) := by
  have e : Lib.itoa n = 45 :: Lib.itoa (-n) := by
    rw [Lib.itoa, if_pos h, itoa_dec' (by omega), show (-n).toNat = n.natAbs by omega]
  rw [itoaB, e]
  exact ByteArray.ext (by simp [itoaB])
theorem one_string (w : World) (n : Int) :
    (convert 75 9 (.slice (some ⟨w.heap.size, 0, none⟩) 1 1)).run Tryd.prog (w.alloc (.cells #[.int .u8 n] 5)) = .ok (.string ⟨#[UInt8.ofNat n.toNat]⟩) (w.alloc (.cells #[.int .u8 n] 5)) := by
  have := run_convert_bytes_arg (P := Tryd.prog) (w.alloc (.cells #[.int .u8 n] 5)) 75 5 Tryd.underlying75 Tryd.underlying5 w.heap.size 0 1 1 [n] rfl (fun i hi => by
    obtain rfl : i = 0 := by omega
    simp [go_sem]) 9 Tryd.underlying9
  exact this
theorem decimal_nat : ∀ (k : Nat) (n : Int) (w : World), n.toNat ≤ k → 0 ≤ n → n ≤ 9223372036854775807 →
    Calls Tryd.prog 46 #[.int .i64 n] w fun e w' => e = .returned (.string (itoaB n)) ∧ Below w.heap.size w w' := by
  intro k
  have small : ∀ (n : Int) (w : World), 0 ≤ n → n < 10 → Calls Tryd.prog 46 #[.int .i64 n] w fun e w' => e = .returned (.string (itoaB n)) ∧ Below w.heap.size w w' := by
    intro n w h0 hs
    have HI := Lib.hid (itoa_small h0 hs)
    have kc := one_string
    go_enter Tryd.func46, Tryd.ntmps46
    go_wp2_with fail
    go_ret
    exact ⟨by rw [HI.out]; rfl, (Below.refl _ _).alloc (Nat.le_refl _) _⟩
  induction k with
  | zero => exact fun n w hk h0 h1 => small n w h0 (by omega)
  | succ k ih =>
    intro n w hk h0 h1
    by_cases hs : n < 10
    · exact small n w h0 hs
    · have HI := Lib.hid (itoa_big (n := n) (by omega))
      have z1 := itoaB_size (n := n / 10) (by omega) (by omega)
      have kc := one_string
      go_enter Tryd.func46, Tryd.ntmps46
      go_wp2_with fail
      refine (ih (n / 10) _ (by omega) (by omega) (by omega)).mono ?_
      rintro e w2 ⟨rfl, hb2⟩
      have HB2 := Lib.hid ((below_one _ _).trans (hb2.mono (by simp)))
      clear hb2
      go_wp2_with fail
      go_ret
      exact ⟨by rw [HI.out]; rfl, HB2.out⟩
theorem decimal_any (n : Int) (w : World) (h0 : -9223372036854775807 ≤ n) (h1 : n ≤ 9223372036854775807) :
    Calls Tryd.prog 46 #[.int .i64 n] w fun e w' => e = .returned (.string (itoaB n)) ∧ Below w.heap.size w w' := by
  by_cases hn : n < 0
  · have HI := Lib.hid (itoa_minus hn)
    have z1 := itoaB_size (n := -n) (by omega) (by omega)
    go_enter Tryd.func46, Tryd.ntmps46
    go_wp2_with fail
    refine (decimal_nat _ (-n) _ (Nat.le_refl _) (by omega) (by omega)).mono ?_
    rintro e w2 ⟨rfl, hb2⟩
    go_wp2_with fail
    go_ret
    exact ⟨by rw [HI.out]; rfl, hb2⟩
  · exact decimal_nat _ n w (Nat.le_refl _) (by omega) h1
end Go.Proofs.YtloioincminhiaaDoor
