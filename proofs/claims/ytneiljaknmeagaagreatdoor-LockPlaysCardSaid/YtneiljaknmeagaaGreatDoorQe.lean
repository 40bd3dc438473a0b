/-
  The contract of Decimal in the reference. Its conditions are its hypotheses.
-/
import Derived.Test.YtneiljaknmeagaaGreatDoorQc
namespace Go.Proofs.YtneiljaknmeagaaGreatDoor
open Go.RowKit Go.Joins
set_option linter.unusedVariables false
set_option linter.unusedSimpArgs false
def digsB : ByteArray := ⟨#[48, 49, 50, 51, 52, 53, 54, 55, 56, 57]⟩
def dgB (r : Int) : ByteArray := sB [UInt8.ofNat (48 + r.toNat)]
theorem digsB_at {r : Int} (h0 : 0 ≤ r) (h1 : r < 10) : digsB.extract r.toNat (r.toNat + 1) = dgB r := by
  have h : r = 0 ∨ r = 1 ∨ r = 2 ∨ r = 3 ∨ r = 4 ∨ r = 5 ∨ r = 6 ∨ r = 7 ∨ r = 8 ∨ r = 9 := by omega
  rcases h with rfl | rfl | rfl | rfl | rfl | rfl | rfl | rfl | rfl | rfl <;> decide
theorem dec_split {a : Nat} (h : 10 ≤ a) : Lib.decDigits a = Lib.decDigits (a / 10) ++ [UInt8.ofNat (48 + a % 10)] := by
  rw [Lib.decDigits, dif_neg (by omega)]
theorem dec_one {a : Nat} (h : a < 10) : Lib.decDigits a = [UInt8.ofNat (48 + a)] := by
  rw [Lib.decDigits, dif_pos h]
theorem dig_str {r : Int} (h0 : 0 ≤ r) (h1 : r < 10) (w' : World) : (Instr.slice 9 (.string ⟨#[48, 49, 50, 51, 52, 53, 54, 55, 56, 57]⟩) (some (.int .u64 r)) (some (.int .u64 (r + 1))) none).run Tryz.prog w' = .ok (.string (dgB r)) w' := by
  have e := digsB_at h0 h1
  have hz : digsB.size = 10 := rfl
  have hu : Tryz.prog.underlying 9 = some .string := Tryz.underlying9
  rw [← e]
  have e2 : (r + 1).toNat = r.toNat + 1 := by omega
  show (Instr.slice 9 (.string digsB) (some (.int .u64 r)) (some (.int .u64 (r + 1))) none).run Tryz.prog w' = _
  have c1 : 0 ≤ r + 1 ∧ r + 1 ≤ (10 : Int) := by omega
  have c2 : 0 ≤ r ∧ r ≤ r + 1 := by omega
  simp [Instr.slice, Instr.sliceBounds, Instr.sliceBound, asIntOf, run_underlying hu, hz, e2]
  rw [if_pos c1, if_pos (by omega)]
set_option maxHeartbeats 1000000 in
theorem decr_any (n : Int) (w : World) (h0 : 0 ≤ n) (h1 : n ≤ 9223372036854775807) :
    Calls Tryz.prog 35 #[.int .i64 n] w fun e w' => e = .returned (.string (sB (Lib.itoa n))) ∧ w' = w := by
  have HL := Lib.hid (Lib.itoa_length_le n (by omega) (by omega))
  obtain ⟨L, hL⟩ : ∃ L, L = Lib.itoa n := ⟨_, rfl⟩
  rw [← hL] at HL ⊢
  have HD := Lib.hid (show Lib.decDigits n.toNat = L by rw [hL, itoa_dec h0])
  clear hL
  go_enter Tryz.func35, Tryz.ntmps35
  go_wp2_with fail
  go_loopw [3, 6] (fun u s wr => ∃ (a : Nat) (r : List UInt8), u = .int .u64 a ∧ s = .string (sB r) ∧ (a : Int) ≤ n ∧ Hid (Lib.decDigits a ++ r = L) ∧ wr = w) (fun u _ _ => (intOf u).toNat)
  case atStart => exact ⟨n.toNat, [], by go_num, rfl, by omega, Lib.hid (by rw [List.append_nil]; exact HD.out), rfl⟩
  case round =>
    obtain ⟨a, r, rfl, rfl, han, HA, rfl⟩ := hrel
    have hrl : r.length ≤ 21 := by have := HL.out; rw [← HA.out, List.length_append] at this; omega
    by_cases hlt : 10 ≤ a
    · have hlt2 : (10 : Int) ≤ (a : Int) := by omega
      obtain ⟨x, hx⟩ : ∃ x, x = UInt8.ofNat (48 + a % 10) := ⟨_, rfl⟩
      have HS := Lib.hid (show Lib.decDigits (a / 10) ++ (x :: r) = L by
        rw [← HA.out, dec_split hlt, List.append_assoc, hx]
        rfl)
      have ks := fun w' => dig_str (r := (a : Int) % 10) (by omega) (by omega) w'
      unfold dgB at ks
      rw [show ((a : Int) % 10).toNat = a % 10 by omega, ← hx] at ks
      have ka := fun w' => add_sB (a := [x]) (b := r) (by simp; omega) w'
      clear hx
      go_wp2_with fail
      go_roundw
      case rel => exact ⟨a / 10, x :: r, by go_num, rfl, by omega, HS, by trivial⟩
      case measure => simp [intOf]; omega
    · have hlt2 : (a : Int) < 10 := by omega
      obtain ⟨x, hx⟩ : ∃ x, x = UInt8.ofNat (48 + a) := ⟨_, rfl⟩
      have HS := Lib.hid (show [x] ++ r = L by rw [← HA.out, dec_one (by omega), hx])
      have ks := fun w' => dig_str (r := (a : Int)) (by omega) (by omega) w'
      unfold dgB at ks
      rw [show (a : Int).toNat = a by omega, ← hx] at ks
      have kb : ∀ w', (Op.stringOp .add ⟨#[]⟩ (sB [x])).run Tryz.prog w' = .ok (.string (sB [x])) w' := fun w' => add_sB (a := []) (b := [x]) (by simp) w'
      have ka := fun w' => add_sB (a := [x]) (b := r) (by simp; omega) w'
      clear hx
      go_wp2_with fail
      go_ret
      exact ⟨by rw [← HS.out]; rfl, rfl⟩
end Go.Proofs.YtneiljaknmeagaaGreatDoor
