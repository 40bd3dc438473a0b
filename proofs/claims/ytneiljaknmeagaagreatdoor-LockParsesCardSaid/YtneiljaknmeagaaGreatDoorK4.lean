/-
  The contract of Name. Its conditions are its hypotheses.
-/
import Derived.Test.YtneiljaknmeagaaGreatDoorK3
namespace Go.Proofs.YtneiljaknmeagaaGreatDoor
open Go.RowKit Go.Joins
set_option linter.unusedVariables false
set_option linter.unusedSimpArgs false
def bt (s : ByteArray) (j : Nat) : UInt8 := s.data.toList.getD j 0
theorem idx_str {s : ByteArray} {x : Int} {j : Nat} (hx : x = j) (hj : j < s.size) (w : World) : (Instr.index 9 (.string s) (.int .i64 x)).run Tryz.prog w = .ok (.int .u8 (bt s j).toNat) w := by
  subst hx
  have e : bt s j = s[j] := by
    unfold bt
    rw [List.getD_eq_getElem?_getD, List.getElem?_eq_getElem (by simpa using hj)]
    rfl
  rw [e]
  simp [go_sem, hj]
theorem bt_get {s : ByteArray} {j : Nat} (hj : j < s.size) : s.data.toList[j]? = some (bt s j) := by
  unfold bt
  rw [List.getD_eq_getElem?_getD, List.getElem?_eq_getElem (by simpa using hj)]
  rfl
/-- A byte of a name. -/
def nmC (b : UInt8) : Bool := (decide (65 ≤ b.toNat) && decide (b.toNat ≤ 90)) || (decide (48 ≤ b.toNat) && decide (b.toNat ≤ 57)) || decide (b.toNat = 95) || decide (b.toNat = 45)
def nmH (l : List UInt8) : Bool := match l with
  | [] => false
  | b :: _ => decide (l.length ≤ 16) && decide (65 ≤ b.toNat) && decide (b.toNat ≤ 90)
def nmB (l : List UInt8) : Bool := nmH l && l.all nmC
theorem nmH_eq {s : ByteArray} (h : 0 < s.size) : nmH s.data.toList = (decide (s.size ≤ 16) && decide (65 ≤ (bt s 0).toNat) && decide ((bt s 0).toNat ≤ 90)) := by
  have h0 := bt_get h
  have hl : s.data.toList.length = s.size := by simp
  match hs : s.data.toList, h0 with
  | b :: r, h0 =>
    simp at h0
    rw [hs] at hl
    rw [nmH, hl, h0]
theorem all_take_succ {l : List UInt8} {k : Nat} {b : UInt8} {p : UInt8 → Bool} (hk : l[k]? = some b) : (l.take (k + 1)).all p = ((l.take k).all p && p b) := by
  rw [List.take_add_one, hk]
  simp
theorem name_no (s : ByteArray) (w : World) (h : nmH s.data.toList = false) :
    Calls Tryz.prog 49 #[.string s] w fun e w' => e = .returned (.bool false) ∧ w = w' := by
  by_cases h0 : 0 < s.size
  · rw [nmH_eq h0] at h
    have g0 : ¬ (s.size : Int) < 1 := by omega
    have ix := fun w' => idx_str (s := s) (x := 0) (j := 0) rfl h0 w'
    by_cases h1 : 16 < s.size
    · have g1 : (16 : Int) < s.size := by omega
      clear h
      go_enter Tryz.func49, Tryz.ntmps49
      go_wp2_with fail
      go_ret
      exact ⟨rfl, rfl⟩
    · have g1 : ¬ (16 : Int) < s.size := by omega
      by_cases h2 : (bt s 0).toNat < 65
      · have g2 : ((bt s 0).toNat : Int) < 65 := by omega
        clear h
        go_enter Tryz.func49, Tryz.ntmps49
        go_wp2_with fail
        go_ret
        exact ⟨rfl, rfl⟩
      · have g2 : ¬ ((bt s 0).toNat : Int) < 65 := by omega
        have g3 : (90 : Int) < ((bt s 0).toNat : Int) := by
          simp only [Bool.and_eq_false_iff, decide_eq_false_iff_not] at h
          omega
        clear h
        go_enter Tryz.func49, Tryz.ntmps49
        go_wp2_with fail
        go_ret
        exact ⟨rfl, rfl⟩
  · have g0 : (s.size : Int) < 1 := by omega
    clear h
    go_enter Tryz.func49, Tryz.ntmps49
    go_wp2_with fail
    go_ret
    exact ⟨rfl, rfl⟩
theorem nmC_iff (b : UInt8) : nmC b = true ↔ (65 ≤ b.toNat ∧ b.toNat ≤ 90) ∨ (48 ≤ b.toNat ∧ b.toNat ≤ 57) ∨ b.toNat = 95 ∨ b.toNat = 45 := by
  unfold nmC
  simp only [Bool.or_eq_true, Bool.and_eq_true, decide_eq_true_eq]
  omega
theorem name_yes (s : ByteArray) (w : World) (h : nmH s.data.toList = true) :
    Calls Tryz.prog 49 #[.string s] w fun e w' => e = .returned (.bool (s.data.toList.all nmC)) ∧ w = w' := by
  have h0 : 0 < s.size := by
    by_cases h0 : 0 < s.size
    · exact h0
    · have : s.data.toList = [] := List.eq_nil_of_length_eq_zero (by
        have : s.data.toList.length = s.size := by simp
        omega)
      rw [this] at h
      cases h
  rw [nmH_eq h0] at h
  simp only [Bool.and_eq_true, decide_eq_true_eq] at h
  obtain ⟨⟨h1, h2⟩, h3⟩ := h
  have g0 : ¬ (s.size : Int) < 1 := by omega
  have g1 : ¬ (16 : Int) < s.size := by omega
  have g2 : ¬ ((bt s 0).toNat : Int) < 65 := by omega
  have g3 : ¬ (90 : Int) < ((bt s 0).toNat : Int) := by omega
  have ix := fun w' => idx_str (s := s) (x := 0) (j := 0) rfl h0 w'
  obtain ⟨l, hl⟩ : ∃ l, l = s.data.toList := ⟨_, rfl⟩
  have HL := Lib.hid hl
  have HLN := Lib.hid (show l.length = s.size by rw [hl]; simp)
  rw [← hl]
  clear hl
  go_enter Tryz.func49, Tryz.ntmps49
  go_wp2_with fail
  clear ix
  go_loop [25] (fun i => ∃ k : Nat, k ≤ s.size ∧ i = .int .i64 k ∧ Hid ((l.take k).all nmC = true)) (fun i => s.size - (intOf i).toNat)
  case atStart => exact ⟨0, by omega, rfl, Lib.hid (by simp)⟩
  case round =>
    obtain ⟨k, hk, rfl, HA⟩ := hrel
    by_cases hlt : k < s.size
    · have hlt2 : (k : Int) < (s.size : Int) := by omega
      have ix := fun w' => idx_str (s := s) (x := (k : Int)) (j := k) rfl hlt w'
      have hb8 := (bt s k).toNat_lt
      have HB := Lib.hid (show l[k]? = some (bt s k) by rw [HL.out]; exact bt_get hlt)
      generalize bt s k = b at *
      have HC := Lib.hid (nmC_iff b)
      rcases (show (65 ≤ b.toNat ∧ b.toNat ≤ 90) ∨ (48 ≤ b.toNat ∧ b.toNat ≤ 57) ∨ (b.toNat = 95) ∨ (b.toNat = 45) ∨ (b.toNat < 48 ∧ b.toNat ≠ 45) ∨ (57 < b.toNat ∧ b.toNat < 65) ∨ (90 < b.toNat ∧ b.toNat ≠ 95) by omega) with hc | hc | hc | hc | hc | hc | hc
      · have i0 : (65 : Int) ≤ (b.toNat : Int) := by omega
        have i1 : (b.toNat : Int) ≤ 90 := by omega
        have HS := Lib.hid (show (l.take (k + 1)).all nmC = true by rw [all_take_succ HB.out, HA.out, HC.out.2 (by omega)]; rfl)
        clear hc
        go_wp2_with fail
        go_round
        case rel => exact ⟨k + 1, by omega, by go_num, HS⟩
        case measure => simp [intOf]; omega
      · have i0 : (48 : Int) ≤ (b.toNat : Int) := by omega
        have i1 : (b.toNat : Int) ≤ 57 := by omega
        have HS := Lib.hid (show (l.take (k + 1)).all nmC = true by rw [all_take_succ HB.out, HA.out, HC.out.2 (by omega)]; rfl)
        clear hc
        go_wp2_with fail
        go_round
        case rel => exact ⟨k + 1, by omega, by go_num, HS⟩
        case measure => simp [intOf]; omega
      · have i0 : (90 : Int) < (b.toNat : Int) := by omega
        have t0 : ((b.toNat : Int) != 95) = false := by simp; omega
        have HS := Lib.hid (show (l.take (k + 1)).all nmC = true by rw [all_take_succ HB.out, HA.out, HC.out.2 (by omega)]; rfl)
        clear hc
        go_wp2_with fail
        go_round
        case rel => exact ⟨k + 1, by omega, by go_num, HS⟩
        case measure => simp [intOf]; omega
      · have i0 : (b.toNat : Int) < 48 := by omega
        have t0 : ((b.toNat : Int) != 95) = true := by simp; omega
        have t1 : ((b.toNat : Int) != 45) = false := by simp; omega
        have HS := Lib.hid (show (l.take (k + 1)).all nmC = true by rw [all_take_succ HB.out, HA.out, HC.out.2 (by omega)]; rfl)
        clear hc
        go_wp2_with fail
        go_round
        case rel => exact ⟨k + 1, by omega, by go_num, HS⟩
        case measure => simp [intOf]; omega
      · have i0 : (b.toNat : Int) < 48 := by omega
        have t0 : ((b.toNat : Int) != 95) = true := by simp; omega
        have t1 : ((b.toNat : Int) != 45) = true := by simp; omega
        have HS := Lib.hid (show l.all nmC = false by
          rw [List.all_eq_false]
          exact ⟨b, List.mem_of_getElem? HB.out, fun e => by have := HC.out.1 e; omega⟩)
        clear hc
        go_wp2_with fail
        go_ret
        exact ⟨by rw [HS.out]; rfl, rfl⟩
      · have i0 : (57 : Int) < (b.toNat : Int) := by omega
        have i1 : (b.toNat : Int) < 65 := by omega
        have t0 : ((b.toNat : Int) != 95) = true := by simp; omega
        have t1 : ((b.toNat : Int) != 45) = true := by simp; omega
        have HS := Lib.hid (show l.all nmC = false by
          rw [List.all_eq_false]
          exact ⟨b, List.mem_of_getElem? HB.out, fun e => by have := HC.out.1 e; omega⟩)
        clear hc
        go_wp2_with fail
        go_ret
        exact ⟨by rw [HS.out]; rfl, rfl⟩
      · have i0 : (90 : Int) < (b.toNat : Int) := by omega
        have t0 : ((b.toNat : Int) != 95) = true := by simp; omega
        have t1 : ((b.toNat : Int) != 45) = true := by simp; omega
        have HS := Lib.hid (show l.all nmC = false by
          rw [List.all_eq_false]
          exact ⟨b, List.mem_of_getElem? HB.out, fun e => by have := HC.out.1 e; omega⟩)
        clear hc
        go_wp2_with fail
        go_ret
        exact ⟨by rw [HS.out]; rfl, rfl⟩
    · obtain rfl : k = s.size := by omega
      have HE := Lib.hid (show l.all nmC = true by
        have := HA.out
        rwa [List.take_of_length_le (by rw [HLN.out]; exact Nat.le_refl _)] at this)
      clear hlt
      go_wp2_with fail
      go_ret
      exact ⟨by rw [HE.out]; rfl, rfl⟩
theorem name_any (s : ByteArray) (w : World) :
    Calls Tryz.prog 49 #[.string s] w fun e w' => e = .returned (.bool (nmB s.data.toList)) ∧ w = w' := by
  unfold nmB
  cases h : nmH s.data.toList with
  | false => exact name_no s w h
  | true => rw [Bool.true_and]; exact name_yes s w h
end Go.Proofs.YtneiljaknmeagaaGreatDoor
