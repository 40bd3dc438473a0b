/-
  The contracts of number, in the program and in the reference. Without conditions.
-/
import Derived.Test.YtnnhbnkelgmaaaaDoorC5
import Derived.Test.YtnnhbnkelgmaaaaDoorPx
namespace Go.Proofs.YtnnhbnkelgmaaaaDoor
open Go.RowKit
set_option linter.unusedVariables false
set_option linter.unusedSimpArgs false
theorem len_data (s : ByteArray) : s.data.toList.length = s.size := by simp
theorem drop_byte (s : ByteArray) {k : Nat} (hk : k < s.size) : s.data.toList.drop k = s[k] :: s.data.toList.drop (k + 1) := by
  have hk' : k < s.data.toList.length := by simpa using hk
  rw [List.drop_eq_getElem_cons hk']
  rfl
theorem head_byte (s : ByteArray) (hk : 0 < s.size) : s.data.toList.head? = some s[0] := by
  have := drop_byte s hk
  rw [List.drop_zero] at this
  rw [this]; rfl
theorem number_any (s : ByteArray) (w : World) :
    Calls Tryd.prog 39 #[.string s] w fun e w' => e = .returned (.tuple #[.int .i64 (numV s.data.toList).1, .bool (numV s.data.toList).2]) ∧ w = w' := by
  by_cases h1 : s.size < 1
  · rw [numV_none (by unfold numL; rw [if_pos (.inl (by simpa using h1))])]
    go_enter Tryd.func39, Tryd.ntmps39
    go_wp2_with fail
    go_ret2
    exact ⟨rfl, rfl⟩
  · by_cases h2 : 9 < s.size
    · rw [numV_none (by unfold numL; rw [if_pos (.inr (.inl (by simpa using h2)))])]
      go_enter Tryd.func39, Tryd.ntmps39
      go_wp2_with fail
      go_ret2
      exact ⟨rfl, rfl⟩
    · have h0 : 0 < s.size := by omega
      by_cases h3 : s[0].toNat = 48
      · have e3 : s[0] = 48 := UInt8.toNat_inj.1 h3
        rw [numV_none (by unfold numL; rw [if_pos (.inr (.inr (by rw [head_byte s h0, e3])))])]
        have h3' : (((s[0].toNat : Nat) : Int) == 48) = true := by rw [h3]; rfl
        clear h3 e3
        go_enter Tryd.func39, Tryd.ntmps39
        go_wp2_with fail
        go_ret2
        exact ⟨rfl, rfl⟩
      · have hL : numL s.data.toList = digs 0 s.data.toList := by
          unfold numL
          rw [if_neg]
          rintro (h | h | h)
          · have := len_data s; omega
          · have := len_data s; omega
          · rw [head_byte s h0] at h
            exact h3 (by rw [Option.some.inj h]; rfl)
        obtain ⟨V, hV⟩ : ∃ V, V = numV s.data.toList := ⟨_, rfl⟩
        rw [← hV]
        have HV := Lib.hid hV
        have HL := Lib.hid hL
        clear hV hL
        have h3' : (((s[0].toNat : Nat) : Int) == 48) = false := by rw [beq_eq_false_iff_ne]; omega
        clear h3
        go_enter Tryd.func39, Tryd.ntmps39
        go_wp2_with fail
        go_loopw [21, 4] (fun i n wr => ∃ (k : Nat) (m : Int), k ≤ s.size ∧ i = .int .i64 k ∧ n = .int .i64 m ∧ Hid (digs 0 s.data.toList = digs m (s.data.toList.drop k)) ∧ 0 ≤ m ∧ Hid (m < ((10 ^ k : Nat) : Int)) ∧ wr = w) (fun i _ _ => s.size - (intOf i).toNat)
        case atStart => exact ⟨0, 0, by omega, rfl, rfl, Lib.hid rfl, by omega, Lib.hid (by decide), rfl⟩
        case round =>
          obtain ⟨k, m, hk, rfl, rfl, hd, hm0, hm1, rfl⟩ := hrel
          by_cases hlt : k < s.size
          · have hp : m < 100000000 := by
              have := hm1.out
              have : 10 ^ k ≤ 10 ^ 8 := Nat.pow_le_pow_right (by decide) (by omega)
              omega
            have HD := Lib.hid (drop_byte s hlt)
            by_cases hb1 : s[k].toNat < 48
            · have hbad : numV s.data.toList = (0, false) := numV_none (by rw [HL.out, hd.out, HD.out, digs_bad (.inl hb1)])
              go_wp2_with fail
              go_ret2
              exact ⟨by rw [HV.out, hbad]; rfl, rfl⟩
            · by_cases hb2 : 57 < s[k].toNat
              · have hbad : numV s.data.toList = (0, false) := numV_none (by rw [HL.out, hd.out, HD.out, digs_bad (.inr hb2)])
                go_wp2_with fail
                go_ret2
                exact ⟨by rw [HV.out, hbad]; rfl, rfl⟩
              · have HS := Lib.hid (hd.out.trans (by rw [HD.out, digs_ok (by omega) (by omega)]))
                go_wp2_with fail
                go_roundw
                case rel => exact ⟨k + 1, 10 * m + ((s[k].toNat : Int) - 48), by omega, by go_num, by go_num, HS, by omega, Lib.hid (by have := hm1.out; rw [Nat.pow_succ]; omega), by trivial⟩
                case measure => simp [intOf]; omega
          · have hkn : k = s.size := by omega
            subst hkn
            have hv : numV s.data.toList = (m, true) := numV_some (by
              rw [HL.out, hd.out]
              rw [List.drop_eq_nil_of_le (by have := len_data s; omega)]; rfl)
            go_wp2_with fail
            go_ret2
            exact ⟨by rw [HV.out, hv]; rfl, rfl⟩
theorem numberr_any (s : ByteArray) (w : World) :
    Calls Tryd.prog 40 #[.string s] w fun e w' => e = .returned (.tuple #[.int .i64 (numV s.data.toList).1, .bool (numV s.data.toList).2]) ∧ w = w' := by
  by_cases h1 : s.size < 1
  · rw [numV_none (by unfold numL; rw [if_pos (.inl (by simpa using h1))])]
    go_enter Tryd.func40, Tryd.ntmps40
    go_wp2_with fail
    go_ret2
    exact ⟨rfl, rfl⟩
  · by_cases h2 : 9 < s.size
    · rw [numV_none (by unfold numL; rw [if_pos (.inr (.inl (by simpa using h2)))])]
      go_enter Tryd.func40, Tryd.ntmps40
      go_wp2_with fail
      go_ret2
      exact ⟨rfl, rfl⟩
    · have h0 : 0 < s.size := by omega
      by_cases h3 : s[0].toNat = 48
      · have e3 : s[0] = 48 := UInt8.toNat_inj.1 h3
        rw [numV_none (by unfold numL; rw [if_pos (.inr (.inr (by rw [head_byte s h0, e3])))])]
        have h3' : (((s[0].toNat : Nat) : Int) == 48) = true := by rw [h3]; rfl
        clear h3 e3
        go_enter Tryd.func40, Tryd.ntmps40
        go_wp2_with fail
        go_ret2
        exact ⟨rfl, rfl⟩
      · have hL : numL s.data.toList = digs 0 s.data.toList := by
          unfold numL
          rw [if_neg]
          rintro (h | h | h)
          · have := len_data s; omega
          · have := len_data s; omega
          · rw [head_byte s h0] at h
            exact h3 (by rw [Option.some.inj h]; rfl)
        obtain ⟨V, hV⟩ : ∃ V, V = numV s.data.toList := ⟨_, rfl⟩
        rw [← hV]
        have HV := Lib.hid hV
        have HL := Lib.hid hL
        clear hV hL
        have h3' : (((s[0].toNat : Nat) : Int) == 48) = false := by rw [beq_eq_false_iff_ne]; omega
        clear h3
        go_enter Tryd.func40, Tryd.ntmps40
        go_wp2_with fail
        go_loopw [21, 4] (fun i n wr => ∃ (k : Nat) (m : Int), k ≤ s.size ∧ i = .int .i64 k ∧ n = .int .i64 m ∧ Hid (digs 0 s.data.toList = digs m (s.data.toList.drop k)) ∧ 0 ≤ m ∧ Hid (m < ((10 ^ k : Nat) : Int)) ∧ wr = w) (fun i _ _ => s.size - (intOf i).toNat)
        case atStart => exact ⟨0, 0, by omega, rfl, rfl, Lib.hid rfl, by omega, Lib.hid (by decide), rfl⟩
        case round =>
          obtain ⟨k, m, hk, rfl, rfl, hd, hm0, hm1, rfl⟩ := hrel
          by_cases hlt : k < s.size
          · have hp : m < 100000000 := by
              have := hm1.out
              have : 10 ^ k ≤ 10 ^ 8 := Nat.pow_le_pow_right (by decide) (by omega)
              omega
            have HD := Lib.hid (drop_byte s hlt)
            by_cases hb1 : s[k].toNat < 48
            · have hbad : numV s.data.toList = (0, false) := numV_none (by rw [HL.out, hd.out, HD.out, digs_bad (.inl hb1)])
              go_wp2_with fail
              go_ret2
              exact ⟨by rw [HV.out, hbad]; rfl, rfl⟩
            · by_cases hb2 : 57 < s[k].toNat
              · have hbad : numV s.data.toList = (0, false) := numV_none (by rw [HL.out, hd.out, HD.out, digs_bad (.inr hb2)])
                go_wp2_with fail
                go_ret2
                exact ⟨by rw [HV.out, hbad]; rfl, rfl⟩
              · have HS := Lib.hid (hd.out.trans (by rw [HD.out, digs_ok (by omega) (by omega)]))
                go_wp2_with fail
                go_roundw
                case rel => exact ⟨k + 1, 10 * m + ((s[k].toNat : Int) - 48), by omega, by go_num, by go_num, HS, by omega, Lib.hid (by have := hm1.out; rw [Nat.pow_succ]; omega), by trivial⟩
                case measure => simp [intOf]; omega
          · have hkn : k = s.size := by omega
            subst hkn
            have hv : numV s.data.toList = (m, true) := numV_some (by
              rw [HL.out, hd.out]
              rw [List.drop_eq_nil_of_le (by have := len_data s; omega)]; rfl)
            go_wp2_with fail
            go_ret2
            exact ⟨by rw [HV.out, hv]; rfl, rfl⟩
end Go.Proofs.YtnnhbnkelgmaaaaDoor
