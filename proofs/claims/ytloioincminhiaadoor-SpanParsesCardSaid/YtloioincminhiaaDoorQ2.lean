/-
  The contract of Number in the reference. Its conditions are its hypotheses.
-/
import Derived.Test.YtloioincminhiaaDoorQ1
import Derived.Test.YtloioincminhiaaDoorD1
namespace Go.Proofs.YtloioincminhiaaDoor
open Go.RowKit
set_option linter.unusedVariables false
set_option linter.unusedSimpArgs false
def unsg : List UInt8 → Bool × List UInt8
  | 45 :: r => (true, r)
  | l => (false, l)
def numRV (l : List UInt8) : Int × Bool :=
  if (unsg l).2.length = 0 ∨ 12 < (unsg l).2.length then (0, false)
  else match digs 0 (unsg l).2 with
    | none => (0, false)
    | some m => ((if (unsg l).1 then -m else m), decide (Lib.itoa (if (unsg l).1 then -m else m) = l))
theorem numRV_itoa {n : Int} (h1 : -10378368000 ≤ n) (h2 : n ≤ 10378368000) : numRV (Lib.itoa n) = (n, true) := by
  have hu : unsg (Lib.itoa n) = (decide (n < 0), Lib.decDigits n.natAbs) := by
    rw [Lib.itoa]
    split
    · rename_i h; simp [unsg, h]
    · rename_i h
      have hd := dec_head45 n.toNat
      rw [show n.natAbs = n.toNat by omega]
      generalize Lib.decDigits n.toNat = l at *
      rw [unsg.eq_def]
      split
      · rename_i r; exact absurd rfl (hd r)
      · simp; omega
  have hl := Lib.decDigits_length n.natAbs
  have hl2 := nD_le 10 n.natAbs (by omega)
  have hl3 := Lib.nDigits_pos n.natAbs
  rw [numRV, hu]
  simp only [digs_dec]
  rw [if_neg (by omega)]
  have e : (if decide (n < 0) = true then -(n.natAbs : Int) else (n.natAbs : Int)) = n := by
    by_cases h : n < 0
    · simp [h]; omega
    · simp [h]; omega
  rw [e]
  simp

theorem drop_byte (s : ByteArray) {k : Nat} (hk : k < s.size) : s.data.toList.drop k = s[k] :: s.data.toList.drop (k + 1) := by
  have hk' : k < s.data.toList.length := by simpa using hk
  rw [List.drop_eq_getElem_cons hk']
  rfl
theorem unsg_neg {s : ByteArray} (h : 0 < s.size) (hs : s[0].toNat = 45) : unsg s.data.toList = (true, (s.extract 1 s.size).data.toList) := by
  have e := drop_byte s h
  rw [List.drop_zero] at e
  have e2 : (s.extract 1 s.size).data.toList = s.data.toList.drop 1 := Lib.extract_to_end s 1
  rw [e2, e, show s[0] = 45 from UInt8.toNat_inj.1 hs]
  rfl
theorem unsg_pos {s : ByteArray} (h : ∀ h : 0 < s.size, s[0].toNat ≠ 45) : unsg s.data.toList = (false, s.data.toList) := by
  by_cases h0 : 0 < s.size
  · have e := drop_byte s h0
    rw [List.drop_zero] at e
    have hb : s[0] ≠ 45 := fun e => h h0 (by rw [e]; rfl)
    rw [e, unsg.eq_def]
    split
    · rename_i r hr
      exact absurd (List.cons.inj hr).1 hb
    · rfl
  · have : s.data.toList = [] := List.eq_nil_of_length_eq_zero (by rw [len_data]; omega)
    rw [this]; rfl
theorem digs_lt : ∀ (l : List UInt8) (n m : Int), 0 ≤ n → digs n l = some m → 0 ≤ m
  | [], n, m, h, e => by simp [digs] at e; omega
  | b :: r, n, m, h, e => by
    rw [digs] at e
    split at e
    · rename_i hb
      simp [isD] at hb
      exact digs_lt r _ m (by omega) e
    · cases e
theorem number_any (s : ByteArray) (w : World) (hs : s.size ≤ 9223372036854775807) :
    Calls Tryd.prog 67 #[.string s] w fun e w' => e = .returned (.tuple #[.int .i64 (numRV s.data.toList).1, .bool (numRV s.data.toList).2]) ∧ (-1000000000000 ≤ (numRV s.data.toList).1 ∧ (numRV s.data.toList).1 ≤ 1000000000000) ∧ Below w.heap.size w w' := by
  obtain ⟨V, hV⟩ : ∃ V, V = numRV s.data.toList := ⟨_, rfl⟩
  rw [← hV]
  have HV := Lib.hid hV
  have HLN := Lib.hid (len_data s)
  clear hV
  by_cases hneg : ∃ h : 0 < s.size, s[0].toNat = 45
  · obtain ⟨h0, h45⟩ := hneg
    have HU := Lib.hid (unsg_neg h0 h45)
    have h45' : (((s[0].toNat : Nat) : Int) == 45) = true := by rw [h45]; rfl
    have hD0 : (s.extract 1 s.size).size = s.size - 1 := by rw [ByteArray.size_extract]; omega
    obtain ⟨D, hD⟩ : ∃ D, D = s.extract 1 s.size := ⟨_, rfl⟩
    rw [← hD] at HU hD0
    have HDE := Lib.hid hD
    have hne : (D.toList == s.toList) = false := by
      rw [beq_eq_false_iff_ne, Lib.toList_data, Lib.toList_data]
      intro e
      have := congrArg List.length e
      rw [len_data, len_data] at this
      omega
    have hs1 : (1 : Int) ≤ s.size := by omega
    clear hD h45
    by_cases hl : D.size = 0 ∨ 12 < D.size
    · have HV2 := Lib.hid (show V = (0, false) by rw [HV.out, numRV, HU.out]; exact if_pos (by rw [len_data]; exact hl))
      clear HV HU
      rcases hl with hl | hl
      · have hlb : ((((s.size - 1 : Nat)) : Int) == 0) = true := by rw [show (s.size - 1 : Nat) = 0 by omega]; rfl
        go_enter Tryd.func67, Tryd.ntmps67
        go_wp2_with fail
        rw [← HDE.out]
        go_wp2_with fail
        go_ret2
        exact ⟨by rw [HV2.out]; rfl, by rw [HV2.out]; exact ⟨by decide, by decide⟩, Below.refl _ _⟩
      · have hlb : ((((s.size - 1 : Nat)) : Int) == 0) = false := by rw [beq_eq_false_iff_ne]; omega
        have hlc : (decide ((12 : Int) < (s.size - 1 : Nat))) = true := by simp; omega
        go_enter Tryd.func67, Tryd.ntmps67
        go_wp2_with fail
        rw [← HDE.out]
        go_wp2_with fail
        go_ret2
        exact ⟨by rw [HV2.out]; rfl, by rw [HV2.out]; exact ⟨by decide, by decide⟩, Below.refl _ _⟩
    · have l1 : 0 < D.size := by omega
      have l2 : D.size ≤ 12 := by omega
      have hlb : ((((s.size - 1 : Nat)) : Int) == 0) = false := by rw [beq_eq_false_iff_ne]; omega
      have hlc : (decide ((12 : Int) < (s.size - 1 : Nat))) = false := by simp; omega
      have HVN := Lib.hid (show digs 0 D.data.toList = none → V = (0, false) from fun h => by
        rw [HV.out, numRV, HU.out]
        simp only [h]
        exact if_neg (by rw [len_data]; omega))
      have HVS := Lib.hid (show ∀ m, digs 0 D.data.toList = some m → V = ((-m), decide (Lib.itoa (-m) = s.data.toList)) from fun m h => by
        rw [HV.out, numRV, HU.out]
        simp only [h]
        rw [if_neg (by rw [len_data]; omega)]
        rfl)
      have HDL := Lib.hid (len_data D)
      clear HV HU hl
      go_enter Tryd.func67, Tryd.ntmps67
      go_wp2_with fail
      rw [← HDE.out]
      go_wp2_with fail
      go_loopw [6, 5] (fun i n wr => ∃ (k : Nat) (m : Int), k ≤ D.size ∧ i = .int .i64 k ∧ n = .int .i64 m ∧ Hid (digs 0 D.data.toList = digs m (D.data.toList.drop k)) ∧ 0 ≤ m ∧ Hid (m < ((10 ^ k : Nat) : Int)) ∧ wr = w) (fun i _ _ => D.size - (intOf i).toNat)
      case atStart => exact ⟨0, 0, by omega, rfl, rfl, Lib.hid rfl, by omega, Lib.hid (by decide), rfl⟩
      case round =>
        obtain ⟨k, m, hk, rfl, rfl, hd, hm0, hm1, rfl⟩ := hrel
        by_cases hlt : k < D.size
        · have hp : m < 100000000000 := by
            have := hm1.out
            have : 10 ^ k ≤ 10 ^ 11 := Nat.pow_le_pow_right (by decide) (by omega)
            omega
          have HD := Lib.hid (drop_byte D hlt)
          by_cases hb1 : D[k].toNat < 48
          · have HB := Lib.hid (HVN.out (by rw [hd.out, HD.out, digs_bad (.inl hb1)]))
            go_wp2_with fail
            go_ret2
            exact ⟨by rw [HB.out]; rfl, by rw [HB.out]; exact ⟨by decide, by decide⟩, Below.refl _ _⟩
          · by_cases hb2 : 57 < D[k].toNat
            · have HB := Lib.hid (HVN.out (by rw [hd.out, HD.out, digs_bad (.inr hb2)]))
              go_wp2_with fail
              go_ret2
              exact ⟨by rw [HB.out]; rfl, by rw [HB.out]; exact ⟨by decide, by decide⟩, Below.refl _ _⟩
            · have HS := Lib.hid (hd.out.trans (by rw [HD.out, digs_ok (by omega) (by omega)]))
              go_wp2_with fail
              go_roundw
              case rel => exact ⟨k + 1, 10 * m + ((D[k].toNat : Int) - 48), by omega, by go_num, by go_num, HS, by omega, Lib.hid (by have := hm1.out; rw [Nat.pow_succ]; omega), by trivial⟩
              case measure => simp [intOf]; omega
        · have HE := Lib.hid (HVS.out m (by
            rw [hd.out, List.drop_eq_nil_of_le (by rw [HDL.out]; omega)]; rfl))
          have hp : m < 1000000000000 := by
            have := hm1.out
            have : 10 ^ k ≤ 10 ^ 12 := Nat.pow_le_pow_right (by decide) (by omega)
            omega
          go_wp2_with fail
          refine (decimal_any (-m) _ (by omega) (by omega)).mono ?_
          rintro e w3 ⟨rfl, hb3⟩
          go_wp2_with fail
          go_ret2
          have eb : ((itoaB (-m)).toList == s.toList) = decide (Lib.itoa (-m) = s.data.toList) := by
            rw [Lib.toList_data, Lib.toList_data, itoaB, ← Bool.beq_eq_decide_eq]
          exact ⟨by rw [HE.out, ← eb]; rfl, by rw [HE.out]; exact ⟨by show -1000000000000 ≤ (-m); omega, by show (-m) ≤ 1000000000000; omega⟩, hb3⟩
  · have HU := Lib.hid (unsg_pos (s := s) (fun h e => hneg ⟨h, e⟩))
    have HN := Lib.hid hneg
    clear hneg
    by_cases hl : s.size = 0 ∨ 12 < s.size
    · have HV2 := Lib.hid (show V = (0, false) by rw [HV.out, numRV, HU.out]; exact if_pos (by rw [len_data]; exact hl))
      clear HV HU
      rcases hl with hl | hl
      · have hlb : (((s.size) : Int) == 0) = true := by rw [show s.size = 0 by omega]; rfl
        have hlc : (decide ((0 : Int) < s.size)) = false := decide_eq_false (by omega)
        go_enter Tryd.func67, Tryd.ntmps67
        go_wp2_with fail
        go_ret2
        exact ⟨by rw [HV2.out]; rfl, by rw [HV2.out]; exact ⟨by decide, by decide⟩, Below.refl _ _⟩
      · have h0 : 0 < s.size := by omega
        have h45' : (((s[0].toNat : Nat) : Int) == 45) = false := by rw [beq_eq_false_iff_ne]; intro e; exact HN.out ⟨h0, by exact_mod_cast e⟩
        have hlb : (((s.size) : Int) == 0) = false := by rw [beq_eq_false_iff_ne]; omega
        have hlc : (decide ((12 : Int) < s.size)) = true := by simp; omega
        go_enter Tryd.func67, Tryd.ntmps67
        go_wp2_with fail
        go_ret2
        exact ⟨by rw [HV2.out]; rfl, by rw [HV2.out]; exact ⟨by decide, by decide⟩, Below.refl _ _⟩
    · have l1 : 0 < s.size := by omega
      have l2 : s.size ≤ 12 := by omega
      have hlb : (((s.size) : Int) == 0) = false := by rw [beq_eq_false_iff_ne]; omega
      have hlc : (decide ((12 : Int) < s.size)) = false := by simp; omega
      have h45' : (((s[0].toNat : Nat) : Int) == 45) = false := by rw [beq_eq_false_iff_ne]; intro e; exact HN.out ⟨l1, by exact_mod_cast e⟩
      have HVN := Lib.hid (show digs 0 s.data.toList = none → V = (0, false) from fun h => by
        rw [HV.out, numRV, HU.out]
        simp only [h]
        exact if_neg (by rw [len_data]; omega))
      have HVS := Lib.hid (show ∀ m, digs 0 s.data.toList = some m → V = (m, decide (Lib.itoa m = s.data.toList)) from fun m h => by
        rw [HV.out, numRV, HU.out]
        simp only [h]
        rw [if_neg (by rw [len_data]; omega)]
        rfl)
      have HDL := Lib.hid (len_data s)
      clear HV HU hl
      go_enter Tryd.func67, Tryd.ntmps67
      go_wp2_with fail
      go_loopw [6, 5] (fun i n wr => ∃ (k : Nat) (m : Int), k ≤ s.size ∧ i = .int .i64 k ∧ n = .int .i64 m ∧ Hid (digs 0 s.data.toList = digs m (s.data.toList.drop k)) ∧ 0 ≤ m ∧ Hid (m < ((10 ^ k : Nat) : Int)) ∧ wr = w) (fun i _ _ => s.size - (intOf i).toNat)
      case atStart => exact ⟨0, 0, by omega, rfl, rfl, Lib.hid rfl, by omega, Lib.hid (by decide), rfl⟩
      case round =>
        obtain ⟨k, m, hk, rfl, rfl, hd, hm0, hm1, rfl⟩ := hrel
        by_cases hlt : k < s.size
        · have hp : m < 100000000000 := by
            have := hm1.out
            have : 10 ^ k ≤ 10 ^ 11 := Nat.pow_le_pow_right (by decide) (by omega)
            omega
          have HD := Lib.hid (drop_byte s hlt)
          by_cases hb1 : s[k].toNat < 48
          · have HB := Lib.hid (HVN.out (by rw [hd.out, HD.out, digs_bad (.inl hb1)]))
            go_wp2_with fail
            go_ret2
            exact ⟨by rw [HB.out]; rfl, by rw [HB.out]; exact ⟨by decide, by decide⟩, Below.refl _ _⟩
          · by_cases hb2 : 57 < s[k].toNat
            · have HB := Lib.hid (HVN.out (by rw [hd.out, HD.out, digs_bad (.inr hb2)]))
              go_wp2_with fail
              go_ret2
              exact ⟨by rw [HB.out]; rfl, by rw [HB.out]; exact ⟨by decide, by decide⟩, Below.refl _ _⟩
            · have HS := Lib.hid (hd.out.trans (by rw [HD.out, digs_ok (by omega) (by omega)]))
              go_wp2_with fail
              go_roundw
              case rel => exact ⟨k + 1, 10 * m + ((s[k].toNat : Int) - 48), by omega, by go_num, by go_num, HS, by omega, Lib.hid (by have := hm1.out; rw [Nat.pow_succ]; omega), by trivial⟩
              case measure => simp [intOf]; omega
        · have HE := Lib.hid (HVS.out m (by
            rw [hd.out, List.drop_eq_nil_of_le (by rw [HDL.out]; omega)]; rfl))
          have hp : m < 1000000000000 := by
            have := hm1.out
            have : 10 ^ k ≤ 10 ^ 12 := Nat.pow_le_pow_right (by decide) (by omega)
            omega
          go_wp2_with fail
          refine (decimal_any m _ (by omega) (by omega)).mono ?_
          rintro e w3 ⟨rfl, hb3⟩
          go_wp2_with fail
          go_ret2
          have eb : ((itoaB m).toList == s.toList) = decide (Lib.itoa m = s.data.toList) := by
            rw [Lib.toList_data, Lib.toList_data, itoaB, ← Bool.beq_eq_decide_eq]
          exact ⟨by rw [HE.out, ← eb]; rfl, by rw [HE.out]; exact ⟨by show -1000000000000 ≤ m; omega, by show m ≤ 1000000000000; omega⟩, hb3⟩
end Go.Proofs.YtloioincminhiaaDoor
