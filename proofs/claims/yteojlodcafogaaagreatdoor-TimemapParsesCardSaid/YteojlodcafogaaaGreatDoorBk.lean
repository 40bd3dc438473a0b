/-
  The reference's words, numbers and pairs. The conditions of the contracts are their hypotheses.
-/
import Derived.Test.YteojlodcafogaaaGreatDoorBg
import Derived.Laws.BytesArg
namespace Go.Proofs.YteojlodcafogaaaGreatDoor
open Go.RowKit
set_option linter.unusedVariables false
set_option linter.unusedSimpArgs false
def itoaB (n : Int) : ByteArray := ⟨(Lib.itoa n).toArray⟩
theorem len_data (s : ByteArray) : s.data.toList.length = s.size := by simp
theorem itoaB_size {n : Int} (h0 : -9223372036854775808 ≤ n) (h1 : n ≤ 9223372036854775807) : (itoaB n).size ≤ 21 := by
  have := Lib.itoa_length_le n (by omega) (by omega)
  rw [← len_data]
  exact this
theorem itoa_dec' {n : Int} (h : 0 ≤ n) : Lib.itoa n = Lib.decDigits n.toNat := by rw [Lib.itoa, if_neg (by omega)]
theorem itoa_small {n : Int} (h0 : 0 ≤ n) (h : n < 10) : itoaB n = ⟨#[UInt8.ofNat (48 + n % 10).toNat]⟩ := by
  rw [itoaB, itoa_dec' h0, Lib.decDigits, dif_pos (by omega), show (48 + n % 10).toNat = 48 + n.toNat by omega]
theorem itoa_big {n : Int} (h : 10 ≤ n) : itoaB n = itoaB (n / 10) ++ ⟨#[UInt8.ofNat (48 + n % 10).toNat]⟩ := by
  have e : Lib.itoa n = Lib.itoa (n / 10) ++ [UInt8.ofNat (48 + n % 10).toNat] := by
    rw [itoa_dec' (by omega), itoa_dec' (by omega), Lib.decDigits, dif_neg (by omega)]
    rw [show (n / 10).toNat = n.toNat / 10 by omega, show (48 + n % 10).toNat = 48 + n.toNat % 10 by omega]
  rw [itoaB, e]
  exact ByteArray.ext (by simp [itoaB])
theorem itoa_minus {n : Int} (h : n < 0) : itoaB n = ⟨#[45]⟩ ++ itoaB (-n) := by
  have e : Lib.itoa n = 45 :: Lib.itoa (-n) := by
    rw [Lib.itoa, if_pos h, itoa_dec' (by omega), show (-n).toNat = n.natAbs by omega]
  rw [itoaB, e]
  exact ByteArray.ext (by simp [itoaB])
theorem one_string (w : World) (n : Int) :
    (convert 79 9 (.slice (some ⟨w.heap.size, 0, none⟩) 1 1)).run Tryz.prog (w.alloc (.cells #[.int .u8 n] 5)) = .ok (.string ⟨#[UInt8.ofNat n.toNat]⟩) (w.alloc (.cells #[.int .u8 n] 5)) := by
  have := run_convert_bytes_arg (P := Tryz.prog) (w.alloc (.cells #[.int .u8 n] 5)) 79 5 Tryz.underlying79 Tryz.underlying5 w.heap.size 0 1 1 [n] rfl (fun i hi => by
    obtain rfl : i = 0 := by omega
    simp [go_sem]) 9 Tryz.underlying9
  exact this
theorem decimal_nat : ∀ (k : Nat) (n : Int) (w : World), n.toNat ≤ k → 0 ≤ n → n ≤ 9223372036854775807 →
    Calls Tryz.prog 40 #[.int .i64 n] w fun e w' => e = .returned (.string (itoaB n)) ∧ Below w.heap.size w w' := by
  intro k
  have small : ∀ (n : Int) (w : World), 0 ≤ n → n < 10 → Calls Tryz.prog 40 #[.int .i64 n] w fun e w' => e = .returned (.string (itoaB n)) ∧ Below w.heap.size w w' := by
    intro n w h0 hs
    have HI := Lib.hid (itoa_small h0 hs)
    have kc := one_string
    go_enter Tryz.func40, Tryz.ntmps40
    go_wp2_with fail
    go_ret
    exact ⟨by rw [HI.out]; rfl, (Below.refl _ _).alloc (Nat.le_refl _) _⟩
  induction k with
  | zero => exact fun n w hk h0 h1 => small n w h0 (by omega)
  | succ k ih =>
    intro n w hk h0 h1
    by_cases hs : n < 10
    · exact small n w h0 hs
    · have HI := Lib.hid (itoa_big (n := n) (by omega))
      have z1 := itoaB_size (n := n / 10) (by omega) (by omega)
      have kc := one_string
      go_enter Tryz.func40, Tryz.ntmps40
      go_wp2_with fail
      refine (ih (n / 10) _ (by omega) (by omega) (by omega)).mono ?_
      rintro e w2 ⟨rfl, hb2⟩
      have HB2 := Lib.hid ((below_one _ _).trans (hb2.mono (by simp)))
      clear hb2
      go_wp2_with fail
      go_ret
      exact ⟨by rw [HI.out]; rfl, HB2.out⟩
theorem decimal_any (n : Int) (w : World) (h0 : -9223372036854775807 ≤ n) (h1 : n ≤ 9223372036854775807) :
    Calls Tryz.prog 40 #[.int .i64 n] w fun e w' => e = .returned (.string (itoaB n)) ∧ Below w.heap.size w w' := by
  by_cases hn : n < 0
  · have HI := Lib.hid (itoa_minus hn)
    have z1 := itoaB_size (n := -n) (by omega) (by omega)
    go_enter Tryz.func40, Tryz.ntmps40
    go_wp2_with fail
    refine (decimal_nat _ (-n) _ (Nat.le_refl _) (by omega) (by omega)).mono ?_
    rintro e w2 ⟨rfl, hb2⟩
    go_wp2_with fail
    go_ret
    exact ⟨by rw [HI.out]; rfl, hb2⟩
  · exact decimal_nat _ n w (Nat.le_refl _) (by omega) h1
end Go.Proofs.YteojlodcafogaaaGreatDoor
namespace Go.Proofs.YteojlodcafogaaaGreatDoor
open Go.RowKit Go.Joins
set_option linter.unusedVariables false
set_option linter.unusedSimpArgs false
theorem cutC_at {c : UInt8} {s : List UInt8} {k : Nat} (hk : s[k]? = some c) (hn : c ∉ s.take k) : cutC c s = (s.take k, s.drop (k + 1)) ∧ c ∈ s := by
  have hl := (List.getElem?_eq_some_iff.1 hk).1
  have he := (List.getElem?_eq_some_iff.1 hk).2
  have e : s = s.take k ++ c :: s.drop (k + 1) := by
    rw [← he, ← List.drop_eq_getElem_cons hl, List.take_append_drop]
  refine ⟨?_, List.mem_of_getElem? hk⟩
  conv => lhs; rw [e]
  exact cutC_cut hn
theorem ext_left (s : List UInt8) (k : Nat) : (sB s).extract 0 k = sB (s.take k) := ByteArray.ext (by simp [sB])
theorem ext_right (s : List UInt8) (k : Nat) : (sB s).extract k s.length = sB (s.drop k) := ByteArray.ext (by
  simp [sB]
  rw [List.take_of_length_le (by simp)])
theorem byte_at {s : List UInt8} {k : Nat} (hk : k < (sB s).size) {b : UInt8} (hb : s[k]? = some b) : (sB s)[k] = b := by
  have := (List.getElem?_eq_some_iff.1 hb).2
  exact this
set_option maxHeartbeats 1000000 in
theorem cutr_any (s : List UInt8) (c : UInt8) (w : World) (hs : s.length ≤ 100000) :
    Calls Tryz.prog 44 #[.string (sB s), .int .u8 c.toNat] w fun e w' => e = .returned (.tuple #[.string (sB (cutC c s).1), .string (sB (cutC c s).2), .bool (decide (c ∈ s))]) ∧ Below w.heap.size w w' := by
  obtain ⟨R, hR⟩ : ∃ R, R = ((cutC c s).1, (cutC c s).2, decide (c ∈ s)) := ⟨_, rfl⟩
  have HR := Lib.hid hR
  rw [show (cutC c s).1 = R.1 by rw [hR], show (cutC c s).2 = R.2.1 by rw [hR], show decide (c ∈ s) = R.2.2 by rw [hR]]
  have hz := sB_size s
  clear hR
  go_enter Tryz.func44, Tryz.ntmps44
  go_wp2_with fail
  go_loopw [7] (fun i wr => ∃ k : Nat, k ≤ s.length ∧ i = .int .i64 k ∧ Hid (c ∉ s.take k) ∧ Hid (Below w.heap.size w wr)) (fun i _ => s.length - (intOf i).toNat)
  case atStart => exact ⟨0, by omega, rfl, Lib.hid (by simp), Lib.hid (Below.refl _ _)⟩
  case round =>
    obtain ⟨k, hk, rfl, HK, G⟩ := hrel
    by_cases hlt : k < s.length
    · have hks : k < (sB s).size := by omega
      have hki : (k : Int) < ((sB s).size : Int) := by omega
      obtain ⟨b, hb⟩ : ∃ b, s[k]? = some b := ⟨_, List.getElem?_eq_getElem hlt⟩
      have hbt := byte_at hks hb
      have HBB := Lib.hid hb
      have HZ := Lib.hid hz
      have hw1 : IntKind.i64.wrap ((k : Int) + 1) = (k : Int) + 1 := by rw [IntKind.wrap_i64]; omega
      have hk1 : (k : Int) + 1 ≤ ((sB s).size : Int) := by omega
      clear hb
      by_cases hc : b = c
      · have hcut := cutC_at (hc ▸ HBB.out) HK.out
        obtain rfl : R = (s.take k, s.drop (k + 1), true) := by rw [HR.out, hcut.1]; simp [hcut.2]
        have t1 : ((b.toNat : Int) == (c.toNat : Int)) = true := by rw [hc]; simp
        have HXL := Lib.hid (ext_left s k)
        have HXR := Lib.hid (show (sB s).extract (k + 1) (sB s).size = sB (s.drop (k + 1)) by rw [HZ.out]; exact ext_right s (k + 1))
        clear hz hcut hc
        go_wp2_with fail
        go_quiet (fail)
        go_wp2_with fail
        go_ret3
        refine ⟨?_, below_drewN G.out _⟩
        rw [← HXL.out, ← HXR.out]
        rfl
      · have t1 : ((b.toNat : Int) == (c.toNat : Int)) = false := by
          rw [beq_eq_false_iff_ne]
          intro e
          exact hc (UInt8.toNat_inj.1 (by omega))
        go_wp2_with fail
        go_roundw
        case rel => exact ⟨k + 1, by omega, by go_num, Lib.hid (by
          rw [List.take_add_one, HBB.out]
          intro h
          rcases List.mem_append.1 h with h | h
          · exact HK.out h
          · simp at h
            exact hc h.symm), G⟩
        case measure => simp [intOf]; omega
    · obtain rfl : k = s.length := by omega
      have hn : c ∉ s := by have := HK.out; rw [List.take_length] at this; exact this
      obtain rfl : R = (s, [], false) := by rw [HR.out, cutC_no hn]; simp [hn]
      clear hlt
      go_wp2_with fail
      go_ret3
      exact ⟨rfl, G.out⟩
end Go.Proofs.YteojlodcafogaaaGreatDoor
namespace Go.Proofs.YteojlodcafogaaaGreatDoor
open Go.RowKit
set_option linter.unusedVariables false
set_option linter.unusedSimpArgs false
def unsg : List UInt8 → Bool × List UInt8
  | 45 :: r => (true, r)
  | l => (false, l)
def numRV (l : List UInt8) : Int × Bool :=
  if (unsg l).2.length = 0 ∨ 12 < (unsg l).2.length then (0, false)
  else match digs 0 (unsg l).2 with
    | none => (0, false)
    | some m => ((if (unsg l).1 then -m else m), decide (Lib.itoa (if (unsg l).1 then -m else m) = l))
theorem numRV_itoa {n : Int} (h1 : -10378368000 ≤ n) (h2 : n ≤ 10378368000) : numRV (Lib.itoa n) = (n, true) := by
  have hu : unsg (Lib.itoa n) = (decide (n < 0), Lib.decDigits n.natAbs) := by
    rw [Lib.itoa]
    split
    · rename_i h; simp [unsg, h]
    · rename_i h
      have hd := dec_head45 n.toNat
      rw [show n.natAbs = n.toNat by omega]
      generalize Lib.decDigits n.toNat = l at *
      rw [unsg.eq_def]
      split
      · rename_i r; exact absurd rfl (hd r)
      · simp; omega
  have hl := Lib.decDigits_length n.natAbs
  have hl2 := nD_le 10 n.natAbs (by omega)
  have hl3 := Lib.nDigits_pos n.natAbs
  rw [numRV, hu]
  simp only [digs_dec]
  rw [if_neg (by omega)]
  have e : (if decide (n < 0) = true then -(n.natAbs : Int) else (n.natAbs : Int)) = n := by
    by_cases h : n < 0
    · simp [h]; omega
    · simp [h]; omega
  rw [e]
  simp

theorem drop_byte (s : ByteArray) {k : Nat} (hk : k < s.size) : s.data.toList.drop k = s[k] :: s.data.toList.drop (k + 1) := by
  have hk' : k < s.data.toList.length := by simpa using hk
  rw [List.drop_eq_getElem_cons hk']
  rfl
theorem unsg_neg {s : ByteArray} (h : 0 < s.size) (hs : s[0].toNat = 45) : unsg s.data.toList = (true, (s.extract 1 s.size).data.toList) := by
  have e := drop_byte s h
  rw [List.drop_zero] at e
  have e2 : (s.extract 1 s.size).data.toList = s.data.toList.drop 1 := Lib.extract_to_end s 1
  rw [e2, e, show s[0] = 45 from UInt8.toNat_inj.1 hs]
  rfl
theorem unsg_pos {s : ByteArray} (h : ∀ h : 0 < s.size, s[0].toNat ≠ 45) : unsg s.data.toList = (false, s.data.toList) := by
  by_cases h0 : 0 < s.size
  · have e := drop_byte s h0
    rw [List.drop_zero] at e
    have hb : s[0] ≠ 45 := fun e => h h0 (by rw [e]; rfl)
    rw [e, unsg.eq_def]
    split
    · rename_i r hr
      exact absurd (List.cons.inj hr).1 hb
    · rfl
  · have : s.data.toList = [] := List.eq_nil_of_length_eq_zero (by rw [len_data]; omega)
    rw [this]; rfl
theorem digs_lt : ∀ (l : List UInt8) (n m : Int), 0 ≤ n → digs n l = some m → 0 ≤ m
  | [], n, m, h, e => by simp [digs] at e; omega
  | b :: r, n, m, h, e => by
    rw [digs] at e
    split at e
    · rename_i hb
      simp [isD] at hb
      exact digs_lt r _ m (by omega) e
    · cases e
theorem number_any (s : ByteArray) (w : World) (hs : s.size ≤ 9223372036854775807) :
    Calls Tryz.prog 76 #[.string s] w fun e w' => e = .returned (.tuple #[.int .i64 (numRV s.data.toList).1, .bool (numRV s.data.toList).2]) ∧ (-1000000000000 ≤ (numRV s.data.toList).1 ∧ (numRV s.data.toList).1 ≤ 1000000000000) ∧ Below w.heap.size w w' := by
  obtain ⟨V, hV⟩ : ∃ V, V = numRV s.data.toList := ⟨_, rfl⟩
  rw [← hV]
  have HV := Lib.hid hV
  have HLN := Lib.hid (len_data s)
  clear hV
  by_cases hneg : ∃ h : 0 < s.size, s[0].toNat = 45
  · obtain ⟨h0, h45⟩ := hneg
    have HU := Lib.hid (unsg_neg h0 h45)
    have h45' : (((s[0].toNat : Nat) : Int) == 45) = true := by rw [h45]; rfl
    have hD0 : (s.extract 1 s.size).size = s.size - 1 := by rw [ByteArray.size_extract]; omega
    obtain ⟨D, hD⟩ : ∃ D, D = s.extract 1 s.size := ⟨_, rfl⟩
    rw [← hD] at HU hD0
    have HDE := Lib.hid hD
    have hne : (D.toList == s.toList) = false := by
      rw [beq_eq_false_iff_ne, Lib.toList_data, Lib.toList_data]
      intro e
      have := congrArg List.length e
      rw [len_data, len_data] at this
      omega
    have hs1 : (1 : Int) ≤ s.size := by omega
    clear hD h45
    by_cases hl : D.size = 0 ∨ 12 < D.size
    · have HV2 := Lib.hid (show V = (0, false) by rw [HV.out, numRV, HU.out]; exact if_pos (by rw [len_data]; exact hl))
      clear HV HU
      rcases hl with hl | hl
      · have hlb : ((((s.size - 1 : Nat)) : Int) == 0) = true := by rw [show (s.size - 1 : Nat) = 0 by omega]; rfl
        go_enter Tryz.func76, Tryz.ntmps76
        go_wp2_with fail
        rw [← HDE.out]
        go_wp2_with fail
        go_ret2
        exact ⟨by rw [HV2.out]; rfl, by rw [HV2.out]; exact ⟨by decide, by decide⟩, Below.refl _ _⟩
      · have hlb : ((((s.size - 1 : Nat)) : Int) == 0) = false := by rw [beq_eq_false_iff_ne]; omega
        have hlc : (decide ((12 : Int) < (s.size - 1 : Nat))) = true := by simp; omega
        go_enter Tryz.func76, Tryz.ntmps76
        go_wp2_with fail
        rw [← HDE.out]
        go_wp2_with fail
        go_ret2
        exact ⟨by rw [HV2.out]; rfl, by rw [HV2.out]; exact ⟨by decide, by decide⟩, Below.refl _ _⟩
    · have l1 : 0 < D.size := by omega
      have l2 : D.size ≤ 12 := by omega
      have hlb : ((((s.size - 1 : Nat)) : Int) == 0) = false := by rw [beq_eq_false_iff_ne]; omega
      have hlc : (decide ((12 : Int) < (s.size - 1 : Nat))) = false := by simp; omega
      have HVN := Lib.hid (show digs 0 D.data.toList = none → V = (0, false) from fun h => by
        rw [HV.out, numRV, HU.out]
        simp only [h]
        exact if_neg (by rw [len_data]; omega))
      have HVS := Lib.hid (show ∀ m, digs 0 D.data.toList = some m → V = ((-m), decide (Lib.itoa (-m) = s.data.toList)) from fun m h => by
        rw [HV.out, numRV, HU.out]
        simp only [h]
        rw [if_neg (by rw [len_data]; omega)]
        rfl)
      have HDL := Lib.hid (len_data D)
      clear HV HU hl
      go_enter Tryz.func76, Tryz.ntmps76
      go_wp2_with fail
      rw [← HDE.out]
      go_wp2_with fail
      go_loopw [6, 5] (fun i n wr => ∃ (k : Nat) (m : Int), k ≤ D.size ∧ i = .int .i64 k ∧ n = .int .i64 m ∧ Hid (digs 0 D.data.toList = digs m (D.data.toList.drop k)) ∧ 0 ≤ m ∧ Hid (m < ((10 ^ k : Nat) : Int)) ∧ wr = w) (fun i _ _ => D.size - (intOf i).toNat)
      case atStart => exact ⟨0, 0, by omega, rfl, rfl, Lib.hid rfl, by omega, Lib.hid (by decide), rfl⟩
      case round =>
        obtain ⟨k, m, hk, rfl, rfl, hd, hm0, hm1, rfl⟩ := hrel
        by_cases hlt : k < D.size
        · have hp : m < 100000000000 := by
            have := hm1.out
            have : 10 ^ k ≤ 10 ^ 11 := Nat.pow_le_pow_right (by decide) (by omega)
            omega
          have HD := Lib.hid (drop_byte D hlt)
          by_cases hb1 : D[k].toNat < 48
          · have HB := Lib.hid (HVN.out (by rw [hd.out, HD.out, digs_bad (.inl hb1)]))
            go_wp2_with fail
            go_ret2
            exact ⟨by rw [HB.out]; rfl, by rw [HB.out]; exact ⟨by decide, by decide⟩, Below.refl _ _⟩
          · by_cases hb2 : 57 < D[k].toNat
            · have HB := Lib.hid (HVN.out (by rw [hd.out, HD.out, digs_bad (.inr hb2)]))
              go_wp2_with fail
              go_ret2
              exact ⟨by rw [HB.out]; rfl, by rw [HB.out]; exact ⟨by decide, by decide⟩, Below.refl _ _⟩
            · have HS := Lib.hid (hd.out.trans (by rw [HD.out, digs_ok (by omega) (by omega)]))
              go_wp2_with fail
              go_roundw
              case rel => exact ⟨k + 1, 10 * m + ((D[k].toNat : Int) - 48), by omega, by go_num, by go_num, HS, by omega, Lib.hid (by have := hm1.out; rw [Nat.pow_succ]; omega), by trivial⟩
              case measure => simp [intOf]; omega
        · have HE := Lib.hid (HVS.out m (by
            rw [hd.out, List.drop_eq_nil_of_le (by rw [HDL.out]; omega)]; rfl))
          have hp : m < 1000000000000 := by
            have := hm1.out
            have : 10 ^ k ≤ 10 ^ 12 := Nat.pow_le_pow_right (by decide) (by omega)
            omega
          go_wp2_with fail
          refine (decimal_any (-m) _ (by omega) (by omega)).mono ?_
          rintro e w3 ⟨rfl, hb3⟩
          go_wp2_with fail
          go_ret2
          have eb : ((itoaB (-m)).toList == s.toList) = decide (Lib.itoa (-m) = s.data.toList) := by
            rw [Lib.toList_data, Lib.toList_data, itoaB, ← Bool.beq_eq_decide_eq]
          exact ⟨by rw [HE.out, ← eb]; rfl, by rw [HE.out]; exact ⟨by show -1000000000000 ≤ (-m); omega, by show (-m) ≤ 1000000000000; omega⟩, hb3⟩
  · have HU := Lib.hid (unsg_pos (s := s) (fun h e => hneg ⟨h, e⟩))
    have HN := Lib.hid hneg
    clear hneg
    by_cases hl : s.size = 0 ∨ 12 < s.size
    · have HV2 := Lib.hid (show V = (0, false) by rw [HV.out, numRV, HU.out]; exact if_pos (by rw [len_data]; exact hl))
      clear HV HU
      rcases hl with hl | hl
      · have hlb : (((s.size) : Int) == 0) = true := by rw [show s.size = 0 by omega]; rfl
        have hlc : (decide ((0 : Int) < s.size)) = false := decide_eq_false (by omega)
        go_enter Tryz.func76, Tryz.ntmps76
        go_wp2_with fail
        go_ret2
        exact ⟨by rw [HV2.out]; rfl, by rw [HV2.out]; exact ⟨by decide, by decide⟩, Below.refl _ _⟩
      · have h0 : 0 < s.size := by omega
        have h45' : (((s[0].toNat : Nat) : Int) == 45) = false := by rw [beq_eq_false_iff_ne]; intro e; exact HN.out ⟨h0, by exact_mod_cast e⟩
        have hlb : (((s.size) : Int) == 0) = false := by rw [beq_eq_false_iff_ne]; omega
        have hlc : (decide ((12 : Int) < s.size)) = true := by simp; omega
        go_enter Tryz.func76, Tryz.ntmps76
        go_wp2_with fail
        go_ret2
        exact ⟨by rw [HV2.out]; rfl, by rw [HV2.out]; exact ⟨by decide, by decide⟩, Below.refl _ _⟩
    · have l1 : 0 < s.size := by omega
      have l2 : s.size ≤ 12 := by omega
      have hlb : (((s.size) : Int) == 0) = false := by rw [beq_eq_false_iff_ne]; omega
      have hlc : (decide ((12 : Int) < s.size)) = false := by simp; omega
      have h45' : (((s[0].toNat : Nat) : Int) == 45) = false := by rw [beq_eq_false_iff_ne]; intro e; exact HN.out ⟨l1, by exact_mod_cast e⟩
      have HVN := Lib.hid (show digs 0 s.data.toList = none → V = (0, false) from fun h => by
        rw [HV.out, numRV, HU.out]
        simp only [h]
        exact if_neg (by rw [len_data]; omega))
      have HVS := Lib.hid (show ∀ m, digs 0 s.data.toList = some m → V = (m, decide (Lib.itoa m = s.data.toList)) from fun m h => by
        rw [HV.out, numRV, HU.out]
        simp only [h]
        rw [if_neg (by rw [len_data]; omega)]
        rfl)
      have HDL := Lib.hid (len_data s)
      clear HV HU hl
      go_enter Tryz.func76, Tryz.ntmps76
      go_wp2_with fail
      go_loopw [6, 5] (fun i n wr => ∃ (k : Nat) (m : Int), k ≤ s.size ∧ i = .int .i64 k ∧ n = .int .i64 m ∧ Hid (digs 0 s.data.toList = digs m (s.data.toList.drop k)) ∧ 0 ≤ m ∧ Hid (m < ((10 ^ k : Nat) : Int)) ∧ wr = w) (fun i _ _ => s.size - (intOf i).toNat)
      case atStart => exact ⟨0, 0, by omega, rfl, rfl, Lib.hid rfl, by omega, Lib.hid (by decide), rfl⟩
      case round =>
        obtain ⟨k, m, hk, rfl, rfl, hd, hm0, hm1, rfl⟩ := hrel
        by_cases hlt : k < s.size
        · have hp : m < 100000000000 := by
            have := hm1.out
            have : 10 ^ k ≤ 10 ^ 11 := Nat.pow_le_pow_right (by decide) (by omega)
            omega
          have HD := Lib.hid (drop_byte s hlt)
          by_cases hb1 : s[k].toNat < 48
          · have HB := Lib.hid (HVN.out (by rw [hd.out, HD.out, digs_bad (.inl hb1)]))
            go_wp2_with fail
            go_ret2
            exact ⟨by rw [HB.out]; rfl, by rw [HB.out]; exact ⟨by decide, by decide⟩, Below.refl _ _⟩
          · by_cases hb2 : 57 < s[k].toNat
            · have HB := Lib.hid (HVN.out (by rw [hd.out, HD.out, digs_bad (.inr hb2)]))
              go_wp2_with fail
              go_ret2
              exact ⟨by rw [HB.out]; rfl, by rw [HB.out]; exact ⟨by decide, by decide⟩, Below.refl _ _⟩
            · have HS := Lib.hid (hd.out.trans (by rw [HD.out, digs_ok (by omega) (by omega)]))
              go_wp2_with fail
              go_roundw
              case rel => exact ⟨k + 1, 10 * m + ((s[k].toNat : Int) - 48), by omega, by go_num, by go_num, HS, by omega, Lib.hid (by have := hm1.out; rw [Nat.pow_succ]; omega), by trivial⟩
              case measure => simp [intOf]; omega
        · have HE := Lib.hid (HVS.out m (by
            rw [hd.out, List.drop_eq_nil_of_le (by rw [HDL.out]; omega)]; rfl))
          have hp : m < 1000000000000 := by
            have := hm1.out
            have : 10 ^ k ≤ 10 ^ 12 := Nat.pow_le_pow_right (by decide) (by omega)
            omega
          go_wp2_with fail
          refine (decimal_any m _ (by omega) (by omega)).mono ?_
          rintro e w3 ⟨rfl, hb3⟩
          go_wp2_with fail
          go_ret2
          have eb : ((itoaB m).toList == s.toList) = decide (Lib.itoa m = s.data.toList) := by
            rw [Lib.toList_data, Lib.toList_data, itoaB, ← Bool.beq_eq_decide_eq]
          exact ⟨by rw [HE.out, ← eb]; rfl, by rw [HE.out]; exact ⟨by show -1000000000000 ≤ m; omega, by show m ≤ 1000000000000; omega⟩, hb3⟩
end Go.Proofs.YteojlodcafogaaaGreatDoor
namespace Go.Proofs.YteojlodcafogaaaGreatDoor
open Go.RowKit Go.Joins
set_option linter.unusedVariables false
set_option linter.unusedSimpArgs false
/-- What Pair gives. -/
def pairR (u : List UInt8) : Spn × Bool := (⟨(numRV (cutC 45 u).1).1, (numRV (cutC 45 u).2).1⟩, decide (45 ∈ u) && (numRV (cutC 45 u).1).2 && (numRV (cutC 45 u).2).2)
theorem pairR_wdS {x : Spn} (h0 : 0 ≤ x.i) (h1 : x.i ≤ 10378368000) (h2 : 0 ≤ x.o) (h3 : x.o ≤ 10378368000) : pairR (wdS x) = (x, true) := by
  have hn : (45 : UInt8) ∉ Lib.itoa x.i := by rw [itoa_dec h0]; exact dec_no (by decide)
  have hc : cutC 45 (wdS x) = (Lib.itoa x.i, Lib.itoa x.o) := by
    unfold wdS
    rw [List.append_assoc]
    exact cutC_cut hn
  have hm : (45 : UInt8) ∈ wdS x := by unfold wdS; simp
  unfold pairR
  rw [hc, numRV_itoa (by omega) (by omega), numRV_itoa (by omega) (by omega)]
  simp [hm]
theorem hit_step {S : List UInt8} {C : List Spn} {k : Nat} {u : List UInt8} {x : Spn} {b : Bool} (h45 : S ≠ [45]) (hC : ∀ L, txtS L = (S, 0) → C = L.take k) (hu : (wordsC 44 S)[k]? = some u) (hp : pairR u = (x, b)) :
    (b = true → ∀ L, txtS L = (S, 0) → C ++ [x] = L.take (k + 1)) ∧ (b = false → ∀ L, txtS L ≠ (S, 0)) := by
  have key : ∀ L, txtS L = (S, 0) → ∃ y, L[k]? = some y ∧ pairR u = (y, true) := by
    intro L hL
    have h0 : chkS L = 0 := by
      by_cases h0 : chkS L = 0
      · exact h0
      · unfold txtS at hL; rw [if_neg h0] at hL; exact absurd (Prod.mk.inj hL).2 h0
    have he : L.length ≠ 0 := by
      intro he
      unfold txtS at hL
      rw [if_pos h0, if_pos he] at hL
      exact h45 (Prod.mk.inj hL).1.symm
    have hb := chk_bd h0
    have hS : Lib.join (L.map wdS) [44] = S := by
      unfold txtS at hL
      rw [if_pos h0, if_neg he] at hL
      exact (Prod.mk.inj hL).1
    have hw : wordsC 44 (Lib.join (L.map wdS) [44]) = L.map wdS := words_join _ (by intro e; simp at e; rw [e] at he; exact he rfl) (fun w hw => by
      obtain ⟨x, hx, rfl⟩ := List.mem_map.1 hw
      exact comma_no (hb x hx).1 (hb x hx).2.2.1)
    rw [hS] at hw
    rw [hw, List.getElem?_map] at hu
    cases hk : L[k]? with
    | none => rw [hk] at hu; cases hu
    | some y =>
      rw [hk] at hu
      have e : wdS y = u := Option.some.inj hu
      obtain ⟨b1, b2, b3, b4⟩ := hb y (List.mem_of_getElem? hk)
      exact ⟨y, rfl, by rw [← e]; exact pairR_wdS b1 b2 b3 b4⟩
  refine ⟨?_, ?_⟩
  · rintro rfl L hL
    obtain ⟨y, hy, hq⟩ := key L hL
    obtain rfl : x = y := (Prod.mk.inj (hp.symm.trans hq)).1
    rw [List.take_add_one, hy, hC L hL]
    rfl
  · rintro rfl L hL
    obtain ⟨y, hy, hq⟩ := key L hL
    exact absurd (Prod.mk.inj (hp.symm.trans hq)).2 (by decide)
theorem prs_miss {S : List UInt8} (h45 : S ≠ [45]) (h : ∀ L, txtS L ≠ (S, 0)) : prsV S = ([], 4) := by
  unfold prsV
  rw [if_neg h45]
  split
  · rename_i L hL
    rw [if_neg (fun ⟨h1, h2⟩ => h L (Prod.ext h2 h1))]
  · rfl
theorem prs_hit {S : List UInt8} {L : List Spn} (h : txtS L = (S, 0)) : prsV S = (L, 0) := by
  have := prs_text (L := L) (by rw [h])
  rwa [h] at this
/-- The list is whole: its text is S, or no list's is. -/
theorem hit_end {S : List UInt8} {C : List Spn} {k : Nat} (h45 : S ≠ [45]) (hC : ∀ L, txtS L = (S, 0) → C = L.take k) (hk : k = (wordsC 44 S).length ∨ 400 < k) (hCk : C.length = k) (h : txtS C ≠ (S, 0)) : prsV S = ([], 4) := by
  refine prs_miss h45 fun L hL => ?_
  have e := hC L hL
  have h0 : chkS L = 0 := by
    by_cases h0 : chkS L = 0
    · exact h0
    · unfold txtS at hL; rw [if_neg h0] at hL; exact absurd (Prod.mk.inj hL).2 h0
  have hl := (chkS_ok.1 h0).1
  have he : L.length ≠ 0 := by
    intro he
    unfold txtS at hL
    rw [if_pos h0, if_pos he] at hL
    exact h45 (Prod.mk.inj hL).1.symm
  have hb := chk_bd h0
  have hS : Lib.join (L.map wdS) [44] = S := by
    unfold txtS at hL
    rw [if_pos h0, if_neg he] at hL
    exact (Prod.mk.inj hL).1
  have hw : wordsC 44 (Lib.join (L.map wdS) [44]) = L.map wdS := words_join _ (by intro e; simp at e; rw [e] at he; exact he rfl) (fun w hw => by
    obtain ⟨x, hx, rfl⟩ := List.mem_map.1 hw
    exact comma_no (hb x hx).1 (hb x hx).2.2.1)
  rw [hS] at hw
  have hwl := congrArg List.length hw
  rw [List.length_map] at hwl
  have : C = L := by rw [e]; exact List.take_of_length_le (by
    have := congrArg List.length e
    rw [List.length_take] at this
    omega)
  exact h (this ▸ hL)
theorem first_at (c : UInt8) : ∀ s : List UInt8, c ∈ s → ∃ k : Nat, s[k]? = some c ∧ c ∉ s.take k
  | [], h => by cases h
  | b :: r, h => by
    by_cases e : b = c
    · exact ⟨0, by rw [e]; rfl, by simp⟩
    · obtain ⟨k, h1, h2⟩ := first_at c r (by rcases List.mem_cons.1 h with h | h; exact absurd h.symm e; exact h)
      exact ⟨k + 1, h1, by simp; exact ⟨fun h => e h.symm, h2⟩⟩
theorem words_cut (c : UInt8) (s : List UInt8) : wordsC c s = (cutC c s).1 :: (if c ∈ s then wordsC c (cutC c s).2 else []) := by
    by_cases h : c ∈ s
    · rw [if_pos h]
      obtain ⟨k, hk, hn⟩ := first_at c s h
      have e : s = s.take k ++ c :: s.drop (k + 1) := by
        have hl := (List.getElem?_eq_some_iff.1 hk).1
        have he := (List.getElem?_eq_some_iff.1 hk).2
        rw [← he, ← List.drop_eq_getElem_cons hl, List.take_append_drop]
      rw [(cutC_at hk hn).1]
      conv => lhs; rw [e]
      exact wordsC_cut hn
    · rw [if_neg h, cutC_no h]
      exact wordsC_no h
set_option maxHeartbeats 4000000 in
theorem pair_any (u : List UInt8) (w : World) (hs : u.length ≤ 100000) :
    Calls Tryz.prog 75 #[.string (sB u)] w fun e w' => e = .returned (.tuple #[.agg #[.int .i64 (pairR u).1.i, .int .i64 (pairR u).1.o], .bool (pairR u).2]) ∧ Below w.heap.size w w' := by
  obtain ⟨R, hR⟩ : ∃ R, R = pairR u := ⟨_, rfl⟩
  rw [← hR]
  have HU := Lib.hid (fun W : World => cutr_any u 45 W hs)
  have HR := Lib.hid hR
  obtain ⟨l1, l2⟩ := cutC_len 45 u
  obtain ⟨ca, hca⟩ : ∃ ca, ca = (cutC 45 u).1 := ⟨_, rfl⟩
  obtain ⟨cb, hcb⟩ : ∃ cb, cb = (cutC 45 u).2 := ⟨_, rfl⟩
  rw [← hca] at HU l1
  rw [← hcb] at HU l2
  have HNA := Lib.hid (fun W : World => number_any (sB ca) W (by rw [sB_size]; omega))
  have HNB := Lib.hid (fun W : World => number_any (sB cb) W (by rw [sB_size]; omega))
  rw [sB_list] at HNA HNB
  have HV := Lib.hid (show R = (⟨(numRV ca).1, (numRV cb).1⟩, decide (45 ∈ u) && (numRV ca).2 && (numRV cb).2) by rw [hR, hca, hcb]; rfl)
  obtain ⟨⟨va, ka⟩, hva⟩ : ∃ v, v = numRV ca := ⟨_, rfl⟩
  obtain ⟨⟨vb, kb⟩, hvb⟩ : ∃ v, v = numRV cb := ⟨_, rfl⟩
  rw [← hva] at HNA HV
  rw [← hvb] at HNB HV
  obtain ⟨B, hB⟩ : ∃ B, B = w.heap.size := ⟨_, rfl⟩
  rw [← hB]
  clear hR HR hca hcb l1 l2 hva hvb
  have HB := Lib.hid hB
  go_enter Tryz.func75, Tryz.ntmps75
  go_wp2_with fail
  rw [← hB]
  generalize hw2 : World.alloc _ _ = w2
  have F0 := Lib.hid (show Held w2 B [.int .i64 0, .int .i64 0] by subst hw2; exact Held.new hB)
  have FB := Lib.hid (show Below B w w2 by subst hw2; rw [hB]; exact below_one _ _)
  have fs : B + 1 ≤ w2.heap.size := by subst hw2; simp [hB]
  clear hw2 hB
  refine (HU.out w2).mono ?_
  rintro e w3 ⟨rfl, hb⟩
  have F0 := Lib.hid (F0.out.ext hb)
  have FB := Lib.hid (FB.out.trans (hb.mono (by omega)))
  have fs := Nat.le_trans fs hb.size
  clear hb
  go_wp2_with fail
  refine (HNA.out w3).mono ?_
  rintro e w4 ⟨rfl, _, hb⟩
  have F0 := Lib.hid (F0.out.ext hb)
  have FB := Lib.hid (FB.out.trans (hb.mono (by omega)))
  have fs := Nat.le_trans fs hb.size
  clear hb
  go_wp2_with fail
  refine (HNB.out w4).mono ?_
  rintro e w5 ⟨rfl, _, hb⟩
  have F0 := Lib.hid (F0.out.ext hb)
  have FB := Lib.hid (FB.out.trans (hb.mono (by omega)))
  have fs := Nat.le_trans fs hb.size
  clear hb
  obtain ⟨y0, y1⟩ := two_of F0.out
  have y2 := F0.out.free 0
  have y3 := F0.out.free 1
  obtain ⟨m, hm⟩ : ∃ m, m = decide (45 ∈ u) := ⟨_, rfl⟩
  rw [← hm] at HV ⊢
  clear hm HU HNA HNB
  cases m
  all_goals cases ka
  all_goals cases kb
  all_goals
    go_wp2_with fail
    have r := Lib.hid (((F0.out).set 0 (.int .i64 va)).set 1 (.int .i64 vb))
    have rb := Lib.hid ((FB.out.setCell (p := ⟨B, 0, none⟩) (Nat.le_refl _) (.int .i64 va)).setCell (p := ⟨B, 1, none⟩) (Nat.le_refl _) (.int .i64 vb))
    generalize World.setCell _ _ _ = w9 at *
    have r0' := r.out.cell 0
    have r1' := r.out.cell 1
    simp only [List.set_cons_zero, List.set_cons_succ, List.getElem?_cons_zero, List.getElem?_cons_succ] at r0' r1'
    refine bodyPost_ret (by simp [results, Tryz.results75, r0', r1', go_sem]; try rfl) rfl ?_
    exact ⟨by rw [HV.out]; rfl, rb.out⟩
end Go.Proofs.YteojlodcafogaaaGreatDoor
